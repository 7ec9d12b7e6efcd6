/- Walks: what functions of term return. -/
import Derived.Test.YtoefhjabaanokaaDoorB6
import Derived.Test.YtoefhjabaanokaaDoorW11
set_option linter.unusedSimpArgs false
set_option linter.unusedVariables false
set_option linter.unnecessarySimpa false
namespace Go.Mi.Term
open Go.Mi Go.Proofs Go.RowKit
set_option linter.unusedVariables false
set_option maxRecDepth 100000 in
set_option maxHeartbeats 4000000 in
theorem makes_dh {T0 : World → Prop} {nb : Nat} (hT : ∀ w w', Below nb w w' → T0 w → T0 w') (hjoin : JoinOk) {W : Wd} {met : Told} {f : Nat} (ih : ∀ g, g < f → BuildsOk T0 nb W met g) {n : Int} {a b : Tm} {m m' : Told} {r : Bool} {bb bt br bm bn : Nat} {rl : Value} (w0 : World) (hany : anyOf W met f (ways W (.mk 3 n [a, b])) m = some (r, m')) (hfit : Fit (.mk 3 n [a, b])) (hnb : nb ≤ w0.heap.size) (hnbt : nb ≤ bt) (hw0 : T0 w0) (hbd : Bd w0 W met bb bt br bm rl) (htold : MapIs w0 bt m)
 (hnd : IsN w0 [bt] (.mk 3 n [a, b]) (.pointer (some ⟨bn, 0, none⟩))) : Calls Tryd.prog 82 (List.toArray [.pointer (some ⟨bb, 0, none⟩), .pointer (some ⟨bn, 0, none⟩)]) w0 (Ret fun v w' => v = .bool r ∧ MapIs w' bt m' ∧ Ch [bt] w0 w') := by
 obtain ⟨hbb, hbr, hmet, hne1, hne2, hne3⟩ := hbd
 have hbtlt := htold.lt
 obtain ⟨sl, xs, hbn, hatn, hsl, hkk⟩ := hnd.open
 simp only [List.mem_singleton] at hbn
 obtain ⟨va, vb, rfl, hka, hkb⟩ := hkk.two
 obtain ⟨ba, rfl, hna, hka⟩ := hka.ptr
 obtain ⟨bb2, rfl, hnb2, hkb⟩ := hkb.ptr
 obtain ⟨bsl, osl, cap, rfl, hnsl, hbsl, hats⟩ := hsl.some (by simp)
 have hsl : SlA w0 [bt] (.slice (some ⟨bsl, osl, none⟩) 2 cap) 2 _ := .inr ⟨bsl, osl, cap, rfl, hnsl, hbsl, hats⟩
 simp only [List.mem_singleton] at hnsl
 have hfa : Fit a := hfit.kid (by simp)
 have hfb : Fit b := hfit.kid (by simp)
 have hl2 : tlen a + tlen b + 5 ≤ 1099511600000 := by have h1 := hfit.2; rw [tlen_two (by decide)] at h1; simp [word] at h1; omega
 have hpos : 1 ≤ tlen a ∧ 1 ≤ tlen b := ⟨txt_pos a, txt_pos b⟩
 have hfpa : Fit (pubOf a) := ⟨ok_pub hfa.1, by rw [tlen_pub]; omega⟩
 have hfpb : Fit (pubOf b) := ⟨ok_pub hfb.1, by rw [tlen_pub]; omega⟩
 have hfct : Fit (.mk 5 0 [a, b]) := ⟨ok_two (by omega) hfa.1 hfb.1, by rw [tlen_two (by decide)]; simp [word]; omega⟩
 replace hl2 : tlen a + tlen b ≤ 1099511600000 := by omega
 refine calls_of Tryd.func82 rfl Tryd.ntmps82 rfl fun ac hF => ?_
 have hC : Ch [bt] w0 w0 := Ch.refl _ _
 have hF := hF.sub (L' := [(0, (vp bb)), (1, (vp bn))]) ⟨rfl, rfl, trivial⟩
 refine wp_seq ?_
 refine wp_region_lit ?_
 refine wlR (ok_box rfl) rfl hF ?_
 rintro _ w ac ⟨b1, rfl, hnb_⟩ hF
 have hch_ : Ch [] _ w := hnb_.ch
 have lo_ := hnb_.lo hC.size
 have hC := hC.trans (hch_.mono (by simp))
 have hbb := hbb.mv hch_ (by simp <;> omega)
 have hbr := hbr.mv hch_ (by simp <;> omega)
 have hmet := hmet.mv hch_ (by simp <;> omega)
 have htold := htold.mv hch_ (by simp <;> omega)
 have hbtlt := hch_.lt hbtlt
 have hatn := hatn.mv hch_ (by simp <;> omega)
 have hats := hats.mv hch_ (by simp <;> omega)
 have hbsl := hch_.lt hbsl
 have hka : IsN w [bt] a (vp ba) := IsN.mv hch_ (by simp) (fun x hx => .inl hx) _ _ hka
 have hkb : IsN w [bt] b (vp bb2) := IsN.mv hch_ (by simp) (fun x hx => .inl hx) _ _ hkb
 have hsl : SlA w [bt] (.slice (some ⟨bsl, osl, none⟩) 2 cap) 2 [(vp ba), (vp bb2)] := hsl.mv hch_ (by simp) (fun x hx => .inl hx)
 have hkk : IsNs w [bt] [a, b] [(vp ba), (vp bb2)] := IsNs.mv hch_ (by simp) (fun x hx => .inl hx) _ _ hkk
 have hib1 : b1 < w.heap.size := hnb_.lt
 have lob1 : w0.heap.size ≤ b1 := lo_
 have hb1 : At w b1 0 [(vp bn)] := hnb_.at
 refine wl (d_assign rfl) rfl hF (fun ac hF => ?_)
 refine wl_nil ?_
 refine then_n ?_
 refine wp_seq ?_
 refine wp_region_lit ?_
 refine wl (d_makeFunc (us := []) (vs := [(vp b1)]) rfl rfl) rfl hF (fun ac hF => ?_)
 refine wl (d_assign rfl) rfl hF (fun ac hF => ?_)
 refine wl_nil ?_
 refine then_n ?_
 refine wp_seq ?_
 refine wp_seq ?_
 refine wp_region_lit ?_
 refine wl (d_load1 Tryd.underlying83 rfl rfl (hb1 0 _ rfl)) rfl hF (fun ac hF => ?_)
 refine wl (d_nil rfl) rfl hF (fun ac hF => ?_)
 refine wl (d_fieldAddrQ Tryd.underlying112 (m := 0) sz3 rfl rfl rfl) rfl hF (fun ac hF => ?_)
 refine wl (d_load1 Tryd.underlying3 rfl rfl (hatn 0 _ rfl)) rfl hF (fun ac hF => ?_)
 refine wl_nil ?_
 refine then_n ?_
 refine wp_block ?_
 refine wp_seq ?_
 refine wp_region_lit ?_
 refine wl (d_bool (c := false) (d_eql rfl rfl) (by decide)) rfl hF (fun ac hF => ?_)
 refine wl (d_assign rfl) rfl hF (fun ac hF => ?_)
 refine wl_nil ?_
 refine then_n ?_
 refine wp_cond_false (hF.eval rfl) ?_
 refine wp_seq ?_
 refine wp_region_lit ?_
 refine wl (d_bool (c := true) (d_eql rfl rfl) (by decide)) rfl hF (fun ac hF => ?_)
 refine wl (d_assign rfl) rfl hF (fun ac hF => ?_)
 refine wl_nil ?_
 refine then_n ?_
 refine wp_cond_true (hF.eval rfl) ?_
 refine wp_seq ?_
 rcases any_dh hany with ⟨g1, hg1, hq1, rfl⟩ | ⟨g1, g2, m1, hg1, hg2, hq1, hq2, rfl⟩ | ⟨g1, g2, m1, hg1, hg2, hq1, hq2, rfl, hflag⟩ | ⟨g1, g2, g3, m1, m2, hg1, hg2, hg3, hq1, hq2, hq3, hflag⟩
 ·skip
  obtain ⟨A1_0, hA1_0⟩ : ∃ A : (Nat → Value) → World → Prop, A = fun _ w => (Ch [bt] w0 w) ∧ (At w bb 0 [(vB W.dh), (vB W.kem), (vp br), (Value.map (some bt))]) ∧ (At w br 0 [rl, (Value.map (some bm))]) ∧ (MapIs w bm met) ∧ (MapIs w bt m) ∧ (bt < w.heap.size) ∧ (At w bn 0 [(vI 3), (vI n), (vS bsl osl 2 cap), (vT (txt (.mk 3 n [a, b])))]) ∧ (At w bsl osl [(vp ba), (vp bb2)]) ∧ (bsl < w.heap.size) ∧ (IsN w [bt] a (vp ba)) ∧ (IsN w [bt] b (vp bb2)) ∧ (SlA w [bt] (.slice (some ⟨bsl, osl, none⟩) 2 cap) 2 [(vp ba), (vp bb2)]) ∧ (IsNs w [bt] [a, b] [(vp ba), (vp bb2)]) ∧ (b1 < w.heap.size) ∧ (w0.heap.size ≤ b1) ∧ (At w b1 0 [(vp bn)]) ∧ True := ⟨_, rfl⟩
  obtain ⟨A1_1, hA1_1⟩ : ∃ A : (Nat → Value) → World → Prop, A = fun H1 w => (Ch [bt] w0 w) ∧ (At w bb 0 [(vB W.dh), (vB W.kem), (vp br), (Value.map (some bt))]) ∧ (At w br 0 [rl, (Value.map (some bm))]) ∧ (MapIs w bm met) ∧ (MapIs w bt m) ∧ (bt < w.heap.size) ∧ (At w bn 0 [(vI 3), (vI n), (vS bsl osl 2 cap), (vT (txt (.mk 3 n [a, b])))]) ∧ (At w bsl osl [(vp ba), (vp bb2)]) ∧ (bsl < w.heap.size) ∧ (IsN w [bt] a (vp ba)) ∧ (IsN w [bt] b (vp bb2)) ∧ (SlA w [bt] (.slice (some ⟨bsl, osl, none⟩) 2 cap) 2 [(vp ba), (vp bb2)]) ∧ (IsNs w [bt] [a, b] [(vp ba), (vp bb2)]) ∧ (b1 < w.heap.size) ∧ (w0.heap.size ≤ b1) ∧ (At w b1 0 [(vp bn)]) ∧ (IsN w [bt] (pubOf b) (H1 8)) ∧ True := ⟨_, rfl⟩
  obtain ⟨A1_2, hA1_2⟩ : ∃ A : (Nat → Value) → World → Prop, A = fun H1 w => (Ch [bt] w0 w) ∧ (At w bb 0 [(vB W.dh), (vB W.kem), (vp br), (Value.map (some bt))]) ∧ (At w br 0 [rl, (Value.map (some bm))]) ∧ (MapIs w bm met) ∧ (MapIs w bt m) ∧ (bt < w.heap.size) ∧ (At w bn 0 [(vI 3), (vI n), (vS bsl osl 2 cap), (vT (txt (.mk 3 n [a, b])))]) ∧ (At w bsl osl [(vp ba), (vp bb2)]) ∧ (bsl < w.heap.size) ∧ (IsN w [bt] a (vp ba)) ∧ (IsN w [bt] b (vp bb2)) ∧ (SlA w [bt] (.slice (some ⟨bsl, osl, none⟩) 2 cap) 2 [(vp ba), (vp bb2)]) ∧ (IsNs w [bt] [a, b] [(vp ba), (vp bb2)]) ∧ (b1 < w.heap.size) ∧ (w0.heap.size ≤ b1) ∧ (At w b1 0 [(vp bn)]) ∧ (IsN w [bt] (pubOf b) (H1 8)) ∧ ((blk (H1 9)) < w.heap.size) ∧ (w0.heap.size ≤ (blk (H1 9))) ∧ (At w (blk (H1 9)) 0 [(vp ba), (H1 8)]) ∧ (b1 < (blk (H1 9))) ∧ (H1 9 = (vS (blk (H1 9)) 0 2 2)) ∧ True := ⟨_, rfl⟩
  obtain ⟨A1_3, hA1_3⟩ : ∃ A : (Nat → Value) → World → Prop, A = fun H1 w => (Ch [bt] w0 w) ∧ (At w bb 0 [(vB W.dh), (vB W.kem), (vp br), (Value.map (some bt))]) ∧ (At w br 0 [rl, (Value.map (some bm))]) ∧ (MapIs w bm met) ∧ (MapIs w bt m') ∧ (bt < w.heap.size) ∧ (At w bn 0 [(vI 3), (vI n), (vS bsl osl 2 cap), (vT (txt (.mk 3 n [a, b])))]) ∧ (At w bsl osl [(vp ba), (vp bb2)]) ∧ (bsl < w.heap.size) ∧ (IsN w [bt] a (vp ba)) ∧ (IsN w [bt] b (vp bb2)) ∧ (SlA w [bt] (.slice (some ⟨bsl, osl, none⟩) 2 cap) 2 [(vp ba), (vp bb2)]) ∧ (IsNs w [bt] [a, b] [(vp ba), (vp bb2)]) ∧ (b1 < w.heap.size) ∧ (w0.heap.size ≤ b1) ∧ (At w b1 0 [(vp bn)]) ∧ (IsN w [bt] (pubOf b) (H1 8)) ∧ ((blk (H1 9)) < w.heap.size) ∧ (w0.heap.size ≤ (blk (H1 9))) ∧ (At w (blk (H1 9)) 0 [(vp ba), (H1 8)]) ∧ (b1 < (blk (H1 9))) ∧ (H1 9 = (vS (blk (H1 9)) 0 2 2)) ∧ True := ⟨_, rfl⟩
  refine region_hist mo (fun p_ H_ w_ => (([A1_0, A1_1, A1_2, A1_3] : List ((Nat → Value) → World → Prop)).getD p_ (fun _ _ => True)) H_ w_) [8, 9, 10] (rows := [hr_ [] [(0, (vp bb))] [0, 1, 2] (vp bb), hr_ [] [(3, (vp b1))] [0, 1] (vp bn), hr_ [(1, 17)] [] [0, 1] (vp bn), hr_ [(2, 18)] [] [0, 1] (vP bn 2), hr_ [(3, 19)] [] [0, 1] (vS bsl osl 2 cap), hr_ [(4, 20)] [] [0, 1] (vP bsl (osl + 0)), hr_ [(5, 21)] [] [0, 1] (vp ba), hr_ [] [(5, (Value.func (.func 95) #[] #[(vp b1)]))] [0] (Value.func (.func 95) #[] #[(vp b1)]), ⟨[(7, 23)], [], [0], [8], fun H1 => H1 8, fun H1 K_ h_ => by simp only [h_ 8 (by simp)]⟩, ⟨[(6, 22), (8, 24)], [], [1], [9], fun H1 => H1 9, fun H1 K_ h_ => by simp only [h_ 9 (by simp)]⟩, hr_ [(0, 16), (9, 25)] [] [2] vt, hr_ [(10, 26)] [] [3] vt, hr_ [(11, 27)] [(0, (vp bb))] [3] undef, hr_ [(11, 27)] [(3, (vp b1))] [3] undef, hr_ [(13, 29), (11, 27)] [] [3] undef, hr_ [(14, 30), (11, 27)] [] [3] undef, hr_ [(15, 31), (11, 27)] [] [3] undef, hr_ [(16, 32), (11, 27)] [] [3] undef, hr_ [(17, 33), (11, 27)] [] [3] undef, hr_ [(11, 27)] [(5, (Value.func (.func 95) #[] #[(vp b1)]))] [3] undef, hr_ [(19, 35), (11, 27)] [] [3] undef, hr_ [(18, 34), (20, 36), (11, 27)] [] [3] undef, hr_ [(12, 28), (21, 37), (11, 27)] [] [3] undef, hr_ [(11, 27), (22, 38)] [] [3] vt, hr_ [(23, 39)] [] [3] vt, hr_ [(24, 40)] [(0, (vp bb))] [3] undef, hr_ [(25, 41), (24, 40)] [] [3] undef, hr_ [(26, 42), (24, 40)] [] [3] undef, hr_ [(27, 43), (24, 40)] [] [3] undef, hr_ [(28, 44), (24, 40)] [] [3] undef, hr_ [(29, 45), (24, 40)] [] [3] undef, hr_ [(30, 46)] [(0, (vp bb))] [3] undef, hr_ [(30, 46)] [(5, (Value.func (.func 95) #[] #[(vp b1)]))] [3] undef, hr_ [(32, 48), (30, 46)] [] [3] undef, hr_ [(30, 46)] [(5, (Value.func (.func 95) #[] #[(vp b1)]))] [3] undef, hr_ [(34, 50), (30, 46)] [] [3] undef, hr_ [(33, 49), (35, 51), (30, 46)] [] [3] undef, hr_ [(31, 47), (36, 52), (30, 46)] [] [3] undef, hr_ [(30, 46), (37, 53), (24, 40)] [] [3] undef, hr_ [(24, 40), (38, 54)] [] [3] vt, hr_ [(39, 55)] [] [3] vt]) (by kernel_rfl) hF (fun H_ => ?_) ?_ ?_
  ·have hch_ := Ch.drew w
   have hfin_ : A1_0 H_ { w with drawn := w.drawn + 1 } := by rw [hA1_0]; exact ⟨hC.trans (hch_.mono (by simp)), hbb.mv hch_ (by simp <;> omega), hbr.mv hch_ (by simp <;> omega), hmet.mv hch_ (by simp <;> omega), htold.mv hch_ (by simp <;> omega), hch_.lt hbtlt, hatn.mv hch_ (by simp <;> omega), hats.mv hch_ (by simp <;> omega), hch_.lt hbsl, IsN.mv hch_ (by simp) (fun x hx => .inl hx) _ _ hka, IsN.mv hch_ (by simp) (fun x hx => .inl hx) _ _ hkb, hsl.mv hch_ (by simp) (fun x hx => .inl hx), IsNs.mv hch_ (by simp) (fun x hx => .inl hx) _ _ hkk, hch_.lt hib1, lob1, hb1.mv hch_ (by simp <;> omega), trivial⟩
   exact hfin_
  ·refine ⟨?_, ?_, ?_, ?_, ?_, ?_, ?_, ?_, ?_, ?_, ?_, ?_, ?_, ?_, ?_, ?_, ?_, ?_, ?_, ?_, ?_, ?_, ?_, ?_, ?_, ?_, ?_, ?_, ?_, ?_, ?_, ?_, ?_, ?_, ?_, ?_, ?_, ?_, ?_, ?_, ?_, trivial⟩
   ·exact HOb.pure ⟨rfl, trivial⟩ rfl rfl (fun _ _ => d_move rfl)
   ·refine ⟨⟨rfl, trivial⟩, fun ph_ hp_ H1 w hW => ?_⟩
    rcases memN_or hp_ with rfl | hp_
    ·have hW0 := hW
     replace hW : A1_0 H1 w := hW
     rw [hA1_0] at hW
     obtain ⟨hC, hbb, hbr, hmet, htold, hbtlt, hatn, hats, hbsl, hka, hkb, hsl, hkk, hib1, lob1, hb1, _⟩ := hW
     exact Det.ohc rfl hW0 (d_load1 Tryd.underlying83 rfl rfl (hb1 0 _ rfl))
    obtain rfl := memN_one hp_
    ·have hW0 := hW
     replace hW : A1_1 H1 w := hW
     rw [hA1_1] at hW
     obtain ⟨hC, hbb, hbr, hmet, htold, hbtlt, hatn, hats, hbsl, hka, hkb, hsl, hkk, hib1, lob1, hb1, hpv2, _⟩ := hW
     exact Det.ohc rfl hW0 (d_load1 Tryd.underlying83 rfl rfl (hb1 0 _ rfl))
   ·exact HOb.pure trivial rfl rfl (fun _ _ => d_nil rfl)
   ·exact HOb.pure trivial rfl rfl (fun _ _ => d_fieldAddrQ Tryd.underlying112 (m := 0) sz110 rfl rfl rfl)
   ·refine ⟨trivial, fun ph_ hp_ H1 w hW => ?_⟩
    rcases memN_or hp_ with rfl | hp_
    ·have hW0 := hW
     replace hW : A1_0 H1 w := hW
     rw [hA1_0] at hW
     obtain ⟨hC, hbb, hbr, hmet, htold, hbtlt, hatn, hats, hbsl, hka, hkb, hsl, hkk, hib1, lob1, hb1, _⟩ := hW
     exact Det.ohc rfl hW0 (d_load1 Tryd.underlying110 rfl rfl (hatn 2 _ rfl))
    obtain rfl := memN_one hp_
    ·have hW0 := hW
     replace hW : A1_1 H1 w := hW
     rw [hA1_1] at hW
     obtain ⟨hC, hbb, hbr, hmet, htold, hbtlt, hatn, hats, hbsl, hka, hkb, hsl, hkk, hib1, lob1, hb1, hpv2, _⟩ := hW
     exact Det.ohc rfl hW0 (d_load1 Tryd.underlying110 rfl rfl (hatn 2 _ rfl))
   ·refine ⟨trivial, fun ph_ hp_ H1 w hW => ?_⟩
    rcases memN_or hp_ with rfl | hp_
    ·have hW0 := hW
     replace hW : A1_0 H1 w := hW
     rw [hA1_0] at hW
     obtain ⟨hC, hbb, hbr, hmet, htold, hbtlt, hatn, hats, hbsl, hka, hkb, hsl, hkk, hib1, lob1, hb1, _⟩ := hW
     exact Det.ohc rfl hW0 (d_ixSQ (j := 0) (q := osl + 0) Tryd.underlying110 sz83 rfl rfl rfl (by omega) rfl)
    obtain rfl := memN_one hp_
    ·have hW0 := hW
     replace hW : A1_1 H1 w := hW
     rw [hA1_1] at hW
     obtain ⟨hC, hbb, hbr, hmet, htold, hbtlt, hatn, hats, hbsl, hka, hkb, hsl, hkk, hib1, lob1, hb1, hpv2, _⟩ := hW
     exact Det.ohc rfl hW0 (d_ixSQ (j := 0) (q := osl + 0) Tryd.underlying110 sz83 rfl rfl rfl (by omega) rfl)
   ·refine ⟨trivial, fun ph_ hp_ H1 w hW => ?_⟩
    rcases memN_or hp_ with rfl | hp_
    ·have hW0 := hW
     replace hW : A1_0 H1 w := hW
     rw [hA1_0] at hW
     obtain ⟨hC, hbb, hbr, hmet, htold, hbtlt, hatn, hats, hbsl, hka, hkb, hsl, hkk, hib1, lob1, hb1, _⟩ := hW
     exact Det.ohc rfl hW0 (d_load1 Tryd.underlying83 rfl rfl (hats 0 _ rfl))
    obtain rfl := memN_one hp_
    ·have hW0 := hW
     replace hW : A1_1 H1 w := hW
     rw [hA1_1] at hW
     obtain ⟨hC, hbb, hbr, hmet, htold, hbtlt, hatn, hats, hbsl, hka, hkb, hsl, hkk, hib1, lob1, hb1, hpv2, _⟩ := hW
     exact Det.ohc rfl hW0 (d_load1 Tryd.underlying83 rfl rfl (hats 0 _ rfl))
   ·exact HOb.pure ⟨rfl, trivial⟩ rfl rfl (fun _ _ => d_move rfl)
   ·refine ⟨trivial, fun ph_ hp_ H1 w hW => ?_⟩
    obtain rfl := memN_one hp_
    replace hW : A1_0 H1 w := hW
    rw [hA1_0] at hW
    obtain ⟨hC, hbb, hbr, hmet, htold, hbtlt, hatn, hats, hbsl, hka, hkb, hsl, hkk, hib1, lob1, hb1, _⟩ := hW
    refine Ok1.mono (ok_callv (first := #[]) (captured := #[(vp b1)]) rfl c95 rfl (pub_calls (X := [bt]) (ks := [a, b]) (i := 1) (t1 := b) hT hjoin (wrk_pub hfb.2) _ (Nat.le_trans hnb hC.size) (hT _ _ (hC.below hnb (by simpa using hnbt)) hw0) (by simp; exact hbtlt) (hb1 0 _ rfl) hatn rfl hats (by simp) rfl hkb)) ?_
    rintro pv2 w' ⟨hpv2, hch0_⟩
    have hch_ : Ch [] _ w' := Gr.ch hch0_
    have hC := hC.trans (hch_.mono (by simp))
    have hbb := hbb.mv hch_ (by simp <;> omega)
    have hbr := hbr.mv hch_ (by simp <;> omega)
    have hmet := hmet.mv hch_ (by simp <;> omega)
    have htold := htold.mv hch_ (by simp <;> omega)
    have hbtlt := hch_.lt hbtlt
    have hatn := hatn.mv hch_ (by simp <;> omega)
    have hats := hats.mv hch_ (by simp <;> omega)
    have hbsl := hch_.lt hbsl
    have hka : IsN w' [bt] a (vp ba) := IsN.mv hch_ (by simp) (fun x hx => .inl hx) _ _ hka
    have hkb : IsN w' [bt] b (vp bb2) := IsN.mv hch_ (by simp) (fun x hx => .inl hx) _ _ hkb
    have hsl : SlA w' [bt] (.slice (some ⟨bsl, osl, none⟩) 2 cap) 2 [(vp ba), (vp bb2)] := hsl.mv hch_ (by simp) (fun x hx => .inl hx)
    have hkk : IsNs w' [bt] [a, b] [(vp ba), (vp bb2)] := IsNs.mv hch_ (by simp) (fun x hx => .inl hx) _ _ hkk
    have hib1 := hch_.lt hib1
    have hb1 := hb1.mv hch_ (by simp <;> omega)
    have hfin_ : A1_1 (updV H1 8 pv2) w' := by rw [hA1_1]; exact ⟨hC, hbb, hbr, hmet, htold, hbtlt, hatn, hats, hbsl, hka, hkb, hsl, hkk, hib1, lob1, hb1, hpv2, trivial⟩
    exact fin_ rfl ⟨hfin_, rfl⟩
   ·refine ⟨trivial, fun ph_ hp_ H1 w hW => ?_⟩
    obtain rfl := memN_one hp_
    replace hW : A1_1 H1 w := hW
    rw [hA1_1] at hW
    obtain ⟨hC, hbb, hbr, hmet, htold, hbtlt, hatn, hats, hbsl, hka, hkb, hsl, hkk, hib1, lob1, hb1, hpv2, _⟩ := hW
    refine Ok1.mono (ok_buildSlice (cells := #[(vp ba), (H1 8)]) Tryd.underlying110 zz83 rfl (by decide) (by decide) (by exact fill2 rfl (IsN.cellsv hpv2))) ?_
    rintro _ w' ⟨b3, rfl, hnb_⟩
    have hch_ : Ch [] _ w' := hnb_.ch
    have lo_ := hnb_.lo hC.size
    have ne_b1_b3 := hnb_.gt hib1
    have hC := hC.trans (hch_.mono (by simp))
    have hbb := hbb.mv hch_ (by simp <;> omega)
    have hbr := hbr.mv hch_ (by simp <;> omega)
    have hmet := hmet.mv hch_ (by simp <;> omega)
    have htold := htold.mv hch_ (by simp <;> omega)
    have hbtlt := hch_.lt hbtlt
    have hatn := hatn.mv hch_ (by simp <;> omega)
    have hats := hats.mv hch_ (by simp <;> omega)
    have hbsl := hch_.lt hbsl
    have hka : IsN w' [bt] a (vp ba) := IsN.mv hch_ (by simp) (fun x hx => .inl hx) _ _ hka
    have hkb : IsN w' [bt] b (vp bb2) := IsN.mv hch_ (by simp) (fun x hx => .inl hx) _ _ hkb
    have hsl : SlA w' [bt] (.slice (some ⟨bsl, osl, none⟩) 2 cap) 2 [(vp ba), (vp bb2)] := hsl.mv hch_ (by simp) (fun x hx => .inl hx)
    have hkk : IsNs w' [bt] [a, b] [(vp ba), (vp bb2)] := IsNs.mv hch_ (by simp) (fun x hx => .inl hx) _ _ hkk
    have hib1 := hch_.lt hib1
    have hb1 := hb1.mv hch_ (by simp <;> omega)
    have hpv2 : IsN w' [bt] (pubOf b) (H1 8) := IsN.mv hch_ (by simp) (fun x hx => .inl hx) _ _ hpv2
    have hib3 : b3 < w'.heap.size := hnb_.lt
    have lob3 : w0.heap.size ≤ b3 := lo_
    have hb3 : At w' b3 0 [(vp ba), (H1 8)] := hnb_.at
    have ne_b1_b3 : b1 < b3 := ne_b1_b3
    have hfin_ : A1_2 (updV H1 9 (vS b3 0 2 2)) w' := by rw [hA1_2]; exact ⟨hC, hbb, hbr, hmet, htold, hbtlt, hatn, hats, hbsl, hka, hkb, hsl, hkk, hib1, lob1, hb1, hpv2, hib3, lob3, hb3, ne_b1_b3, rfl, trivial⟩
    exact fin_ rfl ⟨hfin_, rfl⟩
   ·refine ⟨trivial, fun ph_ hp_ H1 w hW => ?_⟩
    obtain rfl := memN_one hp_
    replace hW : A1_2 H1 w := hW
    rw [hA1_2] at hW
    obtain ⟨hC, hbb, hbr, hmet, htold, hbtlt, hatn, hats, hbsl, hka, hkb, hsl, hkk, hib1, lob1, hb1, hpv2, hib3, lob3, hb3, ne_b1_b3, hv1_9, _⟩ := hW
    refine Ok1.sub (L' := [(16, (vp bb)), (25, (vS (blk (H1 9)) 0 2 2))]) ⟨rfl, congrArg some hv1_9, trivial⟩ (Ok1.mono (ok_call c45 rfl (ih g1 (by omega) ([a, pubOf b]) m m' true bb bt br bm rl _ _ _ _ (by simp) hq1 (fun t ht => by simp at ht; first | (rcases ht with rfl | rfl <;> assumption) | (subst ht; assumption)) (Nat.le_trans hnb hC.size) hnbt (hT _ _ (hC.below hnb (by simpa using hnbt)) hw0) ⟨hbb, hbr, hmet, hne1, hne2, hne3⟩ htold (.inr ⟨_, 0, _, rfl, by simp <;> omega, hib3, hb3⟩) (IsNs.of_two hka hpv2))) ?_)
    rintro _ w' ⟨rfl, htold, hch0_⟩
    have hch_ : Ch [bt] _ w' := hch0_
    have hC := hC.trans (hch_.mono (by simp))
    have hbb := hbb.mv hch_ (by simp <;> omega)
    have hbr := hbr.mv hch_ (by simp <;> omega)
    have hmet := hmet.mv hch_ (by simp <;> omega)
    have hbtlt := hch_.lt hbtlt
    have hatn := hatn.mv hch_ (by simp <;> omega)
    have hats := hats.mv hch_ (by simp <;> omega)
    have hbsl := hch_.lt hbsl
    have hka : IsN w' [bt] a (vp ba) := IsN.mv hch_ (by simp) (fun x hx => .inl hx) _ _ hka
    have hkb : IsN w' [bt] b (vp bb2) := IsN.mv hch_ (by simp) (fun x hx => .inl hx) _ _ hkb
    have hsl : SlA w' [bt] (.slice (some ⟨bsl, osl, none⟩) 2 cap) 2 [(vp ba), (vp bb2)] := hsl.mv hch_ (by simp) (fun x hx => .inl hx)
    have hkk : IsNs w' [bt] [a, b] [(vp ba), (vp bb2)] := IsNs.mv hch_ (by simp) (fun x hx => .inl hx) _ _ hkk
    have hib1 := hch_.lt hib1
    have hb1 := hb1.mv hch_ (by simp <;> omega)
    have hpv2 : IsN w' [bt] (pubOf b) (H1 8) := IsN.mv hch_ (by simp) (fun x hx => .inl hx) _ _ hpv2
    have hib3 := hch_.lt hib3
    have hb3 := hb3.mv hch_ (by simp <;> omega)
    have hfin_ : A1_3 (updV H1 10 vt) w' := by rw [hA1_3]; exact ⟨hC, hbb, hbr, hmet, htold, hbtlt, hatn, hats, hbsl, hka, hkb, hsl, hkk, hib1, lob1, hb1, hpv2, hib3, lob3, hb3, ne_b1_b3, hv1_9, trivial⟩
    exact fin_ rfl ⟨hfin_, rfl⟩
   ·exact HOb.pure trivial rfl rfl (fun _ _ => d_move rfl)
   ·exact HOb.skip ⟨rfl, trivial⟩ rfl rfl (fun _ => rfl) (by decide) rfl (fun _ => rfl)
   ·exact HOb.skip ⟨rfl, trivial⟩ rfl rfl (fun _ => rfl) (by decide) rfl (fun _ => rfl)
   ·exact HOb.skip trivial rfl rfl (fun _ => rfl) (by decide) rfl (fun _ => rfl)
   ·exact HOb.skip trivial rfl rfl (fun _ => rfl) (by decide) rfl (fun _ => rfl)
   ·exact HOb.skip trivial rfl rfl (fun _ => rfl) (by decide) rfl (fun _ => rfl)
   ·exact HOb.skip trivial rfl rfl (fun _ => rfl) (by decide) rfl (fun _ => rfl)
   ·exact HOb.skip trivial rfl rfl (fun _ => rfl) (by decide) rfl (fun _ => rfl)
   ·exact HOb.skip ⟨rfl, trivial⟩ rfl rfl (fun _ => rfl) (by decide) rfl (fun _ => rfl)
   ·exact HOb.skip trivial rfl rfl (fun _ => rfl) (by decide) rfl (fun _ => rfl)
   ·exact HOb.skip trivial rfl rfl (fun _ => rfl) (by decide) rfl (fun _ => rfl)
   ·exact HOb.skip trivial rfl rfl (fun _ => rfl) (by decide) rfl (fun _ => rfl)
   ·exact HOb.pure trivial rfl rfl (fun _ _ => d_pick (b := true) rfl rfl)
   ·exact HOb.pure trivial rfl rfl (fun _ _ => d_move rfl)
   ·exact HOb.skip ⟨rfl, trivial⟩ rfl rfl (fun _ => rfl) (by decide) rfl (fun _ => rfl)
   ·exact HOb.skip trivial rfl rfl (fun _ => rfl) (by decide) rfl (fun _ => rfl)
   ·exact HOb.skip trivial rfl rfl (fun _ => rfl) (by decide) rfl (fun _ => rfl)
   ·exact HOb.skip trivial rfl rfl (fun _ => rfl) (by decide) rfl (fun _ => rfl)
   ·exact HOb.skip trivial rfl rfl (fun _ => rfl) (by decide) rfl (fun _ => rfl)
   ·exact HOb.skip trivial rfl rfl (fun _ => rfl) (by decide) rfl (fun _ => rfl)
   ·exact HOb.skip ⟨rfl, trivial⟩ rfl rfl (fun _ => rfl) (by decide) rfl (fun _ => rfl)
   ·exact HOb.skip ⟨rfl, trivial⟩ rfl rfl (fun _ => rfl) (by decide) rfl (fun _ => rfl)
   ·exact HOb.skip trivial rfl rfl (fun _ => rfl) (by decide) rfl (fun _ => rfl)
   ·exact HOb.skip ⟨rfl, trivial⟩ rfl rfl (fun _ => rfl) (by decide) rfl (fun _ => rfl)
   ·exact HOb.skip trivial rfl rfl (fun _ => rfl) (by decide) rfl (fun _ => rfl)
   ·exact HOb.skip trivial rfl rfl (fun _ => rfl) (by decide) rfl (fun _ => rfl)
   ·exact HOb.skip trivial rfl rfl (fun _ => rfl) (by decide) rfl (fun _ => rfl)
   ·exact HOb.skip trivial rfl rfl (fun _ => rfl) (by decide) rfl (fun _ => rfl)
   ·exact HOb.pure trivial rfl rfl (fun _ _ => d_pick (b := true) rfl rfl)
   ·exact HOb.pure trivial rfl rfl (fun _ _ => d_assign rfl)
  ·intro ac w H1 hW hF
   replace hW : A1_3 H1 w := hW
   rw [hA1_3] at hW
   obtain ⟨hC, hbb, hbr, hmet, htold, hbtlt, hatn, hats, hbsl, hka, hkb, hsl, hkk, hib1, lob1, hb1, hpv2, hib3, lob3, hb3, ne_b1_b3, hv1_9, _⟩ := hW
   clear hA1_0 A1_0 hA1_1 A1_1 hA1_2 A1_2 hA1_3 A1_3
   have hF := hF.sub (L' := [(0, (vp bb)), (1, (vp bn)), (3, (vp b1)), (4, vt), (5, (Value.func (.func 95) #[] #[(vp b1)])), (11, (vI 3)), (12, vf), (14, vt)]) ⟨rfl, rfl, rfl, rfl, rfl, rfl, rfl, rfl, trivial⟩
   refine then_n ?_
   refine wp_ret ?_
   refine block_ret ?_
   refine then_ret ?_
   refine body_ret hF (results1 Tryd.results82 (RV.tmp hF rfl)) ?_
   exact ⟨rfl, htold, hC⟩
 ·skip
  obtain ⟨A2_0, hA2_0⟩ : ∃ A : (Nat → Value) → World → Prop, A = fun _ w => (Ch [bt] w0 w) ∧ (At w bb 0 [(vB W.dh), (vB W.kem), (vp br), (Value.map (some bt))]) ∧ (At w br 0 [rl, (Value.map (some bm))]) ∧ (MapIs w bm met) ∧ (MapIs w bt m) ∧ (bt < w.heap.size) ∧ (At w bn 0 [(vI 3), (vI n), (vS bsl osl 2 cap), (vT (txt (.mk 3 n [a, b])))]) ∧ (At w bsl osl [(vp ba), (vp bb2)]) ∧ (bsl < w.heap.size) ∧ (IsN w [bt] a (vp ba)) ∧ (IsN w [bt] b (vp bb2)) ∧ (SlA w [bt] (.slice (some ⟨bsl, osl, none⟩) 2 cap) 2 [(vp ba), (vp bb2)]) ∧ (IsNs w [bt] [a, b] [(vp ba), (vp bb2)]) ∧ (b1 < w.heap.size) ∧ (w0.heap.size ≤ b1) ∧ (At w b1 0 [(vp bn)]) ∧ True := ⟨_, rfl⟩
  obtain ⟨A2_1, hA2_1⟩ : ∃ A : (Nat → Value) → World → Prop, A = fun H2 w => (Ch [bt] w0 w) ∧ (At w bb 0 [(vB W.dh), (vB W.kem), (vp br), (Value.map (some bt))]) ∧ (At w br 0 [rl, (Value.map (some bm))]) ∧ (MapIs w bm met) ∧ (MapIs w bt m) ∧ (bt < w.heap.size) ∧ (At w bn 0 [(vI 3), (vI n), (vS bsl osl 2 cap), (vT (txt (.mk 3 n [a, b])))]) ∧ (At w bsl osl [(vp ba), (vp bb2)]) ∧ (bsl < w.heap.size) ∧ (IsN w [bt] a (vp ba)) ∧ (IsN w [bt] b (vp bb2)) ∧ (SlA w [bt] (.slice (some ⟨bsl, osl, none⟩) 2 cap) 2 [(vp ba), (vp bb2)]) ∧ (IsNs w [bt] [a, b] [(vp ba), (vp bb2)]) ∧ (b1 < w.heap.size) ∧ (w0.heap.size ≤ b1) ∧ (At w b1 0 [(vp bn)]) ∧ (IsN w [bt] (pubOf b) (H2 8)) ∧ True := ⟨_, rfl⟩
  obtain ⟨A2_2, hA2_2⟩ : ∃ A : (Nat → Value) → World → Prop, A = fun H2 w => (Ch [bt] w0 w) ∧ (At w bb 0 [(vB W.dh), (vB W.kem), (vp br), (Value.map (some bt))]) ∧ (At w br 0 [rl, (Value.map (some bm))]) ∧ (MapIs w bm met) ∧ (MapIs w bt m) ∧ (bt < w.heap.size) ∧ (At w bn 0 [(vI 3), (vI n), (vS bsl osl 2 cap), (vT (txt (.mk 3 n [a, b])))]) ∧ (At w bsl osl [(vp ba), (vp bb2)]) ∧ (bsl < w.heap.size) ∧ (IsN w [bt] a (vp ba)) ∧ (IsN w [bt] b (vp bb2)) ∧ (SlA w [bt] (.slice (some ⟨bsl, osl, none⟩) 2 cap) 2 [(vp ba), (vp bb2)]) ∧ (IsNs w [bt] [a, b] [(vp ba), (vp bb2)]) ∧ (b1 < w.heap.size) ∧ (w0.heap.size ≤ b1) ∧ (At w b1 0 [(vp bn)]) ∧ (IsN w [bt] (pubOf b) (H2 8)) ∧ ((blk (H2 9)) < w.heap.size) ∧ (w0.heap.size ≤ (blk (H2 9))) ∧ (At w (blk (H2 9)) 0 [(vp ba), (H2 8)]) ∧ (b1 < (blk (H2 9))) ∧ (H2 9 = (vS (blk (H2 9)) 0 2 2)) ∧ True := ⟨_, rfl⟩
  obtain ⟨A2_3, hA2_3⟩ : ∃ A : (Nat → Value) → World → Prop, A = fun H2 w => (Ch [bt] w0 w) ∧ (At w bb 0 [(vB W.dh), (vB W.kem), (vp br), (Value.map (some bt))]) ∧ (At w br 0 [rl, (Value.map (some bm))]) ∧ (MapIs w bm met) ∧ (MapIs w bt m1) ∧ (bt < w.heap.size) ∧ (At w bn 0 [(vI 3), (vI n), (vS bsl osl 2 cap), (vT (txt (.mk 3 n [a, b])))]) ∧ (At w bsl osl [(vp ba), (vp bb2)]) ∧ (bsl < w.heap.size) ∧ (IsN w [bt] a (vp ba)) ∧ (IsN w [bt] b (vp bb2)) ∧ (SlA w [bt] (.slice (some ⟨bsl, osl, none⟩) 2 cap) 2 [(vp ba), (vp bb2)]) ∧ (IsNs w [bt] [a, b] [(vp ba), (vp bb2)]) ∧ (b1 < w.heap.size) ∧ (w0.heap.size ≤ b1) ∧ (At w b1 0 [(vp bn)]) ∧ (IsN w [bt] (pubOf b) (H2 8)) ∧ ((blk (H2 9)) < w.heap.size) ∧ (w0.heap.size ≤ (blk (H2 9))) ∧ (At w (blk (H2 9)) 0 [(vp ba), (H2 8)]) ∧ (b1 < (blk (H2 9))) ∧ (H2 9 = (vS (blk (H2 9)) 0 2 2)) ∧ True := ⟨_, rfl⟩
  obtain ⟨A2_4, hA2_4⟩ : ∃ A : (Nat → Value) → World → Prop, A = fun H2 w => (Ch [bt] w0 w) ∧ (At w bb 0 [(vB W.dh), (vB W.kem), (vp br), (Value.map (some bt))]) ∧ (At w br 0 [rl, (Value.map (some bm))]) ∧ (MapIs w bm met) ∧ (MapIs w bt m1) ∧ (bt < w.heap.size) ∧ (At w bn 0 [(vI 3), (vI n), (vS bsl osl 2 cap), (vT (txt (.mk 3 n [a, b])))]) ∧ (At w bsl osl [(vp ba), (vp bb2)]) ∧ (bsl < w.heap.size) ∧ (IsN w [bt] a (vp ba)) ∧ (IsN w [bt] b (vp bb2)) ∧ (SlA w [bt] (.slice (some ⟨bsl, osl, none⟩) 2 cap) 2 [(vp ba), (vp bb2)]) ∧ (IsNs w [bt] [a, b] [(vp ba), (vp bb2)]) ∧ (b1 < w.heap.size) ∧ (w0.heap.size ≤ b1) ∧ (At w b1 0 [(vp bn)]) ∧ (IsN w [bt] (pubOf b) (H2 8)) ∧ ((blk (H2 9)) < w.heap.size) ∧ (w0.heap.size ≤ (blk (H2 9))) ∧ (At w (blk (H2 9)) 0 [(vp ba), (H2 8)]) ∧ (b1 < (blk (H2 9))) ∧ (H2 9 = (vS (blk (H2 9)) 0 2 2)) ∧ (IsN w [bt] (pubOf a) (H2 20)) ∧ True := ⟨_, rfl⟩
  obtain ⟨A2_5, hA2_5⟩ : ∃ A : (Nat → Value) → World → Prop, A = fun H2 w => (Ch [bt] w0 w) ∧ (At w bb 0 [(vB W.dh), (vB W.kem), (vp br), (Value.map (some bt))]) ∧ (At w br 0 [rl, (Value.map (some bm))]) ∧ (MapIs w bm met) ∧ (MapIs w bt m1) ∧ (bt < w.heap.size) ∧ (At w bn 0 [(vI 3), (vI n), (vS bsl osl 2 cap), (vT (txt (.mk 3 n [a, b])))]) ∧ (At w bsl osl [(vp ba), (vp bb2)]) ∧ (bsl < w.heap.size) ∧ (IsN w [bt] a (vp ba)) ∧ (IsN w [bt] b (vp bb2)) ∧ (SlA w [bt] (.slice (some ⟨bsl, osl, none⟩) 2 cap) 2 [(vp ba), (vp bb2)]) ∧ (IsNs w [bt] [a, b] [(vp ba), (vp bb2)]) ∧ (b1 < w.heap.size) ∧ (w0.heap.size ≤ b1) ∧ (At w b1 0 [(vp bn)]) ∧ (IsN w [bt] (pubOf b) (H2 8)) ∧ ((blk (H2 9)) < w.heap.size) ∧ (w0.heap.size ≤ (blk (H2 9))) ∧ (At w (blk (H2 9)) 0 [(vp ba), (H2 8)]) ∧ (b1 < (blk (H2 9))) ∧ (H2 9 = (vS (blk (H2 9)) 0 2 2)) ∧ (IsN w [bt] (pubOf a) (H2 20)) ∧ ((blk (H2 21)) < w.heap.size) ∧ (w0.heap.size ≤ (blk (H2 21))) ∧ (At w (blk (H2 21)) 0 [(vp bb2), (H2 20)]) ∧ (b1 < (blk (H2 21))) ∧ ((blk (H2 9)) < (blk (H2 21))) ∧ (H2 21 = (vS (blk (H2 21)) 0 2 2)) ∧ True := ⟨_, rfl⟩
  obtain ⟨A2_6, hA2_6⟩ : ∃ A : (Nat → Value) → World → Prop, A = fun H2 w => (Ch [bt] w0 w) ∧ (At w bb 0 [(vB W.dh), (vB W.kem), (vp br), (Value.map (some bt))]) ∧ (At w br 0 [rl, (Value.map (some bm))]) ∧ (MapIs w bm met) ∧ (MapIs w bt m') ∧ (bt < w.heap.size) ∧ (At w bn 0 [(vI 3), (vI n), (vS bsl osl 2 cap), (vT (txt (.mk 3 n [a, b])))]) ∧ (At w bsl osl [(vp ba), (vp bb2)]) ∧ (bsl < w.heap.size) ∧ (IsN w [bt] a (vp ba)) ∧ (IsN w [bt] b (vp bb2)) ∧ (SlA w [bt] (.slice (some ⟨bsl, osl, none⟩) 2 cap) 2 [(vp ba), (vp bb2)]) ∧ (IsNs w [bt] [a, b] [(vp ba), (vp bb2)]) ∧ (b1 < w.heap.size) ∧ (w0.heap.size ≤ b1) ∧ (At w b1 0 [(vp bn)]) ∧ (IsN w [bt] (pubOf b) (H2 8)) ∧ ((blk (H2 9)) < w.heap.size) ∧ (w0.heap.size ≤ (blk (H2 9))) ∧ (At w (blk (H2 9)) 0 [(vp ba), (H2 8)]) ∧ (b1 < (blk (H2 9))) ∧ (H2 9 = (vS (blk (H2 9)) 0 2 2)) ∧ (IsN w [bt] (pubOf a) (H2 20)) ∧ ((blk (H2 21)) < w.heap.size) ∧ (w0.heap.size ≤ (blk (H2 21))) ∧ (At w (blk (H2 21)) 0 [(vp bb2), (H2 20)]) ∧ (b1 < (blk (H2 21))) ∧ ((blk (H2 9)) < (blk (H2 21))) ∧ (H2 21 = (vS (blk (H2 21)) 0 2 2)) ∧ True := ⟨_, rfl⟩
  refine region_hist mo (fun p_ H_ w_ => (([A2_0, A2_1, A2_2, A2_3, A2_4, A2_5, A2_6] : List ((Nat → Value) → World → Prop)).getD p_ (fun _ _ => True)) H_ w_) [8, 9, 10, 20, 21, 22] (rows := [hr_ [] [(0, (vp bb))] [0, 1, 2] (vp bb), hr_ [] [(3, (vp b1))] [0, 1] (vp bn), hr_ [(1, 17)] [] [0, 1] (vp bn), hr_ [(2, 18)] [] [0, 1] (vP bn 2), hr_ [(3, 19)] [] [0, 1] (vS bsl osl 2 cap), hr_ [(4, 20)] [] [0, 1] (vP bsl (osl + 0)), hr_ [(5, 21)] [] [0, 1] (vp ba), hr_ [] [(5, (Value.func (.func 95) #[] #[(vp b1)]))] [0] (Value.func (.func 95) #[] #[(vp b1)]), ⟨[(7, 23)], [], [0], [8], fun H2 => H2 8, fun H2 K_ h_ => by simp only [h_ 8 (by simp)]⟩, ⟨[(6, 22), (8, 24)], [], [1], [9], fun H2 => H2 9, fun H2 K_ h_ => by simp only [h_ 9 (by simp)]⟩, hr_ [(0, 16), (9, 25)] [] [2] vf, hr_ [(10, 26)] [] [3] vf, hr_ [(11, 27)] [(0, (vp bb))] [3, 4, 5] (vp bb), hr_ [(11, 27)] [(3, (vp b1))] [3, 4] (vp bn), hr_ [(13, 29), (11, 27)] [] [3, 4] (vp bn), hr_ [(14, 30), (11, 27)] [] [3, 4] (vP bn 2), hr_ [(15, 31), (11, 27)] [] [3, 4] (vS bsl osl 2 cap), hr_ [(16, 32), (11, 27)] [] [3, 4] (vP bsl (osl + 1)), hr_ [(17, 33), (11, 27)] [] [3, 4] (vp bb2), hr_ [(11, 27)] [(5, (Value.func (.func 95) #[] #[(vp b1)]))] [3] (Value.func (.func 95) #[] #[(vp b1)]), ⟨[(19, 35), (11, 27)], [], [3], [20], fun H2 => H2 20, fun H2 K_ h_ => by simp only [h_ 20 (by simp)]⟩, ⟨[(18, 34), (20, 36), (11, 27)], [], [4], [21], fun H2 => H2 21, fun H2 K_ h_ => by simp only [h_ 21 (by simp)]⟩, hr_ [(12, 28), (21, 37), (11, 27)] [] [5] vt, hr_ [(11, 27), (22, 38)] [] [6] vt, hr_ [(23, 39)] [] [6] vt, hr_ [(24, 40)] [(0, (vp bb))] [6] undef, hr_ [(25, 41), (24, 40)] [] [6] undef, hr_ [(26, 42), (24, 40)] [] [6] undef, hr_ [(27, 43), (24, 40)] [] [6] undef, hr_ [(28, 44), (24, 40)] [] [6] undef, hr_ [(29, 45), (24, 40)] [] [6] undef, hr_ [(30, 46)] [(0, (vp bb))] [6] undef, hr_ [(30, 46)] [(5, (Value.func (.func 95) #[] #[(vp b1)]))] [6] undef, hr_ [(32, 48), (30, 46)] [] [6] undef, hr_ [(30, 46)] [(5, (Value.func (.func 95) #[] #[(vp b1)]))] [6] undef, hr_ [(34, 50), (30, 46)] [] [6] undef, hr_ [(33, 49), (35, 51), (30, 46)] [] [6] undef, hr_ [(31, 47), (36, 52), (30, 46)] [] [6] undef, hr_ [(30, 46), (37, 53), (24, 40)] [] [6] undef, hr_ [(24, 40), (38, 54)] [] [6] vt, hr_ [(39, 55)] [] [6] vt]) (by kernel_rfl) hF (fun H_ => ?_) ?_ ?_
  ·have hch_ := Ch.drew w
   have hfin_ : A2_0 H_ { w with drawn := w.drawn + 1 } := by rw [hA2_0]; exact ⟨hC.trans (hch_.mono (by simp)), hbb.mv hch_ (by simp <;> omega), hbr.mv hch_ (by simp <;> omega), hmet.mv hch_ (by simp <;> omega), htold.mv hch_ (by simp <;> omega), hch_.lt hbtlt, hatn.mv hch_ (by simp <;> omega), hats.mv hch_ (by simp <;> omega), hch_.lt hbsl, IsN.mv hch_ (by simp) (fun x hx => .inl hx) _ _ hka, IsN.mv hch_ (by simp) (fun x hx => .inl hx) _ _ hkb, hsl.mv hch_ (by simp) (fun x hx => .inl hx), IsNs.mv hch_ (by simp) (fun x hx => .inl hx) _ _ hkk, hch_.lt hib1, lob1, hb1.mv hch_ (by simp <;> omega), trivial⟩
   exact hfin_
  ·refine ⟨?_, ?_, ?_, ?_, ?_, ?_, ?_, ?_, ?_, ?_, ?_, ?_, ?_, ?_, ?_, ?_, ?_, ?_, ?_, ?_, ?_, ?_, ?_, ?_, ?_, ?_, ?_, ?_, ?_, ?_, ?_, ?_, ?_, ?_, ?_, ?_, ?_, ?_, ?_, ?_, ?_, trivial⟩
   ·exact HOb.pure ⟨rfl, trivial⟩ rfl rfl (fun _ _ => d_move rfl)
   ·refine ⟨⟨rfl, trivial⟩, fun ph_ hp_ H2 w hW => ?_⟩
    rcases memN_or hp_ with rfl | hp_
    ·have hW0 := hW
     replace hW : A2_0 H2 w := hW
     rw [hA2_0] at hW
     obtain ⟨hC, hbb, hbr, hmet, htold, hbtlt, hatn, hats, hbsl, hka, hkb, hsl, hkk, hib1, lob1, hb1, _⟩ := hW
     exact Det.ohc rfl hW0 (d_load1 Tryd.underlying83 rfl rfl (hb1 0 _ rfl))
    obtain rfl := memN_one hp_
    ·have hW0 := hW
     replace hW : A2_1 H2 w := hW
     rw [hA2_1] at hW
     obtain ⟨hC, hbb, hbr, hmet, htold, hbtlt, hatn, hats, hbsl, hka, hkb, hsl, hkk, hib1, lob1, hb1, hpv4, _⟩ := hW
     exact Det.ohc rfl hW0 (d_load1 Tryd.underlying83 rfl rfl (hb1 0 _ rfl))
   ·exact HOb.pure trivial rfl rfl (fun _ _ => d_nil rfl)
   ·exact HOb.pure trivial rfl rfl (fun _ _ => d_fieldAddrQ Tryd.underlying112 (m := 0) sz110 rfl rfl rfl)
   ·refine ⟨trivial, fun ph_ hp_ H2 w hW => ?_⟩
    rcases memN_or hp_ with rfl | hp_
    ·have hW0 := hW
     replace hW : A2_0 H2 w := hW
     rw [hA2_0] at hW
     obtain ⟨hC, hbb, hbr, hmet, htold, hbtlt, hatn, hats, hbsl, hka, hkb, hsl, hkk, hib1, lob1, hb1, _⟩ := hW
     exact Det.ohc rfl hW0 (d_load1 Tryd.underlying110 rfl rfl (hatn 2 _ rfl))
    obtain rfl := memN_one hp_
    ·have hW0 := hW
     replace hW : A2_1 H2 w := hW
     rw [hA2_1] at hW
     obtain ⟨hC, hbb, hbr, hmet, htold, hbtlt, hatn, hats, hbsl, hka, hkb, hsl, hkk, hib1, lob1, hb1, hpv4, _⟩ := hW
     exact Det.ohc rfl hW0 (d_load1 Tryd.underlying110 rfl rfl (hatn 2 _ rfl))
   ·refine ⟨trivial, fun ph_ hp_ H2 w hW => ?_⟩
    rcases memN_or hp_ with rfl | hp_
    ·have hW0 := hW
     replace hW : A2_0 H2 w := hW
     rw [hA2_0] at hW
     obtain ⟨hC, hbb, hbr, hmet, htold, hbtlt, hatn, hats, hbsl, hka, hkb, hsl, hkk, hib1, lob1, hb1, _⟩ := hW
     exact Det.ohc rfl hW0 (d_ixSQ (j := 0) (q := osl + 0) Tryd.underlying110 sz83 rfl rfl rfl (by omega) rfl)
    obtain rfl := memN_one hp_
    ·have hW0 := hW
     replace hW : A2_1 H2 w := hW
     rw [hA2_1] at hW
     obtain ⟨hC, hbb, hbr, hmet, htold, hbtlt, hatn, hats, hbsl, hka, hkb, hsl, hkk, hib1, lob1, hb1, hpv4, _⟩ := hW
     exact Det.ohc rfl hW0 (d_ixSQ (j := 0) (q := osl + 0) Tryd.underlying110 sz83 rfl rfl rfl (by omega) rfl)
   ·refine ⟨trivial, fun ph_ hp_ H2 w hW => ?_⟩
    rcases memN_or hp_ with rfl | hp_
    ·have hW0 := hW
     replace hW : A2_0 H2 w := hW
     rw [hA2_0] at hW
     obtain ⟨hC, hbb, hbr, hmet, htold, hbtlt, hatn, hats, hbsl, hka, hkb, hsl, hkk, hib1, lob1, hb1, _⟩ := hW
     exact Det.ohc rfl hW0 (d_load1 Tryd.underlying83 rfl rfl (hats 0 _ rfl))
    obtain rfl := memN_one hp_
    ·have hW0 := hW
     replace hW : A2_1 H2 w := hW
     rw [hA2_1] at hW
     obtain ⟨hC, hbb, hbr, hmet, htold, hbtlt, hatn, hats, hbsl, hka, hkb, hsl, hkk, hib1, lob1, hb1, hpv4, _⟩ := hW
     exact Det.ohc rfl hW0 (d_load1 Tryd.underlying83 rfl rfl (hats 0 _ rfl))
   ·exact HOb.pure ⟨rfl, trivial⟩ rfl rfl (fun _ _ => d_move rfl)
   ·refine ⟨trivial, fun ph_ hp_ H2 w hW => ?_⟩
    obtain rfl := memN_one hp_
    replace hW : A2_0 H2 w := hW
    rw [hA2_0] at hW
    obtain ⟨hC, hbb, hbr, hmet, htold, hbtlt, hatn, hats, hbsl, hka, hkb, hsl, hkk, hib1, lob1, hb1, _⟩ := hW
    refine Ok1.mono (ok_callv (first := #[]) (captured := #[(vp b1)]) rfl c95 rfl (pub_calls (X := [bt]) (ks := [a, b]) (i := 1) (t1 := b) hT hjoin (wrk_pub hfb.2) _ (Nat.le_trans hnb hC.size) (hT _ _ (hC.below hnb (by simpa using hnbt)) hw0) (by simp; exact hbtlt) (hb1 0 _ rfl) hatn rfl hats (by simp) rfl hkb)) ?_
    rintro pv4 w' ⟨hpv4, hch0_⟩
    have hch_ : Ch [] _ w' := Gr.ch hch0_
    have hC := hC.trans (hch_.mono (by simp))
    have hbb := hbb.mv hch_ (by simp <;> omega)
    have hbr := hbr.mv hch_ (by simp <;> omega)
    have hmet := hmet.mv hch_ (by simp <;> omega)
    have htold := htold.mv hch_ (by simp <;> omega)
    have hbtlt := hch_.lt hbtlt
    have hatn := hatn.mv hch_ (by simp <;> omega)
    have hats := hats.mv hch_ (by simp <;> omega)
    have hbsl := hch_.lt hbsl
    have hka : IsN w' [bt] a (vp ba) := IsN.mv hch_ (by simp) (fun x hx => .inl hx) _ _ hka
    have hkb : IsN w' [bt] b (vp bb2) := IsN.mv hch_ (by simp) (fun x hx => .inl hx) _ _ hkb
    have hsl : SlA w' [bt] (.slice (some ⟨bsl, osl, none⟩) 2 cap) 2 [(vp ba), (vp bb2)] := hsl.mv hch_ (by simp) (fun x hx => .inl hx)
    have hkk : IsNs w' [bt] [a, b] [(vp ba), (vp bb2)] := IsNs.mv hch_ (by simp) (fun x hx => .inl hx) _ _ hkk
    have hib1 := hch_.lt hib1
    have hb1 := hb1.mv hch_ (by simp <;> omega)
    have hfin_ : A2_1 (updV H2 8 pv4) w' := by rw [hA2_1]; exact ⟨hC, hbb, hbr, hmet, htold, hbtlt, hatn, hats, hbsl, hka, hkb, hsl, hkk, hib1, lob1, hb1, hpv4, trivial⟩
    exact fin_ rfl ⟨hfin_, rfl⟩
   ·refine ⟨trivial, fun ph_ hp_ H2 w hW => ?_⟩
    obtain rfl := memN_one hp_
    replace hW : A2_1 H2 w := hW
    rw [hA2_1] at hW
    obtain ⟨hC, hbb, hbr, hmet, htold, hbtlt, hatn, hats, hbsl, hka, hkb, hsl, hkk, hib1, lob1, hb1, hpv4, _⟩ := hW
    refine Ok1.mono (ok_buildSlice (cells := #[(vp ba), (H2 8)]) Tryd.underlying110 zz83 rfl (by decide) (by decide) (by exact fill2 rfl (IsN.cellsv hpv4))) ?_
    rintro _ w' ⟨b5, rfl, hnb_⟩
    have hch_ : Ch [] _ w' := hnb_.ch
    have lo_ := hnb_.lo hC.size
    have ne_b1_b5 := hnb_.gt hib1
    have hC := hC.trans (hch_.mono (by simp))
    have hbb := hbb.mv hch_ (by simp <;> omega)
    have hbr := hbr.mv hch_ (by simp <;> omega)
    have hmet := hmet.mv hch_ (by simp <;> omega)
    have htold := htold.mv hch_ (by simp <;> omega)
    have hbtlt := hch_.lt hbtlt
    have hatn := hatn.mv hch_ (by simp <;> omega)
    have hats := hats.mv hch_ (by simp <;> omega)
    have hbsl := hch_.lt hbsl
    have hka : IsN w' [bt] a (vp ba) := IsN.mv hch_ (by simp) (fun x hx => .inl hx) _ _ hka
    have hkb : IsN w' [bt] b (vp bb2) := IsN.mv hch_ (by simp) (fun x hx => .inl hx) _ _ hkb
    have hsl : SlA w' [bt] (.slice (some ⟨bsl, osl, none⟩) 2 cap) 2 [(vp ba), (vp bb2)] := hsl.mv hch_ (by simp) (fun x hx => .inl hx)
    have hkk : IsNs w' [bt] [a, b] [(vp ba), (vp bb2)] := IsNs.mv hch_ (by simp) (fun x hx => .inl hx) _ _ hkk
    have hib1 := hch_.lt hib1
    have hb1 := hb1.mv hch_ (by simp <;> omega)
    have hpv4 : IsN w' [bt] (pubOf b) (H2 8) := IsN.mv hch_ (by simp) (fun x hx => .inl hx) _ _ hpv4
    have hib5 : b5 < w'.heap.size := hnb_.lt
    have lob5 : w0.heap.size ≤ b5 := lo_
    have hb5 : At w' b5 0 [(vp ba), (H2 8)] := hnb_.at
    have ne_b1_b5 : b1 < b5 := ne_b1_b5
    have hfin_ : A2_2 (updV H2 9 (vS b5 0 2 2)) w' := by rw [hA2_2]; exact ⟨hC, hbb, hbr, hmet, htold, hbtlt, hatn, hats, hbsl, hka, hkb, hsl, hkk, hib1, lob1, hb1, hpv4, hib5, lob5, hb5, ne_b1_b5, rfl, trivial⟩
    exact fin_ rfl ⟨hfin_, rfl⟩
   ·refine ⟨trivial, fun ph_ hp_ H2 w hW => ?_⟩
    obtain rfl := memN_one hp_
    replace hW : A2_2 H2 w := hW
    rw [hA2_2] at hW
    obtain ⟨hC, hbb, hbr, hmet, htold, hbtlt, hatn, hats, hbsl, hka, hkb, hsl, hkk, hib1, lob1, hb1, hpv4, hib5, lob5, hb5, ne_b1_b5, hv2_9, _⟩ := hW
    refine Ok1.sub (L' := [(16, (vp bb)), (25, (vS (blk (H2 9)) 0 2 2))]) ⟨rfl, congrArg some hv2_9, trivial⟩ (Ok1.mono (ok_call c45 rfl (ih g1 (by omega) ([a, pubOf b]) m m1 false bb bt br bm rl _ _ _ _ (by simp) hq1 (fun t ht => by simp at ht; first | (rcases ht with rfl | rfl <;> assumption) | (subst ht; assumption)) (Nat.le_trans hnb hC.size) hnbt (hT _ _ (hC.below hnb (by simpa using hnbt)) hw0) ⟨hbb, hbr, hmet, hne1, hne2, hne3⟩ htold (.inr ⟨_, 0, _, rfl, by simp <;> omega, hib5, hb5⟩) (IsNs.of_two hka hpv4))) ?_)
    rintro _ w' ⟨rfl, htold, hch0_⟩
    have hch_ : Ch [bt] _ w' := hch0_
    have hC := hC.trans (hch_.mono (by simp))
    have hbb := hbb.mv hch_ (by simp <;> omega)
    have hbr := hbr.mv hch_ (by simp <;> omega)
    have hmet := hmet.mv hch_ (by simp <;> omega)
    have hbtlt := hch_.lt hbtlt
    have hatn := hatn.mv hch_ (by simp <;> omega)
    have hats := hats.mv hch_ (by simp <;> omega)
    have hbsl := hch_.lt hbsl
    have hka : IsN w' [bt] a (vp ba) := IsN.mv hch_ (by simp) (fun x hx => .inl hx) _ _ hka
    have hkb : IsN w' [bt] b (vp bb2) := IsN.mv hch_ (by simp) (fun x hx => .inl hx) _ _ hkb
    have hsl : SlA w' [bt] (.slice (some ⟨bsl, osl, none⟩) 2 cap) 2 [(vp ba), (vp bb2)] := hsl.mv hch_ (by simp) (fun x hx => .inl hx)
    have hkk : IsNs w' [bt] [a, b] [(vp ba), (vp bb2)] := IsNs.mv hch_ (by simp) (fun x hx => .inl hx) _ _ hkk
    have hib1 := hch_.lt hib1
    have hb1 := hb1.mv hch_ (by simp <;> omega)
    have hpv4 : IsN w' [bt] (pubOf b) (H2 8) := IsN.mv hch_ (by simp) (fun x hx => .inl hx) _ _ hpv4
    have hib5 := hch_.lt hib5
    have hb5 := hb5.mv hch_ (by simp <;> omega)
    have hfin_ : A2_3 (updV H2 10 vf) w' := by rw [hA2_3]; exact ⟨hC, hbb, hbr, hmet, htold, hbtlt, hatn, hats, hbsl, hka, hkb, hsl, hkk, hib1, lob1, hb1, hpv4, hib5, lob5, hb5, ne_b1_b5, hv2_9, trivial⟩
    exact fin_ rfl ⟨hfin_, rfl⟩
   ·exact HOb.pure trivial rfl rfl (fun _ _ => d_move rfl)
   ·exact HOb.pureG ⟨rfl, trivial⟩ rfl rfl (fun _ => rfl) rfl (fun _ _ => d_move rfl)
   ·refine ⟨⟨rfl, trivial⟩, fun ph_ hp_ H2 w hW => ?_⟩
    rcases memN_or hp_ with rfl | hp_
    ·have hW0 := hW
     replace hW : A2_3 H2 w := hW
     rw [hA2_3] at hW
     obtain ⟨hC, hbb, hbr, hmet, htold, hbtlt, hatn, hats, hbsl, hka, hkb, hsl, hkk, hib1, lob1, hb1, hpv4, hib5, lob5, hb5, ne_b1_b5, hv2_9, _⟩ := hW
     exact ⟨(some false), _, rfl, rfl, Det.ohc rfl hW0 (d_load1 Tryd.underlying83 rfl rfl (hb1 0 _ rfl))⟩
    obtain rfl := memN_one hp_
    ·have hW0 := hW
     replace hW : A2_4 H2 w := hW
     rw [hA2_4] at hW
     obtain ⟨hC, hbb, hbr, hmet, htold, hbtlt, hatn, hats, hbsl, hka, hkb, hsl, hkk, hib1, lob1, hb1, hpv4, hib5, lob5, hb5, ne_b1_b5, hv2_9, hpv6, _⟩ := hW
     exact ⟨(some false), _, rfl, rfl, Det.ohc rfl hW0 (d_load1 Tryd.underlying83 rfl rfl (hb1 0 _ rfl))⟩
   ·exact HOb.pureG trivial rfl rfl (fun _ => rfl) rfl (fun _ _ => d_nil rfl)
   ·exact HOb.pureG trivial rfl rfl (fun _ => rfl) rfl (fun _ _ => d_fieldAddrQ Tryd.underlying112 (m := 0) sz110 rfl rfl rfl)
   ·refine ⟨trivial, fun ph_ hp_ H2 w hW => ?_⟩
    rcases memN_or hp_ with rfl | hp_
    ·have hW0 := hW
     replace hW : A2_3 H2 w := hW
     rw [hA2_3] at hW
     obtain ⟨hC, hbb, hbr, hmet, htold, hbtlt, hatn, hats, hbsl, hka, hkb, hsl, hkk, hib1, lob1, hb1, hpv4, hib5, lob5, hb5, ne_b1_b5, hv2_9, _⟩ := hW
     exact ⟨(some false), _, rfl, rfl, Det.ohc rfl hW0 (d_load1 Tryd.underlying110 rfl rfl (hatn 2 _ rfl))⟩
    obtain rfl := memN_one hp_
    ·have hW0 := hW
     replace hW : A2_4 H2 w := hW
     rw [hA2_4] at hW
     obtain ⟨hC, hbb, hbr, hmet, htold, hbtlt, hatn, hats, hbsl, hka, hkb, hsl, hkk, hib1, lob1, hb1, hpv4, hib5, lob5, hb5, ne_b1_b5, hv2_9, hpv6, _⟩ := hW
     exact ⟨(some false), _, rfl, rfl, Det.ohc rfl hW0 (d_load1 Tryd.underlying110 rfl rfl (hatn 2 _ rfl))⟩
   ·refine ⟨trivial, fun ph_ hp_ H2 w hW => ?_⟩
    rcases memN_or hp_ with rfl | hp_
    ·have hW0 := hW
     replace hW : A2_3 H2 w := hW
     rw [hA2_3] at hW
     obtain ⟨hC, hbb, hbr, hmet, htold, hbtlt, hatn, hats, hbsl, hka, hkb, hsl, hkk, hib1, lob1, hb1, hpv4, hib5, lob5, hb5, ne_b1_b5, hv2_9, _⟩ := hW
     exact ⟨(some false), _, rfl, rfl, Det.ohc rfl hW0 (d_ixSQ (j := 1) (q := osl + 1) Tryd.underlying110 sz83 rfl rfl rfl (by omega) rfl)⟩
    obtain rfl := memN_one hp_
    ·have hW0 := hW
     replace hW : A2_4 H2 w := hW
     rw [hA2_4] at hW
     obtain ⟨hC, hbb, hbr, hmet, htold, hbtlt, hatn, hats, hbsl, hka, hkb, hsl, hkk, hib1, lob1, hb1, hpv4, hib5, lob5, hb5, ne_b1_b5, hv2_9, hpv6, _⟩ := hW
     exact ⟨(some false), _, rfl, rfl, Det.ohc rfl hW0 (d_ixSQ (j := 1) (q := osl + 1) Tryd.underlying110 sz83 rfl rfl rfl (by omega) rfl)⟩
   ·refine ⟨trivial, fun ph_ hp_ H2 w hW => ?_⟩
    rcases memN_or hp_ with rfl | hp_
    ·have hW0 := hW
     replace hW : A2_3 H2 w := hW
     rw [hA2_3] at hW
     obtain ⟨hC, hbb, hbr, hmet, htold, hbtlt, hatn, hats, hbsl, hka, hkb, hsl, hkk, hib1, lob1, hb1, hpv4, hib5, lob5, hb5, ne_b1_b5, hv2_9, _⟩ := hW
     exact ⟨(some false), _, rfl, rfl, Det.ohc rfl hW0 (d_load1 Tryd.underlying83 rfl rfl (hats 1 _ rfl))⟩
    obtain rfl := memN_one hp_
    ·have hW0 := hW
     replace hW : A2_4 H2 w := hW
     rw [hA2_4] at hW
     obtain ⟨hC, hbb, hbr, hmet, htold, hbtlt, hatn, hats, hbsl, hka, hkb, hsl, hkk, hib1, lob1, hb1, hpv4, hib5, lob5, hb5, ne_b1_b5, hv2_9, hpv6, _⟩ := hW
     exact ⟨(some false), _, rfl, rfl, Det.ohc rfl hW0 (d_load1 Tryd.underlying83 rfl rfl (hats 1 _ rfl))⟩
   ·exact HOb.pureG ⟨rfl, trivial⟩ rfl rfl (fun _ => rfl) rfl (fun _ _ => d_move rfl)
   ·refine ⟨trivial, fun ph_ hp_ H2 w hW => ?_⟩
    obtain rfl := memN_one hp_
    replace hW : A2_3 H2 w := hW
    rw [hA2_3] at hW
    obtain ⟨hC, hbb, hbr, hmet, htold, hbtlt, hatn, hats, hbsl, hka, hkb, hsl, hkk, hib1, lob1, hb1, hpv4, hib5, lob5, hb5, ne_b1_b5, hv2_9, _⟩ := hW
    refine ⟨(some false), _, rfl, rfl, Ok1.mono (ok_callv (first := #[]) (captured := #[(vp b1)]) rfl c95 rfl (pub_calls (X := [bt]) (ks := [a, b]) (i := 0) (t1 := a) hT hjoin (wrk_pub hfa.2) _ (Nat.le_trans hnb hC.size) (hT _ _ (hC.below hnb (by simpa using hnbt)) hw0) (by simp; exact hbtlt) (hb1 0 _ rfl) hatn rfl hats (by simp) rfl hka)) ?_⟩
    rintro pv6 w' ⟨hpv6, hch0_⟩
    have hch_ : Ch [] _ w' := Gr.ch hch0_
    have hC := hC.trans (hch_.mono (by simp))
    have hbb := hbb.mv hch_ (by simp <;> omega)
    have hbr := hbr.mv hch_ (by simp <;> omega)
    have hmet := hmet.mv hch_ (by simp <;> omega)
    have htold := htold.mv hch_ (by simp <;> omega)
    have hbtlt := hch_.lt hbtlt
    have hatn := hatn.mv hch_ (by simp <;> omega)
    have hats := hats.mv hch_ (by simp <;> omega)
    have hbsl := hch_.lt hbsl
    have hka : IsN w' [bt] a (vp ba) := IsN.mv hch_ (by simp) (fun x hx => .inl hx) _ _ hka
    have hkb : IsN w' [bt] b (vp bb2) := IsN.mv hch_ (by simp) (fun x hx => .inl hx) _ _ hkb
    have hsl : SlA w' [bt] (.slice (some ⟨bsl, osl, none⟩) 2 cap) 2 [(vp ba), (vp bb2)] := hsl.mv hch_ (by simp) (fun x hx => .inl hx)
    have hkk : IsNs w' [bt] [a, b] [(vp ba), (vp bb2)] := IsNs.mv hch_ (by simp) (fun x hx => .inl hx) _ _ hkk
    have hib1 := hch_.lt hib1
    have hb1 := hb1.mv hch_ (by simp <;> omega)
    have hpv4 : IsN w' [bt] (pubOf b) (H2 8) := IsN.mv hch_ (by simp) (fun x hx => .inl hx) _ _ hpv4
    have hib5 := hch_.lt hib5
    have hb5 := hb5.mv hch_ (by simp <;> omega)
    have hfin_ : A2_4 (updV H2 20 pv6) w' := by rw [hA2_4]; exact ⟨hC, hbb, hbr, hmet, htold, hbtlt, hatn, hats, hbsl, hka, hkb, hsl, hkk, hib1, lob1, hb1, hpv4, hib5, lob5, hb5, ne_b1_b5, hv2_9, hpv6, trivial⟩
    exact fin_ rfl ⟨hfin_, rfl⟩
   ·refine ⟨trivial, fun ph_ hp_ H2 w hW => ?_⟩
    obtain rfl := memN_one hp_
    replace hW : A2_4 H2 w := hW
    rw [hA2_4] at hW
    obtain ⟨hC, hbb, hbr, hmet, htold, hbtlt, hatn, hats, hbsl, hka, hkb, hsl, hkk, hib1, lob1, hb1, hpv4, hib5, lob5, hb5, ne_b1_b5, hv2_9, hpv6, _⟩ := hW
    refine ⟨(some false), _, rfl, rfl, Ok1.mono (ok_buildSlice (cells := #[(vp bb2), (H2 20)]) Tryd.underlying110 zz83 rfl (by decide) (by decide) (by exact fill2 rfl (IsN.cellsv hpv6))) ?_⟩
    rintro _ w' ⟨b7, rfl, hnb_⟩
    have hch_ : Ch [] _ w' := hnb_.ch
    have lo_ := hnb_.lo hC.size
    have ne_b1_b7 := hnb_.gt hib1
    have ne_b5_b7 := hnb_.gt hib5
    have hC := hC.trans (hch_.mono (by simp))
    have hbb := hbb.mv hch_ (by simp <;> omega)
    have hbr := hbr.mv hch_ (by simp <;> omega)
    have hmet := hmet.mv hch_ (by simp <;> omega)
    have htold := htold.mv hch_ (by simp <;> omega)
    have hbtlt := hch_.lt hbtlt
    have hatn := hatn.mv hch_ (by simp <;> omega)
    have hats := hats.mv hch_ (by simp <;> omega)
    have hbsl := hch_.lt hbsl
    have hka : IsN w' [bt] a (vp ba) := IsN.mv hch_ (by simp) (fun x hx => .inl hx) _ _ hka
    have hkb : IsN w' [bt] b (vp bb2) := IsN.mv hch_ (by simp) (fun x hx => .inl hx) _ _ hkb
    have hsl : SlA w' [bt] (.slice (some ⟨bsl, osl, none⟩) 2 cap) 2 [(vp ba), (vp bb2)] := hsl.mv hch_ (by simp) (fun x hx => .inl hx)
    have hkk : IsNs w' [bt] [a, b] [(vp ba), (vp bb2)] := IsNs.mv hch_ (by simp) (fun x hx => .inl hx) _ _ hkk
    have hib1 := hch_.lt hib1
    have hb1 := hb1.mv hch_ (by simp <;> omega)
    have hpv4 : IsN w' [bt] (pubOf b) (H2 8) := IsN.mv hch_ (by simp) (fun x hx => .inl hx) _ _ hpv4
    have hib5 := hch_.lt hib5
    have hb5 := hb5.mv hch_ (by simp <;> omega)
    have hpv6 : IsN w' [bt] (pubOf a) (H2 20) := IsN.mv hch_ (by simp) (fun x hx => .inl hx) _ _ hpv6
    have hib7 : b7 < w'.heap.size := hnb_.lt
    have lob7 : w0.heap.size ≤ b7 := lo_
    have hb7 : At w' b7 0 [(vp bb2), (H2 20)] := hnb_.at
    have ne_b1_b7 : b1 < b7 := ne_b1_b7
    have ne_b5_b7 : (blk (H2 9)) < b7 := ne_b5_b7
    have hfin_ : A2_5 (updV H2 21 (vS b7 0 2 2)) w' := by rw [hA2_5]; exact ⟨hC, hbb, hbr, hmet, htold, hbtlt, hatn, hats, hbsl, hka, hkb, hsl, hkk, hib1, lob1, hb1, hpv4, hib5, lob5, hb5, ne_b1_b5, hv2_9, hpv6, hib7, lob7, hb7, ne_b1_b7, ne_b5_b7, rfl, trivial⟩
    exact fin_ rfl ⟨hfin_, rfl⟩
   ·refine ⟨trivial, fun ph_ hp_ H2 w hW => ?_⟩
    obtain rfl := memN_one hp_
    replace hW : A2_5 H2 w := hW
    rw [hA2_5] at hW
    obtain ⟨hC, hbb, hbr, hmet, htold, hbtlt, hatn, hats, hbsl, hka, hkb, hsl, hkk, hib1, lob1, hb1, hpv4, hib5, lob5, hb5, ne_b1_b5, hv2_9, hpv6, hib7, lob7, hb7, ne_b1_b7, ne_b5_b7, hv2_21, _⟩ := hW
    refine ⟨(some false), _, rfl, rfl, Ok1.sub (L' := [(27, vf), (28, (vp bb)), (37, (vS (blk (H2 21)) 0 2 2))]) ⟨rfl, rfl, congrArg some hv2_21, trivial⟩ (Ok1.mono (ok_call c45 rfl (ih g2 (by omega) ([b, pubOf a]) m1 m' true bb bt br bm rl _ _ _ _ (by simp) hq2 (fun t ht => by simp at ht; first | (rcases ht with rfl | rfl <;> assumption) | (subst ht; assumption)) (Nat.le_trans hnb hC.size) hnbt (hT _ _ (hC.below hnb (by simpa using hnbt)) hw0) ⟨hbb, hbr, hmet, hne1, hne2, hne3⟩ htold (.inr ⟨_, 0, _, rfl, by simp <;> omega, hib7, hb7⟩) (IsNs.of_two hkb hpv6))) ?_)⟩
    rintro _ w' ⟨rfl, htold, hch0_⟩
    have hch_ : Ch [bt] _ w' := hch0_
    have hC := hC.trans (hch_.mono (by simp))
    have hbb := hbb.mv hch_ (by simp <;> omega)
    have hbr := hbr.mv hch_ (by simp <;> omega)
    have hmet := hmet.mv hch_ (by simp <;> omega)
    have hbtlt := hch_.lt hbtlt
    have hatn := hatn.mv hch_ (by simp <;> omega)
    have hats := hats.mv hch_ (by simp <;> omega)
    have hbsl := hch_.lt hbsl
    have hka : IsN w' [bt] a (vp ba) := IsN.mv hch_ (by simp) (fun x hx => .inl hx) _ _ hka
    have hkb : IsN w' [bt] b (vp bb2) := IsN.mv hch_ (by simp) (fun x hx => .inl hx) _ _ hkb
    have hsl : SlA w' [bt] (.slice (some ⟨bsl, osl, none⟩) 2 cap) 2 [(vp ba), (vp bb2)] := hsl.mv hch_ (by simp) (fun x hx => .inl hx)
    have hkk : IsNs w' [bt] [a, b] [(vp ba), (vp bb2)] := IsNs.mv hch_ (by simp) (fun x hx => .inl hx) _ _ hkk
    have hib1 := hch_.lt hib1
    have hb1 := hb1.mv hch_ (by simp <;> omega)
    have hpv4 : IsN w' [bt] (pubOf b) (H2 8) := IsN.mv hch_ (by simp) (fun x hx => .inl hx) _ _ hpv4
    have hib5 := hch_.lt hib5
    have hb5 := hb5.mv hch_ (by simp <;> omega)
    have hpv6 : IsN w' [bt] (pubOf a) (H2 20) := IsN.mv hch_ (by simp) (fun x hx => .inl hx) _ _ hpv6
    have hib7 := hch_.lt hib7
    have hb7 := hb7.mv hch_ (by simp <;> omega)
    have hfin_ : A2_6 (updV H2 22 vt) w' := by rw [hA2_6]; exact ⟨hC, hbb, hbr, hmet, htold, hbtlt, hatn, hats, hbsl, hka, hkb, hsl, hkk, hib1, lob1, hb1, hpv4, hib5, lob5, hb5, ne_b1_b5, hv2_9, hpv6, hib7, lob7, hb7, ne_b1_b7, ne_b5_b7, hv2_21, trivial⟩
    exact fin_ rfl ⟨hfin_, rfl⟩
   ·exact HOb.pure trivial rfl rfl (fun _ _ => d_pick (b := false) rfl rfl)
   ·exact HOb.pure trivial rfl rfl (fun _ _ => d_move rfl)
   ·exact HOb.skip ⟨rfl, trivial⟩ rfl rfl (fun _ => rfl) (by decide) rfl (fun _ => rfl)
   ·exact HOb.skip trivial rfl rfl (fun _ => rfl) (by decide) rfl (fun _ => rfl)
   ·exact HOb.skip trivial rfl rfl (fun _ => rfl) (by decide) rfl (fun _ => rfl)
   ·exact HOb.skip trivial rfl rfl (fun _ => rfl) (by decide) rfl (fun _ => rfl)
   ·exact HOb.skip trivial rfl rfl (fun _ => rfl) (by decide) rfl (fun _ => rfl)
   ·exact HOb.skip trivial rfl rfl (fun _ => rfl) (by decide) rfl (fun _ => rfl)
   ·exact HOb.skip ⟨rfl, trivial⟩ rfl rfl (fun _ => rfl) (by decide) rfl (fun _ => rfl)
   ·exact HOb.skip ⟨rfl, trivial⟩ rfl rfl (fun _ => rfl) (by decide) rfl (fun _ => rfl)
   ·exact HOb.skip trivial rfl rfl (fun _ => rfl) (by decide) rfl (fun _ => rfl)
   ·exact HOb.skip ⟨rfl, trivial⟩ rfl rfl (fun _ => rfl) (by decide) rfl (fun _ => rfl)
   ·exact HOb.skip trivial rfl rfl (fun _ => rfl) (by decide) rfl (fun _ => rfl)
   ·exact HOb.skip trivial rfl rfl (fun _ => rfl) (by decide) rfl (fun _ => rfl)
   ·exact HOb.skip trivial rfl rfl (fun _ => rfl) (by decide) rfl (fun _ => rfl)
   ·exact HOb.skip trivial rfl rfl (fun _ => rfl) (by decide) rfl (fun _ => rfl)
   ·exact HOb.pure trivial rfl rfl (fun _ _ => d_pick (b := true) rfl rfl)
   ·exact HOb.pure trivial rfl rfl (fun _ _ => d_assign rfl)
  ·intro ac w H2 hW hF
   replace hW : A2_6 H2 w := hW
   rw [hA2_6] at hW
   obtain ⟨hC, hbb, hbr, hmet, htold, hbtlt, hatn, hats, hbsl, hka, hkb, hsl, hkk, hib1, lob1, hb1, hpv4, hib5, lob5, hb5, ne_b1_b5, hv2_9, hpv6, hib7, lob7, hb7, ne_b1_b7, ne_b5_b7, hv2_21, _⟩ := hW
   clear hA2_0 A2_0 hA2_1 A2_1 hA2_2 A2_2 hA2_3 A2_3 hA2_4 A2_4 hA2_5 A2_5 hA2_6 A2_6
   have hF := hF.sub (L' := [(0, (vp bb)), (1, (vp bn)), (3, (vp b1)), (4, vt), (5, (Value.func (.func 95) #[] #[(vp b1)])), (11, (vI 3)), (12, vf), (14, vt)]) ⟨rfl, rfl, rfl, rfl, rfl, rfl, rfl, rfl, trivial⟩
   refine then_n ?_
   refine wp_ret ?_
   refine block_ret ?_
   refine then_ret ?_
   refine body_ret hF (results1 Tryd.results82 (RV.tmp hF rfl)) ?_
   exact ⟨rfl, htold, hC⟩
 ·skip
  obtain ⟨A3_0, hA3_0⟩ : ∃ A : (Nat → Value) → World → Prop, A = fun _ w => (Ch [bt] w0 w) ∧ (At w bb 0 [(vB W.dh), (vB W.kem), (vp br), (Value.map (some bt))]) ∧ (At w br 0 [rl, (Value.map (some bm))]) ∧ (MapIs w bm met) ∧ (MapIs w bt m) ∧ (bt < w.heap.size) ∧ (At w bn 0 [(vI 3), (vI n), (vS bsl osl 2 cap), (vT (txt (.mk 3 n [a, b])))]) ∧ (At w bsl osl [(vp ba), (vp bb2)]) ∧ (bsl < w.heap.size) ∧ (IsN w [bt] a (vp ba)) ∧ (IsN w [bt] b (vp bb2)) ∧ (SlA w [bt] (.slice (some ⟨bsl, osl, none⟩) 2 cap) 2 [(vp ba), (vp bb2)]) ∧ (IsNs w [bt] [a, b] [(vp ba), (vp bb2)]) ∧ (b1 < w.heap.size) ∧ (w0.heap.size ≤ b1) ∧ (At w b1 0 [(vp bn)]) ∧ True := ⟨_, rfl⟩
  obtain ⟨A3_1, hA3_1⟩ : ∃ A : (Nat → Value) → World → Prop, A = fun H3 w => (Ch [bt] w0 w) ∧ (At w bb 0 [(vB W.dh), (vB W.kem), (vp br), (Value.map (some bt))]) ∧ (At w br 0 [rl, (Value.map (some bm))]) ∧ (MapIs w bm met) ∧ (MapIs w bt m) ∧ (bt < w.heap.size) ∧ (At w bn 0 [(vI 3), (vI n), (vS bsl osl 2 cap), (vT (txt (.mk 3 n [a, b])))]) ∧ (At w bsl osl [(vp ba), (vp bb2)]) ∧ (bsl < w.heap.size) ∧ (IsN w [bt] a (vp ba)) ∧ (IsN w [bt] b (vp bb2)) ∧ (SlA w [bt] (.slice (some ⟨bsl, osl, none⟩) 2 cap) 2 [(vp ba), (vp bb2)]) ∧ (IsNs w [bt] [a, b] [(vp ba), (vp bb2)]) ∧ (b1 < w.heap.size) ∧ (w0.heap.size ≤ b1) ∧ (At w b1 0 [(vp bn)]) ∧ (IsN w [bt] (pubOf b) (H3 8)) ∧ True := ⟨_, rfl⟩
  obtain ⟨A3_2, hA3_2⟩ : ∃ A : (Nat → Value) → World → Prop, A = fun H3 w => (Ch [bt] w0 w) ∧ (At w bb 0 [(vB W.dh), (vB W.kem), (vp br), (Value.map (some bt))]) ∧ (At w br 0 [rl, (Value.map (some bm))]) ∧ (MapIs w bm met) ∧ (MapIs w bt m) ∧ (bt < w.heap.size) ∧ (At w bn 0 [(vI 3), (vI n), (vS bsl osl 2 cap), (vT (txt (.mk 3 n [a, b])))]) ∧ (At w bsl osl [(vp ba), (vp bb2)]) ∧ (bsl < w.heap.size) ∧ (IsN w [bt] a (vp ba)) ∧ (IsN w [bt] b (vp bb2)) ∧ (SlA w [bt] (.slice (some ⟨bsl, osl, none⟩) 2 cap) 2 [(vp ba), (vp bb2)]) ∧ (IsNs w [bt] [a, b] [(vp ba), (vp bb2)]) ∧ (b1 < w.heap.size) ∧ (w0.heap.size ≤ b1) ∧ (At w b1 0 [(vp bn)]) ∧ (IsN w [bt] (pubOf b) (H3 8)) ∧ ((blk (H3 9)) < w.heap.size) ∧ (w0.heap.size ≤ (blk (H3 9))) ∧ (At w (blk (H3 9)) 0 [(vp ba), (H3 8)]) ∧ (b1 < (blk (H3 9))) ∧ (H3 9 = (vS (blk (H3 9)) 0 2 2)) ∧ True := ⟨_, rfl⟩
  obtain ⟨A3_3, hA3_3⟩ : ∃ A : (Nat → Value) → World → Prop, A = fun H3 w => (Ch [bt] w0 w) ∧ (At w bb 0 [(vB W.dh), (vB W.kem), (vp br), (Value.map (some bt))]) ∧ (At w br 0 [rl, (Value.map (some bm))]) ∧ (MapIs w bm met) ∧ (MapIs w bt m1) ∧ (bt < w.heap.size) ∧ (At w bn 0 [(vI 3), (vI n), (vS bsl osl 2 cap), (vT (txt (.mk 3 n [a, b])))]) ∧ (At w bsl osl [(vp ba), (vp bb2)]) ∧ (bsl < w.heap.size) ∧ (IsN w [bt] a (vp ba)) ∧ (IsN w [bt] b (vp bb2)) ∧ (SlA w [bt] (.slice (some ⟨bsl, osl, none⟩) 2 cap) 2 [(vp ba), (vp bb2)]) ∧ (IsNs w [bt] [a, b] [(vp ba), (vp bb2)]) ∧ (b1 < w.heap.size) ∧ (w0.heap.size ≤ b1) ∧ (At w b1 0 [(vp bn)]) ∧ (IsN w [bt] (pubOf b) (H3 8)) ∧ ((blk (H3 9)) < w.heap.size) ∧ (w0.heap.size ≤ (blk (H3 9))) ∧ (At w (blk (H3 9)) 0 [(vp ba), (H3 8)]) ∧ (b1 < (blk (H3 9))) ∧ (H3 9 = (vS (blk (H3 9)) 0 2 2)) ∧ True := ⟨_, rfl⟩
  obtain ⟨A3_4, hA3_4⟩ : ∃ A : (Nat → Value) → World → Prop, A = fun H3 w => (Ch [bt] w0 w) ∧ (At w bb 0 [(vB W.dh), (vB W.kem), (vp br), (Value.map (some bt))]) ∧ (At w br 0 [rl, (Value.map (some bm))]) ∧ (MapIs w bm met) ∧ (MapIs w bt m1) ∧ (bt < w.heap.size) ∧ (At w bn 0 [(vI 3), (vI n), (vS bsl osl 2 cap), (vT (txt (.mk 3 n [a, b])))]) ∧ (At w bsl osl [(vp ba), (vp bb2)]) ∧ (bsl < w.heap.size) ∧ (IsN w [bt] a (vp ba)) ∧ (IsN w [bt] b (vp bb2)) ∧ (SlA w [bt] (.slice (some ⟨bsl, osl, none⟩) 2 cap) 2 [(vp ba), (vp bb2)]) ∧ (IsNs w [bt] [a, b] [(vp ba), (vp bb2)]) ∧ (b1 < w.heap.size) ∧ (w0.heap.size ≤ b1) ∧ (At w b1 0 [(vp bn)]) ∧ (IsN w [bt] (pubOf b) (H3 8)) ∧ ((blk (H3 9)) < w.heap.size) ∧ (w0.heap.size ≤ (blk (H3 9))) ∧ (At w (blk (H3 9)) 0 [(vp ba), (H3 8)]) ∧ (b1 < (blk (H3 9))) ∧ (H3 9 = (vS (blk (H3 9)) 0 2 2)) ∧ (IsN w [bt] (pubOf a) (H3 20)) ∧ True := ⟨_, rfl⟩
  obtain ⟨A3_5, hA3_5⟩ : ∃ A : (Nat → Value) → World → Prop, A = fun H3 w => (Ch [bt] w0 w) ∧ (At w bb 0 [(vB W.dh), (vB W.kem), (vp br), (Value.map (some bt))]) ∧ (At w br 0 [rl, (Value.map (some bm))]) ∧ (MapIs w bm met) ∧ (MapIs w bt m1) ∧ (bt < w.heap.size) ∧ (At w bn 0 [(vI 3), (vI n), (vS bsl osl 2 cap), (vT (txt (.mk 3 n [a, b])))]) ∧ (At w bsl osl [(vp ba), (vp bb2)]) ∧ (bsl < w.heap.size) ∧ (IsN w [bt] a (vp ba)) ∧ (IsN w [bt] b (vp bb2)) ∧ (SlA w [bt] (.slice (some ⟨bsl, osl, none⟩) 2 cap) 2 [(vp ba), (vp bb2)]) ∧ (IsNs w [bt] [a, b] [(vp ba), (vp bb2)]) ∧ (b1 < w.heap.size) ∧ (w0.heap.size ≤ b1) ∧ (At w b1 0 [(vp bn)]) ∧ (IsN w [bt] (pubOf b) (H3 8)) ∧ ((blk (H3 9)) < w.heap.size) ∧ (w0.heap.size ≤ (blk (H3 9))) ∧ (At w (blk (H3 9)) 0 [(vp ba), (H3 8)]) ∧ (b1 < (blk (H3 9))) ∧ (H3 9 = (vS (blk (H3 9)) 0 2 2)) ∧ (IsN w [bt] (pubOf a) (H3 20)) ∧ ((blk (H3 21)) < w.heap.size) ∧ (w0.heap.size ≤ (blk (H3 21))) ∧ (At w (blk (H3 21)) 0 [(vp bb2), (H3 20)]) ∧ (b1 < (blk (H3 21))) ∧ ((blk (H3 9)) < (blk (H3 21))) ∧ (H3 21 = (vS (blk (H3 21)) 0 2 2)) ∧ True := ⟨_, rfl⟩
  obtain ⟨A3_6, hA3_6⟩ : ∃ A : (Nat → Value) → World → Prop, A = fun H3 w => (Ch [bt] w0 w) ∧ (At w bb 0 [(vB W.dh), (vB W.kem), (vp br), (Value.map (some bt))]) ∧ (At w br 0 [rl, (Value.map (some bm))]) ∧ (MapIs w bm met) ∧ (MapIs w bt m') ∧ (bt < w.heap.size) ∧ (At w bn 0 [(vI 3), (vI n), (vS bsl osl 2 cap), (vT (txt (.mk 3 n [a, b])))]) ∧ (At w bsl osl [(vp ba), (vp bb2)]) ∧ (bsl < w.heap.size) ∧ (IsN w [bt] a (vp ba)) ∧ (IsN w [bt] b (vp bb2)) ∧ (SlA w [bt] (.slice (some ⟨bsl, osl, none⟩) 2 cap) 2 [(vp ba), (vp bb2)]) ∧ (IsNs w [bt] [a, b] [(vp ba), (vp bb2)]) ∧ (b1 < w.heap.size) ∧ (w0.heap.size ≤ b1) ∧ (At w b1 0 [(vp bn)]) ∧ (IsN w [bt] (pubOf b) (H3 8)) ∧ ((blk (H3 9)) < w.heap.size) ∧ (w0.heap.size ≤ (blk (H3 9))) ∧ (At w (blk (H3 9)) 0 [(vp ba), (H3 8)]) ∧ (b1 < (blk (H3 9))) ∧ (H3 9 = (vS (blk (H3 9)) 0 2 2)) ∧ (IsN w [bt] (pubOf a) (H3 20)) ∧ ((blk (H3 21)) < w.heap.size) ∧ (w0.heap.size ≤ (blk (H3 21))) ∧ (At w (blk (H3 21)) 0 [(vp bb2), (H3 20)]) ∧ (b1 < (blk (H3 21))) ∧ ((blk (H3 9)) < (blk (H3 21))) ∧ (H3 21 = (vS (blk (H3 21)) 0 2 2)) ∧ True := ⟨_, rfl⟩
  refine region_hist mo (fun p_ H_ w_ => (([A3_0, A3_1, A3_2, A3_3, A3_4, A3_5, A3_6] : List ((Nat → Value) → World → Prop)).getD p_ (fun _ _ => True)) H_ w_) [8, 9, 10, 20, 21, 22] (rows := [hr_ [] [(0, (vp bb))] [0, 1, 2] (vp bb), hr_ [] [(3, (vp b1))] [0, 1] (vp bn), hr_ [(1, 17)] [] [0, 1] (vp bn), hr_ [(2, 18)] [] [0, 1] (vP bn 2), hr_ [(3, 19)] [] [0, 1] (vS bsl osl 2 cap), hr_ [(4, 20)] [] [0, 1] (vP bsl (osl + 0)), hr_ [(5, 21)] [] [0, 1] (vp ba), hr_ [] [(5, (Value.func (.func 95) #[] #[(vp b1)]))] [0] (Value.func (.func 95) #[] #[(vp b1)]), ⟨[(7, 23)], [], [0], [8], fun H3 => H3 8, fun H3 K_ h_ => by simp only [h_ 8 (by simp)]⟩, ⟨[(6, 22), (8, 24)], [], [1], [9], fun H3 => H3 9, fun H3 K_ h_ => by simp only [h_ 9 (by simp)]⟩, hr_ [(0, 16), (9, 25)] [] [2] vf, hr_ [(10, 26)] [] [3] vf, hr_ [(11, 27)] [(0, (vp bb))] [3, 4, 5] (vp bb), hr_ [(11, 27)] [(3, (vp b1))] [3, 4] (vp bn), hr_ [(13, 29), (11, 27)] [] [3, 4] (vp bn), hr_ [(14, 30), (11, 27)] [] [3, 4] (vP bn 2), hr_ [(15, 31), (11, 27)] [] [3, 4] (vS bsl osl 2 cap), hr_ [(16, 32), (11, 27)] [] [3, 4] (vP bsl (osl + 1)), hr_ [(17, 33), (11, 27)] [] [3, 4] (vp bb2), hr_ [(11, 27)] [(5, (Value.func (.func 95) #[] #[(vp b1)]))] [3] (Value.func (.func 95) #[] #[(vp b1)]), ⟨[(19, 35), (11, 27)], [], [3], [20], fun H3 => H3 20, fun H3 K_ h_ => by simp only [h_ 20 (by simp)]⟩, ⟨[(18, 34), (20, 36), (11, 27)], [], [4], [21], fun H3 => H3 21, fun H3 K_ h_ => by simp only [h_ 21 (by simp)]⟩, hr_ [(12, 28), (21, 37), (11, 27)] [] [5] vf, hr_ [(11, 27), (22, 38)] [] [6] vf, hr_ [(23, 39)] [] [6] vf, hr_ [(24, 40)] [(0, (vp bb))] [6] (vp bb), hr_ [(25, 41), (24, 40)] [] [6] (vp bb), hr_ [(26, 42), (24, 40)] [] [6] (vp bb), hr_ [(27, 43), (24, 40)] [] [6] (vp bb), hr_ [(28, 44), (24, 40)] [] [6] vf, hr_ [(29, 45), (24, 40)] [] [6] vf, hr_ [(30, 46)] [(0, (vp bb))] [6] undef, hr_ [(30, 46)] [(5, (Value.func (.func 95) #[] #[(vp b1)]))] [6] undef, hr_ [(32, 48), (30, 46)] [] [6] undef, hr_ [(30, 46)] [(5, (Value.func (.func 95) #[] #[(vp b1)]))] [6] undef, hr_ [(34, 50), (30, 46)] [] [6] undef, hr_ [(33, 49), (35, 51), (30, 46)] [] [6] undef, hr_ [(31, 47), (36, 52), (30, 46)] [] [6] undef, hr_ [(30, 46), (37, 53), (24, 40)] [] [6] vf, hr_ [(24, 40), (38, 54)] [] [6] vf, hr_ [(39, 55)] [] [6] vf]) (by kernel_rfl) hF (fun H_ => ?_) ?_ ?_
  ·have hch_ := Ch.drew w
   have hfin_ : A3_0 H_ { w with drawn := w.drawn + 1 } := by rw [hA3_0]; exact ⟨hC.trans (hch_.mono (by simp)), hbb.mv hch_ (by simp <;> omega), hbr.mv hch_ (by simp <;> omega), hmet.mv hch_ (by simp <;> omega), htold.mv hch_ (by simp <;> omega), hch_.lt hbtlt, hatn.mv hch_ (by simp <;> omega), hats.mv hch_ (by simp <;> omega), hch_.lt hbsl, IsN.mv hch_ (by simp) (fun x hx => .inl hx) _ _ hka, IsN.mv hch_ (by simp) (fun x hx => .inl hx) _ _ hkb, hsl.mv hch_ (by simp) (fun x hx => .inl hx), IsNs.mv hch_ (by simp) (fun x hx => .inl hx) _ _ hkk, hch_.lt hib1, lob1, hb1.mv hch_ (by simp <;> omega), trivial⟩
   exact hfin_
  ·refine ⟨?_, ?_, ?_, ?_, ?_, ?_, ?_, ?_, ?_, ?_, ?_, ?_, ?_, ?_, ?_, ?_, ?_, ?_, ?_, ?_, ?_, ?_, ?_, ?_, ?_, ?_, ?_, ?_, ?_, ?_, ?_, ?_, ?_, ?_, ?_, ?_, ?_, ?_, ?_, ?_, ?_, trivial⟩
   ·exact HOb.pure ⟨rfl, trivial⟩ rfl rfl (fun _ _ => d_move rfl)
   ·refine ⟨⟨rfl, trivial⟩, fun ph_ hp_ H3 w hW => ?_⟩
    rcases memN_or hp_ with rfl | hp_
    ·have hW0 := hW
     replace hW : A3_0 H3 w := hW
     rw [hA3_0] at hW
     obtain ⟨hC, hbb, hbr, hmet, htold, hbtlt, hatn, hats, hbsl, hka, hkb, hsl, hkk, hib1, lob1, hb1, _⟩ := hW
     exact Det.ohc rfl hW0 (d_load1 Tryd.underlying83 rfl rfl (hb1 0 _ rfl))
    obtain rfl := memN_one hp_
    ·have hW0 := hW
     replace hW : A3_1 H3 w := hW
     rw [hA3_1] at hW
     obtain ⟨hC, hbb, hbr, hmet, htold, hbtlt, hatn, hats, hbsl, hka, hkb, hsl, hkk, hib1, lob1, hb1, hpv8, _⟩ := hW
     exact Det.ohc rfl hW0 (d_load1 Tryd.underlying83 rfl rfl (hb1 0 _ rfl))
   ·exact HOb.pure trivial rfl rfl (fun _ _ => d_nil rfl)
   ·exact HOb.pure trivial rfl rfl (fun _ _ => d_fieldAddrQ Tryd.underlying112 (m := 0) sz110 rfl rfl rfl)
   ·refine ⟨trivial, fun ph_ hp_ H3 w hW => ?_⟩
    rcases memN_or hp_ with rfl | hp_
    ·have hW0 := hW
     replace hW : A3_0 H3 w := hW
     rw [hA3_0] at hW
     obtain ⟨hC, hbb, hbr, hmet, htold, hbtlt, hatn, hats, hbsl, hka, hkb, hsl, hkk, hib1, lob1, hb1, _⟩ := hW
     exact Det.ohc rfl hW0 (d_load1 Tryd.underlying110 rfl rfl (hatn 2 _ rfl))
    obtain rfl := memN_one hp_
    ·have hW0 := hW
     replace hW : A3_1 H3 w := hW
     rw [hA3_1] at hW
     obtain ⟨hC, hbb, hbr, hmet, htold, hbtlt, hatn, hats, hbsl, hka, hkb, hsl, hkk, hib1, lob1, hb1, hpv8, _⟩ := hW
     exact Det.ohc rfl hW0 (d_load1 Tryd.underlying110 rfl rfl (hatn 2 _ rfl))
   ·refine ⟨trivial, fun ph_ hp_ H3 w hW => ?_⟩
    rcases memN_or hp_ with rfl | hp_
    ·have hW0 := hW
     replace hW : A3_0 H3 w := hW
     rw [hA3_0] at hW
     obtain ⟨hC, hbb, hbr, hmet, htold, hbtlt, hatn, hats, hbsl, hka, hkb, hsl, hkk, hib1, lob1, hb1, _⟩ := hW
     exact Det.ohc rfl hW0 (d_ixSQ (j := 0) (q := osl + 0) Tryd.underlying110 sz83 rfl rfl rfl (by omega) rfl)
    obtain rfl := memN_one hp_
    ·have hW0 := hW
     replace hW : A3_1 H3 w := hW
     rw [hA3_1] at hW
     obtain ⟨hC, hbb, hbr, hmet, htold, hbtlt, hatn, hats, hbsl, hka, hkb, hsl, hkk, hib1, lob1, hb1, hpv8, _⟩ := hW
     exact Det.ohc rfl hW0 (d_ixSQ (j := 0) (q := osl + 0) Tryd.underlying110 sz83 rfl rfl rfl (by omega) rfl)
   ·refine ⟨trivial, fun ph_ hp_ H3 w hW => ?_⟩
    rcases memN_or hp_ with rfl | hp_
    ·have hW0 := hW
     replace hW : A3_0 H3 w := hW
     rw [hA3_0] at hW
     obtain ⟨hC, hbb, hbr, hmet, htold, hbtlt, hatn, hats, hbsl, hka, hkb, hsl, hkk, hib1, lob1, hb1, _⟩ := hW
     exact Det.ohc rfl hW0 (d_load1 Tryd.underlying83 rfl rfl (hats 0 _ rfl))
    obtain rfl := memN_one hp_
    ·have hW0 := hW
     replace hW : A3_1 H3 w := hW
     rw [hA3_1] at hW
     obtain ⟨hC, hbb, hbr, hmet, htold, hbtlt, hatn, hats, hbsl, hka, hkb, hsl, hkk, hib1, lob1, hb1, hpv8, _⟩ := hW
     exact Det.ohc rfl hW0 (d_load1 Tryd.underlying83 rfl rfl (hats 0 _ rfl))
   ·exact HOb.pure ⟨rfl, trivial⟩ rfl rfl (fun _ _ => d_move rfl)
   ·refine ⟨trivial, fun ph_ hp_ H3 w hW => ?_⟩
    obtain rfl := memN_one hp_
    replace hW : A3_0 H3 w := hW
    rw [hA3_0] at hW
    obtain ⟨hC, hbb, hbr, hmet, htold, hbtlt, hatn, hats, hbsl, hka, hkb, hsl, hkk, hib1, lob1, hb1, _⟩ := hW
    refine Ok1.mono (ok_callv (first := #[]) (captured := #[(vp b1)]) rfl c95 rfl (pub_calls (X := [bt]) (ks := [a, b]) (i := 1) (t1 := b) hT hjoin (wrk_pub hfb.2) _ (Nat.le_trans hnb hC.size) (hT _ _ (hC.below hnb (by simpa using hnbt)) hw0) (by simp; exact hbtlt) (hb1 0 _ rfl) hatn rfl hats (by simp) rfl hkb)) ?_
    rintro pv8 w' ⟨hpv8, hch0_⟩
    have hch_ : Ch [] _ w' := Gr.ch hch0_
    have hC := hC.trans (hch_.mono (by simp))
    have hbb := hbb.mv hch_ (by simp <;> omega)
    have hbr := hbr.mv hch_ (by simp <;> omega)
    have hmet := hmet.mv hch_ (by simp <;> omega)
    have htold := htold.mv hch_ (by simp <;> omega)
    have hbtlt := hch_.lt hbtlt
    have hatn := hatn.mv hch_ (by simp <;> omega)
    have hats := hats.mv hch_ (by simp <;> omega)
    have hbsl := hch_.lt hbsl
    have hka : IsN w' [bt] a (vp ba) := IsN.mv hch_ (by simp) (fun x hx => .inl hx) _ _ hka
    have hkb : IsN w' [bt] b (vp bb2) := IsN.mv hch_ (by simp) (fun x hx => .inl hx) _ _ hkb
    have hsl : SlA w' [bt] (.slice (some ⟨bsl, osl, none⟩) 2 cap) 2 [(vp ba), (vp bb2)] := hsl.mv hch_ (by simp) (fun x hx => .inl hx)
    have hkk : IsNs w' [bt] [a, b] [(vp ba), (vp bb2)] := IsNs.mv hch_ (by simp) (fun x hx => .inl hx) _ _ hkk
    have hib1 := hch_.lt hib1
    have hb1 := hb1.mv hch_ (by simp <;> omega)
    have hfin_ : A3_1 (updV H3 8 pv8) w' := by rw [hA3_1]; exact ⟨hC, hbb, hbr, hmet, htold, hbtlt, hatn, hats, hbsl, hka, hkb, hsl, hkk, hib1, lob1, hb1, hpv8, trivial⟩
    exact fin_ rfl ⟨hfin_, rfl⟩
   ·refine ⟨trivial, fun ph_ hp_ H3 w hW => ?_⟩
    obtain rfl := memN_one hp_
    replace hW : A3_1 H3 w := hW
    rw [hA3_1] at hW
    obtain ⟨hC, hbb, hbr, hmet, htold, hbtlt, hatn, hats, hbsl, hka, hkb, hsl, hkk, hib1, lob1, hb1, hpv8, _⟩ := hW
    refine Ok1.mono (ok_buildSlice (cells := #[(vp ba), (H3 8)]) Tryd.underlying110 zz83 rfl (by decide) (by decide) (by exact fill2 rfl (IsN.cellsv hpv8))) ?_
    rintro _ w' ⟨b9, rfl, hnb_⟩
    have hch_ : Ch [] _ w' := hnb_.ch
    have lo_ := hnb_.lo hC.size
    have ne_b1_b9 := hnb_.gt hib1
    have hC := hC.trans (hch_.mono (by simp))
    have hbb := hbb.mv hch_ (by simp <;> omega)
    have hbr := hbr.mv hch_ (by simp <;> omega)
    have hmet := hmet.mv hch_ (by simp <;> omega)
    have htold := htold.mv hch_ (by simp <;> omega)
    have hbtlt := hch_.lt hbtlt
    have hatn := hatn.mv hch_ (by simp <;> omega)
    have hats := hats.mv hch_ (by simp <;> omega)
    have hbsl := hch_.lt hbsl
    have hka : IsN w' [bt] a (vp ba) := IsN.mv hch_ (by simp) (fun x hx => .inl hx) _ _ hka
    have hkb : IsN w' [bt] b (vp bb2) := IsN.mv hch_ (by simp) (fun x hx => .inl hx) _ _ hkb
    have hsl : SlA w' [bt] (.slice (some ⟨bsl, osl, none⟩) 2 cap) 2 [(vp ba), (vp bb2)] := hsl.mv hch_ (by simp) (fun x hx => .inl hx)
    have hkk : IsNs w' [bt] [a, b] [(vp ba), (vp bb2)] := IsNs.mv hch_ (by simp) (fun x hx => .inl hx) _ _ hkk
    have hib1 := hch_.lt hib1
    have hb1 := hb1.mv hch_ (by simp <;> omega)
    have hpv8 : IsN w' [bt] (pubOf b) (H3 8) := IsN.mv hch_ (by simp) (fun x hx => .inl hx) _ _ hpv8
    have hib9 : b9 < w'.heap.size := hnb_.lt
    have lob9 : w0.heap.size ≤ b9 := lo_
    have hb9 : At w' b9 0 [(vp ba), (H3 8)] := hnb_.at
    have ne_b1_b9 : b1 < b9 := ne_b1_b9
    have hfin_ : A3_2 (updV H3 9 (vS b9 0 2 2)) w' := by rw [hA3_2]; exact ⟨hC, hbb, hbr, hmet, htold, hbtlt, hatn, hats, hbsl, hka, hkb, hsl, hkk, hib1, lob1, hb1, hpv8, hib9, lob9, hb9, ne_b1_b9, rfl, trivial⟩
    exact fin_ rfl ⟨hfin_, rfl⟩
   ·refine ⟨trivial, fun ph_ hp_ H3 w hW => ?_⟩
    obtain rfl := memN_one hp_
    replace hW : A3_2 H3 w := hW
    rw [hA3_2] at hW
    obtain ⟨hC, hbb, hbr, hmet, htold, hbtlt, hatn, hats, hbsl, hka, hkb, hsl, hkk, hib1, lob1, hb1, hpv8, hib9, lob9, hb9, ne_b1_b9, hv3_9, _⟩ := hW
    refine Ok1.sub (L' := [(16, (vp bb)), (25, (vS (blk (H3 9)) 0 2 2))]) ⟨rfl, congrArg some hv3_9, trivial⟩ (Ok1.mono (ok_call c45 rfl (ih g1 (by omega) ([a, pubOf b]) m m1 false bb bt br bm rl _ _ _ _ (by simp) hq1 (fun t ht => by simp at ht; first | (rcases ht with rfl | rfl <;> assumption) | (subst ht; assumption)) (Nat.le_trans hnb hC.size) hnbt (hT _ _ (hC.below hnb (by simpa using hnbt)) hw0) ⟨hbb, hbr, hmet, hne1, hne2, hne3⟩ htold (.inr ⟨_, 0, _, rfl, by simp <;> omega, hib9, hb9⟩) (IsNs.of_two hka hpv8))) ?_)
    rintro _ w' ⟨rfl, htold, hch0_⟩
    have hch_ : Ch [bt] _ w' := hch0_
    have hC := hC.trans (hch_.mono (by simp))
    have hbb := hbb.mv hch_ (by simp <;> omega)
    have hbr := hbr.mv hch_ (by simp <;> omega)
    have hmet := hmet.mv hch_ (by simp <;> omega)
    have hbtlt := hch_.lt hbtlt
    have hatn := hatn.mv hch_ (by simp <;> omega)
    have hats := hats.mv hch_ (by simp <;> omega)
    have hbsl := hch_.lt hbsl
    have hka : IsN w' [bt] a (vp ba) := IsN.mv hch_ (by simp) (fun x hx => .inl hx) _ _ hka
    have hkb : IsN w' [bt] b (vp bb2) := IsN.mv hch_ (by simp) (fun x hx => .inl hx) _ _ hkb
    have hsl : SlA w' [bt] (.slice (some ⟨bsl, osl, none⟩) 2 cap) 2 [(vp ba), (vp bb2)] := hsl.mv hch_ (by simp) (fun x hx => .inl hx)
    have hkk : IsNs w' [bt] [a, b] [(vp ba), (vp bb2)] := IsNs.mv hch_ (by simp) (fun x hx => .inl hx) _ _ hkk
    have hib1 := hch_.lt hib1
    have hb1 := hb1.mv hch_ (by simp <;> omega)
    have hpv8 : IsN w' [bt] (pubOf b) (H3 8) := IsN.mv hch_ (by simp) (fun x hx => .inl hx) _ _ hpv8
    have hib9 := hch_.lt hib9
    have hb9 := hb9.mv hch_ (by simp <;> omega)
    have hfin_ : A3_3 (updV H3 10 vf) w' := by rw [hA3_3]; exact ⟨hC, hbb, hbr, hmet, htold, hbtlt, hatn, hats, hbsl, hka, hkb, hsl, hkk, hib1, lob1, hb1, hpv8, hib9, lob9, hb9, ne_b1_b9, hv3_9, trivial⟩
    exact fin_ rfl ⟨hfin_, rfl⟩
   ·exact HOb.pure trivial rfl rfl (fun _ _ => d_move rfl)
   ·exact HOb.pureG ⟨rfl, trivial⟩ rfl rfl (fun _ => rfl) rfl (fun _ _ => d_move rfl)
   ·refine ⟨⟨rfl, trivial⟩, fun ph_ hp_ H3 w hW => ?_⟩
    rcases memN_or hp_ with rfl | hp_
    ·have hW0 := hW
     replace hW : A3_3 H3 w := hW
     rw [hA3_3] at hW
     obtain ⟨hC, hbb, hbr, hmet, htold, hbtlt, hatn, hats, hbsl, hka, hkb, hsl, hkk, hib1, lob1, hb1, hpv8, hib9, lob9, hb9, ne_b1_b9, hv3_9, _⟩ := hW
     exact ⟨(some false), _, rfl, rfl, Det.ohc rfl hW0 (d_load1 Tryd.underlying83 rfl rfl (hb1 0 _ rfl))⟩
    obtain rfl := memN_one hp_
    ·have hW0 := hW
     replace hW : A3_4 H3 w := hW
     rw [hA3_4] at hW
     obtain ⟨hC, hbb, hbr, hmet, htold, hbtlt, hatn, hats, hbsl, hka, hkb, hsl, hkk, hib1, lob1, hb1, hpv8, hib9, lob9, hb9, ne_b1_b9, hv3_9, hpv10, _⟩ := hW
     exact ⟨(some false), _, rfl, rfl, Det.ohc rfl hW0 (d_load1 Tryd.underlying83 rfl rfl (hb1 0 _ rfl))⟩
   ·exact HOb.pureG trivial rfl rfl (fun _ => rfl) rfl (fun _ _ => d_nil rfl)
   ·exact HOb.pureG trivial rfl rfl (fun _ => rfl) rfl (fun _ _ => d_fieldAddrQ Tryd.underlying112 (m := 0) sz110 rfl rfl rfl)
   ·refine ⟨trivial, fun ph_ hp_ H3 w hW => ?_⟩
    rcases memN_or hp_ with rfl | hp_
    ·have hW0 := hW
     replace hW : A3_3 H3 w := hW
     rw [hA3_3] at hW
     obtain ⟨hC, hbb, hbr, hmet, htold, hbtlt, hatn, hats, hbsl, hka, hkb, hsl, hkk, hib1, lob1, hb1, hpv8, hib9, lob9, hb9, ne_b1_b9, hv3_9, _⟩ := hW
     exact ⟨(some false), _, rfl, rfl, Det.ohc rfl hW0 (d_load1 Tryd.underlying110 rfl rfl (hatn 2 _ rfl))⟩
    obtain rfl := memN_one hp_
    ·have hW0 := hW
     replace hW : A3_4 H3 w := hW
     rw [hA3_4] at hW
     obtain ⟨hC, hbb, hbr, hmet, htold, hbtlt, hatn, hats, hbsl, hka, hkb, hsl, hkk, hib1, lob1, hb1, hpv8, hib9, lob9, hb9, ne_b1_b9, hv3_9, hpv10, _⟩ := hW
     exact ⟨(some false), _, rfl, rfl, Det.ohc rfl hW0 (d_load1 Tryd.underlying110 rfl rfl (hatn 2 _ rfl))⟩
   ·refine ⟨trivial, fun ph_ hp_ H3 w hW => ?_⟩
    rcases memN_or hp_ with rfl | hp_
    ·have hW0 := hW
     replace hW : A3_3 H3 w := hW
     rw [hA3_3] at hW
     obtain ⟨hC, hbb, hbr, hmet, htold, hbtlt, hatn, hats, hbsl, hka, hkb, hsl, hkk, hib1, lob1, hb1, hpv8, hib9, lob9, hb9, ne_b1_b9, hv3_9, _⟩ := hW
     exact ⟨(some false), _, rfl, rfl, Det.ohc rfl hW0 (d_ixSQ (j := 1) (q := osl + 1) Tryd.underlying110 sz83 rfl rfl rfl (by omega) rfl)⟩
    obtain rfl := memN_one hp_
    ·have hW0 := hW
     replace hW : A3_4 H3 w := hW
     rw [hA3_4] at hW
     obtain ⟨hC, hbb, hbr, hmet, htold, hbtlt, hatn, hats, hbsl, hka, hkb, hsl, hkk, hib1, lob1, hb1, hpv8, hib9, lob9, hb9, ne_b1_b9, hv3_9, hpv10, _⟩ := hW
     exact ⟨(some false), _, rfl, rfl, Det.ohc rfl hW0 (d_ixSQ (j := 1) (q := osl + 1) Tryd.underlying110 sz83 rfl rfl rfl (by omega) rfl)⟩
   ·refine ⟨trivial, fun ph_ hp_ H3 w hW => ?_⟩
    rcases memN_or hp_ with rfl | hp_
    ·have hW0 := hW
     replace hW : A3_3 H3 w := hW
     rw [hA3_3] at hW
     obtain ⟨hC, hbb, hbr, hmet, htold, hbtlt, hatn, hats, hbsl, hka, hkb, hsl, hkk, hib1, lob1, hb1, hpv8, hib9, lob9, hb9, ne_b1_b9, hv3_9, _⟩ := hW
     exact ⟨(some false), _, rfl, rfl, Det.ohc rfl hW0 (d_load1 Tryd.underlying83 rfl rfl (hats 1 _ rfl))⟩
    obtain rfl := memN_one hp_
    ·have hW0 := hW
     replace hW : A3_4 H3 w := hW
     rw [hA3_4] at hW
     obtain ⟨hC, hbb, hbr, hmet, htold, hbtlt, hatn, hats, hbsl, hka, hkb, hsl, hkk, hib1, lob1, hb1, hpv8, hib9, lob9, hb9, ne_b1_b9, hv3_9, hpv10, _⟩ := hW
     exact ⟨(some false), _, rfl, rfl, Det.ohc rfl hW0 (d_load1 Tryd.underlying83 rfl rfl (hats 1 _ rfl))⟩
   ·exact HOb.pureG ⟨rfl, trivial⟩ rfl rfl (fun _ => rfl) rfl (fun _ _ => d_move rfl)
   ·refine ⟨trivial, fun ph_ hp_ H3 w hW => ?_⟩
    obtain rfl := memN_one hp_
    replace hW : A3_3 H3 w := hW
    rw [hA3_3] at hW
    obtain ⟨hC, hbb, hbr, hmet, htold, hbtlt, hatn, hats, hbsl, hka, hkb, hsl, hkk, hib1, lob1, hb1, hpv8, hib9, lob9, hb9, ne_b1_b9, hv3_9, _⟩ := hW
    refine ⟨(some false), _, rfl, rfl, Ok1.mono (ok_callv (first := #[]) (captured := #[(vp b1)]) rfl c95 rfl (pub_calls (X := [bt]) (ks := [a, b]) (i := 0) (t1 := a) hT hjoin (wrk_pub hfa.2) _ (Nat.le_trans hnb hC.size) (hT _ _ (hC.below hnb (by simpa using hnbt)) hw0) (by simp; exact hbtlt) (hb1 0 _ rfl) hatn rfl hats (by simp) rfl hka)) ?_⟩
    rintro pv10 w' ⟨hpv10, hch0_⟩
    have hch_ : Ch [] _ w' := Gr.ch hch0_
    have hC := hC.trans (hch_.mono (by simp))
    have hbb := hbb.mv hch_ (by simp <;> omega)
    have hbr := hbr.mv hch_ (by simp <;> omega)
    have hmet := hmet.mv hch_ (by simp <;> omega)
    have htold := htold.mv hch_ (by simp <;> omega)
    have hbtlt := hch_.lt hbtlt
    have hatn := hatn.mv hch_ (by simp <;> omega)
    have hats := hats.mv hch_ (by simp <;> omega)
    have hbsl := hch_.lt hbsl
    have hka : IsN w' [bt] a (vp ba) := IsN.mv hch_ (by simp) (fun x hx => .inl hx) _ _ hka
    have hkb : IsN w' [bt] b (vp bb2) := IsN.mv hch_ (by simp) (fun x hx => .inl hx) _ _ hkb
    have hsl : SlA w' [bt] (.slice (some ⟨bsl, osl, none⟩) 2 cap) 2 [(vp ba), (vp bb2)] := hsl.mv hch_ (by simp) (fun x hx => .inl hx)
    have hkk : IsNs w' [bt] [a, b] [(vp ba), (vp bb2)] := IsNs.mv hch_ (by simp) (fun x hx => .inl hx) _ _ hkk
    have hib1 := hch_.lt hib1
    have hb1 := hb1.mv hch_ (by simp <;> omega)
    have hpv8 : IsN w' [bt] (pubOf b) (H3 8) := IsN.mv hch_ (by simp) (fun x hx => .inl hx) _ _ hpv8
    have hib9 := hch_.lt hib9
    have hb9 := hb9.mv hch_ (by simp <;> omega)
    have hfin_ : A3_4 (updV H3 20 pv10) w' := by rw [hA3_4]; exact ⟨hC, hbb, hbr, hmet, htold, hbtlt, hatn, hats, hbsl, hka, hkb, hsl, hkk, hib1, lob1, hb1, hpv8, hib9, lob9, hb9, ne_b1_b9, hv3_9, hpv10, trivial⟩
    exact fin_ rfl ⟨hfin_, rfl⟩
   ·refine ⟨trivial, fun ph_ hp_ H3 w hW => ?_⟩
    obtain rfl := memN_one hp_
    replace hW : A3_4 H3 w := hW
    rw [hA3_4] at hW
    obtain ⟨hC, hbb, hbr, hmet, htold, hbtlt, hatn, hats, hbsl, hka, hkb, hsl, hkk, hib1, lob1, hb1, hpv8, hib9, lob9, hb9, ne_b1_b9, hv3_9, hpv10, _⟩ := hW
    refine ⟨(some false), _, rfl, rfl, Ok1.mono (ok_buildSlice (cells := #[(vp bb2), (H3 20)]) Tryd.underlying110 zz83 rfl (by decide) (by decide) (by exact fill2 rfl (IsN.cellsv hpv10))) ?_⟩
    rintro _ w' ⟨b11, rfl, hnb_⟩
    have hch_ : Ch [] _ w' := hnb_.ch
    have lo_ := hnb_.lo hC.size
    have ne_b1_b11 := hnb_.gt hib1
    have ne_b9_b11 := hnb_.gt hib9
    have hC := hC.trans (hch_.mono (by simp))
    have hbb := hbb.mv hch_ (by simp <;> omega)
    have hbr := hbr.mv hch_ (by simp <;> omega)
    have hmet := hmet.mv hch_ (by simp <;> omega)
    have htold := htold.mv hch_ (by simp <;> omega)
    have hbtlt := hch_.lt hbtlt
    have hatn := hatn.mv hch_ (by simp <;> omega)
    have hats := hats.mv hch_ (by simp <;> omega)
    have hbsl := hch_.lt hbsl
    have hka : IsN w' [bt] a (vp ba) := IsN.mv hch_ (by simp) (fun x hx => .inl hx) _ _ hka
    have hkb : IsN w' [bt] b (vp bb2) := IsN.mv hch_ (by simp) (fun x hx => .inl hx) _ _ hkb
    have hsl : SlA w' [bt] (.slice (some ⟨bsl, osl, none⟩) 2 cap) 2 [(vp ba), (vp bb2)] := hsl.mv hch_ (by simp) (fun x hx => .inl hx)
    have hkk : IsNs w' [bt] [a, b] [(vp ba), (vp bb2)] := IsNs.mv hch_ (by simp) (fun x hx => .inl hx) _ _ hkk
    have hib1 := hch_.lt hib1
    have hb1 := hb1.mv hch_ (by simp <;> omega)
    have hpv8 : IsN w' [bt] (pubOf b) (H3 8) := IsN.mv hch_ (by simp) (fun x hx => .inl hx) _ _ hpv8
    have hib9 := hch_.lt hib9
    have hb9 := hb9.mv hch_ (by simp <;> omega)
    have hpv10 : IsN w' [bt] (pubOf a) (H3 20) := IsN.mv hch_ (by simp) (fun x hx => .inl hx) _ _ hpv10
    have hib11 : b11 < w'.heap.size := hnb_.lt
    have lob11 : w0.heap.size ≤ b11 := lo_
    have hb11 : At w' b11 0 [(vp bb2), (H3 20)] := hnb_.at
    have ne_b1_b11 : b1 < b11 := ne_b1_b11
    have ne_b9_b11 : (blk (H3 9)) < b11 := ne_b9_b11
    have hfin_ : A3_5 (updV H3 21 (vS b11 0 2 2)) w' := by rw [hA3_5]; exact ⟨hC, hbb, hbr, hmet, htold, hbtlt, hatn, hats, hbsl, hka, hkb, hsl, hkk, hib1, lob1, hb1, hpv8, hib9, lob9, hb9, ne_b1_b9, hv3_9, hpv10, hib11, lob11, hb11, ne_b1_b11, ne_b9_b11, rfl, trivial⟩
    exact fin_ rfl ⟨hfin_, rfl⟩
   ·refine ⟨trivial, fun ph_ hp_ H3 w hW => ?_⟩
    obtain rfl := memN_one hp_
    replace hW : A3_5 H3 w := hW
    rw [hA3_5] at hW
    obtain ⟨hC, hbb, hbr, hmet, htold, hbtlt, hatn, hats, hbsl, hka, hkb, hsl, hkk, hib1, lob1, hb1, hpv8, hib9, lob9, hb9, ne_b1_b9, hv3_9, hpv10, hib11, lob11, hb11, ne_b1_b11, ne_b9_b11, hv3_21, _⟩ := hW
    refine ⟨(some false), _, rfl, rfl, Ok1.sub (L' := [(27, vf), (28, (vp bb)), (37, (vS (blk (H3 21)) 0 2 2))]) ⟨rfl, rfl, congrArg some hv3_21, trivial⟩ (Ok1.mono (ok_call c45 rfl (ih g2 (by omega) ([b, pubOf a]) m1 m' false bb bt br bm rl _ _ _ _ (by simp) hq2 (fun t ht => by simp at ht; first | (rcases ht with rfl | rfl <;> assumption) | (subst ht; assumption)) (Nat.le_trans hnb hC.size) hnbt (hT _ _ (hC.below hnb (by simpa using hnbt)) hw0) ⟨hbb, hbr, hmet, hne1, hne2, hne3⟩ htold (.inr ⟨_, 0, _, rfl, by simp <;> omega, hib11, hb11⟩) (IsNs.of_two hkb hpv10))) ?_)⟩
    rintro _ w' ⟨rfl, htold, hch0_⟩
    have hch_ : Ch [bt] _ w' := hch0_
    have hC := hC.trans (hch_.mono (by simp))
    have hbb := hbb.mv hch_ (by simp <;> omega)
    have hbr := hbr.mv hch_ (by simp <;> omega)
    have hmet := hmet.mv hch_ (by simp <;> omega)
    have hbtlt := hch_.lt hbtlt
    have hatn := hatn.mv hch_ (by simp <;> omega)
    have hats := hats.mv hch_ (by simp <;> omega)
    have hbsl := hch_.lt hbsl
    have hka : IsN w' [bt] a (vp ba) := IsN.mv hch_ (by simp) (fun x hx => .inl hx) _ _ hka
    have hkb : IsN w' [bt] b (vp bb2) := IsN.mv hch_ (by simp) (fun x hx => .inl hx) _ _ hkb
    have hsl : SlA w' [bt] (.slice (some ⟨bsl, osl, none⟩) 2 cap) 2 [(vp ba), (vp bb2)] := hsl.mv hch_ (by simp) (fun x hx => .inl hx)
    have hkk : IsNs w' [bt] [a, b] [(vp ba), (vp bb2)] := IsNs.mv hch_ (by simp) (fun x hx => .inl hx) _ _ hkk
    have hib1 := hch_.lt hib1
    have hb1 := hb1.mv hch_ (by simp <;> omega)
    have hpv8 : IsN w' [bt] (pubOf b) (H3 8) := IsN.mv hch_ (by simp) (fun x hx => .inl hx) _ _ hpv8
    have hib9 := hch_.lt hib9
    have hb9 := hb9.mv hch_ (by simp <;> omega)
    have hpv10 : IsN w' [bt] (pubOf a) (H3 20) := IsN.mv hch_ (by simp) (fun x hx => .inl hx) _ _ hpv10
    have hib11 := hch_.lt hib11
    have hb11 := hb11.mv hch_ (by simp <;> omega)
    have hfin_ : A3_6 (updV H3 22 vf) w' := by rw [hA3_6]; exact ⟨hC, hbb, hbr, hmet, htold, hbtlt, hatn, hats, hbsl, hka, hkb, hsl, hkk, hib1, lob1, hb1, hpv8, hib9, lob9, hb9, ne_b1_b9, hv3_9, hpv10, hib11, lob11, hb11, ne_b1_b11, ne_b9_b11, hv3_21, trivial⟩
    exact fin_ rfl ⟨hfin_, rfl⟩
   ·exact HOb.pure trivial rfl rfl (fun _ _ => d_pick (b := false) rfl rfl)
   ·exact HOb.pure trivial rfl rfl (fun _ _ => d_move rfl)
   ·exact HOb.pureG ⟨rfl, trivial⟩ rfl rfl (fun _ => rfl) rfl (fun _ _ => d_move rfl)
   ·exact HOb.pureG trivial rfl rfl (fun _ => rfl) rfl (fun _ _ => d_nil rfl)
   ·exact HOb.pureG trivial rfl rfl (fun _ => rfl) rfl (fun _ _ => d_fieldAddrQ Tryd.underlying116 (m := 1) sz31 rfl rfl rfl)
   ·exact HOb.pureG trivial rfl rfl (fun _ => rfl) rfl (fun _ _ => d_fieldAddrQ Tryd.underlying31 (m := 0) sz4 rfl rfl rfl)
   ·exact HOb.factG hA3_6 trivial rfl rfl rfl rfl (fun _ => rfl) rfl (fun H3 w ⟨_, hbb, _⟩ => d_bool (c := false) (d_load1 Tryd.underlying4 rfl rfl (hbb 0 _ rfl)) hflag)
   ·exact HOb.pureG trivial rfl rfl (fun _ => rfl) rfl (fun _ _ => d_move rfl)
   ·exact HOb.skip ⟨rfl, trivial⟩ rfl rfl (fun _ => rfl) (by decide) rfl (fun _ => rfl)
   ·exact HOb.skip ⟨rfl, trivial⟩ rfl rfl (fun _ => rfl) (by decide) rfl (fun _ => rfl)
   ·exact HOb.skip trivial rfl rfl (fun _ => rfl) (by decide) rfl (fun _ => rfl)
   ·exact HOb.skip ⟨rfl, trivial⟩ rfl rfl (fun _ => rfl) (by decide) rfl (fun _ => rfl)
   ·exact HOb.skip trivial rfl rfl (fun _ => rfl) (by decide) rfl (fun _ => rfl)
   ·exact HOb.skip trivial rfl rfl (fun _ => rfl) (by decide) rfl (fun _ => rfl)
   ·exact HOb.skip trivial rfl rfl (fun _ => rfl) (by decide) rfl (fun _ => rfl)
   ·exact HOb.pureG trivial rfl rfl (fun _ => rfl) rfl (fun _ _ => d_pick (b := false) rfl rfl)
   ·exact HOb.pure trivial rfl rfl (fun _ _ => d_pick (b := false) rfl rfl)
   ·exact HOb.pure trivial rfl rfl (fun _ _ => d_assign rfl)
  ·intro ac w H3 hW hF
   replace hW : A3_6 H3 w := hW
   rw [hA3_6] at hW
   obtain ⟨hC, hbb, hbr, hmet, htold, hbtlt, hatn, hats, hbsl, hka, hkb, hsl, hkk, hib1, lob1, hb1, hpv8, hib9, lob9, hb9, ne_b1_b9, hv3_9, hpv10, hib11, lob11, hb11, ne_b1_b11, ne_b9_b11, hv3_21, _⟩ := hW
   clear hA3_0 A3_0 hA3_1 A3_1 hA3_2 A3_2 hA3_3 A3_3 hA3_4 A3_4 hA3_5 A3_5 hA3_6 A3_6
   have hF := hF.sub (L' := [(0, (vp bb)), (1, (vp bn)), (3, (vp b1)), (4, vf), (5, (Value.func (.func 95) #[] #[(vp b1)])), (11, (vI 3)), (12, vf), (14, vt)]) ⟨rfl, rfl, rfl, rfl, rfl, rfl, rfl, rfl, trivial⟩
   refine then_n ?_
   refine wp_ret ?_
   refine block_ret ?_
   refine then_ret ?_
   refine body_ret hF (results1 Tryd.results82 (RV.tmp hF rfl)) ?_
   exact ⟨rfl, htold, hC⟩
 ·skip
  obtain ⟨A4_0, hA4_0⟩ : ∃ A : (Nat → Value) → World → Prop, A = fun _ w => (Ch [bt] w0 w) ∧ (At w bb 0 [(vB W.dh), (vB W.kem), (vp br), (Value.map (some bt))]) ∧ (At w br 0 [rl, (Value.map (some bm))]) ∧ (MapIs w bm met) ∧ (MapIs w bt m) ∧ (bt < w.heap.size) ∧ (At w bn 0 [(vI 3), (vI n), (vS bsl osl 2 cap), (vT (txt (.mk 3 n [a, b])))]) ∧ (At w bsl osl [(vp ba), (vp bb2)]) ∧ (bsl < w.heap.size) ∧ (IsN w [bt] a (vp ba)) ∧ (IsN w [bt] b (vp bb2)) ∧ (SlA w [bt] (.slice (some ⟨bsl, osl, none⟩) 2 cap) 2 [(vp ba), (vp bb2)]) ∧ (IsNs w [bt] [a, b] [(vp ba), (vp bb2)]) ∧ (b1 < w.heap.size) ∧ (w0.heap.size ≤ b1) ∧ (At w b1 0 [(vp bn)]) ∧ True := ⟨_, rfl⟩
  obtain ⟨A4_1, hA4_1⟩ : ∃ A : (Nat → Value) → World → Prop, A = fun H4 w => (Ch [bt] w0 w) ∧ (At w bb 0 [(vB W.dh), (vB W.kem), (vp br), (Value.map (some bt))]) ∧ (At w br 0 [rl, (Value.map (some bm))]) ∧ (MapIs w bm met) ∧ (MapIs w bt m) ∧ (bt < w.heap.size) ∧ (At w bn 0 [(vI 3), (vI n), (vS bsl osl 2 cap), (vT (txt (.mk 3 n [a, b])))]) ∧ (At w bsl osl [(vp ba), (vp bb2)]) ∧ (bsl < w.heap.size) ∧ (IsN w [bt] a (vp ba)) ∧ (IsN w [bt] b (vp bb2)) ∧ (SlA w [bt] (.slice (some ⟨bsl, osl, none⟩) 2 cap) 2 [(vp ba), (vp bb2)]) ∧ (IsNs w [bt] [a, b] [(vp ba), (vp bb2)]) ∧ (b1 < w.heap.size) ∧ (w0.heap.size ≤ b1) ∧ (At w b1 0 [(vp bn)]) ∧ (IsN w [bt] (pubOf b) (H4 8)) ∧ True := ⟨_, rfl⟩
  obtain ⟨A4_2, hA4_2⟩ : ∃ A : (Nat → Value) → World → Prop, A = fun H4 w => (Ch [bt] w0 w) ∧ (At w bb 0 [(vB W.dh), (vB W.kem), (vp br), (Value.map (some bt))]) ∧ (At w br 0 [rl, (Value.map (some bm))]) ∧ (MapIs w bm met) ∧ (MapIs w bt m) ∧ (bt < w.heap.size) ∧ (At w bn 0 [(vI 3), (vI n), (vS bsl osl 2 cap), (vT (txt (.mk 3 n [a, b])))]) ∧ (At w bsl osl [(vp ba), (vp bb2)]) ∧ (bsl < w.heap.size) ∧ (IsN w [bt] a (vp ba)) ∧ (IsN w [bt] b (vp bb2)) ∧ (SlA w [bt] (.slice (some ⟨bsl, osl, none⟩) 2 cap) 2 [(vp ba), (vp bb2)]) ∧ (IsNs w [bt] [a, b] [(vp ba), (vp bb2)]) ∧ (b1 < w.heap.size) ∧ (w0.heap.size ≤ b1) ∧ (At w b1 0 [(vp bn)]) ∧ (IsN w [bt] (pubOf b) (H4 8)) ∧ ((blk (H4 9)) < w.heap.size) ∧ (w0.heap.size ≤ (blk (H4 9))) ∧ (At w (blk (H4 9)) 0 [(vp ba), (H4 8)]) ∧ (b1 < (blk (H4 9))) ∧ (H4 9 = (vS (blk (H4 9)) 0 2 2)) ∧ True := ⟨_, rfl⟩
  obtain ⟨A4_3, hA4_3⟩ : ∃ A : (Nat → Value) → World → Prop, A = fun H4 w => (Ch [bt] w0 w) ∧ (At w bb 0 [(vB W.dh), (vB W.kem), (vp br), (Value.map (some bt))]) ∧ (At w br 0 [rl, (Value.map (some bm))]) ∧ (MapIs w bm met) ∧ (MapIs w bt m1) ∧ (bt < w.heap.size) ∧ (At w bn 0 [(vI 3), (vI n), (vS bsl osl 2 cap), (vT (txt (.mk 3 n [a, b])))]) ∧ (At w bsl osl [(vp ba), (vp bb2)]) ∧ (bsl < w.heap.size) ∧ (IsN w [bt] a (vp ba)) ∧ (IsN w [bt] b (vp bb2)) ∧ (SlA w [bt] (.slice (some ⟨bsl, osl, none⟩) 2 cap) 2 [(vp ba), (vp bb2)]) ∧ (IsNs w [bt] [a, b] [(vp ba), (vp bb2)]) ∧ (b1 < w.heap.size) ∧ (w0.heap.size ≤ b1) ∧ (At w b1 0 [(vp bn)]) ∧ (IsN w [bt] (pubOf b) (H4 8)) ∧ ((blk (H4 9)) < w.heap.size) ∧ (w0.heap.size ≤ (blk (H4 9))) ∧ (At w (blk (H4 9)) 0 [(vp ba), (H4 8)]) ∧ (b1 < (blk (H4 9))) ∧ (H4 9 = (vS (blk (H4 9)) 0 2 2)) ∧ True := ⟨_, rfl⟩
  obtain ⟨A4_4, hA4_4⟩ : ∃ A : (Nat → Value) → World → Prop, A = fun H4 w => (Ch [bt] w0 w) ∧ (At w bb 0 [(vB W.dh), (vB W.kem), (vp br), (Value.map (some bt))]) ∧ (At w br 0 [rl, (Value.map (some bm))]) ∧ (MapIs w bm met) ∧ (MapIs w bt m1) ∧ (bt < w.heap.size) ∧ (At w bn 0 [(vI 3), (vI n), (vS bsl osl 2 cap), (vT (txt (.mk 3 n [a, b])))]) ∧ (At w bsl osl [(vp ba), (vp bb2)]) ∧ (bsl < w.heap.size) ∧ (IsN w [bt] a (vp ba)) ∧ (IsN w [bt] b (vp bb2)) ∧ (SlA w [bt] (.slice (some ⟨bsl, osl, none⟩) 2 cap) 2 [(vp ba), (vp bb2)]) ∧ (IsNs w [bt] [a, b] [(vp ba), (vp bb2)]) ∧ (b1 < w.heap.size) ∧ (w0.heap.size ≤ b1) ∧ (At w b1 0 [(vp bn)]) ∧ (IsN w [bt] (pubOf b) (H4 8)) ∧ ((blk (H4 9)) < w.heap.size) ∧ (w0.heap.size ≤ (blk (H4 9))) ∧ (At w (blk (H4 9)) 0 [(vp ba), (H4 8)]) ∧ (b1 < (blk (H4 9))) ∧ (H4 9 = (vS (blk (H4 9)) 0 2 2)) ∧ (IsN w [bt] (pubOf a) (H4 20)) ∧ True := ⟨_, rfl⟩
  obtain ⟨A4_5, hA4_5⟩ : ∃ A : (Nat → Value) → World → Prop, A = fun H4 w => (Ch [bt] w0 w) ∧ (At w bb 0 [(vB W.dh), (vB W.kem), (vp br), (Value.map (some bt))]) ∧ (At w br 0 [rl, (Value.map (some bm))]) ∧ (MapIs w bm met) ∧ (MapIs w bt m1) ∧ (bt < w.heap.size) ∧ (At w bn 0 [(vI 3), (vI n), (vS bsl osl 2 cap), (vT (txt (.mk 3 n [a, b])))]) ∧ (At w bsl osl [(vp ba), (vp bb2)]) ∧ (bsl < w.heap.size) ∧ (IsN w [bt] a (vp ba)) ∧ (IsN w [bt] b (vp bb2)) ∧ (SlA w [bt] (.slice (some ⟨bsl, osl, none⟩) 2 cap) 2 [(vp ba), (vp bb2)]) ∧ (IsNs w [bt] [a, b] [(vp ba), (vp bb2)]) ∧ (b1 < w.heap.size) ∧ (w0.heap.size ≤ b1) ∧ (At w b1 0 [(vp bn)]) ∧ (IsN w [bt] (pubOf b) (H4 8)) ∧ ((blk (H4 9)) < w.heap.size) ∧ (w0.heap.size ≤ (blk (H4 9))) ∧ (At w (blk (H4 9)) 0 [(vp ba), (H4 8)]) ∧ (b1 < (blk (H4 9))) ∧ (H4 9 = (vS (blk (H4 9)) 0 2 2)) ∧ (IsN w [bt] (pubOf a) (H4 20)) ∧ ((blk (H4 21)) < w.heap.size) ∧ (w0.heap.size ≤ (blk (H4 21))) ∧ (At w (blk (H4 21)) 0 [(vp bb2), (H4 20)]) ∧ (b1 < (blk (H4 21))) ∧ ((blk (H4 9)) < (blk (H4 21))) ∧ (H4 21 = (vS (blk (H4 21)) 0 2 2)) ∧ True := ⟨_, rfl⟩
  obtain ⟨A4_6, hA4_6⟩ : ∃ A : (Nat → Value) → World → Prop, A = fun H4 w => (Ch [bt] w0 w) ∧ (At w bb 0 [(vB W.dh), (vB W.kem), (vp br), (Value.map (some bt))]) ∧ (At w br 0 [rl, (Value.map (some bm))]) ∧ (MapIs w bm met) ∧ (MapIs w bt m2) ∧ (bt < w.heap.size) ∧ (At w bn 0 [(vI 3), (vI n), (vS bsl osl 2 cap), (vT (txt (.mk 3 n [a, b])))]) ∧ (At w bsl osl [(vp ba), (vp bb2)]) ∧ (bsl < w.heap.size) ∧ (IsN w [bt] a (vp ba)) ∧ (IsN w [bt] b (vp bb2)) ∧ (SlA w [bt] (.slice (some ⟨bsl, osl, none⟩) 2 cap) 2 [(vp ba), (vp bb2)]) ∧ (IsNs w [bt] [a, b] [(vp ba), (vp bb2)]) ∧ (b1 < w.heap.size) ∧ (w0.heap.size ≤ b1) ∧ (At w b1 0 [(vp bn)]) ∧ (IsN w [bt] (pubOf b) (H4 8)) ∧ ((blk (H4 9)) < w.heap.size) ∧ (w0.heap.size ≤ (blk (H4 9))) ∧ (At w (blk (H4 9)) 0 [(vp ba), (H4 8)]) ∧ (b1 < (blk (H4 9))) ∧ (H4 9 = (vS (blk (H4 9)) 0 2 2)) ∧ (IsN w [bt] (pubOf a) (H4 20)) ∧ ((blk (H4 21)) < w.heap.size) ∧ (w0.heap.size ≤ (blk (H4 21))) ∧ (At w (blk (H4 21)) 0 [(vp bb2), (H4 20)]) ∧ (b1 < (blk (H4 21))) ∧ ((blk (H4 9)) < (blk (H4 21))) ∧ (H4 21 = (vS (blk (H4 21)) 0 2 2)) ∧ True := ⟨_, rfl⟩
  obtain ⟨A4_7, hA4_7⟩ : ∃ A : (Nat → Value) → World → Prop, A = fun H4 w => (Ch [bt] w0 w) ∧ (At w bb 0 [(vB W.dh), (vB W.kem), (vp br), (Value.map (some bt))]) ∧ (At w br 0 [rl, (Value.map (some bm))]) ∧ (MapIs w bm met) ∧ (MapIs w bt m2) ∧ (bt < w.heap.size) ∧ (At w bn 0 [(vI 3), (vI n), (vS bsl osl 2 cap), (vT (txt (.mk 3 n [a, b])))]) ∧ (At w bsl osl [(vp ba), (vp bb2)]) ∧ (bsl < w.heap.size) ∧ (IsN w [bt] a (vp ba)) ∧ (IsN w [bt] b (vp bb2)) ∧ (SlA w [bt] (.slice (some ⟨bsl, osl, none⟩) 2 cap) 2 [(vp ba), (vp bb2)]) ∧ (IsNs w [bt] [a, b] [(vp ba), (vp bb2)]) ∧ (b1 < w.heap.size) ∧ (w0.heap.size ≤ b1) ∧ (At w b1 0 [(vp bn)]) ∧ (IsN w [bt] (pubOf b) (H4 8)) ∧ ((blk (H4 9)) < w.heap.size) ∧ (w0.heap.size ≤ (blk (H4 9))) ∧ (At w (blk (H4 9)) 0 [(vp ba), (H4 8)]) ∧ (b1 < (blk (H4 9))) ∧ (H4 9 = (vS (blk (H4 9)) 0 2 2)) ∧ (IsN w [bt] (pubOf a) (H4 20)) ∧ ((blk (H4 21)) < w.heap.size) ∧ (w0.heap.size ≤ (blk (H4 21))) ∧ (At w (blk (H4 21)) 0 [(vp bb2), (H4 20)]) ∧ (b1 < (blk (H4 21))) ∧ ((blk (H4 9)) < (blk (H4 21))) ∧ (H4 21 = (vS (blk (H4 21)) 0 2 2)) ∧ (IsN w [bt] (pubOf a) (H4 33)) ∧ True := ⟨_, rfl⟩
  obtain ⟨A4_8, hA4_8⟩ : ∃ A : (Nat → Value) → World → Prop, A = fun H4 w => (Ch [bt] w0 w) ∧ (At w bb 0 [(vB W.dh), (vB W.kem), (vp br), (Value.map (some bt))]) ∧ (At w br 0 [rl, (Value.map (some bm))]) ∧ (MapIs w bm met) ∧ (MapIs w bt m2) ∧ (bt < w.heap.size) ∧ (At w bn 0 [(vI 3), (vI n), (vS bsl osl 2 cap), (vT (txt (.mk 3 n [a, b])))]) ∧ (At w bsl osl [(vp ba), (vp bb2)]) ∧ (bsl < w.heap.size) ∧ (IsN w [bt] a (vp ba)) ∧ (IsN w [bt] b (vp bb2)) ∧ (SlA w [bt] (.slice (some ⟨bsl, osl, none⟩) 2 cap) 2 [(vp ba), (vp bb2)]) ∧ (IsNs w [bt] [a, b] [(vp ba), (vp bb2)]) ∧ (b1 < w.heap.size) ∧ (w0.heap.size ≤ b1) ∧ (At w b1 0 [(vp bn)]) ∧ (IsN w [bt] (pubOf b) (H4 8)) ∧ ((blk (H4 9)) < w.heap.size) ∧ (w0.heap.size ≤ (blk (H4 9))) ∧ (At w (blk (H4 9)) 0 [(vp ba), (H4 8)]) ∧ (b1 < (blk (H4 9))) ∧ (H4 9 = (vS (blk (H4 9)) 0 2 2)) ∧ (IsN w [bt] (pubOf a) (H4 20)) ∧ ((blk (H4 21)) < w.heap.size) ∧ (w0.heap.size ≤ (blk (H4 21))) ∧ (At w (blk (H4 21)) 0 [(vp bb2), (H4 20)]) ∧ (b1 < (blk (H4 21))) ∧ ((blk (H4 9)) < (blk (H4 21))) ∧ (H4 21 = (vS (blk (H4 21)) 0 2 2)) ∧ (IsN w [bt] (pubOf a) (H4 33)) ∧ (IsN w [bt] (pubOf b) (H4 35)) ∧ True := ⟨_, rfl⟩
  obtain ⟨A4_9, hA4_9⟩ : ∃ A : (Nat → Value) → World → Prop, A = fun H4 w => (Ch [bt] w0 w) ∧ (At w bb 0 [(vB W.dh), (vB W.kem), (vp br), (Value.map (some bt))]) ∧ (At w br 0 [rl, (Value.map (some bm))]) ∧ (MapIs w bm met) ∧ (MapIs w bt m2) ∧ (bt < w.heap.size) ∧ (At w bn 0 [(vI 3), (vI n), (vS bsl osl 2 cap), (vT (txt (.mk 3 n [a, b])))]) ∧ (At w bsl osl [(vp ba), (vp bb2)]) ∧ (bsl < w.heap.size) ∧ (IsN w [bt] a (vp ba)) ∧ (IsN w [bt] b (vp bb2)) ∧ (SlA w [bt] (.slice (some ⟨bsl, osl, none⟩) 2 cap) 2 [(vp ba), (vp bb2)]) ∧ (IsNs w [bt] [a, b] [(vp ba), (vp bb2)]) ∧ (b1 < w.heap.size) ∧ (w0.heap.size ≤ b1) ∧ (At w b1 0 [(vp bn)]) ∧ (IsN w [bt] (pubOf b) (H4 8)) ∧ ((blk (H4 9)) < w.heap.size) ∧ (w0.heap.size ≤ (blk (H4 9))) ∧ (At w (blk (H4 9)) 0 [(vp ba), (H4 8)]) ∧ (b1 < (blk (H4 9))) ∧ (H4 9 = (vS (blk (H4 9)) 0 2 2)) ∧ (IsN w [bt] (pubOf a) (H4 20)) ∧ ((blk (H4 21)) < w.heap.size) ∧ (w0.heap.size ≤ (blk (H4 21))) ∧ (At w (blk (H4 21)) 0 [(vp bb2), (H4 20)]) ∧ (b1 < (blk (H4 21))) ∧ ((blk (H4 9)) < (blk (H4 21))) ∧ (H4 21 = (vS (blk (H4 21)) 0 2 2)) ∧ (IsN w [bt] (pubOf a) (H4 33)) ∧ (IsN w [bt] (pubOf b) (H4 35)) ∧ ((blk (H4 36)) < w.heap.size) ∧ (w0.heap.size ≤ (blk (H4 36))) ∧ (At w (blk (H4 36)) 0 [(H4 33), (H4 35)]) ∧ (b1 < (blk (H4 36))) ∧ ((blk (H4 9)) < (blk (H4 36))) ∧ ((blk (H4 21)) < (blk (H4 36))) ∧ (H4 36 = (vS (blk (H4 36)) 0 2 2)) ∧ True := ⟨_, rfl⟩
  obtain ⟨A4_10, hA4_10⟩ : ∃ A : (Nat → Value) → World → Prop, A = fun H4 w => (Ch [bt] w0 w) ∧ (At w bb 0 [(vB W.dh), (vB W.kem), (vp br), (Value.map (some bt))]) ∧ (At w br 0 [rl, (Value.map (some bm))]) ∧ (MapIs w bm met) ∧ (MapIs w bt m') ∧ (bt < w.heap.size) ∧ (At w bn 0 [(vI 3), (vI n), (vS bsl osl 2 cap), (vT (txt (.mk 3 n [a, b])))]) ∧ (At w bsl osl [(vp ba), (vp bb2)]) ∧ (bsl < w.heap.size) ∧ (IsN w [bt] a (vp ba)) ∧ (IsN w [bt] b (vp bb2)) ∧ (SlA w [bt] (.slice (some ⟨bsl, osl, none⟩) 2 cap) 2 [(vp ba), (vp bb2)]) ∧ (IsNs w [bt] [a, b] [(vp ba), (vp bb2)]) ∧ (b1 < w.heap.size) ∧ (w0.heap.size ≤ b1) ∧ (At w b1 0 [(vp bn)]) ∧ (IsN w [bt] (pubOf b) (H4 8)) ∧ ((blk (H4 9)) < w.heap.size) ∧ (w0.heap.size ≤ (blk (H4 9))) ∧ (At w (blk (H4 9)) 0 [(vp ba), (H4 8)]) ∧ (b1 < (blk (H4 9))) ∧ (H4 9 = (vS (blk (H4 9)) 0 2 2)) ∧ (IsN w [bt] (pubOf a) (H4 20)) ∧ ((blk (H4 21)) < w.heap.size) ∧ (w0.heap.size ≤ (blk (H4 21))) ∧ (At w (blk (H4 21)) 0 [(vp bb2), (H4 20)]) ∧ (b1 < (blk (H4 21))) ∧ ((blk (H4 9)) < (blk (H4 21))) ∧ (H4 21 = (vS (blk (H4 21)) 0 2 2)) ∧ (IsN w [bt] (pubOf a) (H4 33)) ∧ (IsN w [bt] (pubOf b) (H4 35)) ∧ ((blk (H4 36)) < w.heap.size) ∧ (w0.heap.size ≤ (blk (H4 36))) ∧ (At w (blk (H4 36)) 0 [(H4 33), (H4 35)]) ∧ (b1 < (blk (H4 36))) ∧ ((blk (H4 9)) < (blk (H4 36))) ∧ ((blk (H4 21)) < (blk (H4 36))) ∧ (H4 36 = (vS (blk (H4 36)) 0 2 2)) ∧ True := ⟨_, rfl⟩
  refine region_hist mo (fun p_ H_ w_ => (([A4_0, A4_1, A4_2, A4_3, A4_4, A4_5, A4_6, A4_7, A4_8, A4_9, A4_10] : List ((Nat → Value) → World → Prop)).getD p_ (fun _ _ => True)) H_ w_) [8, 9, 10, 20, 21, 22, 33, 35, 36, 37] (rows := [hr_ [] [(0, (vp bb))] [0, 1, 2] (vp bb), hr_ [] [(3, (vp b1))] [0, 1] (vp bn), hr_ [(1, 17)] [] [0, 1] (vp bn), hr_ [(2, 18)] [] [0, 1] (vP bn 2), hr_ [(3, 19)] [] [0, 1] (vS bsl osl 2 cap), hr_ [(4, 20)] [] [0, 1] (vP bsl (osl + 0)), hr_ [(5, 21)] [] [0, 1] (vp ba), hr_ [] [(5, (Value.func (.func 95) #[] #[(vp b1)]))] [0] (Value.func (.func 95) #[] #[(vp b1)]), ⟨[(7, 23)], [], [0], [8], fun H4 => H4 8, fun H4 K_ h_ => by simp only [h_ 8 (by simp)]⟩, ⟨[(6, 22), (8, 24)], [], [1], [9], fun H4 => H4 9, fun H4 K_ h_ => by simp only [h_ 9 (by simp)]⟩, hr_ [(0, 16), (9, 25)] [] [2] vf, hr_ [(10, 26)] [] [3] vf, hr_ [(11, 27)] [(0, (vp bb))] [3, 4, 5] (vp bb), hr_ [(11, 27)] [(3, (vp b1))] [3, 4] (vp bn), hr_ [(13, 29), (11, 27)] [] [3, 4] (vp bn), hr_ [(14, 30), (11, 27)] [] [3, 4] (vP bn 2), hr_ [(15, 31), (11, 27)] [] [3, 4] (vS bsl osl 2 cap), hr_ [(16, 32), (11, 27)] [] [3, 4] (vP bsl (osl + 1)), hr_ [(17, 33), (11, 27)] [] [3, 4] (vp bb2), hr_ [(11, 27)] [(5, (Value.func (.func 95) #[] #[(vp b1)]))] [3] (Value.func (.func 95) #[] #[(vp b1)]), ⟨[(19, 35), (11, 27)], [], [3], [20], fun H4 => H4 20, fun H4 K_ h_ => by simp only [h_ 20 (by simp)]⟩, ⟨[(18, 34), (20, 36), (11, 27)], [], [4], [21], fun H4 => H4 21, fun H4 K_ h_ => by simp only [h_ 21 (by simp)]⟩, hr_ [(12, 28), (21, 37), (11, 27)] [] [5] vf, hr_ [(11, 27), (22, 38)] [] [6] vf, hr_ [(23, 39)] [] [6] vf, hr_ [(24, 40)] [(0, (vp bb))] [6] (vp bb), hr_ [(25, 41), (24, 40)] [] [6] (vp bb), hr_ [(26, 42), (24, 40)] [] [6] (vp bb), hr_ [(27, 43), (24, 40)] [] [6] (vp bb), hr_ [(28, 44), (24, 40)] [] [6] vt, hr_ [(29, 45), (24, 40)] [] [6] vt, hr_ [(30, 46)] [(0, (vp bb))] [6, 7, 8, 9] (vp bb), hr_ [(30, 46)] [(5, (Value.func (.func 95) #[] #[(vp b1)]))] [6] (Value.func (.func 95) #[] #[(vp b1)]), ⟨[(32, 48), (30, 46)], [], [6], [33], fun H4 => H4 33, fun H4 K_ h_ => by simp only [h_ 33 (by simp)]⟩, hr_ [(30, 46)] [(5, (Value.func (.func 95) #[] #[(vp b1)]))] [6, 7] (Value.func (.func 95) #[] #[(vp b1)]), ⟨[(34, 50), (30, 46)], [], [7], [35], fun H4 => H4 35, fun H4 K_ h_ => by simp only [h_ 35 (by simp)]⟩, ⟨[(33, 49), (35, 51), (30, 46)], [], [8], [36], fun H4 => H4 36, fun H4 K_ h_ => by simp only [h_ 36 (by simp)]⟩, hr_ [(31, 47), (36, 52), (30, 46)] [] [9] (vB r), hr_ [(30, 46), (37, 53), (24, 40)] [] [10] (vB r), hr_ [(24, 40), (38, 54)] [] [10] (vB r), hr_ [(39, 55)] [] [10] (vB r)]) (by kernel_rfl) hF (fun H_ => ?_) ?_ ?_
  ·have hch_ := Ch.drew w
   have hfin_ : A4_0 H_ { w with drawn := w.drawn + 1 } := by rw [hA4_0]; exact ⟨hC.trans (hch_.mono (by simp)), hbb.mv hch_ (by simp <;> omega), hbr.mv hch_ (by simp <;> omega), hmet.mv hch_ (by simp <;> omega), htold.mv hch_ (by simp <;> omega), hch_.lt hbtlt, hatn.mv hch_ (by simp <;> omega), hats.mv hch_ (by simp <;> omega), hch_.lt hbsl, IsN.mv hch_ (by simp) (fun x hx => .inl hx) _ _ hka, IsN.mv hch_ (by simp) (fun x hx => .inl hx) _ _ hkb, hsl.mv hch_ (by simp) (fun x hx => .inl hx), IsNs.mv hch_ (by simp) (fun x hx => .inl hx) _ _ hkk, hch_.lt hib1, lob1, hb1.mv hch_ (by simp <;> omega), trivial⟩
   exact hfin_
  ·refine ⟨?_, ?_, ?_, ?_, ?_, ?_, ?_, ?_, ?_, ?_, ?_, ?_, ?_, ?_, ?_, ?_, ?_, ?_, ?_, ?_, ?_, ?_, ?_, ?_, ?_, ?_, ?_, ?_, ?_, ?_, ?_, ?_, ?_, ?_, ?_, ?_, ?_, ?_, ?_, ?_, ?_, trivial⟩
   ·exact HOb.pure ⟨rfl, trivial⟩ rfl rfl (fun _ _ => d_move rfl)
   ·refine ⟨⟨rfl, trivial⟩, fun ph_ hp_ H4 w hW => ?_⟩
    rcases memN_or hp_ with rfl | hp_
    ·have hW0 := hW
     replace hW : A4_0 H4 w := hW
     rw [hA4_0] at hW
     obtain ⟨hC, hbb, hbr, hmet, htold, hbtlt, hatn, hats, hbsl, hka, hkb, hsl, hkk, hib1, lob1, hb1, _⟩ := hW
     exact Det.ohc rfl hW0 (d_load1 Tryd.underlying83 rfl rfl (hb1 0 _ rfl))
    obtain rfl := memN_one hp_
    ·have hW0 := hW
     replace hW : A4_1 H4 w := hW
     rw [hA4_1] at hW
     obtain ⟨hC, hbb, hbr, hmet, htold, hbtlt, hatn, hats, hbsl, hka, hkb, hsl, hkk, hib1, lob1, hb1, hpv12, _⟩ := hW
     exact Det.ohc rfl hW0 (d_load1 Tryd.underlying83 rfl rfl (hb1 0 _ rfl))
   ·exact HOb.pure trivial rfl rfl (fun _ _ => d_nil rfl)
   ·exact HOb.pure trivial rfl rfl (fun _ _ => d_fieldAddrQ Tryd.underlying112 (m := 0) sz110 rfl rfl rfl)
   ·refine ⟨trivial, fun ph_ hp_ H4 w hW => ?_⟩
    rcases memN_or hp_ with rfl | hp_
    ·have hW0 := hW
     replace hW : A4_0 H4 w := hW
     rw [hA4_0] at hW
     obtain ⟨hC, hbb, hbr, hmet, htold, hbtlt, hatn, hats, hbsl, hka, hkb, hsl, hkk, hib1, lob1, hb1, _⟩ := hW
     exact Det.ohc rfl hW0 (d_load1 Tryd.underlying110 rfl rfl (hatn 2 _ rfl))
    obtain rfl := memN_one hp_
    ·have hW0 := hW
     replace hW : A4_1 H4 w := hW
     rw [hA4_1] at hW
     obtain ⟨hC, hbb, hbr, hmet, htold, hbtlt, hatn, hats, hbsl, hka, hkb, hsl, hkk, hib1, lob1, hb1, hpv12, _⟩ := hW
     exact Det.ohc rfl hW0 (d_load1 Tryd.underlying110 rfl rfl (hatn 2 _ rfl))
   ·refine ⟨trivial, fun ph_ hp_ H4 w hW => ?_⟩
    rcases memN_or hp_ with rfl | hp_
    ·have hW0 := hW
     replace hW : A4_0 H4 w := hW
     rw [hA4_0] at hW
     obtain ⟨hC, hbb, hbr, hmet, htold, hbtlt, hatn, hats, hbsl, hka, hkb, hsl, hkk, hib1, lob1, hb1, _⟩ := hW
     exact Det.ohc rfl hW0 (d_ixSQ (j := 0) (q := osl + 0) Tryd.underlying110 sz83 rfl rfl rfl (by omega) rfl)
    obtain rfl := memN_one hp_
    ·have hW0 := hW
     replace hW : A4_1 H4 w := hW
     rw [hA4_1] at hW
     obtain ⟨hC, hbb, hbr, hmet, htold, hbtlt, hatn, hats, hbsl, hka, hkb, hsl, hkk, hib1, lob1, hb1, hpv12, _⟩ := hW
     exact Det.ohc rfl hW0 (d_ixSQ (j := 0) (q := osl + 0) Tryd.underlying110 sz83 rfl rfl rfl (by omega) rfl)
   ·refine ⟨trivial, fun ph_ hp_ H4 w hW => ?_⟩
    rcases memN_or hp_ with rfl | hp_
    ·have hW0 := hW
     replace hW : A4_0 H4 w := hW
     rw [hA4_0] at hW
     obtain ⟨hC, hbb, hbr, hmet, htold, hbtlt, hatn, hats, hbsl, hka, hkb, hsl, hkk, hib1, lob1, hb1, _⟩ := hW
     exact Det.ohc rfl hW0 (d_load1 Tryd.underlying83 rfl rfl (hats 0 _ rfl))
    obtain rfl := memN_one hp_
    ·have hW0 := hW
     replace hW : A4_1 H4 w := hW
     rw [hA4_1] at hW
     obtain ⟨hC, hbb, hbr, hmet, htold, hbtlt, hatn, hats, hbsl, hka, hkb, hsl, hkk, hib1, lob1, hb1, hpv12, _⟩ := hW
     exact Det.ohc rfl hW0 (d_load1 Tryd.underlying83 rfl rfl (hats 0 _ rfl))
   ·exact HOb.pure ⟨rfl, trivial⟩ rfl rfl (fun _ _ => d_move rfl)
   ·refine ⟨trivial, fun ph_ hp_ H4 w hW => ?_⟩
    obtain rfl := memN_one hp_
    replace hW : A4_0 H4 w := hW
    rw [hA4_0] at hW
    obtain ⟨hC, hbb, hbr, hmet, htold, hbtlt, hatn, hats, hbsl, hka, hkb, hsl, hkk, hib1, lob1, hb1, _⟩ := hW
    refine Ok1.mono (ok_callv (first := #[]) (captured := #[(vp b1)]) rfl c95 rfl (pub_calls (X := [bt]) (ks := [a, b]) (i := 1) (t1 := b) hT hjoin (wrk_pub hfb.2) _ (Nat.le_trans hnb hC.size) (hT _ _ (hC.below hnb (by simpa using hnbt)) hw0) (by simp; exact hbtlt) (hb1 0 _ rfl) hatn rfl hats (by simp) rfl hkb)) ?_
    rintro pv12 w' ⟨hpv12, hch0_⟩
    have hch_ : Ch [] _ w' := Gr.ch hch0_
    have hC := hC.trans (hch_.mono (by simp))
    have hbb := hbb.mv hch_ (by simp <;> omega)
    have hbr := hbr.mv hch_ (by simp <;> omega)
    have hmet := hmet.mv hch_ (by simp <;> omega)
    have htold := htold.mv hch_ (by simp <;> omega)
    have hbtlt := hch_.lt hbtlt
    have hatn := hatn.mv hch_ (by simp <;> omega)
    have hats := hats.mv hch_ (by simp <;> omega)
    have hbsl := hch_.lt hbsl
    have hka : IsN w' [bt] a (vp ba) := IsN.mv hch_ (by simp) (fun x hx => .inl hx) _ _ hka
    have hkb : IsN w' [bt] b (vp bb2) := IsN.mv hch_ (by simp) (fun x hx => .inl hx) _ _ hkb
    have hsl : SlA w' [bt] (.slice (some ⟨bsl, osl, none⟩) 2 cap) 2 [(vp ba), (vp bb2)] := hsl.mv hch_ (by simp) (fun x hx => .inl hx)
    have hkk : IsNs w' [bt] [a, b] [(vp ba), (vp bb2)] := IsNs.mv hch_ (by simp) (fun x hx => .inl hx) _ _ hkk
    have hib1 := hch_.lt hib1
    have hb1 := hb1.mv hch_ (by simp <;> omega)
    have hfin_ : A4_1 (updV H4 8 pv12) w' := by rw [hA4_1]; exact ⟨hC, hbb, hbr, hmet, htold, hbtlt, hatn, hats, hbsl, hka, hkb, hsl, hkk, hib1, lob1, hb1, hpv12, trivial⟩
    exact fin_ rfl ⟨hfin_, rfl⟩
   ·refine ⟨trivial, fun ph_ hp_ H4 w hW => ?_⟩
    obtain rfl := memN_one hp_
    replace hW : A4_1 H4 w := hW
    rw [hA4_1] at hW
    obtain ⟨hC, hbb, hbr, hmet, htold, hbtlt, hatn, hats, hbsl, hka, hkb, hsl, hkk, hib1, lob1, hb1, hpv12, _⟩ := hW
    refine Ok1.mono (ok_buildSlice (cells := #[(vp ba), (H4 8)]) Tryd.underlying110 zz83 rfl (by decide) (by decide) (by exact fill2 rfl (IsN.cellsv hpv12))) ?_
    rintro _ w' ⟨b13, rfl, hnb_⟩
    have hch_ : Ch [] _ w' := hnb_.ch
    have lo_ := hnb_.lo hC.size
    have ne_b1_b13 := hnb_.gt hib1
    have hC := hC.trans (hch_.mono (by simp))
    have hbb := hbb.mv hch_ (by simp <;> omega)
    have hbr := hbr.mv hch_ (by simp <;> omega)
    have hmet := hmet.mv hch_ (by simp <;> omega)
    have htold := htold.mv hch_ (by simp <;> omega)
    have hbtlt := hch_.lt hbtlt
    have hatn := hatn.mv hch_ (by simp <;> omega)
    have hats := hats.mv hch_ (by simp <;> omega)
    have hbsl := hch_.lt hbsl
    have hka : IsN w' [bt] a (vp ba) := IsN.mv hch_ (by simp) (fun x hx => .inl hx) _ _ hka
    have hkb : IsN w' [bt] b (vp bb2) := IsN.mv hch_ (by simp) (fun x hx => .inl hx) _ _ hkb
    have hsl : SlA w' [bt] (.slice (some ⟨bsl, osl, none⟩) 2 cap) 2 [(vp ba), (vp bb2)] := hsl.mv hch_ (by simp) (fun x hx => .inl hx)
    have hkk : IsNs w' [bt] [a, b] [(vp ba), (vp bb2)] := IsNs.mv hch_ (by simp) (fun x hx => .inl hx) _ _ hkk
    have hib1 := hch_.lt hib1
    have hb1 := hb1.mv hch_ (by simp <;> omega)
    have hpv12 : IsN w' [bt] (pubOf b) (H4 8) := IsN.mv hch_ (by simp) (fun x hx => .inl hx) _ _ hpv12
    have hib13 : b13 < w'.heap.size := hnb_.lt
    have lob13 : w0.heap.size ≤ b13 := lo_
    have hb13 : At w' b13 0 [(vp ba), (H4 8)] := hnb_.at
    have ne_b1_b13 : b1 < b13 := ne_b1_b13
    have hfin_ : A4_2 (updV H4 9 (vS b13 0 2 2)) w' := by rw [hA4_2]; exact ⟨hC, hbb, hbr, hmet, htold, hbtlt, hatn, hats, hbsl, hka, hkb, hsl, hkk, hib1, lob1, hb1, hpv12, hib13, lob13, hb13, ne_b1_b13, rfl, trivial⟩
    exact fin_ rfl ⟨hfin_, rfl⟩
   ·refine ⟨trivial, fun ph_ hp_ H4 w hW => ?_⟩
    obtain rfl := memN_one hp_
    replace hW : A4_2 H4 w := hW
    rw [hA4_2] at hW
    obtain ⟨hC, hbb, hbr, hmet, htold, hbtlt, hatn, hats, hbsl, hka, hkb, hsl, hkk, hib1, lob1, hb1, hpv12, hib13, lob13, hb13, ne_b1_b13, hv4_9, _⟩ := hW
    refine Ok1.sub (L' := [(16, (vp bb)), (25, (vS (blk (H4 9)) 0 2 2))]) ⟨rfl, congrArg some hv4_9, trivial⟩ (Ok1.mono (ok_call c45 rfl (ih g1 (by omega) ([a, pubOf b]) m m1 false bb bt br bm rl _ _ _ _ (by simp) hq1 (fun t ht => by simp at ht; first | (rcases ht with rfl | rfl <;> assumption) | (subst ht; assumption)) (Nat.le_trans hnb hC.size) hnbt (hT _ _ (hC.below hnb (by simpa using hnbt)) hw0) ⟨hbb, hbr, hmet, hne1, hne2, hne3⟩ htold (.inr ⟨_, 0, _, rfl, by simp <;> omega, hib13, hb13⟩) (IsNs.of_two hka hpv12))) ?_)
    rintro _ w' ⟨rfl, htold, hch0_⟩
    have hch_ : Ch [bt] _ w' := hch0_
    have hC := hC.trans (hch_.mono (by simp))
    have hbb := hbb.mv hch_ (by simp <;> omega)
    have hbr := hbr.mv hch_ (by simp <;> omega)
    have hmet := hmet.mv hch_ (by simp <;> omega)
    have hbtlt := hch_.lt hbtlt
    have hatn := hatn.mv hch_ (by simp <;> omega)
    have hats := hats.mv hch_ (by simp <;> omega)
    have hbsl := hch_.lt hbsl
    have hka : IsN w' [bt] a (vp ba) := IsN.mv hch_ (by simp) (fun x hx => .inl hx) _ _ hka
    have hkb : IsN w' [bt] b (vp bb2) := IsN.mv hch_ (by simp) (fun x hx => .inl hx) _ _ hkb
    have hsl : SlA w' [bt] (.slice (some ⟨bsl, osl, none⟩) 2 cap) 2 [(vp ba), (vp bb2)] := hsl.mv hch_ (by simp) (fun x hx => .inl hx)
    have hkk : IsNs w' [bt] [a, b] [(vp ba), (vp bb2)] := IsNs.mv hch_ (by simp) (fun x hx => .inl hx) _ _ hkk
    have hib1 := hch_.lt hib1
    have hb1 := hb1.mv hch_ (by simp <;> omega)
    have hpv12 : IsN w' [bt] (pubOf b) (H4 8) := IsN.mv hch_ (by simp) (fun x hx => .inl hx) _ _ hpv12
    have hib13 := hch_.lt hib13
    have hb13 := hb13.mv hch_ (by simp <;> omega)
    have hfin_ : A4_3 (updV H4 10 vf) w' := by rw [hA4_3]; exact ⟨hC, hbb, hbr, hmet, htold, hbtlt, hatn, hats, hbsl, hka, hkb, hsl, hkk, hib1, lob1, hb1, hpv12, hib13, lob13, hb13, ne_b1_b13, hv4_9, trivial⟩
    exact fin_ rfl ⟨hfin_, rfl⟩
   ·exact HOb.pure trivial rfl rfl (fun _ _ => d_move rfl)
   ·exact HOb.pureG ⟨rfl, trivial⟩ rfl rfl (fun _ => rfl) rfl (fun _ _ => d_move rfl)
   ·refine ⟨⟨rfl, trivial⟩, fun ph_ hp_ H4 w hW => ?_⟩
    rcases memN_or hp_ with rfl | hp_
    ·have hW0 := hW
     replace hW : A4_3 H4 w := hW
     rw [hA4_3] at hW
     obtain ⟨hC, hbb, hbr, hmet, htold, hbtlt, hatn, hats, hbsl, hka, hkb, hsl, hkk, hib1, lob1, hb1, hpv12, hib13, lob13, hb13, ne_b1_b13, hv4_9, _⟩ := hW
     exact ⟨(some false), _, rfl, rfl, Det.ohc rfl hW0 (d_load1 Tryd.underlying83 rfl rfl (hb1 0 _ rfl))⟩
    obtain rfl := memN_one hp_
    ·have hW0 := hW
     replace hW : A4_4 H4 w := hW
     rw [hA4_4] at hW
     obtain ⟨hC, hbb, hbr, hmet, htold, hbtlt, hatn, hats, hbsl, hka, hkb, hsl, hkk, hib1, lob1, hb1, hpv12, hib13, lob13, hb13, ne_b1_b13, hv4_9, hpv14, _⟩ := hW
     exact ⟨(some false), _, rfl, rfl, Det.ohc rfl hW0 (d_load1 Tryd.underlying83 rfl rfl (hb1 0 _ rfl))⟩
   ·exact HOb.pureG trivial rfl rfl (fun _ => rfl) rfl (fun _ _ => d_nil rfl)
   ·exact HOb.pureG trivial rfl rfl (fun _ => rfl) rfl (fun _ _ => d_fieldAddrQ Tryd.underlying112 (m := 0) sz110 rfl rfl rfl)
   ·refine ⟨trivial, fun ph_ hp_ H4 w hW => ?_⟩
    rcases memN_or hp_ with rfl | hp_
    ·have hW0 := hW
     replace hW : A4_3 H4 w := hW
     rw [hA4_3] at hW
     obtain ⟨hC, hbb, hbr, hmet, htold, hbtlt, hatn, hats, hbsl, hka, hkb, hsl, hkk, hib1, lob1, hb1, hpv12, hib13, lob13, hb13, ne_b1_b13, hv4_9, _⟩ := hW
     exact ⟨(some false), _, rfl, rfl, Det.ohc rfl hW0 (d_load1 Tryd.underlying110 rfl rfl (hatn 2 _ rfl))⟩
    obtain rfl := memN_one hp_
    ·have hW0 := hW
     replace hW : A4_4 H4 w := hW
     rw [hA4_4] at hW
     obtain ⟨hC, hbb, hbr, hmet, htold, hbtlt, hatn, hats, hbsl, hka, hkb, hsl, hkk, hib1, lob1, hb1, hpv12, hib13, lob13, hb13, ne_b1_b13, hv4_9, hpv14, _⟩ := hW
     exact ⟨(some false), _, rfl, rfl, Det.ohc rfl hW0 (d_load1 Tryd.underlying110 rfl rfl (hatn 2 _ rfl))⟩
   ·refine ⟨trivial, fun ph_ hp_ H4 w hW => ?_⟩
    rcases memN_or hp_ with rfl | hp_
    ·have hW0 := hW
     replace hW : A4_3 H4 w := hW
     rw [hA4_3] at hW
     obtain ⟨hC, hbb, hbr, hmet, htold, hbtlt, hatn, hats, hbsl, hka, hkb, hsl, hkk, hib1, lob1, hb1, hpv12, hib13, lob13, hb13, ne_b1_b13, hv4_9, _⟩ := hW
     exact ⟨(some false), _, rfl, rfl, Det.ohc rfl hW0 (d_ixSQ (j := 1) (q := osl + 1) Tryd.underlying110 sz83 rfl rfl rfl (by omega) rfl)⟩
    obtain rfl := memN_one hp_
    ·have hW0 := hW
     replace hW : A4_4 H4 w := hW
     rw [hA4_4] at hW
     obtain ⟨hC, hbb, hbr, hmet, htold, hbtlt, hatn, hats, hbsl, hka, hkb, hsl, hkk, hib1, lob1, hb1, hpv12, hib13, lob13, hb13, ne_b1_b13, hv4_9, hpv14, _⟩ := hW
     exact ⟨(some false), _, rfl, rfl, Det.ohc rfl hW0 (d_ixSQ (j := 1) (q := osl + 1) Tryd.underlying110 sz83 rfl rfl rfl (by omega) rfl)⟩
   ·refine ⟨trivial, fun ph_ hp_ H4 w hW => ?_⟩
    rcases memN_or hp_ with rfl | hp_
    ·have hW0 := hW
     replace hW : A4_3 H4 w := hW
     rw [hA4_3] at hW
     obtain ⟨hC, hbb, hbr, hmet, htold, hbtlt, hatn, hats, hbsl, hka, hkb, hsl, hkk, hib1, lob1, hb1, hpv12, hib13, lob13, hb13, ne_b1_b13, hv4_9, _⟩ := hW
     exact ⟨(some false), _, rfl, rfl, Det.ohc rfl hW0 (d_load1 Tryd.underlying83 rfl rfl (hats 1 _ rfl))⟩
    obtain rfl := memN_one hp_
    ·have hW0 := hW
     replace hW : A4_4 H4 w := hW
     rw [hA4_4] at hW
     obtain ⟨hC, hbb, hbr, hmet, htold, hbtlt, hatn, hats, hbsl, hka, hkb, hsl, hkk, hib1, lob1, hb1, hpv12, hib13, lob13, hb13, ne_b1_b13, hv4_9, hpv14, _⟩ := hW
     exact ⟨(some false), _, rfl, rfl, Det.ohc rfl hW0 (d_load1 Tryd.underlying83 rfl rfl (hats 1 _ rfl))⟩
   ·exact HOb.pureG ⟨rfl, trivial⟩ rfl rfl (fun _ => rfl) rfl (fun _ _ => d_move rfl)
   ·refine ⟨trivial, fun ph_ hp_ H4 w hW => ?_⟩
    obtain rfl := memN_one hp_
    replace hW : A4_3 H4 w := hW
    rw [hA4_3] at hW
    obtain ⟨hC, hbb, hbr, hmet, htold, hbtlt, hatn, hats, hbsl, hka, hkb, hsl, hkk, hib1, lob1, hb1, hpv12, hib13, lob13, hb13, ne_b1_b13, hv4_9, _⟩ := hW
    refine ⟨(some false), _, rfl, rfl, Ok1.mono (ok_callv (first := #[]) (captured := #[(vp b1)]) rfl c95 rfl (pub_calls (X := [bt]) (ks := [a, b]) (i := 0) (t1 := a) hT hjoin (wrk_pub hfa.2) _ (Nat.le_trans hnb hC.size) (hT _ _ (hC.below hnb (by simpa using hnbt)) hw0) (by simp; exact hbtlt) (hb1 0 _ rfl) hatn rfl hats (by simp) rfl hka)) ?_⟩
    rintro pv14 w' ⟨hpv14, hch0_⟩
    have hch_ : Ch [] _ w' := Gr.ch hch0_
    have hC := hC.trans (hch_.mono (by simp))
    have hbb := hbb.mv hch_ (by simp <;> omega)
    have hbr := hbr.mv hch_ (by simp <;> omega)
    have hmet := hmet.mv hch_ (by simp <;> omega)
    have htold := htold.mv hch_ (by simp <;> omega)
    have hbtlt := hch_.lt hbtlt
    have hatn := hatn.mv hch_ (by simp <;> omega)
    have hats := hats.mv hch_ (by simp <;> omega)
    have hbsl := hch_.lt hbsl
    have hka : IsN w' [bt] a (vp ba) := IsN.mv hch_ (by simp) (fun x hx => .inl hx) _ _ hka
    have hkb : IsN w' [bt] b (vp bb2) := IsN.mv hch_ (by simp) (fun x hx => .inl hx) _ _ hkb
    have hsl : SlA w' [bt] (.slice (some ⟨bsl, osl, none⟩) 2 cap) 2 [(vp ba), (vp bb2)] := hsl.mv hch_ (by simp) (fun x hx => .inl hx)
    have hkk : IsNs w' [bt] [a, b] [(vp ba), (vp bb2)] := IsNs.mv hch_ (by simp) (fun x hx => .inl hx) _ _ hkk
    have hib1 := hch_.lt hib1
    have hb1 := hb1.mv hch_ (by simp <;> omega)
    have hpv12 : IsN w' [bt] (pubOf b) (H4 8) := IsN.mv hch_ (by simp) (fun x hx => .inl hx) _ _ hpv12
    have hib13 := hch_.lt hib13
    have hb13 := hb13.mv hch_ (by simp <;> omega)
    have hfin_ : A4_4 (updV H4 20 pv14) w' := by rw [hA4_4]; exact ⟨hC, hbb, hbr, hmet, htold, hbtlt, hatn, hats, hbsl, hka, hkb, hsl, hkk, hib1, lob1, hb1, hpv12, hib13, lob13, hb13, ne_b1_b13, hv4_9, hpv14, trivial⟩
    exact fin_ rfl ⟨hfin_, rfl⟩
   ·refine ⟨trivial, fun ph_ hp_ H4 w hW => ?_⟩
    obtain rfl := memN_one hp_
    replace hW : A4_4 H4 w := hW
    rw [hA4_4] at hW
    obtain ⟨hC, hbb, hbr, hmet, htold, hbtlt, hatn, hats, hbsl, hka, hkb, hsl, hkk, hib1, lob1, hb1, hpv12, hib13, lob13, hb13, ne_b1_b13, hv4_9, hpv14, _⟩ := hW
    refine ⟨(some false), _, rfl, rfl, Ok1.mono (ok_buildSlice (cells := #[(vp bb2), (H4 20)]) Tryd.underlying110 zz83 rfl (by decide) (by decide) (by exact fill2 rfl (IsN.cellsv hpv14))) ?_⟩
    rintro _ w' ⟨b15, rfl, hnb_⟩
    have hch_ : Ch [] _ w' := hnb_.ch
    have lo_ := hnb_.lo hC.size
    have ne_b1_b15 := hnb_.gt hib1
    have ne_b13_b15 := hnb_.gt hib13
    have hC := hC.trans (hch_.mono (by simp))
    have hbb := hbb.mv hch_ (by simp <;> omega)
    have hbr := hbr.mv hch_ (by simp <;> omega)
    have hmet := hmet.mv hch_ (by simp <;> omega)
    have htold := htold.mv hch_ (by simp <;> omega)
    have hbtlt := hch_.lt hbtlt
    have hatn := hatn.mv hch_ (by simp <;> omega)
    have hats := hats.mv hch_ (by simp <;> omega)
    have hbsl := hch_.lt hbsl
    have hka : IsN w' [bt] a (vp ba) := IsN.mv hch_ (by simp) (fun x hx => .inl hx) _ _ hka
    have hkb : IsN w' [bt] b (vp bb2) := IsN.mv hch_ (by simp) (fun x hx => .inl hx) _ _ hkb
    have hsl : SlA w' [bt] (.slice (some ⟨bsl, osl, none⟩) 2 cap) 2 [(vp ba), (vp bb2)] := hsl.mv hch_ (by simp) (fun x hx => .inl hx)
    have hkk : IsNs w' [bt] [a, b] [(vp ba), (vp bb2)] := IsNs.mv hch_ (by simp) (fun x hx => .inl hx) _ _ hkk
    have hib1 := hch_.lt hib1
    have hb1 := hb1.mv hch_ (by simp <;> omega)
    have hpv12 : IsN w' [bt] (pubOf b) (H4 8) := IsN.mv hch_ (by simp) (fun x hx => .inl hx) _ _ hpv12
    have hib13 := hch_.lt hib13
    have hb13 := hb13.mv hch_ (by simp <;> omega)
    have hpv14 : IsN w' [bt] (pubOf a) (H4 20) := IsN.mv hch_ (by simp) (fun x hx => .inl hx) _ _ hpv14
    have hib15 : b15 < w'.heap.size := hnb_.lt
    have lob15 : w0.heap.size ≤ b15 := lo_
    have hb15 : At w' b15 0 [(vp bb2), (H4 20)] := hnb_.at
    have ne_b1_b15 : b1 < b15 := ne_b1_b15
    have ne_b13_b15 : (blk (H4 9)) < b15 := ne_b13_b15
    have hfin_ : A4_5 (updV H4 21 (vS b15 0 2 2)) w' := by rw [hA4_5]; exact ⟨hC, hbb, hbr, hmet, htold, hbtlt, hatn, hats, hbsl, hka, hkb, hsl, hkk, hib1, lob1, hb1, hpv12, hib13, lob13, hb13, ne_b1_b13, hv4_9, hpv14, hib15, lob15, hb15, ne_b1_b15, ne_b13_b15, rfl, trivial⟩
    exact fin_ rfl ⟨hfin_, rfl⟩
   ·refine ⟨trivial, fun ph_ hp_ H4 w hW => ?_⟩
    obtain rfl := memN_one hp_
    replace hW : A4_5 H4 w := hW
    rw [hA4_5] at hW
    obtain ⟨hC, hbb, hbr, hmet, htold, hbtlt, hatn, hats, hbsl, hka, hkb, hsl, hkk, hib1, lob1, hb1, hpv12, hib13, lob13, hb13, ne_b1_b13, hv4_9, hpv14, hib15, lob15, hb15, ne_b1_b15, ne_b13_b15, hv4_21, _⟩ := hW
    refine ⟨(some false), _, rfl, rfl, Ok1.sub (L' := [(27, vf), (28, (vp bb)), (37, (vS (blk (H4 21)) 0 2 2))]) ⟨rfl, rfl, congrArg some hv4_21, trivial⟩ (Ok1.mono (ok_call c45 rfl (ih g2 (by omega) ([b, pubOf a]) m1 m2 false bb bt br bm rl _ _ _ _ (by simp) hq2 (fun t ht => by simp at ht; first | (rcases ht with rfl | rfl <;> assumption) | (subst ht; assumption)) (Nat.le_trans hnb hC.size) hnbt (hT _ _ (hC.below hnb (by simpa using hnbt)) hw0) ⟨hbb, hbr, hmet, hne1, hne2, hne3⟩ htold (.inr ⟨_, 0, _, rfl, by simp <;> omega, hib15, hb15⟩) (IsNs.of_two hkb hpv14))) ?_)⟩
    rintro _ w' ⟨rfl, htold, hch0_⟩
    have hch_ : Ch [bt] _ w' := hch0_
    have hC := hC.trans (hch_.mono (by simp))
    have hbb := hbb.mv hch_ (by simp <;> omega)
    have hbr := hbr.mv hch_ (by simp <;> omega)
    have hmet := hmet.mv hch_ (by simp <;> omega)
    have hbtlt := hch_.lt hbtlt
    have hatn := hatn.mv hch_ (by simp <;> omega)
    have hats := hats.mv hch_ (by simp <;> omega)
    have hbsl := hch_.lt hbsl
    have hka : IsN w' [bt] a (vp ba) := IsN.mv hch_ (by simp) (fun x hx => .inl hx) _ _ hka
    have hkb : IsN w' [bt] b (vp bb2) := IsN.mv hch_ (by simp) (fun x hx => .inl hx) _ _ hkb
    have hsl : SlA w' [bt] (.slice (some ⟨bsl, osl, none⟩) 2 cap) 2 [(vp ba), (vp bb2)] := hsl.mv hch_ (by simp) (fun x hx => .inl hx)
    have hkk : IsNs w' [bt] [a, b] [(vp ba), (vp bb2)] := IsNs.mv hch_ (by simp) (fun x hx => .inl hx) _ _ hkk
    have hib1 := hch_.lt hib1
    have hb1 := hb1.mv hch_ (by simp <;> omega)
    have hpv12 : IsN w' [bt] (pubOf b) (H4 8) := IsN.mv hch_ (by simp) (fun x hx => .inl hx) _ _ hpv12
    have hib13 := hch_.lt hib13
    have hb13 := hb13.mv hch_ (by simp <;> omega)
    have hpv14 : IsN w' [bt] (pubOf a) (H4 20) := IsN.mv hch_ (by simp) (fun x hx => .inl hx) _ _ hpv14
    have hib15 := hch_.lt hib15
    have hb15 := hb15.mv hch_ (by simp <;> omega)
    have hfin_ : A4_6 (updV H4 22 vf) w' := by rw [hA4_6]; exact ⟨hC, hbb, hbr, hmet, htold, hbtlt, hatn, hats, hbsl, hka, hkb, hsl, hkk, hib1, lob1, hb1, hpv12, hib13, lob13, hb13, ne_b1_b13, hv4_9, hpv14, hib15, lob15, hb15, ne_b1_b15, ne_b13_b15, hv4_21, trivial⟩
    exact fin_ rfl ⟨hfin_, rfl⟩
   ·exact HOb.pure trivial rfl rfl (fun _ _ => d_pick (b := false) rfl rfl)
   ·exact HOb.pure trivial rfl rfl (fun _ _ => d_move rfl)
   ·exact HOb.pureG ⟨rfl, trivial⟩ rfl rfl (fun _ => rfl) rfl (fun _ _ => d_move rfl)
   ·exact HOb.pureG trivial rfl rfl (fun _ => rfl) rfl (fun _ _ => d_nil rfl)
   ·exact HOb.pureG trivial rfl rfl (fun _ => rfl) rfl (fun _ _ => d_fieldAddrQ Tryd.underlying116 (m := 1) sz31 rfl rfl rfl)
   ·exact HOb.pureG trivial rfl rfl (fun _ => rfl) rfl (fun _ _ => d_fieldAddrQ Tryd.underlying31 (m := 0) sz4 rfl rfl rfl)
   ·exact HOb.factG hA4_6 trivial rfl rfl rfl rfl (fun _ => rfl) rfl (fun H4 w ⟨_, hbb, _⟩ => d_bool (c := true) (d_load1 Tryd.underlying4 rfl rfl (hbb 0 _ rfl)) hflag)
   ·exact HOb.pureG trivial rfl rfl (fun _ => rfl) rfl (fun _ _ => d_move rfl)
   ·exact HOb.pureG ⟨rfl, trivial⟩ rfl rfl (fun _ => rfl) rfl (fun _ _ => d_move rfl)
   ·exact HOb.pureG ⟨rfl, trivial⟩ rfl rfl (fun _ => rfl) rfl (fun _ _ => d_move rfl)
   ·refine ⟨trivial, fun ph_ hp_ H4 w hW => ?_⟩
    obtain rfl := memN_one hp_
    replace hW : A4_6 H4 w := hW
    rw [hA4_6] at hW
    obtain ⟨hC, hbb, hbr, hmet, htold, hbtlt, hatn, hats, hbsl, hka, hkb, hsl, hkk, hib1, lob1, hb1, hpv12, hib13, lob13, hb13, ne_b1_b13, hv4_9, hpv14, hib15, lob15, hb15, ne_b1_b15, ne_b13_b15, hv4_21, _⟩ := hW
    refine ⟨(some true), _, rfl, rfl, Ok1.mono (ok_callv (first := #[]) (captured := #[(vp b1)]) rfl c95 rfl (pub_calls (X := [bt]) (ks := [a, b]) (i := 0) (t1 := a) hT hjoin (wrk_pub hfa.2) _ (Nat.le_trans hnb hC.size) (hT _ _ (hC.below hnb (by simpa using hnbt)) hw0) (by simp; exact hbtlt) (hb1 0 _ rfl) hatn rfl hats (by simp) rfl hka)) ?_⟩
    rintro pv16 w' ⟨hpv16, hch0_⟩
    have hch_ : Ch [] _ w' := Gr.ch hch0_
    have hC := hC.trans (hch_.mono (by simp))
    have hbb := hbb.mv hch_ (by simp <;> omega)
    have hbr := hbr.mv hch_ (by simp <;> omega)
    have hmet := hmet.mv hch_ (by simp <;> omega)
    have htold := htold.mv hch_ (by simp <;> omega)
    have hbtlt := hch_.lt hbtlt
    have hatn := hatn.mv hch_ (by simp <;> omega)
    have hats := hats.mv hch_ (by simp <;> omega)
    have hbsl := hch_.lt hbsl
    have hka : IsN w' [bt] a (vp ba) := IsN.mv hch_ (by simp) (fun x hx => .inl hx) _ _ hka
    have hkb : IsN w' [bt] b (vp bb2) := IsN.mv hch_ (by simp) (fun x hx => .inl hx) _ _ hkb
    have hsl : SlA w' [bt] (.slice (some ⟨bsl, osl, none⟩) 2 cap) 2 [(vp ba), (vp bb2)] := hsl.mv hch_ (by simp) (fun x hx => .inl hx)
    have hkk : IsNs w' [bt] [a, b] [(vp ba), (vp bb2)] := IsNs.mv hch_ (by simp) (fun x hx => .inl hx) _ _ hkk
    have hib1 := hch_.lt hib1
    have hb1 := hb1.mv hch_ (by simp <;> omega)
    have hpv12 : IsN w' [bt] (pubOf b) (H4 8) := IsN.mv hch_ (by simp) (fun x hx => .inl hx) _ _ hpv12
    have hib13 := hch_.lt hib13
    have hb13 := hb13.mv hch_ (by simp <;> omega)
    have hpv14 : IsN w' [bt] (pubOf a) (H4 20) := IsN.mv hch_ (by simp) (fun x hx => .inl hx) _ _ hpv14
    have hib15 := hch_.lt hib15
    have hb15 := hb15.mv hch_ (by simp <;> omega)
    have hfin_ : A4_7 (updV H4 33 pv16) w' := by rw [hA4_7]; exact ⟨hC, hbb, hbr, hmet, htold, hbtlt, hatn, hats, hbsl, hka, hkb, hsl, hkk, hib1, lob1, hb1, hpv12, hib13, lob13, hb13, ne_b1_b13, hv4_9, hpv14, hib15, lob15, hb15, ne_b1_b15, ne_b13_b15, hv4_21, hpv16, trivial⟩
    exact fin_ rfl ⟨hfin_, rfl⟩
   ·exact HOb.pureG ⟨rfl, trivial⟩ rfl rfl (fun _ => rfl) rfl (fun _ _ => d_move rfl)
   ·refine ⟨trivial, fun ph_ hp_ H4 w hW => ?_⟩
    obtain rfl := memN_one hp_
    replace hW : A4_7 H4 w := hW
    rw [hA4_7] at hW
    obtain ⟨hC, hbb, hbr, hmet, htold, hbtlt, hatn, hats, hbsl, hka, hkb, hsl, hkk, hib1, lob1, hb1, hpv12, hib13, lob13, hb13, ne_b1_b13, hv4_9, hpv14, hib15, lob15, hb15, ne_b1_b15, ne_b13_b15, hv4_21, hpv16, _⟩ := hW
    refine ⟨(some true), _, rfl, rfl, Ok1.mono (ok_callv (first := #[]) (captured := #[(vp b1)]) rfl c95 rfl (pub_calls (X := [bt]) (ks := [a, b]) (i := 1) (t1 := b) hT hjoin (wrk_pub hfb.2) _ (Nat.le_trans hnb hC.size) (hT _ _ (hC.below hnb (by simpa using hnbt)) hw0) (by simp; exact hbtlt) (hb1 0 _ rfl) hatn rfl hats (by simp) rfl hkb)) ?_⟩
    rintro pv17 w' ⟨hpv17, hch0_⟩
    have hch_ : Ch [] _ w' := Gr.ch hch0_
    have hC := hC.trans (hch_.mono (by simp))
    have hbb := hbb.mv hch_ (by simp <;> omega)
    have hbr := hbr.mv hch_ (by simp <;> omega)
    have hmet := hmet.mv hch_ (by simp <;> omega)
    have htold := htold.mv hch_ (by simp <;> omega)
    have hbtlt := hch_.lt hbtlt
    have hatn := hatn.mv hch_ (by simp <;> omega)
    have hats := hats.mv hch_ (by simp <;> omega)
    have hbsl := hch_.lt hbsl
    have hka : IsN w' [bt] a (vp ba) := IsN.mv hch_ (by simp) (fun x hx => .inl hx) _ _ hka
    have hkb : IsN w' [bt] b (vp bb2) := IsN.mv hch_ (by simp) (fun x hx => .inl hx) _ _ hkb
    have hsl : SlA w' [bt] (.slice (some ⟨bsl, osl, none⟩) 2 cap) 2 [(vp ba), (vp bb2)] := hsl.mv hch_ (by simp) (fun x hx => .inl hx)
    have hkk : IsNs w' [bt] [a, b] [(vp ba), (vp bb2)] := IsNs.mv hch_ (by simp) (fun x hx => .inl hx) _ _ hkk
    have hib1 := hch_.lt hib1
    have hb1 := hb1.mv hch_ (by simp <;> omega)
    have hpv12 : IsN w' [bt] (pubOf b) (H4 8) := IsN.mv hch_ (by simp) (fun x hx => .inl hx) _ _ hpv12
    have hib13 := hch_.lt hib13
    have hb13 := hb13.mv hch_ (by simp <;> omega)
    have hpv14 : IsN w' [bt] (pubOf a) (H4 20) := IsN.mv hch_ (by simp) (fun x hx => .inl hx) _ _ hpv14
    have hib15 := hch_.lt hib15
    have hb15 := hb15.mv hch_ (by simp <;> omega)
    have hpv16 : IsN w' [bt] (pubOf a) (H4 33) := IsN.mv hch_ (by simp) (fun x hx => .inl hx) _ _ hpv16
    have hfin_ : A4_8 (updV H4 35 pv17) w' := by rw [hA4_8]; exact ⟨hC, hbb, hbr, hmet, htold, hbtlt, hatn, hats, hbsl, hka, hkb, hsl, hkk, hib1, lob1, hb1, hpv12, hib13, lob13, hb13, ne_b1_b13, hv4_9, hpv14, hib15, lob15, hb15, ne_b1_b15, ne_b13_b15, hv4_21, hpv16, hpv17, trivial⟩
    exact fin_ rfl ⟨hfin_, rfl⟩
   ·refine ⟨trivial, fun ph_ hp_ H4 w hW => ?_⟩
    obtain rfl := memN_one hp_
    replace hW : A4_8 H4 w := hW
    rw [hA4_8] at hW
    obtain ⟨hC, hbb, hbr, hmet, htold, hbtlt, hatn, hats, hbsl, hka, hkb, hsl, hkk, hib1, lob1, hb1, hpv12, hib13, lob13, hb13, ne_b1_b13, hv4_9, hpv14, hib15, lob15, hb15, ne_b1_b15, ne_b13_b15, hv4_21, hpv16, hpv17, _⟩ := hW
    refine ⟨(some true), _, rfl, rfl, Ok1.mono (ok_buildSlice (cells := #[(H4 33), (H4 35)]) Tryd.underlying110 zz83 rfl (by decide) (by decide) (by exact fill2 (IsN.cellsv hpv16) (IsN.cellsv hpv17))) ?_⟩
    rintro _ w' ⟨b18, rfl, hnb_⟩
    have hch_ : Ch [] _ w' := hnb_.ch
    have lo_ := hnb_.lo hC.size
    have ne_b1_b18 := hnb_.gt hib1
    have ne_b13_b18 := hnb_.gt hib13
    have ne_b15_b18 := hnb_.gt hib15
    have hC := hC.trans (hch_.mono (by simp))
    have hbb := hbb.mv hch_ (by simp <;> omega)
    have hbr := hbr.mv hch_ (by simp <;> omega)
    have hmet := hmet.mv hch_ (by simp <;> omega)
    have htold := htold.mv hch_ (by simp <;> omega)
    have hbtlt := hch_.lt hbtlt
    have hatn := hatn.mv hch_ (by simp <;> omega)
    have hats := hats.mv hch_ (by simp <;> omega)
    have hbsl := hch_.lt hbsl
    have hka : IsN w' [bt] a (vp ba) := IsN.mv hch_ (by simp) (fun x hx => .inl hx) _ _ hka
    have hkb : IsN w' [bt] b (vp bb2) := IsN.mv hch_ (by simp) (fun x hx => .inl hx) _ _ hkb
    have hsl : SlA w' [bt] (.slice (some ⟨bsl, osl, none⟩) 2 cap) 2 [(vp ba), (vp bb2)] := hsl.mv hch_ (by simp) (fun x hx => .inl hx)
    have hkk : IsNs w' [bt] [a, b] [(vp ba), (vp bb2)] := IsNs.mv hch_ (by simp) (fun x hx => .inl hx) _ _ hkk
    have hib1 := hch_.lt hib1
    have hb1 := hb1.mv hch_ (by simp <;> omega)
    have hpv12 : IsN w' [bt] (pubOf b) (H4 8) := IsN.mv hch_ (by simp) (fun x hx => .inl hx) _ _ hpv12
    have hib13 := hch_.lt hib13
    have hb13 := hb13.mv hch_ (by simp <;> omega)
    have hpv14 : IsN w' [bt] (pubOf a) (H4 20) := IsN.mv hch_ (by simp) (fun x hx => .inl hx) _ _ hpv14
    have hib15 := hch_.lt hib15
    have hb15 := hb15.mv hch_ (by simp <;> omega)
    have hpv16 : IsN w' [bt] (pubOf a) (H4 33) := IsN.mv hch_ (by simp) (fun x hx => .inl hx) _ _ hpv16
    have hpv17 : IsN w' [bt] (pubOf b) (H4 35) := IsN.mv hch_ (by simp) (fun x hx => .inl hx) _ _ hpv17
    have hib18 : b18 < w'.heap.size := hnb_.lt
    have lob18 : w0.heap.size ≤ b18 := lo_
    have hb18 : At w' b18 0 [(H4 33), (H4 35)] := hnb_.at
    have ne_b1_b18 : b1 < b18 := ne_b1_b18
    have ne_b13_b18 : (blk (H4 9)) < b18 := ne_b13_b18
    have ne_b15_b18 : (blk (H4 21)) < b18 := ne_b15_b18
    have hfin_ : A4_9 (updV H4 36 (vS b18 0 2 2)) w' := by rw [hA4_9]; exact ⟨hC, hbb, hbr, hmet, htold, hbtlt, hatn, hats, hbsl, hka, hkb, hsl, hkk, hib1, lob1, hb1, hpv12, hib13, lob13, hb13, ne_b1_b13, hv4_9, hpv14, hib15, lob15, hb15, ne_b1_b15, ne_b13_b15, hv4_21, hpv16, hpv17, hib18, lob18, hb18, ne_b1_b18, ne_b13_b18, ne_b15_b18, rfl, trivial⟩
    exact fin_ rfl ⟨hfin_, rfl⟩
   ·refine ⟨trivial, fun ph_ hp_ H4 w hW => ?_⟩
    obtain rfl := memN_one hp_
    replace hW : A4_9 H4 w := hW
    rw [hA4_9] at hW
    obtain ⟨hC, hbb, hbr, hmet, htold, hbtlt, hatn, hats, hbsl, hka, hkb, hsl, hkk, hib1, lob1, hb1, hpv12, hib13, lob13, hb13, ne_b1_b13, hv4_9, hpv14, hib15, lob15, hb15, ne_b1_b15, ne_b13_b15, hv4_21, hpv16, hpv17, hib18, lob18, hb18, ne_b1_b18, ne_b13_b18, ne_b15_b18, hv4_36, _⟩ := hW
    refine ⟨(some true), _, rfl, rfl, Ok1.sub (L' := [(46, vt), (47, (vp bb)), (52, (vS (blk (H4 36)) 0 2 2))]) ⟨rfl, rfl, congrArg some hv4_36, trivial⟩ (Ok1.mono (ok_call c45 rfl (ih g3 (by omega) ([pubOf a, pubOf b]) m2 m' r bb bt br bm rl _ _ _ _ (by simp) hq3 (fun t ht => by simp at ht; first | (rcases ht with rfl | rfl <;> assumption) | (subst ht; assumption)) (Nat.le_trans hnb hC.size) hnbt (hT _ _ (hC.below hnb (by simpa using hnbt)) hw0) ⟨hbb, hbr, hmet, hne1, hne2, hne3⟩ htold (.inr ⟨_, 0, _, rfl, by simp <;> omega, hib18, hb18⟩) (IsNs.of_two hpv16 hpv17))) ?_)⟩
    rintro _ w' ⟨rfl, htold, hch0_⟩
    have hch_ : Ch [bt] _ w' := hch0_
    have hC := hC.trans (hch_.mono (by simp))
    have hbb := hbb.mv hch_ (by simp <;> omega)
    have hbr := hbr.mv hch_ (by simp <;> omega)
    have hmet := hmet.mv hch_ (by simp <;> omega)
    have hbtlt := hch_.lt hbtlt
    have hatn := hatn.mv hch_ (by simp <;> omega)
    have hats := hats.mv hch_ (by simp <;> omega)
    have hbsl := hch_.lt hbsl
    have hka : IsN w' [bt] a (vp ba) := IsN.mv hch_ (by simp) (fun x hx => .inl hx) _ _ hka
    have hkb : IsN w' [bt] b (vp bb2) := IsN.mv hch_ (by simp) (fun x hx => .inl hx) _ _ hkb
    have hsl : SlA w' [bt] (.slice (some ⟨bsl, osl, none⟩) 2 cap) 2 [(vp ba), (vp bb2)] := hsl.mv hch_ (by simp) (fun x hx => .inl hx)
    have hkk : IsNs w' [bt] [a, b] [(vp ba), (vp bb2)] := IsNs.mv hch_ (by simp) (fun x hx => .inl hx) _ _ hkk
    have hib1 := hch_.lt hib1
    have hb1 := hb1.mv hch_ (by simp <;> omega)
    have hpv12 : IsN w' [bt] (pubOf b) (H4 8) := IsN.mv hch_ (by simp) (fun x hx => .inl hx) _ _ hpv12
    have hib13 := hch_.lt hib13
    have hb13 := hb13.mv hch_ (by simp <;> omega)
    have hpv14 : IsN w' [bt] (pubOf a) (H4 20) := IsN.mv hch_ (by simp) (fun x hx => .inl hx) _ _ hpv14
    have hib15 := hch_.lt hib15
    have hb15 := hb15.mv hch_ (by simp <;> omega)
    have hpv16 : IsN w' [bt] (pubOf a) (H4 33) := IsN.mv hch_ (by simp) (fun x hx => .inl hx) _ _ hpv16
    have hpv17 : IsN w' [bt] (pubOf b) (H4 35) := IsN.mv hch_ (by simp) (fun x hx => .inl hx) _ _ hpv17
    have hib18 := hch_.lt hib18
    have hb18 := hb18.mv hch_ (by simp <;> omega)
    have hfin_ : A4_10 (updV H4 37 (vB r)) w' := by rw [hA4_10]; exact ⟨hC, hbb, hbr, hmet, htold, hbtlt, hatn, hats, hbsl, hka, hkb, hsl, hkk, hib1, lob1, hb1, hpv12, hib13, lob13, hb13, ne_b1_b13, hv4_9, hpv14, hib15, lob15, hb15, ne_b1_b15, ne_b13_b15, hv4_21, hpv16, hpv17, hib18, lob18, hb18, ne_b1_b18, ne_b13_b18, ne_b15_b18, hv4_36, trivial⟩
    exact fin_ rfl ⟨hfin_, rfl⟩
   ·exact HOb.pureG trivial rfl rfl (fun _ => rfl) rfl (fun _ _ => d_pick (b := true) rfl rfl)
   ·exact HOb.pure trivial rfl rfl (fun _ _ => d_pick (b := false) rfl rfl)
   ·exact HOb.pure trivial rfl rfl (fun _ _ => d_assign rfl)
  ·intro ac w H4 hW hF
   replace hW : A4_10 H4 w := hW
   rw [hA4_10] at hW
   obtain ⟨hC, hbb, hbr, hmet, htold, hbtlt, hatn, hats, hbsl, hka, hkb, hsl, hkk, hib1, lob1, hb1, hpv12, hib13, lob13, hb13, ne_b1_b13, hv4_9, hpv14, hib15, lob15, hb15, ne_b1_b15, ne_b13_b15, hv4_21, hpv16, hpv17, hib18, lob18, hb18, ne_b1_b18, ne_b13_b18, ne_b15_b18, hv4_36, _⟩ := hW
   clear hA4_0 A4_0 hA4_1 A4_1 hA4_2 A4_2 hA4_3 A4_3 hA4_4 A4_4 hA4_5 A4_5 hA4_6 A4_6 hA4_7 A4_7 hA4_8 A4_8 hA4_9 A4_9 hA4_10 A4_10
   have hF := hF.sub (L' := [(0, (vp bb)), (1, (vp bn)), (3, (vp b1)), (4, (vB r)), (5, (Value.func (.func 95) #[] #[(vp b1)])), (11, (vI 3)), (12, vf), (14, vt)]) ⟨rfl, rfl, rfl, rfl, rfl, rfl, rfl, rfl, trivial⟩
   refine then_n ?_
   refine wp_ret ?_
   refine block_ret ?_
   refine then_ret ?_
   refine body_ret hF (results1 Tryd.results82 (RV.tmp hF rfl)) ?_
   exact ⟨rfl, htold, hC⟩

set_option maxRecDepth 100000 in
set_option maxHeartbeats 4000000 in
theorem makes_ct {T0 : World → Prop} {nb : Nat} (hT : ∀ w w', Below nb w w' → T0 w → T0 w') (hjoin : JoinOk) {W : Wd} {met : Told} {f : Nat} (ih : ∀ g, g < f → BuildsOk T0 nb W met g) {n : Int} {a b : Tm} {m m' : Told} {r : Bool} {bb bt br bm bn : Nat} {rl : Value} (w0 : World) (hany : anyOf W met f (ways W (.mk 5 n [a, b])) m = some (r, m')) (hfit : Fit (.mk 5 n [a, b])) (hnb : nb ≤ w0.heap.size) (hnbt : nb ≤ bt) (hw0 : T0 w0) (hbd : Bd w0 W met bb bt br bm rl) (htold : MapIs w0 bt m)
 (hnd : IsN w0 [bt] (.mk 5 n [a, b]) (.pointer (some ⟨bn, 0, none⟩))) : Calls Tryd.prog 82 (List.toArray [.pointer (some ⟨bb, 0, none⟩), .pointer (some ⟨bn, 0, none⟩)]) w0 (Ret fun v w' => v = .bool r ∧ MapIs w' bt m' ∧ Ch [bt] w0 w') := by
 obtain ⟨hbb, hbr, hmet, hne1, hne2, hne3⟩ := hbd
 have hbtlt := htold.lt
 obtain ⟨sl, xs, hbn, hatn, hsl, hkk⟩ := hnd.open
 simp only [List.mem_singleton] at hbn
 obtain ⟨va, vb, rfl, hka, hkb⟩ := hkk.two
 obtain ⟨ba, rfl, hna, hka⟩ := hka.ptr
 obtain ⟨bb2, rfl, hnb2, hkb⟩ := hkb.ptr
 obtain ⟨bsl, osl, cap, rfl, hnsl, hbsl, hats⟩ := hsl.some (by simp)
 have hsl : SlA w0 [bt] (.slice (some ⟨bsl, osl, none⟩) 2 cap) 2 _ := .inr ⟨bsl, osl, cap, rfl, hnsl, hbsl, hats⟩
 simp only [List.mem_singleton] at hnsl
 have hfa : Fit a := hfit.kid (by simp)
 have hfb : Fit b := hfit.kid (by simp)
 have hl2 : tlen a + tlen b + 5 ≤ 1099511600000 := by have h1 := hfit.2; rw [tlen_two (by decide)] at h1; simp [word] at h1; omega
 have hpos : 1 ≤ tlen a ∧ 1 ≤ tlen b := ⟨txt_pos a, txt_pos b⟩
 have hfpa : Fit (pubOf a) := ⟨ok_pub hfa.1, by rw [tlen_pub]; omega⟩
 have hfpb : Fit (pubOf b) := ⟨ok_pub hfb.1, by rw [tlen_pub]; omega⟩
 have hfct : Fit (.mk 5 0 [a, b]) := ⟨ok_two (by omega) hfa.1 hfb.1, by rw [tlen_two (by decide)]; simp [word]; omega⟩
 replace hl2 : tlen a + tlen b ≤ 1099511600000 := by omega
 obtain ⟨g1, hg1, hq1⟩ := any_ct hany
 refine calls_of Tryd.func82 rfl Tryd.ntmps82 rfl fun ac hF => ?_
 have hC : Ch [bt] w0 w0 := Ch.refl _ _
 have hF := hF.sub (L' := [(0, (vp bb)), (1, (vp bn))]) ⟨rfl, rfl, trivial⟩
 refine wp_seq ?_
 refine wp_region_lit ?_
 refine wlR (ok_box rfl) rfl hF ?_
 rintro _ w ac ⟨b1, rfl, hnb_⟩ hF
 have hch_ : Ch [] _ w := hnb_.ch
 have lo_ := hnb_.lo hC.size
 have hC := hC.trans (hch_.mono (by simp))
 have hbb := hbb.mv hch_ (by simp <;> omega)
 have hbr := hbr.mv hch_ (by simp <;> omega)
 have hmet := hmet.mv hch_ (by simp <;> omega)
 have htold := htold.mv hch_ (by simp <;> omega)
 have hbtlt := hch_.lt hbtlt
 have hatn := hatn.mv hch_ (by simp <;> omega)
 have hats := hats.mv hch_ (by simp <;> omega)
 have hbsl := hch_.lt hbsl
 have hka : IsN w [bt] a (vp ba) := IsN.mv hch_ (by simp) (fun x hx => .inl hx) _ _ hka
 have hkb : IsN w [bt] b (vp bb2) := IsN.mv hch_ (by simp) (fun x hx => .inl hx) _ _ hkb
 have hsl : SlA w [bt] (.slice (some ⟨bsl, osl, none⟩) 2 cap) 2 [(vp ba), (vp bb2)] := hsl.mv hch_ (by simp) (fun x hx => .inl hx)
 have hkk : IsNs w [bt] [a, b] [(vp ba), (vp bb2)] := IsNs.mv hch_ (by simp) (fun x hx => .inl hx) _ _ hkk
 have hib1 : b1 < w.heap.size := hnb_.lt
 have lob1 : w0.heap.size ≤ b1 := lo_
 have hb1 : At w b1 0 [(vp bn)] := hnb_.at
 refine wl (d_assign rfl) rfl hF (fun ac hF => ?_)
 refine wl_nil ?_
 refine then_n ?_
 refine wp_seq ?_
 refine wp_region_lit ?_
 refine wl (d_makeFunc (us := []) (vs := [(vp b1)]) rfl rfl) rfl hF (fun ac hF => ?_)
 refine wl (d_assign rfl) rfl hF (fun ac hF => ?_)
 refine wl_nil ?_
 refine then_n ?_
 refine wp_seq ?_
 refine wp_seq ?_
 refine wp_region_lit ?_
 refine wl (d_load1 Tryd.underlying83 rfl rfl (hb1 0 _ rfl)) rfl hF (fun ac hF => ?_)
 refine wl (d_nil rfl) rfl hF (fun ac hF => ?_)
 refine wl (d_fieldAddrQ Tryd.underlying112 (m := 0) sz3 rfl rfl rfl) rfl hF (fun ac hF => ?_)
 refine wl (d_load1 Tryd.underlying3 rfl rfl (hatn 0 _ rfl)) rfl hF (fun ac hF => ?_)
 refine wl_nil ?_
 refine then_n ?_
 refine wp_block ?_
 refine wp_seq ?_
 refine wp_region_lit ?_
 refine wl (d_bool (c := false) (d_eql rfl rfl) (by decide)) rfl hF (fun ac hF => ?_)
 refine wl (d_assign rfl) rfl hF (fun ac hF => ?_)
 refine wl_nil ?_
 refine then_n ?_
 refine wp_cond_false (hF.eval rfl) ?_
 refine wp_seq ?_
 refine wp_region_lit ?_
 refine wl (d_bool (c := false) (d_eql rfl rfl) (by decide)) rfl hF (fun ac hF => ?_)
 refine wl (d_assign rfl) rfl hF (fun ac hF => ?_)
 refine wl_nil ?_
 refine then_n ?_
 refine wp_cond_false (hF.eval rfl) ?_
 refine wp_seq ?_
 refine wp_region_lit ?_
 refine wl (d_bool (c := false) (d_eql rfl rfl) (by decide)) rfl hF (fun ac hF => ?_)
 refine wl (d_assign rfl) rfl hF (fun ac hF => ?_)
 refine wl_nil ?_
 refine then_n ?_
 refine wp_cond_false (hF.eval rfl) ?_
 refine wp_seq ?_
 refine wp_region_lit ?_
 refine wl (d_bool (c := true) (d_eql rfl rfl) (by decide)) rfl hF (fun ac hF => ?_)
 refine wl (d_assign rfl) rfl hF (fun ac hF => ?_)
 refine wl_nil ?_
 refine then_n ?_
 refine wp_cond_true (hF.eval rfl) ?_
 refine wp_seq ?_
 obtain ⟨A1_0, hA1_0⟩ : ∃ A : (Nat → Value) → World → Prop, A = fun _ w => (Ch [bt] w0 w) ∧ (At w bb 0 [(vB W.dh), (vB W.kem), (vp br), (Value.map (some bt))]) ∧ (At w br 0 [rl, (Value.map (some bm))]) ∧ (MapIs w bm met) ∧ (MapIs w bt m) ∧ (bt < w.heap.size) ∧ (At w bn 0 [(vI 5), (vI n), (vS bsl osl 2 cap), (vT (txt (.mk 5 n [a, b])))]) ∧ (At w bsl osl [(vp ba), (vp bb2)]) ∧ (bsl < w.heap.size) ∧ (IsN w [bt] a (vp ba)) ∧ (IsN w [bt] b (vp bb2)) ∧ (SlA w [bt] (.slice (some ⟨bsl, osl, none⟩) 2 cap) 2 [(vp ba), (vp bb2)]) ∧ (IsNs w [bt] [a, b] [(vp ba), (vp bb2)]) ∧ (b1 < w.heap.size) ∧ (w0.heap.size ≤ b1) ∧ (At w b1 0 [(vp bn)]) ∧ True := ⟨_, rfl⟩
 obtain ⟨A1_1, hA1_1⟩ : ∃ A : (Nat → Value) → World → Prop, A = fun H1 w => (Ch [bt] w0 w) ∧ (At w bb 0 [(vB W.dh), (vB W.kem), (vp br), (Value.map (some bt))]) ∧ (At w br 0 [rl, (Value.map (some bm))]) ∧ (MapIs w bm met) ∧ (MapIs w bt m) ∧ (bt < w.heap.size) ∧ (At w bn 0 [(vI 5), (vI n), (vS bsl osl 2 cap), (vT (txt (.mk 5 n [a, b])))]) ∧ (At w bsl osl [(vp ba), (vp bb2)]) ∧ (bsl < w.heap.size) ∧ (IsN w [bt] a (vp ba)) ∧ (IsN w [bt] b (vp bb2)) ∧ (SlA w [bt] (.slice (some ⟨bsl, osl, none⟩) 2 cap) 2 [(vp ba), (vp bb2)]) ∧ (IsNs w [bt] [a, b] [(vp ba), (vp bb2)]) ∧ (b1 < w.heap.size) ∧ (w0.heap.size ≤ b1) ∧ (At w b1 0 [(vp bn)]) ∧ (IsN w [bt] (pubOf a) (H1 8)) ∧ True := ⟨_, rfl⟩
 obtain ⟨A1_2, hA1_2⟩ : ∃ A : (Nat → Value) → World → Prop, A = fun H1 w => (Ch [bt] w0 w) ∧ (At w bb 0 [(vB W.dh), (vB W.kem), (vp br), (Value.map (some bt))]) ∧ (At w br 0 [rl, (Value.map (some bm))]) ∧ (MapIs w bm met) ∧ (MapIs w bt m) ∧ (bt < w.heap.size) ∧ (At w bn 0 [(vI 5), (vI n), (vS bsl osl 2 cap), (vT (txt (.mk 5 n [a, b])))]) ∧ (At w bsl osl [(vp ba), (vp bb2)]) ∧ (bsl < w.heap.size) ∧ (IsN w [bt] a (vp ba)) ∧ (IsN w [bt] b (vp bb2)) ∧ (SlA w [bt] (.slice (some ⟨bsl, osl, none⟩) 2 cap) 2 [(vp ba), (vp bb2)]) ∧ (IsNs w [bt] [a, b] [(vp ba), (vp bb2)]) ∧ (b1 < w.heap.size) ∧ (w0.heap.size ≤ b1) ∧ (At w b1 0 [(vp bn)]) ∧ (IsN w [bt] (pubOf a) (H1 8)) ∧ ((blk (H1 9)) < w.heap.size) ∧ (w0.heap.size ≤ (blk (H1 9))) ∧ (At w (blk (H1 9)) 0 [(vp bb2), (H1 8)]) ∧ (b1 < (blk (H1 9))) ∧ (H1 9 = (vS (blk (H1 9)) 0 2 2)) ∧ True := ⟨_, rfl⟩
 obtain ⟨A1_3, hA1_3⟩ : ∃ A : (Nat → Value) → World → Prop, A = fun H1 w => (Ch [bt] w0 w) ∧ (At w bb 0 [(vB W.dh), (vB W.kem), (vp br), (Value.map (some bt))]) ∧ (At w br 0 [rl, (Value.map (some bm))]) ∧ (MapIs w bm met) ∧ (MapIs w bt m') ∧ (bt < w.heap.size) ∧ (At w bn 0 [(vI 5), (vI n), (vS bsl osl 2 cap), (vT (txt (.mk 5 n [a, b])))]) ∧ (At w bsl osl [(vp ba), (vp bb2)]) ∧ (bsl < w.heap.size) ∧ (IsN w [bt] a (vp ba)) ∧ (IsN w [bt] b (vp bb2)) ∧ (SlA w [bt] (.slice (some ⟨bsl, osl, none⟩) 2 cap) 2 [(vp ba), (vp bb2)]) ∧ (IsNs w [bt] [a, b] [(vp ba), (vp bb2)]) ∧ (b1 < w.heap.size) ∧ (w0.heap.size ≤ b1) ∧ (At w b1 0 [(vp bn)]) ∧ (IsN w [bt] (pubOf a) (H1 8)) ∧ ((blk (H1 9)) < w.heap.size) ∧ (w0.heap.size ≤ (blk (H1 9))) ∧ (At w (blk (H1 9)) 0 [(vp bb2), (H1 8)]) ∧ (b1 < (blk (H1 9))) ∧ (H1 9 = (vS (blk (H1 9)) 0 2 2)) ∧ True := ⟨_, rfl⟩
 refine region_hist mo (fun p_ H_ w_ => (([A1_0, A1_1, A1_2, A1_3] : List ((Nat → Value) → World → Prop)).getD p_ (fun _ _ => True)) H_ w_) [8, 9, 10] (rows := [hr_ [] [(0, (vp bb))] [0, 1, 2] (vp bb), hr_ [] [(3, (vp b1))] [0, 1] (vp bn), hr_ [(1, 102)] [] [0, 1] (vp bn), hr_ [(2, 103)] [] [0, 1] (vP bn 2), hr_ [(3, 104)] [] [0, 1] (vS bsl osl 2 cap), hr_ [(4, 105)] [] [0, 1] (vP bsl (osl + 1)), hr_ [(5, 106)] [] [0, 1] (vp bb2), hr_ [] [(5, (Value.func (.func 95) #[] #[(vp b1)]))] [0] (Value.func (.func 95) #[] #[(vp b1)]), ⟨[(7, 108)], [], [0], [8], fun H1 => H1 8, fun H1 K_ h_ => by simp only [h_ 8 (by simp)]⟩, ⟨[(6, 107), (8, 109)], [], [1], [9], fun H1 => H1 9, fun H1 K_ h_ => by simp only [h_ 9 (by simp)]⟩, hr_ [(0, 101), (9, 110)] [] [2] (vB r), hr_ [(10, 111)] [] [3] (vB r)]) (by kernel_rfl) hF (fun H_ => ?_) ?_ ?_
 ·have hch_ := Ch.drew w
  have hfin_ : A1_0 H_ { w with drawn := w.drawn + 1 } := by rw [hA1_0]; exact ⟨hC.trans (hch_.mono (by simp)), hbb.mv hch_ (by simp <;> omega), hbr.mv hch_ (by simp <;> omega), hmet.mv hch_ (by simp <;> omega), htold.mv hch_ (by simp <;> omega), hch_.lt hbtlt, hatn.mv hch_ (by simp <;> omega), hats.mv hch_ (by simp <;> omega), hch_.lt hbsl, IsN.mv hch_ (by simp) (fun x hx => .inl hx) _ _ hka, IsN.mv hch_ (by simp) (fun x hx => .inl hx) _ _ hkb, hsl.mv hch_ (by simp) (fun x hx => .inl hx), IsNs.mv hch_ (by simp) (fun x hx => .inl hx) _ _ hkk, hch_.lt hib1, lob1, hb1.mv hch_ (by simp <;> omega), trivial⟩
  exact hfin_
 ·refine ⟨?_, ?_, ?_, ?_, ?_, ?_, ?_, ?_, ?_, ?_, ?_, ?_, trivial⟩
  ·exact HOb.pure ⟨rfl, trivial⟩ rfl rfl (fun _ _ => d_move rfl)
  ·refine ⟨⟨rfl, trivial⟩, fun ph_ hp_ H1 w hW => ?_⟩
   rcases memN_or hp_ with rfl | hp_
   ·have hW0 := hW
    replace hW : A1_0 H1 w := hW
    rw [hA1_0] at hW
    obtain ⟨hC, hbb, hbr, hmet, htold, hbtlt, hatn, hats, hbsl, hka, hkb, hsl, hkk, hib1, lob1, hb1, _⟩ := hW
    exact Det.ohc rfl hW0 (d_load1 Tryd.underlying83 rfl rfl (hb1 0 _ rfl))
   obtain rfl := memN_one hp_
   ·have hW0 := hW
    replace hW : A1_1 H1 w := hW
    rw [hA1_1] at hW
    obtain ⟨hC, hbb, hbr, hmet, htold, hbtlt, hatn, hats, hbsl, hka, hkb, hsl, hkk, hib1, lob1, hb1, hpv2, _⟩ := hW
    exact Det.ohc rfl hW0 (d_load1 Tryd.underlying83 rfl rfl (hb1 0 _ rfl))
  ·exact HOb.pure trivial rfl rfl (fun _ _ => d_nil rfl)
  ·exact HOb.pure trivial rfl rfl (fun _ _ => d_fieldAddrQ Tryd.underlying112 (m := 0) sz110 rfl rfl rfl)
  ·refine ⟨trivial, fun ph_ hp_ H1 w hW => ?_⟩
   rcases memN_or hp_ with rfl | hp_
   ·have hW0 := hW
    replace hW : A1_0 H1 w := hW
    rw [hA1_0] at hW
    obtain ⟨hC, hbb, hbr, hmet, htold, hbtlt, hatn, hats, hbsl, hka, hkb, hsl, hkk, hib1, lob1, hb1, _⟩ := hW
    exact Det.ohc rfl hW0 (d_load1 Tryd.underlying110 rfl rfl (hatn 2 _ rfl))
   obtain rfl := memN_one hp_
   ·have hW0 := hW
    replace hW : A1_1 H1 w := hW
    rw [hA1_1] at hW
    obtain ⟨hC, hbb, hbr, hmet, htold, hbtlt, hatn, hats, hbsl, hka, hkb, hsl, hkk, hib1, lob1, hb1, hpv2, _⟩ := hW
    exact Det.ohc rfl hW0 (d_load1 Tryd.underlying110 rfl rfl (hatn 2 _ rfl))
  ·refine ⟨trivial, fun ph_ hp_ H1 w hW => ?_⟩
   rcases memN_or hp_ with rfl | hp_
   ·have hW0 := hW
    replace hW : A1_0 H1 w := hW
    rw [hA1_0] at hW
    obtain ⟨hC, hbb, hbr, hmet, htold, hbtlt, hatn, hats, hbsl, hka, hkb, hsl, hkk, hib1, lob1, hb1, _⟩ := hW
    exact Det.ohc rfl hW0 (d_ixSQ (j := 1) (q := osl + 1) Tryd.underlying110 sz83 rfl rfl rfl (by omega) rfl)
   obtain rfl := memN_one hp_
   ·have hW0 := hW
    replace hW : A1_1 H1 w := hW
    rw [hA1_1] at hW
    obtain ⟨hC, hbb, hbr, hmet, htold, hbtlt, hatn, hats, hbsl, hka, hkb, hsl, hkk, hib1, lob1, hb1, hpv2, _⟩ := hW
    exact Det.ohc rfl hW0 (d_ixSQ (j := 1) (q := osl + 1) Tryd.underlying110 sz83 rfl rfl rfl (by omega) rfl)
  ·refine ⟨trivial, fun ph_ hp_ H1 w hW => ?_⟩
   rcases memN_or hp_ with rfl | hp_
   ·have hW0 := hW
    replace hW : A1_0 H1 w := hW
    rw [hA1_0] at hW
    obtain ⟨hC, hbb, hbr, hmet, htold, hbtlt, hatn, hats, hbsl, hka, hkb, hsl, hkk, hib1, lob1, hb1, _⟩ := hW
    exact Det.ohc rfl hW0 (d_load1 Tryd.underlying83 rfl rfl (hats 1 _ rfl))
   obtain rfl := memN_one hp_
   ·have hW0 := hW
    replace hW : A1_1 H1 w := hW
    rw [hA1_1] at hW
    obtain ⟨hC, hbb, hbr, hmet, htold, hbtlt, hatn, hats, hbsl, hka, hkb, hsl, hkk, hib1, lob1, hb1, hpv2, _⟩ := hW
    exact Det.ohc rfl hW0 (d_load1 Tryd.underlying83 rfl rfl (hats 1 _ rfl))
  ·exact HOb.pure ⟨rfl, trivial⟩ rfl rfl (fun _ _ => d_move rfl)
  ·refine ⟨trivial, fun ph_ hp_ H1 w hW => ?_⟩
   obtain rfl := memN_one hp_
   replace hW : A1_0 H1 w := hW
   rw [hA1_0] at hW
   obtain ⟨hC, hbb, hbr, hmet, htold, hbtlt, hatn, hats, hbsl, hka, hkb, hsl, hkk, hib1, lob1, hb1, _⟩ := hW
   refine Ok1.mono (ok_callv (first := #[]) (captured := #[(vp b1)]) rfl c95 rfl (pub_calls (X := [bt]) (ks := [a, b]) (i := 0) (t1 := a) hT hjoin (wrk_pub hfa.2) _ (Nat.le_trans hnb hC.size) (hT _ _ (hC.below hnb (by simpa using hnbt)) hw0) (by simp; exact hbtlt) (hb1 0 _ rfl) hatn rfl hats (by simp) rfl hka)) ?_
   rintro pv2 w' ⟨hpv2, hch0_⟩
   have hch_ : Ch [] _ w' := Gr.ch hch0_
   have hC := hC.trans (hch_.mono (by simp))
   have hbb := hbb.mv hch_ (by simp <;> omega)
   have hbr := hbr.mv hch_ (by simp <;> omega)
   have hmet := hmet.mv hch_ (by simp <;> omega)
   have htold := htold.mv hch_ (by simp <;> omega)
   have hbtlt := hch_.lt hbtlt
   have hatn := hatn.mv hch_ (by simp <;> omega)
   have hats := hats.mv hch_ (by simp <;> omega)
   have hbsl := hch_.lt hbsl
   have hka : IsN w' [bt] a (vp ba) := IsN.mv hch_ (by simp) (fun x hx => .inl hx) _ _ hka
   have hkb : IsN w' [bt] b (vp bb2) := IsN.mv hch_ (by simp) (fun x hx => .inl hx) _ _ hkb
   have hsl : SlA w' [bt] (.slice (some ⟨bsl, osl, none⟩) 2 cap) 2 [(vp ba), (vp bb2)] := hsl.mv hch_ (by simp) (fun x hx => .inl hx)
   have hkk : IsNs w' [bt] [a, b] [(vp ba), (vp bb2)] := IsNs.mv hch_ (by simp) (fun x hx => .inl hx) _ _ hkk
   have hib1 := hch_.lt hib1
   have hb1 := hb1.mv hch_ (by simp <;> omega)
   have hfin_ : A1_1 (updV H1 8 pv2) w' := by rw [hA1_1]; exact ⟨hC, hbb, hbr, hmet, htold, hbtlt, hatn, hats, hbsl, hka, hkb, hsl, hkk, hib1, lob1, hb1, hpv2, trivial⟩
   exact fin_ rfl ⟨hfin_, rfl⟩
  ·refine ⟨trivial, fun ph_ hp_ H1 w hW => ?_⟩
   obtain rfl := memN_one hp_
   replace hW : A1_1 H1 w := hW
   rw [hA1_1] at hW
   obtain ⟨hC, hbb, hbr, hmet, htold, hbtlt, hatn, hats, hbsl, hka, hkb, hsl, hkk, hib1, lob1, hb1, hpv2, _⟩ := hW
   refine Ok1.mono (ok_buildSlice (cells := #[(vp bb2), (H1 8)]) Tryd.underlying110 zz83 rfl (by decide) (by decide) (by exact fill2 rfl (IsN.cellsv hpv2))) ?_
   rintro _ w' ⟨b3, rfl, hnb_⟩
   have hch_ : Ch [] _ w' := hnb_.ch
   have lo_ := hnb_.lo hC.size
   have ne_b1_b3 := hnb_.gt hib1
   have hC := hC.trans (hch_.mono (by simp))
   have hbb := hbb.mv hch_ (by simp <;> omega)
   have hbr := hbr.mv hch_ (by simp <;> omega)
   have hmet := hmet.mv hch_ (by simp <;> omega)
   have htold := htold.mv hch_ (by simp <;> omega)
   have hbtlt := hch_.lt hbtlt
   have hatn := hatn.mv hch_ (by simp <;> omega)
   have hats := hats.mv hch_ (by simp <;> omega)
   have hbsl := hch_.lt hbsl
   have hka : IsN w' [bt] a (vp ba) := IsN.mv hch_ (by simp) (fun x hx => .inl hx) _ _ hka
   have hkb : IsN w' [bt] b (vp bb2) := IsN.mv hch_ (by simp) (fun x hx => .inl hx) _ _ hkb
   have hsl : SlA w' [bt] (.slice (some ⟨bsl, osl, none⟩) 2 cap) 2 [(vp ba), (vp bb2)] := hsl.mv hch_ (by simp) (fun x hx => .inl hx)
   have hkk : IsNs w' [bt] [a, b] [(vp ba), (vp bb2)] := IsNs.mv hch_ (by simp) (fun x hx => .inl hx) _ _ hkk
   have hib1 := hch_.lt hib1
   have hb1 := hb1.mv hch_ (by simp <;> omega)
   have hpv2 : IsN w' [bt] (pubOf a) (H1 8) := IsN.mv hch_ (by simp) (fun x hx => .inl hx) _ _ hpv2
   have hib3 : b3 < w'.heap.size := hnb_.lt
   have lob3 : w0.heap.size ≤ b3 := lo_
   have hb3 : At w' b3 0 [(vp bb2), (H1 8)] := hnb_.at
   have ne_b1_b3 : b1 < b3 := ne_b1_b3
   have hfin_ : A1_2 (updV H1 9 (vS b3 0 2 2)) w' := by rw [hA1_2]; exact ⟨hC, hbb, hbr, hmet, htold, hbtlt, hatn, hats, hbsl, hka, hkb, hsl, hkk, hib1, lob1, hb1, hpv2, hib3, lob3, hb3, ne_b1_b3, rfl, trivial⟩
   exact fin_ rfl ⟨hfin_, rfl⟩
  ·refine ⟨trivial, fun ph_ hp_ H1 w hW => ?_⟩
   obtain rfl := memN_one hp_
   replace hW : A1_2 H1 w := hW
   rw [hA1_2] at hW
   obtain ⟨hC, hbb, hbr, hmet, htold, hbtlt, hatn, hats, hbsl, hka, hkb, hsl, hkk, hib1, lob1, hb1, hpv2, hib3, lob3, hb3, ne_b1_b3, hv1_9, _⟩ := hW
   refine Ok1.sub (L' := [(101, (vp bb)), (110, (vS (blk (H1 9)) 0 2 2))]) ⟨rfl, congrArg some hv1_9, trivial⟩ (Ok1.mono (ok_call c45 rfl (ih g1 (by omega) ([b, pubOf a]) m m' r bb bt br bm rl _ _ _ _ (by simp) hq1 (fun t ht => by simp at ht; first | (rcases ht with rfl | rfl <;> assumption) | (subst ht; assumption)) (Nat.le_trans hnb hC.size) hnbt (hT _ _ (hC.below hnb (by simpa using hnbt)) hw0) ⟨hbb, hbr, hmet, hne1, hne2, hne3⟩ htold (.inr ⟨_, 0, _, rfl, by simp <;> omega, hib3, hb3⟩) (IsNs.of_two hkb hpv2))) ?_)
   rintro _ w' ⟨rfl, htold, hch0_⟩
   have hch_ : Ch [bt] _ w' := hch0_
   have hC := hC.trans (hch_.mono (by simp))
   have hbb := hbb.mv hch_ (by simp <;> omega)
   have hbr := hbr.mv hch_ (by simp <;> omega)
   have hmet := hmet.mv hch_ (by simp <;> omega)
   have hbtlt := hch_.lt hbtlt
   have hatn := hatn.mv hch_ (by simp <;> omega)
   have hats := hats.mv hch_ (by simp <;> omega)
   have hbsl := hch_.lt hbsl
   have hka : IsN w' [bt] a (vp ba) := IsN.mv hch_ (by simp) (fun x hx => .inl hx) _ _ hka
   have hkb : IsN w' [bt] b (vp bb2) := IsN.mv hch_ (by simp) (fun x hx => .inl hx) _ _ hkb
   have hsl : SlA w' [bt] (.slice (some ⟨bsl, osl, none⟩) 2 cap) 2 [(vp ba), (vp bb2)] := hsl.mv hch_ (by simp) (fun x hx => .inl hx)
   have hkk : IsNs w' [bt] [a, b] [(vp ba), (vp bb2)] := IsNs.mv hch_ (by simp) (fun x hx => .inl hx) _ _ hkk
   have hib1 := hch_.lt hib1
   have hb1 := hb1.mv hch_ (by simp <;> omega)
   have hpv2 : IsN w' [bt] (pubOf a) (H1 8) := IsN.mv hch_ (by simp) (fun x hx => .inl hx) _ _ hpv2
   have hib3 := hch_.lt hib3
   have hb3 := hb3.mv hch_ (by simp <;> omega)
   have hfin_ : A1_3 (updV H1 10 (vB r)) w' := by rw [hA1_3]; exact ⟨hC, hbb, hbr, hmet, htold, hbtlt, hatn, hats, hbsl, hka, hkb, hsl, hkk, hib1, lob1, hb1, hpv2, hib3, lob3, hb3, ne_b1_b3, hv1_9, trivial⟩
   exact fin_ rfl ⟨hfin_, rfl⟩
  ·exact HOb.pure trivial rfl rfl (fun _ _ => d_assign rfl)
 ·intro ac w H1 hW hF
  replace hW : A1_3 H1 w := hW
  rw [hA1_3] at hW
  obtain ⟨hC, hbb, hbr, hmet, htold, hbtlt, hatn, hats, hbsl, hka, hkb, hsl, hkk, hib1, lob1, hb1, hpv2, hib3, lob3, hb3, ne_b1_b3, hv1_9, _⟩ := hW
  clear hA1_0 A1_0 hA1_1 A1_1 hA1_2 A1_2 hA1_3 A1_3
  have hF := hF.sub (L' := [(0, (vp bb)), (1, (vp bn)), (3, (vp b1)), (4, (vB r)), (5, (Value.func (.func 95) #[] #[(vp b1)])), (11, (vI 5)), (12, vf), (14, vf), (56, vf), (99, vt)]) ⟨rfl, rfl, rfl, rfl, rfl, rfl, rfl, rfl, rfl, rfl, trivial⟩
  refine then_n ?_
  refine wp_ret ?_
  refine block_ret ?_
  refine then_ret ?_
  refine body_ret hF (results1 Tryd.results82 (RV.tmp hF rfl)) ?_
  exact ⟨rfl, htold, hC⟩

set_option maxRecDepth 100000 in
set_option maxHeartbeats 4000000 in
theorem makes_gen {T0 : World → Prop} {nb : Nat} (hT : ∀ w w', Below nb w w' → T0 w → T0 w') (hjoin : JoinOk) {W : Wd} {met : Told} {f : Nat} (ih : ∀ g, g < f → BuildsOk T0 nb W met g) {n : Int} {k : Int} {ks : List Tm} (hk1 : ¬ k = 1) (hk3 : ¬ k = 3) (hk4 : ¬ k = 4) (hk5 : ¬ k = 5) {m m' : Told} {r : Bool} {bb bt br bm bn : Nat} {rl : Value} (w0 : World) (hany : anyOf W met f (ways W (.mk k n ks)) m = some (r, m')) (hfit : Fit (.mk k n ks)) (hnb : nb ≤ w0.heap.size) (hnbt : nb ≤ bt) (hw0 : T0 w0) (hbd : Bd w0 W met bb bt br bm rl) (htold : MapIs w0 bt m)
 (hnd : IsN w0 [bt] (.mk k n ks) (.pointer (some ⟨bn, 0, none⟩))) : Calls Tryd.prog 82 (List.toArray [.pointer (some ⟨bb, 0, none⟩), .pointer (some ⟨bn, 0, none⟩)]) w0 (Ret fun v w' => v = .bool r ∧ MapIs w' bt m' ∧ Ch [bt] w0 w') := by
 obtain ⟨hbb, hbr, hmet, hne1, hne2, hne3⟩ := hbd
 have hbtlt := htold.lt
 obtain ⟨sl, xs, hbn, hatn, hsl, hkk⟩ := hnd.open
 simp only [List.mem_singleton] at hbn
 obtain ⟨ad, cap, rfl, _⟩ := hsl.form
 obtain ⟨g1, hg1, hq1⟩ := any_gen hk1 hk3 hk4 hk5 hany
 have hlen8 : ks.length ≤ 1000 := by have h8 := (low_high hfit.1).2.2.2; omega
 refine calls_of Tryd.func82 rfl Tryd.ntmps82 rfl fun ac hF => ?_
 have hC : Ch [bt] w0 w0 := Ch.refl _ _
 have hF := hF.sub (L' := [(0, (vp bb)), (1, (vp bn))]) ⟨rfl, rfl, trivial⟩
 refine wp_seq ?_
 refine wp_region_lit ?_
 refine wlR (ok_box rfl) rfl hF ?_
 rintro _ w ac ⟨b1, rfl, hnb_⟩ hF
 have hch_ : Ch [] _ w := hnb_.ch
 have lo_ := hnb_.lo hC.size
 have hC := hC.trans (hch_.mono (by simp))
 have hbb := hbb.mv hch_ (by simp <;> omega)
 have hbr := hbr.mv hch_ (by simp <;> omega)
 have hmet := hmet.mv hch_ (by simp <;> omega)
 have htold := htold.mv hch_ (by simp <;> omega)
 have hbtlt := hch_.lt hbtlt
 have hatn := hatn.mv hch_ (by simp <;> omega)
 have hsl : SlA w [bt] (.slice ad ks.length cap) ks.length xs := hsl.mv hch_ (by simp) (fun x hx => .inl hx)
 have hkk : IsNs w [bt] ks xs := IsNs.mv hch_ (by simp) (fun x hx => .inl hx) _ _ hkk
 have hib1 : b1 < w.heap.size := hnb_.lt
 have lob1 : w0.heap.size ≤ b1 := lo_
 have hb1 : At w b1 0 [(vp bn)] := hnb_.at
 refine wl (d_assign rfl) rfl hF (fun ac hF => ?_)
 refine wl_nil ?_
 refine then_n ?_
 refine wp_seq ?_
 refine wp_region_lit ?_
 refine wl (d_makeFunc (us := []) (vs := [(vp b1)]) rfl rfl) rfl hF (fun ac hF => ?_)
 refine wl (d_assign rfl) rfl hF (fun ac hF => ?_)
 refine wl_nil ?_
 refine then_n ?_
 refine wp_seq ?_
 refine wp_seq ?_
 refine wp_region_lit ?_
 refine wl (d_load1 Tryd.underlying83 rfl rfl (hb1 0 _ rfl)) rfl hF (fun ac hF => ?_)
 refine wl (d_nil rfl) rfl hF (fun ac hF => ?_)
 refine wl (d_fieldAddrQ Tryd.underlying112 (m := 0) sz3 rfl rfl rfl) rfl hF (fun ac hF => ?_)
 refine wl (d_load1 Tryd.underlying3 rfl rfl (hatn 0 _ rfl)) rfl hF (fun ac hF => ?_)
 refine wl_nil ?_
 refine then_n ?_
 refine wp_block ?_
 refine wp_seq ?_
 refine wp_region_lit ?_
 refine wl (d_bool (c := false) (d_eql rfl rfl) (decide_eq_false hk1)) rfl hF (fun ac hF => ?_)
 refine wl (d_assign rfl) rfl hF (fun ac hF => ?_)
 refine wl_nil ?_
 refine then_n ?_
 refine wp_cond_false (hF.eval rfl) ?_
 refine wp_seq ?_
 refine wp_region_lit ?_
 refine wl (d_bool (c := false) (d_eql rfl rfl) (decide_eq_false hk3)) rfl hF (fun ac hF => ?_)
 refine wl (d_assign rfl) rfl hF (fun ac hF => ?_)
 refine wl_nil ?_
 refine then_n ?_
 refine wp_cond_false (hF.eval rfl) ?_
 refine wp_seq ?_
 refine wp_region_lit ?_
 refine wl (d_bool (c := false) (d_eql rfl rfl) (decide_eq_false hk4)) rfl hF (fun ac hF => ?_)
 refine wl (d_assign rfl) rfl hF (fun ac hF => ?_)
 refine wl_nil ?_
 refine then_n ?_
 refine wp_cond_false (hF.eval rfl) ?_
 refine wp_seq ?_
 refine wp_region_lit ?_
 refine wl (d_bool (c := false) (d_eql rfl rfl) (decide_eq_false hk5)) rfl hF (fun ac hF => ?_)
 refine wl (d_assign rfl) rfl hF (fun ac hF => ?_)
 refine wl_nil ?_
 refine then_n ?_
 refine wp_cond_false (hF.eval rfl) ?_
 refine wp_skip ?_
 refine block_n ?_
 refine then_n ?_
 refine wp_seq ?_
 refine wp_region_lit ?_
 refine wl (d_move rfl) rfl hF (fun ac hF => ?_)
 refine wl (d_load1 Tryd.underlying83 rfl rfl (hb1 0 _ rfl)) rfl hF (fun ac hF => ?_)
 refine wl (d_nil rfl) rfl hF (fun ac hF => ?_)
 refine wl (d_fieldAddrQ Tryd.underlying112 (m := 0) sz110 rfl rfl rfl) rfl hF (fun ac hF => ?_)
 refine wl (d_load1 Tryd.underlying110 rfl rfl (hatn 2 _ rfl)) rfl hF (fun ac hF => ?_)
 refine wlR (ok_call c45 rfl (ih g1 (by omega) ks m m' r bb bt br bm rl _ _ _ _ hlen8 hq1 (fun t ht => hfit.kid ht) (Nat.le_trans hnb hC.size) hnbt (hT _ _ (hC.below hnb (by simpa using hnbt)) hw0) ⟨hbb, hbr, hmet, hne1, hne2, hne3⟩ htold hsl hkk)) rfl hF ?_
 rintro _ w ac ⟨rfl, htold, hch0_⟩ hF
 have hch_ : Ch [bt] _ w := hch0_
 have hC := hC.trans (hch_.mono (by simp))
 have hbb := hbb.mv hch_ (by simp <;> omega)
 have hbr := hbr.mv hch_ (by simp <;> omega)
 have hmet := hmet.mv hch_ (by simp <;> omega)
 have hbtlt := hch_.lt hbtlt
 have hatn := hatn.mv hch_ (by simp <;> omega)
 have hsl : SlA w [bt] (.slice ad ks.length cap) ks.length xs := hsl.mv hch_ (by simp) (fun x hx => .inl hx)
 have hkk : IsNs w [bt] ks xs := IsNs.mv hch_ (by simp) (fun x hx => .inl hx) _ _ hkk
 have hib1 := hch_.lt hib1
 have hb1 := hb1.mv hch_ (by simp <;> omega)
 refine wl (d_assign rfl) rfl hF (fun ac hF => ?_)
 refine wl_nil ?_
 refine then_n ?_
 refine wp_ret ?_
 refine body_ret hF (results1 Tryd.results82 (RV.tmp hF rfl)) ?_
 exact ⟨rfl, htold, hC⟩

set_option maxRecDepth 100000 in
set_option maxHeartbeats 4000000 in
theorem makes_atom {T0 : World → Prop} {nb : Nat} (hT : ∀ w w', Below nb w w' → T0 w → T0 w') (hjoin : JoinOk) {W : Wd} {met : Told} {f : Nat} (ih : ∀ g, g < f → BuildsOk T0 nb W met g) {n : Int} {ks : List Tm} {m m' : Told} {r : Bool} {bb bt br bm bn : Nat} {rl : Value} (w0 : World) (hany : anyOf W met f (ways W (.mk 1 n ks)) m = some (r, m')) (hfit : Fit (.mk 1 n ks)) (hnb : nb ≤ w0.heap.size) (hnbt : nb ≤ bt) (hw0 : T0 w0) (hbd : Bd w0 W met bb bt br bm rl) (htold : MapIs w0 bt m)
 (hnd : IsN w0 [bt] (.mk 1 n ks) (.pointer (some ⟨bn, 0, none⟩))) : Calls Tryd.prog 82 (List.toArray [.pointer (some ⟨bb, 0, none⟩), .pointer (some ⟨bn, 0, none⟩)]) w0 (Ret fun v w' => v = .bool r ∧ MapIs w' bt m' ∧ Ch [bt] w0 w') := by
 obtain ⟨hbb, hbr, hmet, hne1, hne2, hne3⟩ := hbd
 have hbtlt := htold.lt
 obtain ⟨sl, xs, hbn, hatn, hsl, hkk⟩ := hnd.open
 simp only [List.mem_singleton] at hbn
 obtain ⟨rfl, hm_⟩ := any_atom hany
 obtain rfl := hm_.symm
 refine calls_of Tryd.func82 rfl Tryd.ntmps82 rfl fun ac hF => ?_
 have hC : Ch [bt] w0 w0 := Ch.refl _ _
 have hF := hF.sub (L' := [(0, (vp bb)), (1, (vp bn))]) ⟨rfl, rfl, trivial⟩
 refine wp_seq ?_
 refine wp_region_lit ?_
 refine wlR (ok_box rfl) rfl hF ?_
 rintro _ w ac ⟨b1, rfl, hnb_⟩ hF
 have hch_ : Ch [] _ w := hnb_.ch
 have lo_ := hnb_.lo hC.size
 have hC := hC.trans (hch_.mono (by simp))
 have hbb := hbb.mv hch_ (by simp <;> omega)
 have hbr := hbr.mv hch_ (by simp <;> omega)
 have hmet := hmet.mv hch_ (by simp <;> omega)
 have htold := htold.mv hch_ (by simp <;> omega)
 have hbtlt := hch_.lt hbtlt
 have hatn := hatn.mv hch_ (by simp <;> omega)
 have hib1 : b1 < w.heap.size := hnb_.lt
 have lob1 : w0.heap.size ≤ b1 := lo_
 have hb1 : At w b1 0 [(vp bn)] := hnb_.at
 refine wl (d_assign rfl) rfl hF (fun ac hF => ?_)
 refine wl_nil ?_
 refine then_n ?_
 refine wp_seq ?_
 refine wp_region_lit ?_
 refine wl (d_makeFunc (us := []) (vs := [(vp b1)]) rfl rfl) rfl hF (fun ac hF => ?_)
 refine wl (d_assign rfl) rfl hF (fun ac hF => ?_)
 refine wl_nil ?_
 refine then_n ?_
 refine wp_seq ?_
 refine wp_seq ?_
 refine wp_region_lit ?_
 refine wl (d_load1 Tryd.underlying83 rfl rfl (hb1 0 _ rfl)) rfl hF (fun ac hF => ?_)
 refine wl (d_nil rfl) rfl hF (fun ac hF => ?_)
 refine wl (d_fieldAddrQ Tryd.underlying112 (m := 0) sz3 rfl rfl rfl) rfl hF (fun ac hF => ?_)
 refine wl (d_load1 Tryd.underlying3 rfl rfl (hatn 0 _ rfl)) rfl hF (fun ac hF => ?_)
 refine wl_nil ?_
 refine then_n ?_
 refine wp_block ?_
 refine wp_seq ?_
 refine wp_region_lit ?_
 refine wl (d_bool (c := true) (d_eql rfl rfl) (by decide)) rfl hF (fun ac hF => ?_)
 refine wl (d_assign rfl) rfl hF (fun ac hF => ?_)
 refine wl_nil ?_
 refine then_n ?_
 refine wp_cond_true (hF.eval rfl) ?_
 refine wp_seq ?_
 refine wp_region_lit ?_
 refine wl (d_assign rfl) rfl hF (fun ac hF => ?_)
 refine wl_nil ?_
 refine then_n ?_
 refine wp_ret ?_
 refine block_ret ?_
 refine then_ret ?_
 refine body_ret hF (results1 Tryd.results82 (RV.tmp hF rfl)) ?_
 exact ⟨rfl, htold, hC⟩
end Go.Mi.Term
