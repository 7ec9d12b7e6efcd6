/- Walks: what functions of term return. -/
import Derived.Test.YtoefhjabaanokaaDoorB6
set_option linter.unusedSimpArgs false
set_option linter.unusedVariables false
set_option linter.unnecessarySimpa false
namespace Go.Mi.Term
open Go.Mi Go.Proofs Go.RowKit
set_option linter.unusedVariables false
theorem drop_cons {α : Type} {l : List α} {i : Nat} {t : α} (h : l[i]? = some t) : l.drop i = t :: l.drop (i + 1) := by
 have hl : i < l.length := by
  rcases Nat.lt_or_ge i l.length with h' | h'
  ·exact h'
  ·simp [List.getElem?_eq_none h'] at h
 have ht : l[i] = t := by simpa [List.getElem?_eq_getElem hl] using h
 rw [List.drop_eq_getElem_cons hl, ht]

set_option maxRecDepth 100000 in
set_option maxHeartbeats 4000000 in
theorem builds_step {T0 : World → Prop} {nb : Nat} (hT : ∀ w w', Below nb w w' → T0 w → T0 w') (hjoin : JoinOk) {W : Wd} {met : Told} {f : Nat} (hmk : ∀ g, g < f → MakesOk T0 nb W met g) : BuildsOk T0 nb W met f := by
 intro l m m' r bb bt br bm rl ad cap xs w0 hl1000 hbl0 hfit hnb hnbt hw0 hbd htold hsla hns
 obtain ⟨hbb, hbr, hmet, hne1, hne2, hne3⟩ := hbd
 have hbtlt := htold.lt
 obtain ⟨ad, cap, hee, hsl⟩ := hsla.form
 cases hee
 refine calls_of Tryd.func45 rfl Tryd.ntmps45 rfl fun ac hF => ?_
 have hC : Ch [bt] w0 w0 := Ch.refl _ _
 have hF := hF.sub (L' := [(0, (vp bb)), (1, (Value.slice ad l.length cap))]) ⟨rfl, rfl, trivial⟩
 refine wp_seq ?_
 refine wp_region_lit ?_
 refine wl (d_assign rfl) rfl hF (fun ac hF => ?_)
 refine wl_nil ?_
 refine then_n ?_
 refine wp_seq ?_
 refine wp_seq ?_
 refine wp_region_lit ?_
 refine wl (d_move rfl) rfl hF (fun ac hF => ?_)
 refine wl (d_len_slice Tryd.underlying110 rfl) rfl hF (fun ac hF => ?_)
 refine wl (d_move rfl) rfl hF (fun ac hF => ?_)
 refine wl_nil ?_
 refine then_n ?_
 refine wp_block ?_
 refine wp_loop_k (fun fu_ ac w => ∃ (i fi : Nat) (mi : Told), fu_ = l.length - i ∧ (i ≤ l.length) ∧ (bl W met fi (l.drop i) mi = some (r, m')) ∧ (fi ≤ f) ∧ Frm ac 68 [(0, (vp bb)), (7, (Value.slice ad l.length cap)), (8, (vI (l.length : Int))), (9, (vI (i : Int)))] ∧ (Ch [bt] w0 w) ∧ (At w bb 0 [(vB W.dh), (vB W.kem), (vp br), (Value.map (some bt))]) ∧ (At w br 0 [rl, (Value.map (some bm))]) ∧ (MapIs w bm met) ∧ (MapIs w bt mi) ∧ (bt < w.heap.size) ∧ (IsNs w [bt] l xs) ∧ True) _ ⟨0, f, m, rfl, (by omega), hbl0, (by omega), hF.sub ⟨rfl, rfl, rfl, rfl, trivial⟩, ⟨hC, hbb, hbr, hmet, htold, hbtlt, hns, trivial⟩⟩ ?_
 rintro _ ac w ⟨i, fi, mi, rfl, hle, hbl, hfi, hF, ⟨hC, hbb, hbr, hmet, htold, hbtlt, hns, _⟩⟩
 refine wp_seq ?_
 refine wp_region_lit ?_
 refine wl (d_lss rfl rfl) rfl hF (fun ac hF => ?_)
 refine wl_nil ?_
 refine then_n ?_
 refine wp_seq ?_
 refine wp_if hF rfl (fun h => ?_) (fun h => ?_)
 ·have hlt := of_decide_eq_true h
  clear h
  obtain ⟨b0, o0, hae, hb0, hat0⟩ := hsl (by omega)
  have hat0 := hat0.mv hC hb0
  obtain ⟨t1, hi⟩ : ∃ t, l[i]? = some t := ⟨_, List.getElem?_eq_getElem (by omega)⟩
  have hmem : t1 ∈ l := List.mem_of_getElem? hi
  obtain ⟨v1, hxi, hn1⟩ := hns.at i t1 hi
  obtain ⟨bn, kn, nn, sn, rfl, hbn, hatn⟩ := hn1.form
  simp only [List.mem_singleton] at hbn
  obtain ⟨g, m4, hg, hif, hcase⟩ := bl_cons (show bl W met fi (t1 :: l.drop (i + 1)) mi = some (r, m') by rw [← drop_cons hi]; exact hbl)
  refine wp_skip ?_
  refine then_n ?_
  refine wp_seq ?_
  refine wp_block ?_
  refine wp_seq ?_
  refine wp_region_lit ?_
  refine wl (d_ixS (b := b0) (o := o0) (j := i) Tryd.underlying110 sz83 (by rw [← hae]; rfl) rfl rfl (by omega)) rfl hF (fun ac hF => ?_)
  refine wl (d_load1 Tryd.underlying83 rfl rfl (hat0 i _ hxi)) rfl hF (fun ac hF => ?_)
  refine wl (d_assign rfl) rfl hF (fun ac hF => ?_)
  refine wl_nil ?_
  refine then_n ?_
  refine wp_seq ?_
  refine wp_seq ?_
  obtain ⟨A1_0, hA1_0⟩ : ∃ A : (Nat → Value) → World → Prop, A = fun _ w => (Ch [bt] w0 w) ∧ (At w bb 0 [(vB W.dh), (vB W.kem), (vp br), (Value.map (some bt))]) ∧ (At w br 0 [rl, (Value.map (some bm))]) ∧ (MapIs w bm met) ∧ (MapIs w bt mi) ∧ (bt < w.heap.size) ∧ (IsNs w [bt] l xs) ∧ (At w bn 0 [(vI kn), (vI nn), sn, (vT (txt t1))]) ∧ (IsN w [bt] t1 (.pointer (some ⟨bn, 0, none⟩))) ∧ True := ⟨_, rfl⟩
  refine region_hist mo (fun p_ H_ w_ => (([A1_0] : List ((Nat → Value) → World → Prop)).getD p_ (fun _ _ => True)) H_ w_) [] (rows := [hr_ [] [(0, (vp bb))] [0] (vp bb), hr_ [(0, 13)] [] [0] (vp bb), hr_ [(1, 14)] [] [0] (vP bb 3), hr_ [(2, 15)] [] [0] (Value.map (some bt)), hr_ [] [(6, (vp bn))] [0] (vp bn), hr_ [(4, 17)] [] [0] (vp bn), hr_ [(5, 18)] [] [0] (vP bn 3), hr_ [(6, 19)] [] [0] (vT (txt t1)), hr_ [(3, 16), (7, 20)] [] [0] (vI (tl mi (txt t1))), hr_ [(8, 21)] [] [0] (vB (decide ((tl mi (txt t1)) = 0)))]) (by kernel_rfl) hF (fun H_ => ?_) ?_ ?_
  ·have hch_ := Ch.drew w
   have hfin_ : A1_0 H_ { w with drawn := w.drawn + 1 } := by rw [hA1_0]; exact ⟨hC.trans (hch_.mono (by simp)), hbb.mv hch_ (by simp <;> omega), hbr.mv hch_ (by simp <;> omega), hmet.mv hch_ (by simp <;> omega), htold.mv hch_ (by simp <;> omega), hch_.lt hbtlt, IsNs.mv hch_ (by simp) (fun x hx => .inl hx) _ _ hns, hatn.mv hch_ (by simp <;> omega), IsN.mv hch_ (by simp) (fun x hx => .inl hx) _ _ hn1, trivial⟩
   exact hfin_
  ·refine ⟨?_, ?_, ?_, ?_, ?_, ?_, ?_, ?_, ?_, ?_, trivial⟩
   ·exact HOb.pure ⟨rfl, trivial⟩ rfl rfl (fun _ _ => d_move rfl)
   ·exact HOb.pure trivial rfl rfl (fun _ _ => d_nil rfl)
   ·exact HOb.pure trivial rfl rfl (fun _ _ => d_fieldAddrQ Tryd.underlying116 (m := 0) sz114 rfl rfl rfl)
   ·exact HOb.fact hA1_0 trivial rfl rfl rfl rfl (fun H1 w ⟨_, hbb, _⟩ => d_load1 Tryd.underlying114 rfl rfl (hbb 3 _ rfl))
   ·exact HOb.pure ⟨rfl, trivial⟩ rfl rfl (fun _ _ => d_move rfl)
   ·exact HOb.pure trivial rfl rfl (fun _ _ => d_nil rfl)
   ·exact HOb.pure trivial rfl rfl (fun _ _ => d_fieldAddrQ Tryd.underlying112 (m := 0) sz9 rfl rfl rfl)
   ·exact HOb.fact hA1_0 trivial rfl rfl rfl rfl (fun H1 w ⟨_, _, _, _, _, _, _, hatn, _⟩ => d_load1 Tryd.underlying9 rfl rfl (hatn 3 _ rfl))
   ·exact HOb.fact hA1_0 trivial rfl rfl rfl rfl (fun H1 w ⟨_, _, _, _, htold, _⟩ => d_lookup (m := mi) (k := txt t1) Tryd.underlying114 Tryd.underlying9 (by kernel_rfl) rfl rfl htold)
   ·exact HOb.pure trivial rfl rfl (fun _ _ => d_eql rfl rfl)
  ·intro ac w H1 hW hF
   replace hW : A1_0 H1 w := hW
   rw [hA1_0] at hW
   obtain ⟨hC, hbb, hbr, hmet, htold, hbtlt, hns, hatn, hn1, _⟩ := hW
   clear hA1_0 A1_0
   have hF := hF.sub (L' := [(0, (vp bb)), (6, (vp bn)), (7, (Value.slice ad l.length cap)), (8, (vI (l.length : Int))), (9, (vI (i : Int))), (10, (vB (decide ((i : Int) < (l.length : Int))))), (22, (vB (decide ((tl mi (txt t1)) = 0))))]) ⟨rfl, rfl, rfl, rfl, rfl, rfl, rfl, trivial⟩
   refine then_n ?_
   refine wp_if hF rfl (fun h => ?_) (fun h => ?_)
   ·have h0 := of_decide_eq_true h
    clear h
    replace hcase := hcase.resolve_left (fun h => h.1 h0)
    refine wp_seq ?_
    obtain ⟨A2_0, hA2_0⟩ : ∃ A : (Nat → Value) → World → Prop, A = fun _ w => (Ch [bt] w0 w) ∧ (At w bb 0 [(vB W.dh), (vB W.kem), (vp br), (Value.map (some bt))]) ∧ (At w br 0 [rl, (Value.map (some bm))]) ∧ (MapIs w bm met) ∧ (MapIs w bt mi) ∧ (bt < w.heap.size) ∧ (IsNs w [bt] l xs) ∧ (At w bn 0 [(vI kn), (vI nn), sn, (vT (txt t1))]) ∧ (IsN w [bt] t1 (.pointer (some ⟨bn, 0, none⟩))) ∧ True := ⟨_, rfl⟩
    obtain ⟨A2_1, hA2_1⟩ : ∃ A : (Nat → Value) → World → Prop, A = fun _ w => (Ch [bt] w0 w) ∧ (At w bb 0 [(vB W.dh), (vB W.kem), (vp br), (Value.map (some bt))]) ∧ (At w br 0 [rl, (Value.map (some bm))]) ∧ (MapIs w bm met) ∧ (MapIs w bt (st mi (txt t1) 2)) ∧ (bt < w.heap.size) ∧ (IsNs w [bt] l xs) ∧ (At w bn 0 [(vI kn), (vI nn), sn, (vT (txt t1))]) ∧ (IsN w [bt] t1 (.pointer (some ⟨bn, 0, none⟩))) ∧ True := ⟨_, rfl⟩
    refine region_hist mo (fun p_ H_ w_ => (([A2_0, A2_1] : List ((Nat → Value) → World → Prop)).getD p_ (fun _ _ => True)) H_ w_) [8] (rows := [hr_ [] [(0, (vp bb))] [0] (vp bb), hr_ [(0, 23)] [] [0] (vp bb), hr_ [(1, 24)] [] [0] (vP bb 3), hr_ [(2, 25)] [] [0] (Value.map (some bt)), hr_ [] [(6, (vp bn))] [0] (vp bn), hr_ [(4, 27)] [] [0] (vp bn), hr_ [(5, 28)] [] [0] (vP bn 3), hr_ [(6, 29)] [] [0] (vT (txt t1)), ⟨[(3, 26), (7, 30)], [], [0], [8], fun H2 => H2 8, fun H2 K_ h_ => by simp only [h_ 8 (by simp)]⟩]) (by kernel_rfl) hF (fun H_ => ?_) ?_ ?_
    ·have hch_ := Ch.drew w
     have hfin_ : A2_0 H_ { w with drawn := w.drawn + 1 } := by rw [hA2_0]; exact ⟨hC.trans (hch_.mono (by simp)), hbb.mv hch_ (by simp <;> omega), hbr.mv hch_ (by simp <;> omega), hmet.mv hch_ (by simp <;> omega), htold.mv hch_ (by simp <;> omega), hch_.lt hbtlt, IsNs.mv hch_ (by simp) (fun x hx => .inl hx) _ _ hns, hatn.mv hch_ (by simp <;> omega), IsN.mv hch_ (by simp) (fun x hx => .inl hx) _ _ hn1, trivial⟩
     exact hfin_
    ·refine ⟨?_, ?_, ?_, ?_, ?_, ?_, ?_, ?_, ?_, trivial⟩
     ·exact HOb.pure ⟨rfl, trivial⟩ rfl rfl (fun _ _ => d_move rfl)
     ·exact HOb.pure trivial rfl rfl (fun _ _ => d_nil rfl)
     ·exact HOb.pure trivial rfl rfl (fun _ _ => d_fieldAddrQ Tryd.underlying116 (m := 0) sz114 rfl rfl rfl)
     ·exact HOb.fact hA2_0 trivial rfl rfl rfl rfl (fun H2 w ⟨_, hbb, _⟩ => d_load1 Tryd.underlying114 rfl rfl (hbb 3 _ rfl))
     ·exact HOb.pure ⟨rfl, trivial⟩ rfl rfl (fun _ _ => d_move rfl)
     ·exact HOb.pure trivial rfl rfl (fun _ _ => d_nil rfl)
     ·exact HOb.pure trivial rfl rfl (fun _ _ => d_fieldAddrQ Tryd.underlying112 (m := 0) sz9 rfl rfl rfl)
     ·exact HOb.fact hA2_0 trivial rfl rfl rfl rfl (fun H2 w ⟨_, _, _, _, _, _, _, hatn, _⟩ => d_load1 Tryd.underlying9 rfl rfl (hatn 3 _ rfl))
     ·refine ⟨trivial, fun ph_ hp_ H2 w hW => ?_⟩
      obtain rfl := memN_one hp_
      replace hW : A2_0 H2 w := hW
      rw [hA2_0] at hW
      obtain ⟨hC, hbb, hbr, hmet, htold, hbtlt, hns, hatn, hn1, _⟩ := hW
      refine Ok1.mono (ok_mapUpdate (m := mi) (k := txt t1) (v := 2) Tryd.underlying114 Tryd.underlying9 rfl rfl rfl htold) ?_
      rintro v_ w' ⟨htold, hch0_⟩
      have hch_ : Ch [bt] _ w' := hch0_
      have hC := hC.trans (hch_.mono (by simp))
      have hbb := hbb.mv hch_ (by simp <;> omega)
      have hbr := hbr.mv hch_ (by simp <;> omega)
      have hmet := hmet.mv hch_ (by simp <;> omega)
      have hbtlt := hch_.lt hbtlt
      have hns : IsNs w' [bt] l xs := IsNs.mv hch_ (by simp) (fun x hx => .inl hx) _ _ hns
      have hatn := hatn.mv hch_ (by simp <;> omega)
      have hn1 : IsN w' [bt] t1 (.pointer (some ⟨bn, 0, none⟩)) := IsN.mv hch_ (by simp) (fun x hx => .inl hx) _ _ hn1
      have hfin_ : A2_1 (updV H2 8 v_) w' := by rw [hA2_1]; exact ⟨hC, hbb, hbr, hmet, htold, hbtlt, hns, hatn, hn1, trivial⟩
      exact fin_ rfl ⟨hfin_, rfl⟩
    ·intro ac w H2 hW hF
     replace hW : A2_1 H2 w := hW
     rw [hA2_1] at hW
     obtain ⟨hC, hbb, hbr, hmet, htold, hbtlt, hns, hatn, hn1, _⟩ := hW
     clear hA2_0 A2_0 hA2_1 A2_1
     have hF := hF.sub (L' := [(0, (vp bb)), (6, (vp bn)), (7, (Value.slice ad l.length cap)), (8, (vI (l.length : Int))), (9, (vI (i : Int))), (10, (vB (decide ((i : Int) < (l.length : Int))))), (22, (vB (decide ((tl mi (txt t1)) = 0))))]) ⟨rfl, rfl, rfl, rfl, rfl, rfl, rfl, trivial⟩
     refine then_n ?_
     refine wp_seq ?_
     have hcase2 : (0 < tl met (txt t1) ∧ m4 = st (st mi (txt t1) 2) (txt t1) 1) ∨ (¬ 0 < tl met (txt t1) ∧ ∃ m3, anyOf W met g (ways W t1) (st mi (txt t1) 2) = some (true, m3) ∧ m4 = st m3 (txt t1) 1) ∨ (¬ 0 < tl met (txt t1) ∧ ∃ m3, anyOf W met g (ways W t1) (st mi (txt t1) 2) = some (false, m3) ∧ m3 = m4) := by
      rcases hcase.2 with h | ⟨h1, b3, m3, h3, h4⟩
      ·exact .inl h
      ·cases b3
       ·exact .inr (.inr ⟨h1, m3, h3, h4.symm⟩)
       ·exact .inr (.inl ⟨h1, m3, h3, h4⟩)
     rcases hcase2 with ⟨hpos, rfl⟩ | ⟨hpos, m3, hany, rfl⟩ | ⟨hpos, m3, hany, rfl⟩
     ·skip
      obtain ⟨A3_0, hA3_0⟩ : ∃ A : (Nat → Value) → World → Prop, A = fun _ w => (Ch [bt] w0 w) ∧ (At w bb 0 [(vB W.dh), (vB W.kem), (vp br), (Value.map (some bt))]) ∧ (At w br 0 [rl, (Value.map (some bm))]) ∧ (MapIs w bm met) ∧ (MapIs w bt (st mi (txt t1) 2)) ∧ (bt < w.heap.size) ∧ (IsNs w [bt] l xs) ∧ (At w bn 0 [(vI kn), (vI nn), sn, (vT (txt t1))]) ∧ (IsN w [bt] t1 (.pointer (some ⟨bn, 0, none⟩))) ∧ True := ⟨_, rfl⟩
      refine region_hist mo (fun p_ H_ w_ => (([A3_0] : List ((Nat → Value) → World → Prop)).getD p_ (fun _ _ => True)) H_ w_) [] (rows := [hr_ [] [(0, (vp bb))] [0] (vp bb), hr_ [(0, 31)] [] [0] (vp bb), hr_ [(1, 32)] [] [0] (vP bb 2), hr_ [(2, 33)] [] [0] (vp br), hr_ [(3, 34)] [] [0] (vp br), hr_ [(4, 35)] [] [0] (vP br 1), hr_ [(5, 36)] [] [0] (Value.map (some bm)), hr_ [] [(6, (vp bn))] [0] (vp bn), hr_ [(7, 38)] [] [0] (vp bn), hr_ [(8, 39)] [] [0] (vP bn 3), hr_ [(9, 40)] [] [0] (vT (txt t1)), hr_ [(6, 37), (10, 41)] [] [0] (vI (tl met (txt t1))), hr_ [(11, 42)] [] [0] vt, hr_ [(12, 43)] [] [0] vt, hr_ [(13, 44)] [(0, (vp bb))] [0] undef, hr_ [(13, 44)] [(6, (vp bn))] [0] undef, hr_ [(14, 45), (15, 46), (13, 44)] [] [0] undef, hr_ [(13, 44), (16, 47)] [] [0] vt]) (by kernel_rfl) hF (fun H_ => ?_) ?_ ?_
      ·have hch_ := Ch.drew w
       have hfin_ : A3_0 H_ { w with drawn := w.drawn + 1 } := by rw [hA3_0]; exact ⟨hC.trans (hch_.mono (by simp)), hbb.mv hch_ (by simp <;> omega), hbr.mv hch_ (by simp <;> omega), hmet.mv hch_ (by simp <;> omega), htold.mv hch_ (by simp <;> omega), hch_.lt hbtlt, IsNs.mv hch_ (by simp) (fun x hx => .inl hx) _ _ hns, hatn.mv hch_ (by simp <;> omega), IsN.mv hch_ (by simp) (fun x hx => .inl hx) _ _ hn1, trivial⟩
       exact hfin_
      ·refine ⟨?_, ?_, ?_, ?_, ?_, ?_, ?_, ?_, ?_, ?_, ?_, ?_, ?_, ?_, ?_, ?_, ?_, ?_, trivial⟩
       ·exact HOb.pure ⟨rfl, trivial⟩ rfl rfl (fun _ _ => d_move rfl)
       ·exact HOb.pure trivial rfl rfl (fun _ _ => d_nil rfl)
       ·exact HOb.pure trivial rfl rfl (fun _ _ => d_fieldAddrQ Tryd.underlying116 (m := 0) sz80 rfl rfl rfl)
       ·exact HOb.fact hA3_0 trivial rfl rfl rfl rfl (fun H3 w ⟨_, hbb, _⟩ => d_load1 Tryd.underlying80 rfl rfl (hbb 2 _ rfl))
       ·exact HOb.pure trivial rfl rfl (fun _ _ => d_nil rfl)
       ·exact HOb.pure trivial rfl rfl (fun _ _ => d_fieldAddrQ Tryd.underlying118 (m := 0) sz114 rfl rfl rfl)
       ·exact HOb.fact hA3_0 trivial rfl rfl rfl rfl (fun H3 w ⟨_, _, hbr, _⟩ => d_load1 Tryd.underlying114 rfl rfl (hbr 1 _ rfl))
       ·exact HOb.pure ⟨rfl, trivial⟩ rfl rfl (fun _ _ => d_move rfl)
       ·exact HOb.pure trivial rfl rfl (fun _ _ => d_nil rfl)
       ·exact HOb.pure trivial rfl rfl (fun _ _ => d_fieldAddrQ Tryd.underlying112 (m := 0) sz9 rfl rfl rfl)
       ·exact HOb.fact hA3_0 trivial rfl rfl rfl rfl (fun H3 w ⟨_, _, _, _, _, _, _, hatn, _⟩ => d_load1 Tryd.underlying9 rfl rfl (hatn 3 _ rfl))
       ·exact HOb.fact hA3_0 trivial rfl rfl rfl rfl (fun H3 w ⟨_, _, _, hmet, _⟩ => d_lookup (m := met) (k := txt t1) Tryd.underlying114 Tryd.underlying9 (by kernel_rfl) rfl rfl hmet)
       ·exact HOb.pure trivial rfl rfl (fun _ _ => d_bool (c := true) (d_gtr rfl rfl) (decide_eq_true hpos))
       ·exact HOb.pure trivial rfl rfl (fun _ _ => d_move rfl)
       ·exact HOb.skip ⟨rfl, trivial⟩ rfl rfl (fun _ => rfl) (by decide) rfl (fun _ => rfl)
       ·exact HOb.skip ⟨rfl, trivial⟩ rfl rfl (fun _ => rfl) (by decide) rfl (fun _ => rfl)
       ·exact HOb.skip trivial rfl rfl (fun _ => rfl) (by decide) rfl (fun _ => rfl)
       ·exact HOb.pure trivial rfl rfl (fun _ _ => d_pick (b := true) rfl rfl)
      ·intro ac w H3 hW hF
       replace hW : A3_0 H3 w := hW
       rw [hA3_0] at hW
       obtain ⟨hC, hbb, hbr, hmet, htold, hbtlt, hns, hatn, hn1, _⟩ := hW
       clear hA3_0 A3_0
       have hF := hF.sub (L' := [(0, (vp bb)), (6, (vp bn)), (7, (Value.slice ad l.length cap)), (8, (vI (l.length : Int))), (9, (vI (i : Int))), (10, (vB (decide ((i : Int) < (l.length : Int))))), (22, (vB (decide ((tl mi (txt t1)) = 0)))), (48, vt)]) ⟨rfl, rfl, rfl, rfl, rfl, rfl, rfl, rfl, trivial⟩
       refine then_n ?_
       refine wp_cond_true (hF.eval rfl) ?_
       obtain ⟨A4_0, hA4_0⟩ : ∃ A : (Nat → Value) → World → Prop, A = fun _ w => (Ch [bt] w0 w) ∧ (At w bb 0 [(vB W.dh), (vB W.kem), (vp br), (Value.map (some bt))]) ∧ (At w br 0 [rl, (Value.map (some bm))]) ∧ (MapIs w bm met) ∧ (MapIs w bt (st mi (txt t1) 2)) ∧ (bt < w.heap.size) ∧ (IsNs w [bt] l xs) ∧ (At w bn 0 [(vI kn), (vI nn), sn, (vT (txt t1))]) ∧ (IsN w [bt] t1 (.pointer (some ⟨bn, 0, none⟩))) ∧ True := ⟨_, rfl⟩
       obtain ⟨A4_1, hA4_1⟩ : ∃ A : (Nat → Value) → World → Prop, A = fun _ w => (Ch [bt] w0 w) ∧ (At w bb 0 [(vB W.dh), (vB W.kem), (vp br), (Value.map (some bt))]) ∧ (At w br 0 [rl, (Value.map (some bm))]) ∧ (MapIs w bm met) ∧ (MapIs w bt (st (st mi (txt t1) 2) (txt t1) 1)) ∧ (bt < w.heap.size) ∧ (IsNs w [bt] l xs) ∧ (At w bn 0 [(vI kn), (vI nn), sn, (vT (txt t1))]) ∧ (IsN w [bt] t1 (.pointer (some ⟨bn, 0, none⟩))) ∧ True := ⟨_, rfl⟩
       refine region_hist mo (fun p_ H_ w_ => (([A4_0, A4_1] : List ((Nat → Value) → World → Prop)).getD p_ (fun _ _ => True)) H_ w_) [8] (rows := [hr_ [] [(0, (vp bb))] [0] (vp bb), hr_ [(0, 49)] [] [0] (vp bb), hr_ [(1, 50)] [] [0] (vP bb 3), hr_ [(2, 51)] [] [0] (Value.map (some bt)), hr_ [] [(6, (vp bn))] [0] (vp bn), hr_ [(4, 53)] [] [0] (vp bn), hr_ [(5, 54)] [] [0] (vP bn 3), hr_ [(6, 55)] [] [0] (vT (txt t1)), ⟨[(3, 52), (7, 56)], [], [0], [8], fun H4 => H4 8, fun H4 K_ h_ => by simp only [h_ 8 (by simp)]⟩]) (by kernel_rfl) hF (fun H_ => ?_) ?_ ?_
       ·have hch_ := Ch.drew w
        have hfin_ : A4_0 H_ { w with drawn := w.drawn + 1 } := by rw [hA4_0]; exact ⟨hC.trans (hch_.mono (by simp)), hbb.mv hch_ (by simp <;> omega), hbr.mv hch_ (by simp <;> omega), hmet.mv hch_ (by simp <;> omega), htold.mv hch_ (by simp <;> omega), hch_.lt hbtlt, IsNs.mv hch_ (by simp) (fun x hx => .inl hx) _ _ hns, hatn.mv hch_ (by simp <;> omega), IsN.mv hch_ (by simp) (fun x hx => .inl hx) _ _ hn1, trivial⟩
        exact hfin_
       ·refine ⟨?_, ?_, ?_, ?_, ?_, ?_, ?_, ?_, ?_, trivial⟩
        ·exact HOb.pure ⟨rfl, trivial⟩ rfl rfl (fun _ _ => d_move rfl)
        ·exact HOb.pure trivial rfl rfl (fun _ _ => d_nil rfl)
        ·exact HOb.pure trivial rfl rfl (fun _ _ => d_fieldAddrQ Tryd.underlying116 (m := 0) sz114 rfl rfl rfl)
        ·exact HOb.fact hA4_0 trivial rfl rfl rfl rfl (fun H4 w ⟨_, hbb, _⟩ => d_load1 Tryd.underlying114 rfl rfl (hbb 3 _ rfl))
        ·exact HOb.pure ⟨rfl, trivial⟩ rfl rfl (fun _ _ => d_move rfl)
        ·exact HOb.pure trivial rfl rfl (fun _ _ => d_nil rfl)
        ·exact HOb.pure trivial rfl rfl (fun _ _ => d_fieldAddrQ Tryd.underlying112 (m := 0) sz9 rfl rfl rfl)
        ·exact HOb.fact hA4_0 trivial rfl rfl rfl rfl (fun H4 w ⟨_, _, _, _, _, _, _, hatn, _⟩ => d_load1 Tryd.underlying9 rfl rfl (hatn 3 _ rfl))
        ·refine ⟨trivial, fun ph_ hp_ H4 w hW => ?_⟩
         obtain rfl := memN_one hp_
         replace hW : A4_0 H4 w := hW
         rw [hA4_0] at hW
         obtain ⟨hC, hbb, hbr, hmet, htold, hbtlt, hns, hatn, hn1, _⟩ := hW
         refine Ok1.mono (ok_mapUpdate (m := st mi (txt t1) 2) (k := txt t1) (v := 1) Tryd.underlying114 Tryd.underlying9 rfl rfl rfl htold) ?_
         rintro v_ w' ⟨htold, hch0_⟩
         have hch_ : Ch [bt] _ w' := hch0_
         have hC := hC.trans (hch_.mono (by simp))
         have hbb := hbb.mv hch_ (by simp <;> omega)
         have hbr := hbr.mv hch_ (by simp <;> omega)
         have hmet := hmet.mv hch_ (by simp <;> omega)
         have hbtlt := hch_.lt hbtlt
         have hns : IsNs w' [bt] l xs := IsNs.mv hch_ (by simp) (fun x hx => .inl hx) _ _ hns
         have hatn := hatn.mv hch_ (by simp <;> omega)
         have hn1 : IsN w' [bt] t1 (.pointer (some ⟨bn, 0, none⟩)) := IsN.mv hch_ (by simp) (fun x hx => .inl hx) _ _ hn1
         have hfin_ : A4_1 (updV H4 8 v_) w' := by rw [hA4_1]; exact ⟨hC, hbb, hbr, hmet, htold, hbtlt, hns, hatn, hn1, trivial⟩
         exact fin_ rfl ⟨hfin_, rfl⟩
       ·intro ac w H4 hW hF
        replace hW : A4_1 H4 w := hW
        rw [hA4_1] at hW
        obtain ⟨hC, hbb, hbr, hmet, htold, hbtlt, hns, hatn, hn1, _⟩ := hW
        clear hA4_0 A4_0 hA4_1 A4_1
        have hF := hF.sub (L' := [(0, (vp bb)), (6, (vp bn)), (7, (Value.slice ad l.length cap)), (8, (vI (l.length : Int))), (9, (vI (i : Int))), (10, (vB (decide ((i : Int) < (l.length : Int))))), (22, (vB (decide ((tl mi (txt t1)) = 0)))), (48, vt)]) ⟨rfl, rfl, rfl, rfl, rfl, rfl, rfl, rfl, trivial⟩
        refine then_n ?_
        refine wp_seq ?_
        obtain ⟨A5_0, hA5_0⟩ : ∃ A : (Nat → Value) → World → Prop, A = fun _ w => (Ch [bt] w0 w) ∧ (At w bb 0 [(vB W.dh), (vB W.kem), (vp br), (Value.map (some bt))]) ∧ (At w br 0 [rl, (Value.map (some bm))]) ∧ (MapIs w bm met) ∧ (MapIs w bt (st (st mi (txt t1) 2) (txt t1) 1)) ∧ (bt < w.heap.size) ∧ (IsNs w [bt] l xs) ∧ (At w bn 0 [(vI kn), (vI nn), sn, (vT (txt t1))]) ∧ (IsN w [bt] t1 (.pointer (some ⟨bn, 0, none⟩))) ∧ True := ⟨_, rfl⟩
        refine region_hist mo (fun p_ H_ w_ => (([A5_0] : List ((Nat → Value) → World → Prop)).getD p_ (fun _ _ => True)) H_ w_) [] (rows := [hr_ [] [(0, (vp bb))] [0] (vp bb), hr_ [(0, 57)] [] [0] (vp bb), hr_ [(1, 58)] [] [0] (vP bb 3), hr_ [(2, 59)] [] [0] (Value.map (some bt)), hr_ [] [(6, (vp bn))] [0] (vp bn), hr_ [(4, 61)] [] [0] (vp bn), hr_ [(5, 62)] [] [0] (vP bn 3), hr_ [(6, 63)] [] [0] (vT (txt t1)), hr_ [(3, 60), (7, 64)] [] [0] (vI (tl (st (st mi (txt t1) 2) (txt t1) 1) (txt t1))), hr_ [(8, 65)] [] [0] (vB (decide ((tl (st (st mi (txt t1) 2) (txt t1) 1) (txt t1)) = 2)))]) (by kernel_rfl) hF (fun H_ => ?_) ?_ ?_
        ·have hch_ := Ch.drew w
         have hfin_ : A5_0 H_ { w with drawn := w.drawn + 1 } := by rw [hA5_0]; exact ⟨hC.trans (hch_.mono (by simp)), hbb.mv hch_ (by simp <;> omega), hbr.mv hch_ (by simp <;> omega), hmet.mv hch_ (by simp <;> omega), htold.mv hch_ (by simp <;> omega), hch_.lt hbtlt, IsNs.mv hch_ (by simp) (fun x hx => .inl hx) _ _ hns, hatn.mv hch_ (by simp <;> omega), IsN.mv hch_ (by simp) (fun x hx => .inl hx) _ _ hn1, trivial⟩
         exact hfin_
        ·refine ⟨?_, ?_, ?_, ?_, ?_, ?_, ?_, ?_, ?_, ?_, trivial⟩
         ·exact HOb.pure ⟨rfl, trivial⟩ rfl rfl (fun _ _ => d_move rfl)
         ·exact HOb.pure trivial rfl rfl (fun _ _ => d_nil rfl)
         ·exact HOb.pure trivial rfl rfl (fun _ _ => d_fieldAddrQ Tryd.underlying116 (m := 0) sz114 rfl rfl rfl)
         ·exact HOb.fact hA5_0 trivial rfl rfl rfl rfl (fun H5 w ⟨_, hbb, _⟩ => d_load1 Tryd.underlying114 rfl rfl (hbb 3 _ rfl))
         ·exact HOb.pure ⟨rfl, trivial⟩ rfl rfl (fun _ _ => d_move rfl)
         ·exact HOb.pure trivial rfl rfl (fun _ _ => d_nil rfl)
         ·exact HOb.pure trivial rfl rfl (fun _ _ => d_fieldAddrQ Tryd.underlying112 (m := 0) sz9 rfl rfl rfl)
         ·exact HOb.fact hA5_0 trivial rfl rfl rfl rfl (fun H5 w ⟨_, _, _, _, _, _, _, hatn, _⟩ => d_load1 Tryd.underlying9 rfl rfl (hatn 3 _ rfl))
         ·exact HOb.fact hA5_0 trivial rfl rfl rfl rfl (fun H5 w ⟨_, _, _, _, htold, _⟩ => d_lookup (m := st (st mi (txt t1) 2) (txt t1) 1) (k := txt t1) Tryd.underlying114 Tryd.underlying9 (by kernel_rfl) rfl rfl htold)
         ·exact HOb.pure trivial rfl rfl (fun _ _ => d_eql rfl rfl)
        ·intro ac w H5 hW hF
         replace hW : A5_0 H5 w := hW
         rw [hA5_0] at hW
         obtain ⟨hC, hbb, hbr, hmet, htold, hbtlt, hns, hatn, hn1, _⟩ := hW
         clear hA5_0 A5_0
         have hF := hF.sub (L' := [(0, (vp bb)), (6, (vp bn)), (7, (Value.slice ad l.length cap)), (8, (vI (l.length : Int))), (9, (vI (i : Int))), (10, (vB (decide ((i : Int) < (l.length : Int))))), (22, (vB (decide ((tl mi (txt t1)) = 0)))), (48, vt), (66, (vB (decide ((tl (st (st mi (txt t1) 2) (txt t1) 1) (txt t1)) = 2))))]) ⟨rfl, rfl, rfl, rfl, rfl, rfl, rfl, rfl, rfl, trivial⟩
         refine then_n ?_
         refine wp_if hF rfl (fun h => ?_) (fun h => ?_)
         ·have h2 := of_decide_eq_true h
          clear h
          have hfin : r = false ∧ m' = _ := (if_pos h2 ▸ hif)
          refine wp_seq ?_
          refine wp_region_lit ?_
          refine wl (d_assign rfl) rfl hF (fun ac hF => ?_)
          refine wl_nil ?_
          refine then_n ?_
          refine wp_ret ?_
          refine block_ret ?_
          refine then_ret ?_
          refine then_ret ?_
          refine block_ret ?_
          refine then_ret ?_
          refine body_ret hF (results1 Tryd.results45 (RV.tmp hF rfl)) ?_
          exact ⟨by rw [hfin.1], by rw [hfin.2]; exact htold, hC⟩
         ·have h2 := of_decide_eq_false h
          clear h
          have hnext : bl W met g (l.drop (i + 1)) _ = some (r, m') := (if_neg h2 ▸ hif)
          refine wp_skip ?_
          refine block_n ?_
          refine then_n ?_
          refine wp_region_lit ?_
          refine wl (d_add rfl rfl (wrap_i64 (by omega) (by omega))) rfl hF (fun ac hF => ?_)
          refine wl (d_move rfl) rfl hF (fun ac hF => ?_)
          refine wl_nil ?_
          refine then_n ?_
          refine ⟨_, ?_, i + 1, g, _, rfl, (by omega), hnext, (by omega), hF.sub ⟨rfl, rfl, rfl, rfl, trivial⟩, ⟨hC, hbb, hbr, hmet, htold, hbtlt, hns, trivial⟩⟩
          omega
     ·skip
      obtain ⟨A6_0, hA6_0⟩ : ∃ A : (Nat → Value) → World → Prop, A = fun _ w => (Ch [bt] w0 w) ∧ (At w bb 0 [(vB W.dh), (vB W.kem), (vp br), (Value.map (some bt))]) ∧ (At w br 0 [rl, (Value.map (some bm))]) ∧ (MapIs w bm met) ∧ (MapIs w bt (st mi (txt t1) 2)) ∧ (bt < w.heap.size) ∧ (IsNs w [bt] l xs) ∧ (At w bn 0 [(vI kn), (vI nn), sn, (vT (txt t1))]) ∧ (IsN w [bt] t1 (.pointer (some ⟨bn, 0, none⟩))) ∧ True := ⟨_, rfl⟩
      obtain ⟨A6_1, hA6_1⟩ : ∃ A : (Nat → Value) → World → Prop, A = fun _ w => (Ch [bt] w0 w) ∧ (At w bb 0 [(vB W.dh), (vB W.kem), (vp br), (Value.map (some bt))]) ∧ (At w br 0 [rl, (Value.map (some bm))]) ∧ (MapIs w bm met) ∧ (MapIs w bt m3) ∧ (bt < w.heap.size) ∧ (IsNs w [bt] l xs) ∧ (At w bn 0 [(vI kn), (vI nn), sn, (vT (txt t1))]) ∧ (IsN w [bt] t1 (.pointer (some ⟨bn, 0, none⟩))) ∧ True := ⟨_, rfl⟩
      refine region_hist mo (fun p_ H_ w_ => (([A6_0, A6_1] : List ((Nat → Value) → World → Prop)).getD p_ (fun _ _ => True)) H_ w_) [16] (rows := [hr_ [] [(0, (vp bb))] [0] (vp bb), hr_ [(0, 31)] [] [0] (vp bb), hr_ [(1, 32)] [] [0] (vP bb 2), hr_ [(2, 33)] [] [0] (vp br), hr_ [(3, 34)] [] [0] (vp br), hr_ [(4, 35)] [] [0] (vP br 1), hr_ [(5, 36)] [] [0] (Value.map (some bm)), hr_ [] [(6, (vp bn))] [0] (vp bn), hr_ [(7, 38)] [] [0] (vp bn), hr_ [(8, 39)] [] [0] (vP bn 3), hr_ [(9, 40)] [] [0] (vT (txt t1)), hr_ [(6, 37), (10, 41)] [] [0] (vI (tl met (txt t1))), hr_ [(11, 42)] [] [0] vf, hr_ [(12, 43)] [] [0] vf, hr_ [(13, 44)] [(0, (vp bb))] [0] (vp bb), hr_ [(13, 44)] [(6, (vp bn))] [0] (vp bn), hr_ [(14, 45), (15, 46), (13, 44)] [] [0] vt, hr_ [(13, 44), (16, 47)] [] [1] vt]) (by kernel_rfl) hF (fun H_ => ?_) ?_ ?_
      ·have hch_ := Ch.drew w
       have hfin_ : A6_0 H_ { w with drawn := w.drawn + 1 } := by rw [hA6_0]; exact ⟨hC.trans (hch_.mono (by simp)), hbb.mv hch_ (by simp <;> omega), hbr.mv hch_ (by simp <;> omega), hmet.mv hch_ (by simp <;> omega), htold.mv hch_ (by simp <;> omega), hch_.lt hbtlt, IsNs.mv hch_ (by simp) (fun x hx => .inl hx) _ _ hns, hatn.mv hch_ (by simp <;> omega), IsN.mv hch_ (by simp) (fun x hx => .inl hx) _ _ hn1, trivial⟩
       exact hfin_
      ·refine ⟨?_, ?_, ?_, ?_, ?_, ?_, ?_, ?_, ?_, ?_, ?_, ?_, ?_, ?_, ?_, ?_, ?_, ?_, trivial⟩
       ·exact HOb.pure ⟨rfl, trivial⟩ rfl rfl (fun _ _ => d_move rfl)
       ·exact HOb.pure trivial rfl rfl (fun _ _ => d_nil rfl)
       ·exact HOb.pure trivial rfl rfl (fun _ _ => d_fieldAddrQ Tryd.underlying116 (m := 0) sz80 rfl rfl rfl)
       ·exact HOb.fact hA6_0 trivial rfl rfl rfl rfl (fun H6 w ⟨_, hbb, _⟩ => d_load1 Tryd.underlying80 rfl rfl (hbb 2 _ rfl))
       ·exact HOb.pure trivial rfl rfl (fun _ _ => d_nil rfl)
       ·exact HOb.pure trivial rfl rfl (fun _ _ => d_fieldAddrQ Tryd.underlying118 (m := 0) sz114 rfl rfl rfl)
       ·exact HOb.fact hA6_0 trivial rfl rfl rfl rfl (fun H6 w ⟨_, _, hbr, _⟩ => d_load1 Tryd.underlying114 rfl rfl (hbr 1 _ rfl))
       ·exact HOb.pure ⟨rfl, trivial⟩ rfl rfl (fun _ _ => d_move rfl)
       ·exact HOb.pure trivial rfl rfl (fun _ _ => d_nil rfl)
       ·exact HOb.pure trivial rfl rfl (fun _ _ => d_fieldAddrQ Tryd.underlying112 (m := 0) sz9 rfl rfl rfl)
       ·exact HOb.fact hA6_0 trivial rfl rfl rfl rfl (fun H6 w ⟨_, _, _, _, _, _, _, hatn, _⟩ => d_load1 Tryd.underlying9 rfl rfl (hatn 3 _ rfl))
       ·exact HOb.fact hA6_0 trivial rfl rfl rfl rfl (fun H6 w ⟨_, _, _, hmet, _⟩ => d_lookup (m := met) (k := txt t1) Tryd.underlying114 Tryd.underlying9 (by kernel_rfl) rfl rfl hmet)
       ·exact HOb.pure trivial rfl rfl (fun _ _ => d_bool (c := false) (d_gtr rfl rfl) (decide_eq_false hpos))
       ·exact HOb.pure trivial rfl rfl (fun _ _ => d_move rfl)
       ·exact HOb.pureG ⟨rfl, trivial⟩ rfl rfl (fun _ => rfl) rfl (fun _ _ => d_move rfl)
       ·exact HOb.pureG ⟨rfl, trivial⟩ rfl rfl (fun _ => rfl) rfl (fun _ _ => d_move rfl)
       ·refine ⟨trivial, fun ph_ hp_ H6 w hW => ?_⟩
        obtain rfl := memN_one hp_
        replace hW : A6_0 H6 w := hW
        rw [hA6_0] at hW
        obtain ⟨hC, hbb, hbr, hmet, htold, hbtlt, hns, hatn, hn1, _⟩ := hW
        refine ⟨(some false), _, rfl, rfl, Ok1.mono (ok_call c82 rfl (hmk g (by omega) t1 (st mi (txt t1) 2) m3 true bb bt br bm bn rl _ hany (hfit t1 hmem) (Nat.le_trans hnb hC.size) hnbt (hT _ _ (hC.below hnb (by simpa using hnbt)) hw0) ⟨hbb, hbr, hmet, hne1, hne2, hne3⟩ htold hn1)) ?_⟩
        rintro _ w' ⟨rfl, htold, hch0_⟩
        have hch_ : Ch [bt] _ w' := hch0_
        have hC := hC.trans (hch_.mono (by simp))
        have hbb := hbb.mv hch_ (by simp <;> omega)
        have hbr := hbr.mv hch_ (by simp <;> omega)
        have hmet := hmet.mv hch_ (by simp <;> omega)
        have hbtlt := hch_.lt hbtlt
        have hns : IsNs w' [bt] l xs := IsNs.mv hch_ (by simp) (fun x hx => .inl hx) _ _ hns
        have hatn := hatn.mv hch_ (by simp <;> omega)
        have hn1 : IsN w' [bt] t1 (.pointer (some ⟨bn, 0, none⟩)) := IsN.mv hch_ (by simp) (fun x hx => .inl hx) _ _ hn1
        have hfin_ : A6_1 (updV H6 16 vt) w' := by rw [hA6_1]; exact ⟨hC, hbb, hbr, hmet, htold, hbtlt, hns, hatn, hn1, trivial⟩
        exact fin_ rfl ⟨hfin_, rfl⟩
       ·exact HOb.pure trivial rfl rfl (fun _ _ => d_pick (b := false) rfl rfl)
      ·intro ac w H6 hW hF
       replace hW : A6_1 H6 w := hW
       rw [hA6_1] at hW
       obtain ⟨hC, hbb, hbr, hmet, htold, hbtlt, hns, hatn, hn1, _⟩ := hW
       clear hA6_0 A6_0 hA6_1 A6_1
       have hF := hF.sub (L' := [(0, (vp bb)), (6, (vp bn)), (7, (Value.slice ad l.length cap)), (8, (vI (l.length : Int))), (9, (vI (i : Int))), (10, (vB (decide ((i : Int) < (l.length : Int))))), (22, (vB (decide ((tl mi (txt t1)) = 0)))), (48, vt)]) ⟨rfl, rfl, rfl, rfl, rfl, rfl, rfl, rfl, trivial⟩
       refine then_n ?_
       refine wp_cond_true (hF.eval rfl) ?_
       obtain ⟨A7_0, hA7_0⟩ : ∃ A : (Nat → Value) → World → Prop, A = fun _ w => (Ch [bt] w0 w) ∧ (At w bb 0 [(vB W.dh), (vB W.kem), (vp br), (Value.map (some bt))]) ∧ (At w br 0 [rl, (Value.map (some bm))]) ∧ (MapIs w bm met) ∧ (MapIs w bt m3) ∧ (bt < w.heap.size) ∧ (IsNs w [bt] l xs) ∧ (At w bn 0 [(vI kn), (vI nn), sn, (vT (txt t1))]) ∧ (IsN w [bt] t1 (.pointer (some ⟨bn, 0, none⟩))) ∧ True := ⟨_, rfl⟩
       obtain ⟨A7_1, hA7_1⟩ : ∃ A : (Nat → Value) → World → Prop, A = fun _ w => (Ch [bt] w0 w) ∧ (At w bb 0 [(vB W.dh), (vB W.kem), (vp br), (Value.map (some bt))]) ∧ (At w br 0 [rl, (Value.map (some bm))]) ∧ (MapIs w bm met) ∧ (MapIs w bt (st m3 (txt t1) 1)) ∧ (bt < w.heap.size) ∧ (IsNs w [bt] l xs) ∧ (At w bn 0 [(vI kn), (vI nn), sn, (vT (txt t1))]) ∧ (IsN w [bt] t1 (.pointer (some ⟨bn, 0, none⟩))) ∧ True := ⟨_, rfl⟩
       refine region_hist mo (fun p_ H_ w_ => (([A7_0, A7_1] : List ((Nat → Value) → World → Prop)).getD p_ (fun _ _ => True)) H_ w_) [8] (rows := [hr_ [] [(0, (vp bb))] [0] (vp bb), hr_ [(0, 49)] [] [0] (vp bb), hr_ [(1, 50)] [] [0] (vP bb 3), hr_ [(2, 51)] [] [0] (Value.map (some bt)), hr_ [] [(6, (vp bn))] [0] (vp bn), hr_ [(4, 53)] [] [0] (vp bn), hr_ [(5, 54)] [] [0] (vP bn 3), hr_ [(6, 55)] [] [0] (vT (txt t1)), ⟨[(3, 52), (7, 56)], [], [0], [8], fun H7 => H7 8, fun H7 K_ h_ => by simp only [h_ 8 (by simp)]⟩]) (by kernel_rfl) hF (fun H_ => ?_) ?_ ?_
       ·have hch_ := Ch.drew w
        have hfin_ : A7_0 H_ { w with drawn := w.drawn + 1 } := by rw [hA7_0]; exact ⟨hC.trans (hch_.mono (by simp)), hbb.mv hch_ (by simp <;> omega), hbr.mv hch_ (by simp <;> omega), hmet.mv hch_ (by simp <;> omega), htold.mv hch_ (by simp <;> omega), hch_.lt hbtlt, IsNs.mv hch_ (by simp) (fun x hx => .inl hx) _ _ hns, hatn.mv hch_ (by simp <;> omega), IsN.mv hch_ (by simp) (fun x hx => .inl hx) _ _ hn1, trivial⟩
        exact hfin_
       ·refine ⟨?_, ?_, ?_, ?_, ?_, ?_, ?_, ?_, ?_, trivial⟩
        ·exact HOb.pure ⟨rfl, trivial⟩ rfl rfl (fun _ _ => d_move rfl)
        ·exact HOb.pure trivial rfl rfl (fun _ _ => d_nil rfl)
        ·exact HOb.pure trivial rfl rfl (fun _ _ => d_fieldAddrQ Tryd.underlying116 (m := 0) sz114 rfl rfl rfl)
        ·exact HOb.fact hA7_0 trivial rfl rfl rfl rfl (fun H7 w ⟨_, hbb, _⟩ => d_load1 Tryd.underlying114 rfl rfl (hbb 3 _ rfl))
        ·exact HOb.pure ⟨rfl, trivial⟩ rfl rfl (fun _ _ => d_move rfl)
        ·exact HOb.pure trivial rfl rfl (fun _ _ => d_nil rfl)
        ·exact HOb.pure trivial rfl rfl (fun _ _ => d_fieldAddrQ Tryd.underlying112 (m := 0) sz9 rfl rfl rfl)
        ·exact HOb.fact hA7_0 trivial rfl rfl rfl rfl (fun H7 w ⟨_, _, _, _, _, _, _, hatn, _⟩ => d_load1 Tryd.underlying9 rfl rfl (hatn 3 _ rfl))
        ·refine ⟨trivial, fun ph_ hp_ H7 w hW => ?_⟩
         obtain rfl := memN_one hp_
         replace hW : A7_0 H7 w := hW
         rw [hA7_0] at hW
         obtain ⟨hC, hbb, hbr, hmet, htold, hbtlt, hns, hatn, hn1, _⟩ := hW
         refine Ok1.mono (ok_mapUpdate (m := m3) (k := txt t1) (v := 1) Tryd.underlying114 Tryd.underlying9 rfl rfl rfl htold) ?_
         rintro v_ w' ⟨htold, hch0_⟩
         have hch_ : Ch [bt] _ w' := hch0_
         have hC := hC.trans (hch_.mono (by simp))
         have hbb := hbb.mv hch_ (by simp <;> omega)
         have hbr := hbr.mv hch_ (by simp <;> omega)
         have hmet := hmet.mv hch_ (by simp <;> omega)
         have hbtlt := hch_.lt hbtlt
         have hns : IsNs w' [bt] l xs := IsNs.mv hch_ (by simp) (fun x hx => .inl hx) _ _ hns
         have hatn := hatn.mv hch_ (by simp <;> omega)
         have hn1 : IsN w' [bt] t1 (.pointer (some ⟨bn, 0, none⟩)) := IsN.mv hch_ (by simp) (fun x hx => .inl hx) _ _ hn1
         have hfin_ : A7_1 (updV H7 8 v_) w' := by rw [hA7_1]; exact ⟨hC, hbb, hbr, hmet, htold, hbtlt, hns, hatn, hn1, trivial⟩
         exact fin_ rfl ⟨hfin_, rfl⟩
       ·intro ac w H7 hW hF
        replace hW : A7_1 H7 w := hW
        rw [hA7_1] at hW
        obtain ⟨hC, hbb, hbr, hmet, htold, hbtlt, hns, hatn, hn1, _⟩ := hW
        clear hA7_0 A7_0 hA7_1 A7_1
        have hF := hF.sub (L' := [(0, (vp bb)), (6, (vp bn)), (7, (Value.slice ad l.length cap)), (8, (vI (l.length : Int))), (9, (vI (i : Int))), (10, (vB (decide ((i : Int) < (l.length : Int))))), (22, (vB (decide ((tl mi (txt t1)) = 0)))), (48, vt)]) ⟨rfl, rfl, rfl, rfl, rfl, rfl, rfl, rfl, trivial⟩
        refine then_n ?_
        refine wp_seq ?_
        obtain ⟨A8_0, hA8_0⟩ : ∃ A : (Nat → Value) → World → Prop, A = fun _ w => (Ch [bt] w0 w) ∧ (At w bb 0 [(vB W.dh), (vB W.kem), (vp br), (Value.map (some bt))]) ∧ (At w br 0 [rl, (Value.map (some bm))]) ∧ (MapIs w bm met) ∧ (MapIs w bt (st m3 (txt t1) 1)) ∧ (bt < w.heap.size) ∧ (IsNs w [bt] l xs) ∧ (At w bn 0 [(vI kn), (vI nn), sn, (vT (txt t1))]) ∧ (IsN w [bt] t1 (.pointer (some ⟨bn, 0, none⟩))) ∧ True := ⟨_, rfl⟩
        refine region_hist mo (fun p_ H_ w_ => (([A8_0] : List ((Nat → Value) → World → Prop)).getD p_ (fun _ _ => True)) H_ w_) [] (rows := [hr_ [] [(0, (vp bb))] [0] (vp bb), hr_ [(0, 57)] [] [0] (vp bb), hr_ [(1, 58)] [] [0] (vP bb 3), hr_ [(2, 59)] [] [0] (Value.map (some bt)), hr_ [] [(6, (vp bn))] [0] (vp bn), hr_ [(4, 61)] [] [0] (vp bn), hr_ [(5, 62)] [] [0] (vP bn 3), hr_ [(6, 63)] [] [0] (vT (txt t1)), hr_ [(3, 60), (7, 64)] [] [0] (vI (tl (st m3 (txt t1) 1) (txt t1))), hr_ [(8, 65)] [] [0] (vB (decide ((tl (st m3 (txt t1) 1) (txt t1)) = 2)))]) (by kernel_rfl) hF (fun H_ => ?_) ?_ ?_
        ·have hch_ := Ch.drew w
         have hfin_ : A8_0 H_ { w with drawn := w.drawn + 1 } := by rw [hA8_0]; exact ⟨hC.trans (hch_.mono (by simp)), hbb.mv hch_ (by simp <;> omega), hbr.mv hch_ (by simp <;> omega), hmet.mv hch_ (by simp <;> omega), htold.mv hch_ (by simp <;> omega), hch_.lt hbtlt, IsNs.mv hch_ (by simp) (fun x hx => .inl hx) _ _ hns, hatn.mv hch_ (by simp <;> omega), IsN.mv hch_ (by simp) (fun x hx => .inl hx) _ _ hn1, trivial⟩
         exact hfin_
        ·refine ⟨?_, ?_, ?_, ?_, ?_, ?_, ?_, ?_, ?_, ?_, trivial⟩
         ·exact HOb.pure ⟨rfl, trivial⟩ rfl rfl (fun _ _ => d_move rfl)
         ·exact HOb.pure trivial rfl rfl (fun _ _ => d_nil rfl)
         ·exact HOb.pure trivial rfl rfl (fun _ _ => d_fieldAddrQ Tryd.underlying116 (m := 0) sz114 rfl rfl rfl)
         ·exact HOb.fact hA8_0 trivial rfl rfl rfl rfl (fun H8 w ⟨_, hbb, _⟩ => d_load1 Tryd.underlying114 rfl rfl (hbb 3 _ rfl))
         ·exact HOb.pure ⟨rfl, trivial⟩ rfl rfl (fun _ _ => d_move rfl)
         ·exact HOb.pure trivial rfl rfl (fun _ _ => d_nil rfl)
         ·exact HOb.pure trivial rfl rfl (fun _ _ => d_fieldAddrQ Tryd.underlying112 (m := 0) sz9 rfl rfl rfl)
         ·exact HOb.fact hA8_0 trivial rfl rfl rfl rfl (fun H8 w ⟨_, _, _, _, _, _, _, hatn, _⟩ => d_load1 Tryd.underlying9 rfl rfl (hatn 3 _ rfl))
         ·exact HOb.fact hA8_0 trivial rfl rfl rfl rfl (fun H8 w ⟨_, _, _, _, htold, _⟩ => d_lookup (m := st m3 (txt t1) 1) (k := txt t1) Tryd.underlying114 Tryd.underlying9 (by kernel_rfl) rfl rfl htold)
         ·exact HOb.pure trivial rfl rfl (fun _ _ => d_eql rfl rfl)
        ·intro ac w H8 hW hF
         replace hW : A8_0 H8 w := hW
         rw [hA8_0] at hW
         obtain ⟨hC, hbb, hbr, hmet, htold, hbtlt, hns, hatn, hn1, _⟩ := hW
         clear hA8_0 A8_0
         have hF := hF.sub (L' := [(0, (vp bb)), (6, (vp bn)), (7, (Value.slice ad l.length cap)), (8, (vI (l.length : Int))), (9, (vI (i : Int))), (10, (vB (decide ((i : Int) < (l.length : Int))))), (22, (vB (decide ((tl mi (txt t1)) = 0)))), (48, vt), (66, (vB (decide ((tl (st m3 (txt t1) 1) (txt t1)) = 2))))]) ⟨rfl, rfl, rfl, rfl, rfl, rfl, rfl, rfl, rfl, trivial⟩
         refine then_n ?_
         refine wp_if hF rfl (fun h => ?_) (fun h => ?_)
         ·have h2 := of_decide_eq_true h
          clear h
          have hfin : r = false ∧ m' = _ := (if_pos h2 ▸ hif)
          refine wp_seq ?_
          refine wp_region_lit ?_
          refine wl (d_assign rfl) rfl hF (fun ac hF => ?_)
          refine wl_nil ?_
          refine then_n ?_
          refine wp_ret ?_
          refine block_ret ?_
          refine then_ret ?_
          refine then_ret ?_
          refine block_ret ?_
          refine then_ret ?_
          refine body_ret hF (results1 Tryd.results45 (RV.tmp hF rfl)) ?_
          exact ⟨by rw [hfin.1], by rw [hfin.2]; exact htold, hC⟩
         ·have h2 := of_decide_eq_false h
          clear h
          have hnext : bl W met g (l.drop (i + 1)) _ = some (r, m') := (if_neg h2 ▸ hif)
          refine wp_skip ?_
          refine block_n ?_
          refine then_n ?_
          refine wp_region_lit ?_
          refine wl (d_add rfl rfl (wrap_i64 (by omega) (by omega))) rfl hF (fun ac hF => ?_)
          refine wl (d_move rfl) rfl hF (fun ac hF => ?_)
          refine wl_nil ?_
          refine then_n ?_
          refine ⟨_, ?_, i + 1, g, _, rfl, (by omega), hnext, (by omega), hF.sub ⟨rfl, rfl, rfl, rfl, trivial⟩, ⟨hC, hbb, hbr, hmet, htold, hbtlt, hns, trivial⟩⟩
          omega
     ·skip
      obtain ⟨A9_0, hA9_0⟩ : ∃ A : (Nat → Value) → World → Prop, A = fun _ w => (Ch [bt] w0 w) ∧ (At w bb 0 [(vB W.dh), (vB W.kem), (vp br), (Value.map (some bt))]) ∧ (At w br 0 [rl, (Value.map (some bm))]) ∧ (MapIs w bm met) ∧ (MapIs w bt (st mi (txt t1) 2)) ∧ (bt < w.heap.size) ∧ (IsNs w [bt] l xs) ∧ (At w bn 0 [(vI kn), (vI nn), sn, (vT (txt t1))]) ∧ (IsN w [bt] t1 (.pointer (some ⟨bn, 0, none⟩))) ∧ True := ⟨_, rfl⟩
      obtain ⟨A9_1, hA9_1⟩ : ∃ A : (Nat → Value) → World → Prop, A = fun _ w => (Ch [bt] w0 w) ∧ (At w bb 0 [(vB W.dh), (vB W.kem), (vp br), (Value.map (some bt))]) ∧ (At w br 0 [rl, (Value.map (some bm))]) ∧ (MapIs w bm met) ∧ (MapIs w bt m3) ∧ (bt < w.heap.size) ∧ (IsNs w [bt] l xs) ∧ (At w bn 0 [(vI kn), (vI nn), sn, (vT (txt t1))]) ∧ (IsN w [bt] t1 (.pointer (some ⟨bn, 0, none⟩))) ∧ True := ⟨_, rfl⟩
      refine region_hist mo (fun p_ H_ w_ => (([A9_0, A9_1] : List ((Nat → Value) → World → Prop)).getD p_ (fun _ _ => True)) H_ w_) [16] (rows := [hr_ [] [(0, (vp bb))] [0] (vp bb), hr_ [(0, 31)] [] [0] (vp bb), hr_ [(1, 32)] [] [0] (vP bb 2), hr_ [(2, 33)] [] [0] (vp br), hr_ [(3, 34)] [] [0] (vp br), hr_ [(4, 35)] [] [0] (vP br 1), hr_ [(5, 36)] [] [0] (Value.map (some bm)), hr_ [] [(6, (vp bn))] [0] (vp bn), hr_ [(7, 38)] [] [0] (vp bn), hr_ [(8, 39)] [] [0] (vP bn 3), hr_ [(9, 40)] [] [0] (vT (txt t1)), hr_ [(6, 37), (10, 41)] [] [0] (vI (tl met (txt t1))), hr_ [(11, 42)] [] [0] vf, hr_ [(12, 43)] [] [0] vf, hr_ [(13, 44)] [(0, (vp bb))] [0] (vp bb), hr_ [(13, 44)] [(6, (vp bn))] [0] (vp bn), hr_ [(14, 45), (15, 46), (13, 44)] [] [0] vf, hr_ [(13, 44), (16, 47)] [] [1] vf]) (by kernel_rfl) hF (fun H_ => ?_) ?_ ?_
      ·have hch_ := Ch.drew w
       have hfin_ : A9_0 H_ { w with drawn := w.drawn + 1 } := by rw [hA9_0]; exact ⟨hC.trans (hch_.mono (by simp)), hbb.mv hch_ (by simp <;> omega), hbr.mv hch_ (by simp <;> omega), hmet.mv hch_ (by simp <;> omega), htold.mv hch_ (by simp <;> omega), hch_.lt hbtlt, IsNs.mv hch_ (by simp) (fun x hx => .inl hx) _ _ hns, hatn.mv hch_ (by simp <;> omega), IsN.mv hch_ (by simp) (fun x hx => .inl hx) _ _ hn1, trivial⟩
       exact hfin_
      ·refine ⟨?_, ?_, ?_, ?_, ?_, ?_, ?_, ?_, ?_, ?_, ?_, ?_, ?_, ?_, ?_, ?_, ?_, ?_, trivial⟩
       ·exact HOb.pure ⟨rfl, trivial⟩ rfl rfl (fun _ _ => d_move rfl)
       ·exact HOb.pure trivial rfl rfl (fun _ _ => d_nil rfl)
       ·exact HOb.pure trivial rfl rfl (fun _ _ => d_fieldAddrQ Tryd.underlying116 (m := 0) sz80 rfl rfl rfl)
       ·exact HOb.fact hA9_0 trivial rfl rfl rfl rfl (fun H9 w ⟨_, hbb, _⟩ => d_load1 Tryd.underlying80 rfl rfl (hbb 2 _ rfl))
       ·exact HOb.pure trivial rfl rfl (fun _ _ => d_nil rfl)
       ·exact HOb.pure trivial rfl rfl (fun _ _ => d_fieldAddrQ Tryd.underlying118 (m := 0) sz114 rfl rfl rfl)
       ·exact HOb.fact hA9_0 trivial rfl rfl rfl rfl (fun H9 w ⟨_, _, hbr, _⟩ => d_load1 Tryd.underlying114 rfl rfl (hbr 1 _ rfl))
       ·exact HOb.pure ⟨rfl, trivial⟩ rfl rfl (fun _ _ => d_move rfl)
       ·exact HOb.pure trivial rfl rfl (fun _ _ => d_nil rfl)
       ·exact HOb.pure trivial rfl rfl (fun _ _ => d_fieldAddrQ Tryd.underlying112 (m := 0) sz9 rfl rfl rfl)
       ·exact HOb.fact hA9_0 trivial rfl rfl rfl rfl (fun H9 w ⟨_, _, _, _, _, _, _, hatn, _⟩ => d_load1 Tryd.underlying9 rfl rfl (hatn 3 _ rfl))
       ·exact HOb.fact hA9_0 trivial rfl rfl rfl rfl (fun H9 w ⟨_, _, _, hmet, _⟩ => d_lookup (m := met) (k := txt t1) Tryd.underlying114 Tryd.underlying9 (by kernel_rfl) rfl rfl hmet)
       ·exact HOb.pure trivial rfl rfl (fun _ _ => d_bool (c := false) (d_gtr rfl rfl) (decide_eq_false hpos))
       ·exact HOb.pure trivial rfl rfl (fun _ _ => d_move rfl)
       ·exact HOb.pureG ⟨rfl, trivial⟩ rfl rfl (fun _ => rfl) rfl (fun _ _ => d_move rfl)
       ·exact HOb.pureG ⟨rfl, trivial⟩ rfl rfl (fun _ => rfl) rfl (fun _ _ => d_move rfl)
       ·refine ⟨trivial, fun ph_ hp_ H9 w hW => ?_⟩
        obtain rfl := memN_one hp_
        replace hW : A9_0 H9 w := hW
        rw [hA9_0] at hW
        obtain ⟨hC, hbb, hbr, hmet, htold, hbtlt, hns, hatn, hn1, _⟩ := hW
        refine ⟨(some false), _, rfl, rfl, Ok1.mono (ok_call c82 rfl (hmk g (by omega) t1 (st mi (txt t1) 2) m3 false bb bt br bm bn rl _ hany (hfit t1 hmem) (Nat.le_trans hnb hC.size) hnbt (hT _ _ (hC.below hnb (by simpa using hnbt)) hw0) ⟨hbb, hbr, hmet, hne1, hne2, hne3⟩ htold hn1)) ?_⟩
        rintro _ w' ⟨rfl, htold, hch0_⟩
        have hch_ : Ch [bt] _ w' := hch0_
        have hC := hC.trans (hch_.mono (by simp))
        have hbb := hbb.mv hch_ (by simp <;> omega)
        have hbr := hbr.mv hch_ (by simp <;> omega)
        have hmet := hmet.mv hch_ (by simp <;> omega)
        have hbtlt := hch_.lt hbtlt
        have hns : IsNs w' [bt] l xs := IsNs.mv hch_ (by simp) (fun x hx => .inl hx) _ _ hns
        have hatn := hatn.mv hch_ (by simp <;> omega)
        have hn1 : IsN w' [bt] t1 (.pointer (some ⟨bn, 0, none⟩)) := IsN.mv hch_ (by simp) (fun x hx => .inl hx) _ _ hn1
        have hfin_ : A9_1 (updV H9 16 vf) w' := by rw [hA9_1]; exact ⟨hC, hbb, hbr, hmet, htold, hbtlt, hns, hatn, hn1, trivial⟩
        exact fin_ rfl ⟨hfin_, rfl⟩
       ·exact HOb.pure trivial rfl rfl (fun _ _ => d_pick (b := false) rfl rfl)
      ·intro ac w H9 hW hF
       replace hW : A9_1 H9 w := hW
       rw [hA9_1] at hW
       obtain ⟨hC, hbb, hbr, hmet, htold, hbtlt, hns, hatn, hn1, _⟩ := hW
       clear hA9_0 A9_0 hA9_1 A9_1
       have hF := hF.sub (L' := [(0, (vp bb)), (6, (vp bn)), (7, (Value.slice ad l.length cap)), (8, (vI (l.length : Int))), (9, (vI (i : Int))), (10, (vB (decide ((i : Int) < (l.length : Int))))), (22, (vB (decide ((tl mi (txt t1)) = 0)))), (48, vf)]) ⟨rfl, rfl, rfl, rfl, rfl, rfl, rfl, rfl, trivial⟩
       refine then_n ?_
       refine wp_cond_false (hF.eval rfl) ?_
       refine wp_skip ?_
       refine then_n ?_
       refine wp_seq ?_
       obtain ⟨A10_0, hA10_0⟩ : ∃ A : (Nat → Value) → World → Prop, A = fun _ w => (Ch [bt] w0 w) ∧ (At w bb 0 [(vB W.dh), (vB W.kem), (vp br), (Value.map (some bt))]) ∧ (At w br 0 [rl, (Value.map (some bm))]) ∧ (MapIs w bm met) ∧ (MapIs w bt m3) ∧ (bt < w.heap.size) ∧ (IsNs w [bt] l xs) ∧ (At w bn 0 [(vI kn), (vI nn), sn, (vT (txt t1))]) ∧ (IsN w [bt] t1 (.pointer (some ⟨bn, 0, none⟩))) ∧ True := ⟨_, rfl⟩
       refine region_hist mo (fun p_ H_ w_ => (([A10_0] : List ((Nat → Value) → World → Prop)).getD p_ (fun _ _ => True)) H_ w_) [] (rows := [hr_ [] [(0, (vp bb))] [0] (vp bb), hr_ [(0, 57)] [] [0] (vp bb), hr_ [(1, 58)] [] [0] (vP bb 3), hr_ [(2, 59)] [] [0] (Value.map (some bt)), hr_ [] [(6, (vp bn))] [0] (vp bn), hr_ [(4, 61)] [] [0] (vp bn), hr_ [(5, 62)] [] [0] (vP bn 3), hr_ [(6, 63)] [] [0] (vT (txt t1)), hr_ [(3, 60), (7, 64)] [] [0] (vI (tl m3 (txt t1))), hr_ [(8, 65)] [] [0] (vB (decide ((tl m3 (txt t1)) = 2)))]) (by kernel_rfl) hF (fun H_ => ?_) ?_ ?_
       ·have hch_ := Ch.drew w
        have hfin_ : A10_0 H_ { w with drawn := w.drawn + 1 } := by rw [hA10_0]; exact ⟨hC.trans (hch_.mono (by simp)), hbb.mv hch_ (by simp <;> omega), hbr.mv hch_ (by simp <;> omega), hmet.mv hch_ (by simp <;> omega), htold.mv hch_ (by simp <;> omega), hch_.lt hbtlt, IsNs.mv hch_ (by simp) (fun x hx => .inl hx) _ _ hns, hatn.mv hch_ (by simp <;> omega), IsN.mv hch_ (by simp) (fun x hx => .inl hx) _ _ hn1, trivial⟩
        exact hfin_
       ·refine ⟨?_, ?_, ?_, ?_, ?_, ?_, ?_, ?_, ?_, ?_, trivial⟩
        ·exact HOb.pure ⟨rfl, trivial⟩ rfl rfl (fun _ _ => d_move rfl)
        ·exact HOb.pure trivial rfl rfl (fun _ _ => d_nil rfl)
        ·exact HOb.pure trivial rfl rfl (fun _ _ => d_fieldAddrQ Tryd.underlying116 (m := 0) sz114 rfl rfl rfl)
        ·exact HOb.fact hA10_0 trivial rfl rfl rfl rfl (fun H10 w ⟨_, hbb, _⟩ => d_load1 Tryd.underlying114 rfl rfl (hbb 3 _ rfl))
        ·exact HOb.pure ⟨rfl, trivial⟩ rfl rfl (fun _ _ => d_move rfl)
        ·exact HOb.pure trivial rfl rfl (fun _ _ => d_nil rfl)
        ·exact HOb.pure trivial rfl rfl (fun _ _ => d_fieldAddrQ Tryd.underlying112 (m := 0) sz9 rfl rfl rfl)
        ·exact HOb.fact hA10_0 trivial rfl rfl rfl rfl (fun H10 w ⟨_, _, _, _, _, _, _, hatn, _⟩ => d_load1 Tryd.underlying9 rfl rfl (hatn 3 _ rfl))
        ·exact HOb.fact hA10_0 trivial rfl rfl rfl rfl (fun H10 w ⟨_, _, _, _, htold, _⟩ => d_lookup (m := m3) (k := txt t1) Tryd.underlying114 Tryd.underlying9 (by kernel_rfl) rfl rfl htold)
        ·exact HOb.pure trivial rfl rfl (fun _ _ => d_eql rfl rfl)
       ·intro ac w H10 hW hF
        replace hW : A10_0 H10 w := hW
        rw [hA10_0] at hW
        obtain ⟨hC, hbb, hbr, hmet, htold, hbtlt, hns, hatn, hn1, _⟩ := hW
        clear hA10_0 A10_0
        have hF := hF.sub (L' := [(0, (vp bb)), (6, (vp bn)), (7, (Value.slice ad l.length cap)), (8, (vI (l.length : Int))), (9, (vI (i : Int))), (10, (vB (decide ((i : Int) < (l.length : Int))))), (22, (vB (decide ((tl mi (txt t1)) = 0)))), (48, vf), (66, (vB (decide ((tl m3 (txt t1)) = 2))))]) ⟨rfl, rfl, rfl, rfl, rfl, rfl, rfl, rfl, rfl, trivial⟩
        refine then_n ?_
        refine wp_if hF rfl (fun h => ?_) (fun h => ?_)
        ·have h2 := of_decide_eq_true h
         clear h
         have hfin : r = false ∧ m' = _ := (if_pos h2 ▸ hif)
         refine wp_seq ?_
         refine wp_region_lit ?_
         refine wl (d_assign rfl) rfl hF (fun ac hF => ?_)
         refine wl_nil ?_
         refine then_n ?_
         refine wp_ret ?_
         refine block_ret ?_
         refine then_ret ?_
         refine then_ret ?_
         refine block_ret ?_
         refine then_ret ?_
         refine body_ret hF (results1 Tryd.results45 (RV.tmp hF rfl)) ?_
         exact ⟨by rw [hfin.1], by rw [hfin.2]; exact htold, hC⟩
        ·have h2 := of_decide_eq_false h
         clear h
         have hnext : bl W met g (l.drop (i + 1)) _ = some (r, m') := (if_neg h2 ▸ hif)
         refine wp_skip ?_
         refine block_n ?_
         refine then_n ?_
         refine wp_region_lit ?_
         refine wl (d_add rfl rfl (wrap_i64 (by omega) (by omega))) rfl hF (fun ac hF => ?_)
         refine wl (d_move rfl) rfl hF (fun ac hF => ?_)
         refine wl_nil ?_
         refine then_n ?_
         refine ⟨_, ?_, i + 1, g, _, rfl, (by omega), hnext, (by omega), hF.sub ⟨rfl, rfl, rfl, rfl, trivial⟩, ⟨hC, hbb, hbr, hmet, htold, hbtlt, hns, trivial⟩⟩
         omega
   ·have h0 := of_decide_eq_false h
    clear h
    replace hcase := hcase.resolve_right (fun h => h0 h.1)
    obtain rfl := hcase.2.symm
    refine wp_skip ?_
    refine then_n ?_
    refine wp_seq ?_
    obtain ⟨A11_0, hA11_0⟩ : ∃ A : (Nat → Value) → World → Prop, A = fun _ w => (Ch [bt] w0 w) ∧ (At w bb 0 [(vB W.dh), (vB W.kem), (vp br), (Value.map (some bt))]) ∧ (At w br 0 [rl, (Value.map (some bm))]) ∧ (MapIs w bm met) ∧ (MapIs w bt mi) ∧ (bt < w.heap.size) ∧ (IsNs w [bt] l xs) ∧ (At w bn 0 [(vI kn), (vI nn), sn, (vT (txt t1))]) ∧ (IsN w [bt] t1 (.pointer (some ⟨bn, 0, none⟩))) ∧ True := ⟨_, rfl⟩
    refine region_hist mo (fun p_ H_ w_ => (([A11_0] : List ((Nat → Value) → World → Prop)).getD p_ (fun _ _ => True)) H_ w_) [] (rows := [hr_ [] [(0, (vp bb))] [0] (vp bb), hr_ [(0, 57)] [] [0] (vp bb), hr_ [(1, 58)] [] [0] (vP bb 3), hr_ [(2, 59)] [] [0] (Value.map (some bt)), hr_ [] [(6, (vp bn))] [0] (vp bn), hr_ [(4, 61)] [] [0] (vp bn), hr_ [(5, 62)] [] [0] (vP bn 3), hr_ [(6, 63)] [] [0] (vT (txt t1)), hr_ [(3, 60), (7, 64)] [] [0] (vI (tl mi (txt t1))), hr_ [(8, 65)] [] [0] (vB (decide ((tl mi (txt t1)) = 2)))]) (by kernel_rfl) hF (fun H_ => ?_) ?_ ?_
    ·have hch_ := Ch.drew w
     have hfin_ : A11_0 H_ { w with drawn := w.drawn + 1 } := by rw [hA11_0]; exact ⟨hC.trans (hch_.mono (by simp)), hbb.mv hch_ (by simp <;> omega), hbr.mv hch_ (by simp <;> omega), hmet.mv hch_ (by simp <;> omega), htold.mv hch_ (by simp <;> omega), hch_.lt hbtlt, IsNs.mv hch_ (by simp) (fun x hx => .inl hx) _ _ hns, hatn.mv hch_ (by simp <;> omega), IsN.mv hch_ (by simp) (fun x hx => .inl hx) _ _ hn1, trivial⟩
     exact hfin_
    ·refine ⟨?_, ?_, ?_, ?_, ?_, ?_, ?_, ?_, ?_, ?_, trivial⟩
     ·exact HOb.pure ⟨rfl, trivial⟩ rfl rfl (fun _ _ => d_move rfl)
     ·exact HOb.pure trivial rfl rfl (fun _ _ => d_nil rfl)
     ·exact HOb.pure trivial rfl rfl (fun _ _ => d_fieldAddrQ Tryd.underlying116 (m := 0) sz114 rfl rfl rfl)
     ·exact HOb.fact hA11_0 trivial rfl rfl rfl rfl (fun H11 w ⟨_, hbb, _⟩ => d_load1 Tryd.underlying114 rfl rfl (hbb 3 _ rfl))
     ·exact HOb.pure ⟨rfl, trivial⟩ rfl rfl (fun _ _ => d_move rfl)
     ·exact HOb.pure trivial rfl rfl (fun _ _ => d_nil rfl)
     ·exact HOb.pure trivial rfl rfl (fun _ _ => d_fieldAddrQ Tryd.underlying112 (m := 0) sz9 rfl rfl rfl)
     ·exact HOb.fact hA11_0 trivial rfl rfl rfl rfl (fun H11 w ⟨_, _, _, _, _, _, _, hatn, _⟩ => d_load1 Tryd.underlying9 rfl rfl (hatn 3 _ rfl))
     ·exact HOb.fact hA11_0 trivial rfl rfl rfl rfl (fun H11 w ⟨_, _, _, _, htold, _⟩ => d_lookup (m := mi) (k := txt t1) Tryd.underlying114 Tryd.underlying9 (by kernel_rfl) rfl rfl htold)
     ·exact HOb.pure trivial rfl rfl (fun _ _ => d_eql rfl rfl)
    ·intro ac w H11 hW hF
     replace hW : A11_0 H11 w := hW
     rw [hA11_0] at hW
     obtain ⟨hC, hbb, hbr, hmet, htold, hbtlt, hns, hatn, hn1, _⟩ := hW
     clear hA11_0 A11_0
     have hF := hF.sub (L' := [(0, (vp bb)), (6, (vp bn)), (7, (Value.slice ad l.length cap)), (8, (vI (l.length : Int))), (9, (vI (i : Int))), (10, (vB (decide ((i : Int) < (l.length : Int))))), (22, (vB (decide ((tl mi (txt t1)) = 0)))), (66, (vB (decide ((tl mi (txt t1)) = 2))))]) ⟨rfl, rfl, rfl, rfl, rfl, rfl, rfl, rfl, trivial⟩
     refine then_n ?_
     refine wp_if hF rfl (fun h => ?_) (fun h => ?_)
     ·have h2 := of_decide_eq_true h
      clear h
      have hfin : r = false ∧ m' = _ := (if_pos h2 ▸ hif)
      refine wp_seq ?_
      refine wp_region_lit ?_
      refine wl (d_assign rfl) rfl hF (fun ac hF => ?_)
      refine wl_nil ?_
      refine then_n ?_
      refine wp_ret ?_
      refine block_ret ?_
      refine then_ret ?_
      refine then_ret ?_
      refine block_ret ?_
      refine then_ret ?_
      refine body_ret hF (results1 Tryd.results45 (RV.tmp hF rfl)) ?_
      exact ⟨by rw [hfin.1], by rw [hfin.2]; exact htold, hC⟩
     ·have h2 := of_decide_eq_false h
      clear h
      have hnext : bl W met g (l.drop (i + 1)) _ = some (r, m') := (if_neg h2 ▸ hif)
      refine wp_skip ?_
      refine block_n ?_
      refine then_n ?_
      refine wp_region_lit ?_
      refine wl (d_add rfl rfl (wrap_i64 (by omega) (by omega))) rfl hF (fun ac hF => ?_)
      refine wl (d_move rfl) rfl hF (fun ac hF => ?_)
      refine wl_nil ?_
      refine then_n ?_
      refine ⟨_, ?_, i + 1, g, _, rfl, (by omega), hnext, (by omega), hF.sub ⟨rfl, rfl, rfl, rfl, trivial⟩, ⟨hC, hbb, hbr, hmet, htold, hbtlt, hns, trivial⟩⟩
      omega
 ·have hlt := of_decide_eq_false h
  clear h
  have hi : i = l.length := by omega
  have hfin := bl_nil (show bl W met fi [] mi = some (r, m') by rw [← hbl, hi, List.drop_length])
  refine wp_exit ?_
  refine then_exit ?_
  refine then_exit ?_
  refine block_exit ?_
  refine then_n ?_
  refine wp_seq ?_
  refine wp_region_lit ?_
  refine wl (d_assign rfl) rfl hF (fun ac hF => ?_)
  refine wl_nil ?_
  refine then_n ?_
  refine wp_ret ?_
  refine body_ret hF (results1 Tryd.results45 (RV.tmp hF rfl)) ?_
  exact ⟨by rw [hfin.1], by rw [hfin.2]; exact htold, hC⟩
end Go.Mi.Term
