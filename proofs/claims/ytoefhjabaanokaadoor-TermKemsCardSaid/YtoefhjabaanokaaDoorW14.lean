/- Walks: what functions of term return. -/
import Derived.Test.YtoefhjabaanokaaDoorH9
import Derived.Test.YtoefhjabaanokaaDoorH10
import Derived.Test.YtoefhjabaanokaaDoorW13
namespace Go.Mi.Term
open Go.Mi Go.Proofs Go.RowKit
set_option linter.unusedVariables false
theorem lt_of_blk {w : World} {b : Nat} {x : Obj} (h : w.heap[b]? = some x) : b < w.heap.size := by
  rcases Nat.lt_or_ge b w.heap.size with h' | h'
  · exact h'
  · rw [Array.getElem?_eq_none h'] at h; cases h
theorem own_cell1 {w : World} {base m n : Nat} {e : TypeId} {v : Value} {xs : List Value} (h : Own w base e m v n xs) : v.oneCell' = true := by
  rcases h.at with ⟨rfl, _⟩ | ⟨b, cap, rfl, _⟩ <;> rfl
theorem own_at {w : World} {base m n g : Nat} {e : TypeId} {v : Value} {xs : List Value} (h : Own w base e m v n xs) (hg : g ∈ oblk v) : At w g 0 xs := by
  rcases h.at with ⟨rfl, _⟩ | ⟨b, cap, rfl, _, ha⟩
  · simp [oblk] at hg
  · simp [oblk] at hg; subst hg; exact ha

set_option maxRecDepth 100000 in
set_option maxHeartbeats 4000000 in
theorem add_calls {base : Nat} {X : List Nat} {br bm bn : Nat} {lv : Value} {r : Rw} {n : Tm} (w0 : World) (hbase : base ≤ w0.heap.size) (hX1 : br ∈ X) (hX2 : bm ∈ X) (hr : RwIs w0 base X br bm lv r) (hn1 : IsN w0 (oblk lv ++ X) n (.pointer (some ⟨bn, 0, none⟩))) (hlen : r.l.length ≤ 1099511627776) :
    Calls Tryd.prog 79 (List.toArray [.pointer (some ⟨br, 0, none⟩), .pointer (some ⟨bn, 0, none⟩)]) w0 (Ret fun v w' => v = .tuple #[] ∧ ∃ lv', RwTo w0 w' base X br bm lv r (r.add n) lv') := by
  obtain ⟨hst, hmet, ⟨xs, hown, hns⟩, hnr, hnm, hne⟩ := hr
  have hown0 := hown
  have hkeep : ∀ g xs0, g ≠ br → g ≠ bm → (g ∈ oblk lv → xs0.length ≤ r.l.length) → At w0 g 0 xs0 → At w0 g 0 xs0 := fun _ _ _ _ _ h => h
  obtain ⟨bn', kn, nn, sn, he, hbn, hatn⟩ := hn1.form
  cases he
  simp only [List.mem_append, not_or] at hbn
  have hbn1 := hbn.1
  have hbnm : bn ≠ bm := fun h => hbn.2 (h ▸ hX2)
  refine calls_of Tryd.func79 rfl Tryd.ntmps79 rfl fun ac hF => ?_
  have hC : Ch (br :: bm :: oblk lv) w0 w0 := Ch.refl _ _
  have hF := hF.sub (L' := [(0, (Value.pointer (some ⟨br, 0, none⟩))), (1, (Value.pointer (some ⟨bn, 0, none⟩)))]) ⟨rfl, rfl, trivial⟩
  refine wp_seq ?_
  obtain ⟨A1_0, hA1_0⟩ : ∃ A : (Nat → Value) → World → Prop, A = fun _ w => (Ch (br :: bm :: oblk lv) w0 w) ∧ (w.heap[br]? = some (.cells #[lv, (Value.map (some bm))] 118 (0, 0))) ∧ (MapIs w bm r.met) ∧ (At w bn 0 [(Value.int .i64 kn), (Value.int .i64 nn), sn, (Value.string (bs (txt n)))]) ∧ (Own w base 83 1 lv r.l.length xs) ∧ (IsNs w (oblk lv ++ X) r.l xs) ∧ (IsN w (oblk lv ++ X) n (.pointer (some ⟨bn, 0, none⟩))) ∧ (∀ g xs0, g ≠ br → g ≠ bm → (g ∈ oblk lv → xs0.length ≤ r.l.length) → At w0 g 0 xs0 → At w g 0 xs0) ∧ True := ⟨_, rfl⟩
  refine region_hist mo (fun p_ H_ w_ => (([A1_0] : List ((Nat → Value) → World → Prop)).getD p_ (fun _ _ => True)) H_ w_) [] (rows := [hr_ [] [(0, (Value.pointer (some ⟨br, 0, none⟩)))] [0] (Value.pointer (some ⟨br, 0, none⟩)), hr_ [(0, 4)] [] [0] (Value.pointer (some ⟨br, 0, none⟩)), hr_ [(1, 5)] [] [0] (Value.pointer (some ⟨br, 1, none⟩)), hr_ [(2, 6)] [] [0] (Value.map (some bm)), hr_ [] [(1, (Value.pointer (some ⟨bn, 0, none⟩)))] [0] (Value.pointer (some ⟨bn, 0, none⟩)), hr_ [(4, 8)] [] [0] (Value.pointer (some ⟨bn, 0, none⟩)), hr_ [(5, 9)] [] [0] (Value.pointer (some ⟨bn, 3, none⟩)), hr_ [(6, 10)] [] [0] (Value.string (bs (txt n))), hr_ [(3, 7), (7, 11)] [] [0] (Value.int .i64 (tl r.met (txt n))), hr_ [(8, 12)] [] [0] (Value.bool (decide ((tl r.met (txt n)) = 0)))]) (by kernel_rfl) hF (fun H_ => ?_) ?_ ?_
  · have hch_ := Ch.drew w0
    have hfin_ : A1_0 H_ { w0 with drawn := w0.drawn + 1 } := by rw [hA1_0]; exact ⟨hC.trans (hch_.mono (by intro y hy; first | (simp at hy; done) | (simpa using hy; done) | (simp [hy]; done) | (simp at hy; simp [hy]; done))), Ch.blk0 hch_ hst (by first | assumption | (simp <;> omega)), hmet.mv hch_ (by first | assumption | (simp <;> omega)), hatn.mv hch_ (by first | assumption | (simp <;> omega)), hown.mv hch_ (fun b hb => by first | (simp; done) | (simp; intro h; subst h; contradiction)), IsNs.mv hch_ (fun y hy => by first | (simp at hy; done) | (simp at hy; subst hy; simp [hX1, hX2])) (fun x hx => .inl hx) _ _ hns, IsN.mv hch_ (fun y hy => by first | (simp at hy; done) | (simp at hy; subst hy; simp [hX1, hX2])) (fun x hx => .inl hx) _ _ hn1, (fun g xs0 hg1 hg2 hg3 hg4 => (hkeep g xs0 hg1 hg2 hg3 hg4).mv hch_ (by first | (simp; done) | (simp [hg1, hg2]; done))), trivial⟩
    exact hfin_
  · refine ⟨?_, ?_, ?_, ?_, ?_, ?_, ?_, ?_, ?_, ?_, trivial⟩
    · exact HOb.pure ⟨rfl, trivial⟩ rfl rfl (fun _ _ => d_move rfl)
    · exact HOb.pure trivial rfl rfl (fun _ _ => d_nil rfl)
    · exact HOb.pure trivial rfl rfl (fun _ _ => d_fieldAddrQ Tryd.underlying118 (m := 0) sz114 rfl rfl rfl)
    · exact HOb.fact hA1_0 trivial rfl rfl rfl rfl (fun H1 w ⟨_, hst, _⟩ => d_load1 Tryd.underlying114 rfl rfl ((At.of_blk hst) 1 _ rfl))
    · exact HOb.pure ⟨rfl, trivial⟩ rfl rfl (fun _ _ => d_move rfl)
    · exact HOb.pure trivial rfl rfl (fun _ _ => d_nil rfl)
    · exact HOb.pure trivial rfl rfl (fun _ _ => d_fieldAddrQ Tryd.underlying112 (m := 0) sz9 rfl rfl rfl)
    · exact HOb.fact hA1_0 trivial rfl rfl rfl rfl (fun H1 w ⟨_, _, _, hatn, _⟩ => d_load1 Tryd.underlying9 rfl rfl (hatn 3 _ rfl))
    · exact HOb.fact hA1_0 trivial rfl rfl rfl rfl (fun H1 w ⟨_, _, hmet, _⟩ => d_lookup (m := r.met) (k := txt n) Tryd.underlying114 Tryd.underlying9 (by kernel_rfl) rfl rfl hmet)
    · exact HOb.pure trivial rfl rfl (fun _ _ => d_eql rfl rfl)
  · intro ac w H1 hW hF
    replace hW : A1_0 H1 w := hW
    rw [hA1_0] at hW
    obtain ⟨hC, hst, hmet, hatn, hown, hns, hn1, hkeep, _⟩ := hW
    clear hA1_0 A1_0
    have hF := hF.sub (L' := [(0, (Value.pointer (some ⟨br, 0, none⟩))), (1, (Value.pointer (some ⟨bn, 0, none⟩))), (13, (Value.bool (decide ((tl r.met (txt n)) = 0))))]) ⟨rfl, rfl, rfl, trivial⟩
    refine then_n ?_
    refine wp_if hF rfl (fun h => ?_) (fun h => ?_)
    · have h0 := of_decide_eq_true h
      clear h
      refine wp_seq ?_
      obtain ⟨A2_0, hA2_0⟩ : ∃ A : (Nat → Value) → World → Prop, A = fun _ w => (Ch (br :: bm :: oblk lv) w0 w) ∧ (w.heap[br]? = some (.cells #[lv, (Value.map (some bm))] 118 (0, 0))) ∧ (MapIs w bm r.met) ∧ (At w bn 0 [(Value.int .i64 kn), (Value.int .i64 nn), sn, (Value.string (bs (txt n)))]) ∧ (Own w base 83 1 lv r.l.length xs) ∧ (IsNs w (oblk lv ++ X) r.l xs) ∧ (IsN w (oblk lv ++ X) n (.pointer (some ⟨bn, 0, none⟩))) ∧ (∀ g xs0, g ≠ br → g ≠ bm → (g ∈ oblk lv → xs0.length ≤ r.l.length) → At w0 g 0 xs0 → At w g 0 xs0) ∧ True := ⟨_, rfl⟩
      obtain ⟨A2_1, hA2_1⟩ : ∃ A : (Nat → Value) → World → Prop, A = fun _ w => (Ch (br :: bm :: oblk lv) w0 w) ∧ (w.heap[br]? = some (.cells #[lv, (Value.map (some bm))] 118 (0, 0))) ∧ (MapIs w bm (st r.met (txt n) 1)) ∧ (At w bn 0 [(Value.int .i64 kn), (Value.int .i64 nn), sn, (Value.string (bs (txt n)))]) ∧ (Own w base 83 1 lv r.l.length xs) ∧ (IsNs w (oblk lv ++ X) r.l xs) ∧ (IsN w (oblk lv ++ X) n (.pointer (some ⟨bn, 0, none⟩))) ∧ (∀ g xs0, g ≠ br → g ≠ bm → (g ∈ oblk lv → xs0.length ≤ r.l.length) → At w0 g 0 xs0 → At w g 0 xs0) ∧ True := ⟨_, rfl⟩
      refine region_hist mo (fun p_ H_ w_ => (([A2_0, A2_1] : List ((Nat → Value) → World → Prop)).getD p_ (fun _ _ => True)) H_ w_) [10] (rows := [hr_ [] [(0, (Value.pointer (some ⟨br, 0, none⟩)))] [0] (Value.pointer (some ⟨br, 0, none⟩)), hr_ [(0, 14)] [] [0] (Value.pointer (some ⟨br, 0, none⟩)), hr_ [(1, 15)] [] [0] (Value.pointer (some ⟨br, 1, none⟩)), hr_ [(2, 16)] [] [0] (Value.map (some bm)), hr_ [] [(1, (Value.pointer (some ⟨bn, 0, none⟩)))] [0] (Value.pointer (some ⟨bn, 0, none⟩)), hr_ [(4, 18)] [] [0] (Value.pointer (some ⟨bn, 0, none⟩)), hr_ [(5, 19)] [] [0] (Value.pointer (some ⟨bn, 3, none⟩)), hr_ [(6, 20)] [] [0] (Value.string (bs (txt n))), hr_ [(3, 17), (7, 21)] [] [0] (Value.int .i64 (tl r.met (txt n))), hr_ [(8, 22)] [] [0] (Value.int .i64 1), ⟨[(3, 17), (7, 21), (9, 23)], [], [0], [10], fun H2 => H2 10, fun H2 K_ h_ => by simp only [h_ 10 (by simp)]⟩]) (by kernel_rfl) hF (fun H_ => ?_) ?_ ?_
      · have hch_ := Ch.drew w
        have hfin_ : A2_0 H_ { w with drawn := w.drawn + 1 } := by rw [hA2_0]; exact ⟨hC.trans (hch_.mono (by intro y hy; first | (simp at hy; done) | (simpa using hy; done) | (simp [hy]; done) | (simp at hy; simp [hy]; done))), Ch.blk0 hch_ hst (by first | assumption | (simp <;> omega)), hmet.mv hch_ (by first | assumption | (simp <;> omega)), hatn.mv hch_ (by first | assumption | (simp <;> omega)), hown.mv hch_ (fun b hb => by first | (simp; done) | (simp; intro h; subst h; contradiction)), IsNs.mv hch_ (fun y hy => by first | (simp at hy; done) | (simp at hy; subst hy; simp [hX1, hX2])) (fun x hx => .inl hx) _ _ hns, IsN.mv hch_ (fun y hy => by first | (simp at hy; done) | (simp at hy; subst hy; simp [hX1, hX2])) (fun x hx => .inl hx) _ _ hn1, (fun g xs0 hg1 hg2 hg3 hg4 => (hkeep g xs0 hg1 hg2 hg3 hg4).mv hch_ (by first | (simp; done) | (simp [hg1, hg2]; done))), trivial⟩
        exact hfin_
      · refine ⟨?_, ?_, ?_, ?_, ?_, ?_, ?_, ?_, ?_, ?_, ?_, trivial⟩
        · exact HOb.pure ⟨rfl, trivial⟩ rfl rfl (fun _ _ => d_move rfl)
        · exact HOb.pure trivial rfl rfl (fun _ _ => d_nil rfl)
        · exact HOb.pure trivial rfl rfl (fun _ _ => d_fieldAddrQ Tryd.underlying118 (m := 0) sz114 rfl rfl rfl)
        · exact HOb.fact hA2_0 trivial rfl rfl rfl rfl (fun H2 w ⟨_, hst, _⟩ => d_load1 Tryd.underlying114 rfl rfl ((At.of_blk hst) 1 _ rfl))
        · exact HOb.pure ⟨rfl, trivial⟩ rfl rfl (fun _ _ => d_move rfl)
        · exact HOb.pure trivial rfl rfl (fun _ _ => d_nil rfl)
        · exact HOb.pure trivial rfl rfl (fun _ _ => d_fieldAddrQ Tryd.underlying112 (m := 0) sz9 rfl rfl rfl)
        · exact HOb.fact hA2_0 trivial rfl rfl rfl rfl (fun H2 w ⟨_, _, _, hatn, _⟩ => d_load1 Tryd.underlying9 rfl rfl (hatn 3 _ rfl))
        · exact HOb.fact hA2_0 trivial rfl rfl rfl rfl (fun H2 w ⟨_, _, hmet, _⟩ => d_lookup (m := r.met) (k := txt n) Tryd.underlying114 Tryd.underlying9 (by kernel_rfl) rfl rfl hmet)
        · refine ⟨trivial, fun ph_ hp_ H2 w hW => ?_⟩
          obtain rfl := memN_one hp_
          have hW0 := hW
          replace hW : A2_0 H2 w := hW
          rw [hA2_0] at hW
          obtain ⟨hC, hst, hmet, hatn, hown, hns, hn1, hkeep, _⟩ := hW
          exact Det.ohc rfl hW0 (d_val (y := 1) (d_add rfl rfl (wrap_i64 (by omega) (by omega))) (by omega))
        · refine ⟨trivial, fun ph_ hp_ H2 w hW => ?_⟩
          obtain rfl := memN_one hp_
          replace hW : A2_0 H2 w := hW
          rw [hA2_0] at hW
          obtain ⟨hC, hst, hmet, hatn, hown, hns, hn1, hkeep, _⟩ := hW
          refine Ok1.mono (ok_mapUpdate (m := r.met) (k := txt n) (v := 1) Tryd.underlying114 Tryd.underlying9 rfl rfl rfl hmet) ?_
          rintro v_ w' ⟨hmet, hch0_⟩
          have hch_ : Ch [bm] _ w' := hch0_
          have hC := hC.trans (hch_.mono (by intro y hy; first | (simp at hy; done) | (simpa using hy; done) | (simp [hy]; done) | (simp at hy; simp [hy]; done)))
          have hst := Ch.blk0 hch_ hst (by first | assumption | (simp <;> omega))
          have hatn := hatn.mv hch_ (by first | assumption | (simp <;> omega))
          have hown := hown.mv hch_ (fun b hb => by first | (simp; done) | (simp; intro h; subst h; contradiction))
          have hns : IsNs w' (oblk lv ++ X) r.l xs := IsNs.mv hch_ (fun y hy => by first | (simp at hy; done) | (simp at hy; subst hy; simp [hX1, hX2])) (fun x hx => .inl hx) _ _ hns
          have hn1 : IsN w' (oblk lv ++ X) n (.pointer (some ⟨bn, 0, none⟩)) := IsN.mv hch_ (fun y hy => by first | (simp at hy; done) | (simp at hy; subst hy; simp [hX1, hX2])) (fun x hx => .inl hx) _ _ hn1
          have hkeep := (fun g xs0 hg1 hg2 hg3 hg4 => (hkeep g xs0 hg1 hg2 hg3 hg4).mv hch_ (by first | (simp; done) | (simp [hg1, hg2]; done)))
          have hfin_ : A2_1 (updV H2 10 v_) w' := by rw [hA2_1]; exact ⟨hC, hst, hmet, hatn, hown, hns, hn1, hkeep, trivial⟩
          exact fin_ rfl ⟨hfin_, rfl⟩
      · intro ac w H2 hW hF
        replace hW : A2_1 H2 w := hW
        rw [hA2_1] at hW
        obtain ⟨hC, hst, hmet, hatn, hown, hns, hn1, hkeep, _⟩ := hW
        clear hA2_0 A2_0 hA2_1 A2_1
        have hF := hF.sub (L' := [(0, (Value.pointer (some ⟨br, 0, none⟩))), (1, (Value.pointer (some ⟨bn, 0, none⟩))), (13, (Value.bool (decide ((tl r.met (txt n)) = 0))))]) ⟨rfl, rfl, rfl, trivial⟩
        refine then_n ?_
        refine wp_region_lit ?_
        refine wl (d_move rfl) rfl hF (fun ac hF => ?_)
        refine wl (d_move rfl) rfl hF (fun ac hF => ?_)
        refine wl (d_nil rfl) rfl hF (fun ac hF => ?_)
        refine wl (d_fieldAddrQ Tryd.underlying118 (m := 0) sz110 rfl rfl rfl) rfl hF (fun ac hF => ?_)
        refine wl (d_load1 Tryd.underlying110 rfl rfl ((At.of_blk hst) 0 _ rfl)) rfl hF (fun ac hF => ?_)
        refine wl (d_move rfl) rfl hF (fun ac hF => ?_)
        refine wlR (ok_buildSlice (cells := #[(Value.pointer (some ⟨bn, 0, none⟩))]) Tryd.underlying110 zz83 rfl (by decide) (by decide) (by exact fill1 rfl)) rfl hF ?_
        rintro _ w ac ⟨b1, rfl, hnb_⟩ hF
        have hch_ : Ch [] _ w := hnb_.ch
        have lo_ := hnb_.lo hC.size
        have hC := hC.trans (hch_.mono (by intro y hy; first | (simp at hy; done) | (simpa using hy; done) | (simp [hy]; done) | (simp at hy; simp [hy]; done)))
        have hst := Ch.blk0 hch_ hst (by first | assumption | (simp <;> omega))
        have hmet := hmet.mv hch_ (by simp <;> omega)
        have hatn := hatn.mv hch_ (by first | assumption | (simp <;> omega))
        have hown := hown.mv hch_ (fun b hb => by first | (simp; done) | (simp; intro h; subst h; contradiction))
        have hns : IsNs w (oblk lv ++ X) r.l xs := IsNs.mv hch_ (fun y hy => by first | (simp at hy; done) | (simp at hy; subst hy; simp [hX1, hX2])) (fun x hx => .inl hx) _ _ hns
        have hn1 : IsN w (oblk lv ++ X) n (.pointer (some ⟨bn, 0, none⟩)) := IsN.mv hch_ (fun y hy => by first | (simp at hy; done) | (simp at hy; subst hy; simp [hX1, hX2])) (fun x hx => .inl hx) _ _ hn1
        have hkeep := (fun g xs0 hg1 hg2 hg3 hg4 => (hkeep g xs0 hg1 hg2 hg3 hg4).mv hch_ (by first | (simp; done) | (simp [hg1, hg2]; done)))
        have hib1 : b1 < w.heap.size := hnb_.lt
        have lob1 : w0.heap.size ≤ b1 := lo_
        have hb1 : At w b1 0 [(Value.pointer (some ⟨bn, 0, none⟩))] := hnb_.at
        refine wlR (ok_append1k (b := b1) (o := 0) (u := .pointer (some ⟨bn, 0, none⟩)) Tryd.underlying110 ii83 rfl rfl rfl hown hb1 rfl (by omega) (by unfold maxLen; omega) (Nat.le_trans hbase hC.size)) rfl hF ?_
        rintro lv1 w ac ⟨hown, hch0_, hob, hkp⟩ hF
        have hch_ : Ch (oblk lv) _ w := hch0_
        have hsz_ := hC.size
        have hxx : ∀ x, x ∈ oblk lv1 ++ X → x ∈ oblk lv ++ X ∨ _ ≤ x := fun x hx => by
          rcases List.mem_append.1 hx with hx | hx
          · rcases hob with hob | hob
            · rw [hob] at hx; exact .inl (List.mem_append_left _ hx)
            · rw [hob] at hx; simp at hx; exact .inr (Nat.le_of_eq hx.symm)
          · exact .inl (List.mem_append_right _ hx)
        have hbr_ := hst
        have hnr1 : br ∉ oblk lv1 := fun hy => by
          have h1_ := lt_of_blk hst
          rcases hob with hob | hob
          · rw [hob] at hy; exact hnr hy
          · rw [hob] at hy; simp at hy; omega
        have hnm1 : bm ∉ oblk lv1 := fun hy => by
          have h1_ := hmet.lt
          rcases hob with hob | hob
          · rw [hob] at hy; exact hnm hy
          · rw [hob] at hy; simp at hy; omega
        have hfr : oblk lv1 = oblk lv ∨ ∀ y, y ∈ oblk lv1 → w0.heap.size ≤ y := by
          rcases hob with hob | hob
          · exact .inl hob
          · refine .inr fun y hy => ?_
            rw [hob] at hy; simp at hy; omega
        have hC := hC.trans (hch_.mono (by intro y hy; first | (simp at hy; done) | (simpa using hy; done) | (simp [hy]; done) | (simp at hy; simp [hy]; done)))
        have hst : w.heap[br]? = some (.cells #[lv, (Value.map (some bm))] 118 (0, 0)) := Ch.blk0 hch_ hst hnr
        have hmet : MapIs w bm (st r.met (txt n) 1) := hmet.mv hch_ hnm
        have hns : IsNs w (oblk lv1 ++ X) (r.l ++ [n]) (xs ++ [.pointer (some ⟨bn, 0, none⟩)]) := (IsNs.mv hch_ (fun y hy => List.mem_append_left _ hy) hxx _ _ hns).app (IsNs.one (IsN.mv hch_ (fun y hy => List.mem_append_left _ hy) hxx _ _ hn1))
        replace hkeep : ∀ g xs0, g ≠ br → g ≠ bm → (g ∈ oblk lv → xs0.length ≤ r.l.length) → At w0 g 0 xs0 → At w g 0 xs0 := fun g xs0 hg1 hg2 hl ha => by
          by_cases hg : g ∈ oblk lv
          · refine own_keep (own_at hown0 hg) (hkp g hg) ?_ ha
            have := hown0.1
            have := hl hg
            omega
          · exact ha.mv hC (by simp [hg1, hg2, hg])
        refine wl (d_nil rfl) rfl hF (fun ac hF => ?_)
        refine wl (d_fieldAddrQ Tryd.underlying118 (m := 0) sz110 rfl rfl rfl) rfl hF (fun ac hF => ?_)
        refine wl0R (ok_store1 (v := lv1) sz110 rfl rfl (own_cell1 hown) hst (Nat.le_of_ble_eq_true rfl)) hF ?_
        rintro w ac hu_ hF
        have hch_ : Ch [br] _ w := hu_.ch
        have hC := hC.trans (hch_.mono (by intro y hy; first | (simp at hy; done) | (simpa using hy; done) | (simp [hy]; done) | (simp at hy; simp [hy]; done)))
        have hmet := hmet.mv hch_ (by first | assumption | (simp <;> omega))
        have hown := hown.mv hch_ (fun b hb => by first | (simp; done) | (simp; intro h; subst h; contradiction))
        have hns : IsNs w (oblk lv1 ++ X) (r.l ++ [n]) (xs ++ [.pointer (some ⟨bn, 0, none⟩)]) := IsNs.mv hch_ (fun y hy => by simp at hy; subst hy; simp [hX1, hX2]) (fun x hx => .inl hx) _ _ hns
        have hkeep := (fun g xs0 hg1 hg2 hg3 hg4 => (hkeep g xs0 hg1 hg2 hg3 hg4).mv hch_ (by first | (simp; done) | (simp [hg1, hg2]; done)))
        have hst : w.heap[br]? = some (.cells #[lv1, (Value.map (some bm))] 118 (0, 0)) := hu_.blk
        refine wl_nil ?_
        have hF := hF.sub (L' := [(0, (Value.pointer (some ⟨br, 0, none⟩))), (1, (Value.pointer (some ⟨bn, 0, none⟩))), (13, (Value.bool (decide ((tl r.met (txt n)) = 0))))]) ⟨rfl, rfl, rfl, trivial⟩
        refine body_end hF (results0 Tryd.results79 ) ?_
        have hra : r.add n = ⟨r.l ++ [n], st r.met (txt n) 1⟩ := by simp only [Rw.add, h0, if_true]
        rw [hra]
        have hown : Own w base 83 1 lv1 (r.l ++ [n]).length (xs ++ [.pointer (some ⟨bn, 0, none⟩)]) := by simpa using hown
        exact ⟨rfl, lv1, ⟨hst, hmet, ⟨_, hown, hns⟩, hnr1, hnm1, hne⟩, hC, hfr, by simp, hkeep⟩
    · have h0 := of_decide_eq_false h
      clear h
      refine wp_skip ?_
      refine body_end hF (results0 Tryd.results79 ) ?_
      refine ⟨rfl, lv, ?_⟩
      have hra : r.add n = r := by simp only [Rw.add, h0, if_false]
      rw [hra]
      exact ⟨⟨hst, hmet, ⟨xs, hown, hns⟩, hnr, hnm, hne⟩, hC, .inl rfl, Nat.le_refl _, hkeep⟩
end Go.Mi.Term
