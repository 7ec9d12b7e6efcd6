/- Texts that belong together: W15, H11, C1, C2. General lemmas and walks; no conditions. -/
import Derived.Test.YtoefhjabaanokaaDoorB6
import Derived.Test.YtoefhjabaanokaaDoorB9
import Derived.Test.YtoefhjabaanokaaDoorB3
import Derived.Shelf.SlMaps.Clone
set_option linter.unusedSimpArgs false
set_option linter.unusedVariables false
set_option linter.unnecessarySimpa false
namespace Go.Mi.Term
open Go.Mi Go.Proofs Go.RowKit
set_option linter.unusedVariables false
def OpTo (w w' : World) (base : Nat) (X : List Nat) (br bm bt : Nat) (lv : Value) (r r' : Rw) (lv' : Value) (m' : bX) : Prop :=
 RwIs w' base X br bm lv' r' ∧ MapIs w' bt m' ∧ Ch (bt :: br :: bm :: bE lv) w w' ∧ (bE lv' = bE lv ∨ ∀ y, y ∈ bE lv' → w.heap.size ≤ y) ∧ r.l.length ≤ r'.l.length ∧
  (∀ g xs0, g ≠ bt → g ≠ br → g ≠ bm → (g ∈ bE lv → xs0.length ≤ r.l.length) → At w g 0 xs0 → At w' g 0 xs0)
theorem RwTo.op {w w1 w2 : World} {base : Nat} {X : List Nat} {br bm bt : Nat} {lv lv' : Value} {r r' : Rw} {m' : bX} (k : Ch [bt] w w1) (h : RwTo w1 w2 base X br bm lv r r' lv') (ht : MapIs w2 bt m') : OpTo w w2 base X br bm bt lv r r' lv' m' := by
 obtain ⟨h1, h2, h3, h4, h5⟩ := h
 refine ⟨h1, ht, (k.mono (by simp)).trans (h2.mono fun y hy => List.mem_cons_of_mem _ hy), ?_, h4, fun g xs0 hg hg1 hg2 hl ha => h5 g xs0 hg1 hg2 hl (ha.mv k (by simp [hg]))⟩
 rcases h3 with h3 | h3
 ·exact .inl h3
 ·exact .inr fun y hy => Nat.le_trans k.size (h3 y hy)
theorem fQ (r : Rw) (t : Tm) : (r.add t).l.length ≤ r.l.length + 1 := by
 unfold Rw.add
 split <;> simp
theorem kZ {X : List Nat} {br bm b : Nat} {lv : Value} (h1 : br ∈ X) (h2 : bm ∈ X) (h : b ∉ bE lv ++ X) : b ∉ br :: bm :: bE lv := by
 intro hm
 simp only [List.mem_cons] at hm
 rcases hm with rfl | rfl | hm
 ·exact h (List.mem_append_right _ h1)
 ·exact h (List.mem_append_right _ h2)
 ·exact h (List.mem_append_left _ hm)
theorem kY {w w' : World} {base : Nat} {X : List Nat} {br bm b : Nat} {lv lv' : Value} {r r' : Rw} (h : RwTo w w' base X br bm lv r r' lv') (hb : b < w.heap.size) (hn : b ∉ br :: bm :: bE lv) : b ∉ br :: bm :: bE lv' := by
 intro hm
 simp only [List.mem_cons] at hm hn
 rcases hm with hm | hm | hm
 ·exact hn (.inl hm)
 ·exact hn (.inr (.inl hm))
 ·rcases h.2.2.1 with h3 | h3
  ·rw [h3] at hm; exact hn (.inr (.inr hm))
  ·have := h3 b hm; omega
set_option maxRecDepth 100000 in
set_option maxHeartbeats 4000000 in
theorem mm {T0 : World → Prop} {nb : Nat} (hT : ∀ w w', Below nb w w' → T0 w → T0 w') (hjoin : cG) {W : Wd} {met : bX} {f : Nat} {base : Nat} {X : List Nat} {br bm bn bb bt brk bmk : Nat} {lv rl : Value} {r : Rw} {n0 : Int} {a b : Tm} {m : bX} (w0 : World) (hnb : nb ≤ w0.heap.size) (hnbt0 : nb ≤ bt) (hw0 : T0 w0) (hbase : base ≤ w0.heap.size) (hX1 : br ∈ X) (hX2 : bm ∈ X) (hX3 : bt ∈ X) (hnbt : bt ∉ br :: bm :: bE lv) (hrw : RwIs w0 base X br bm lv r) (hbd : Bd w0 W met bb bt brk bmk rl) (htold : MapIs w0 bt m) (hfit : Fit (.mk 9 n0 [a, b])) (hnd : IsN w0 (bE lv ++ X) (.mk 9 n0 [a, b]) (.pointer (some ⟨bn, 0, none⟩))) (hlen : r.l.length + 2 ≤ 1099511627776) :
 Calls Tryd.prog 81 (List.toArray [.pointer (some ⟨bb, 0, none⟩), .pointer (some ⟨bn, 0, none⟩), .pointer (some ⟨br, 0, none⟩)]) w0 (Ret fun v w' => v = .tuple #[] ∧ ∃ lv', OpTo w0 w' base X br bm bt lv r ((r.add a).add b) lv' m) := by
 have s := htold.lt
 have hbr_ := hrw.lt
 obtain ⟨sl, xs, A, d, B, C⟩ := hnd.open
 have hbn3 : bn ≠ bt := fun h => A (h ▸ List.mem_append_right _ hX3)
 have hbn1 : bn ∉ br :: bm :: bE lv := kZ hX1 hX2 A
 have hnlv : bt ∉ bE lv := fun h => hnbt (by simp [h])
 have hnbr : br ≠ bt := fun h => hnbt (by simp [h])
 have hnbm : bm ≠ bt := fun h => hnbt (by simp [h])
 obtain ⟨va, vb, rfl, g, e⟩ := C.two
 obtain ⟨ba, rfl, hna, g⟩ := g.ptr
 obtain ⟨x, rfl, hnb2, e⟩ := e.ptr
 obtain ⟨t, u, D, rfl, o, hbsl, i⟩ := B.some (by simp)
 have hnsl1 : t ∉ br :: bm :: bE lv := kZ hX1 hX2 o
 have hnsl3 : t ≠ bt := fun h => o (h ▸ List.mem_append_right _ hX3)
 have hfa : Fit a := hfit.kid (by simp)
 replace d : At w0 bn 0 [(vI 9), (vI n0), (vS t u 2 D), (vT (txt (.mk 9 n0 [a, b])))] := d
 refine co Tryd.func81 rfl Tryd.ntmps81 rfl fun ac hF => ?_
 have hC : Ch (bt :: br :: bm :: bE lv) w0 w0 := Ch.refl _ _
 have hF := hF.sub (L' := [(0, (vp bb)), (1, (vp bn)), (2, (vp br))]) ⟨rfl, rfl, rfl, trivial⟩
 refine wp_seq ?_
 refine wp_region_lit ?_
 refine wl (bC rfl) rfl hF (fun ac hF => ?_)
 refine wl (d_nil rfl) rfl hF (fun ac hF => ?_)
 refine wl (bD cI (m := 0) sz3 rfl rfl rfl) rfl hF (fun ac hF => ?_)
 refine wl (bF Tryd.underlying3 rfl rfl (d 0 _ rfl)) rfl hF (fun ac hF => ?_)
 refine bx ?_
 refine bz ?_
 refine wp_block ?_
 refine wp_seq ?_
 refine wp_region_lit ?_
 refine wl (dU (c := true) (dN rfl rfl) (by decide)) rfl hF (fun ac hF => ?_)
 refine wl (bA rfl) rfl hF (fun ac hF => ?_)
 refine bx ?_
 refine wp_cond_true (hF.eval rfl) ?_
 refine wp_seq ?_
 refine wp_region_lit ?_
 refine wl (bC rfl) rfl hF (fun ac hF => ?_)
 refine wl (bC rfl) rfl hF (fun ac hF => ?_)
 refine wl (d_nil rfl) rfl hF (fun ac hF => ?_)
 refine wl (bD cI (m := 0) cV rfl rfl rfl) rfl hF (fun ac hF => ?_)
 refine wl (bF dH rfl rfl (d 2 _ rfl)) rfl hF (fun ac hF => ?_)
 refine wl (iz (j := 0) (q := u + 0) dH iN rfl rfl rfl (by omega) rfl) rfl hF (fun ac hF => ?_)
 refine wl (bF u83 rfl rfl (i 0 _ rfl)) rfl hF (fun ac hF => ?_)
 refine wlR (a_ c79 rfl (fN (r := r) (n := a) _ (Nat.le_trans hbase hC.size) hX1 hX2 hrw g (by first | omega | (have := fQ r a; omega)))) rfl hF ?_
 rintro _ w ac ⟨rfl, lv1, hto1⟩ hF
 have k : Ch (br :: bm :: bE lv) _ w := hto1.2.1
 have z := hto1.2.1.size
 have p : bt ∉ br :: bm :: bE lv1 := kY hto1 s hnbt
 have d := d.mv k (by first | assumption | (simp; done) | (simp <;> omega))
 have htold := htold.mv k (by first | assumption | (simp; done) | (simp <;> omega))
 have i := i.mv k (by first | assumption | (simp; done) | (simp <;> omega))
 have hrw : RwIs w base X br bm lv1 (r.add a) := hto1.1
 have g : IsN w (bE lv1 ++ X) a (.pointer (some ⟨ba, 0, none⟩)) := hto1.n hX1 hX2 g
 have e : IsN w (bE lv1 ++ X) b (.pointer (some ⟨x, 0, none⟩)) := hto1.n hX1 hX2 e
 have htoldk := htold
 have y : w0.heap.size ≤ w0.heap.size := Nat.le_refl _
 refine bx ?_
 refine bz ?_
 refine wp_region_lit ?_
 refine wl (bC rfl) rfl hF (fun ac hF => ?_)
 refine wl (bC rfl) rfl hF (fun ac hF => ?_)
 refine wl (d_nil rfl) rfl hF (fun ac hF => ?_)
 refine wl (bD cI (m := 0) cV rfl rfl rfl) rfl hF (fun ac hF => ?_)
 refine wl (bF dH rfl rfl (d 2 _ rfl)) rfl hF (fun ac hF => ?_)
 refine wl (iz (j := 1) (q := u + 1) dH iN rfl rfl rfl (by omega) rfl) rfl hF (fun ac hF => ?_)
 refine wl (bF u83 rfl rfl (i 1 _ rfl)) rfl hF (fun ac hF => ?_)
 refine wlR (a_ c79 rfl (fN (r := (r.add a)) (n := b) _ (Nat.le_trans hbase (Nat.le_trans y z)) hX1 hX2 hrw e (by first | omega | (have := fQ r a; omega)))) rfl hF ?_
 rintro _ w ac ⟨rfl, lv2, hto2⟩ hF
 have k : Ch (br :: bm :: bE lv1) _ w := hto2.2.1
 have hrw : RwIs w base X br bm lv2 ((r.add a).add b) := hto2.1
 have g : IsN w (bE lv2 ++ X) a (.pointer (some ⟨ba, 0, none⟩)) := hto2.n hX1 hX2 g
 have e : IsN w (bE lv2 ++ X) b (.pointer (some ⟨x, 0, none⟩)) := hto2.n hX1 hX2 e
 refine bx ?_
 refine bR ?_
 refine dy hF (dv Tryd.results81 ) ?_
 exact ⟨rfl, lv2, RwTo.op (Ch.refl _ _) (hto1.trans hto2) (htold.mv hto2.2.1 p)⟩
set_option maxRecDepth 100000 in
set_option maxHeartbeats 4000000 in
theorem ml {T0 : World → Prop} {nb : Nat} (hT : ∀ w w', Below nb w w' → T0 w → T0 w') (hjoin : cG) {W : Wd} {met : bX} {f : Nat} {base : Nat} {X : List Nat} {br bm bn bb bt brk bmk : Nat} {lv rl : Value} {r : Rw} {n0 : Int} {a b : Tm} {m : bX} (w0 : World) (hnb : nb ≤ w0.heap.size) (hnbt0 : nb ≤ bt) (hw0 : T0 w0) (hbase : base ≤ w0.heap.size) (hX1 : br ∈ X) (hX2 : bm ∈ X) (hX3 : bt ∈ X) (hnbt : bt ∉ br :: bm :: bE lv) (hrw : RwIs w0 base X br bm lv r) (hbd : Bd w0 W met bb bt brk bmk rl) (htold : MapIs w0 bt m) (hfit : Fit (.mk 8 n0 [a, b])) (hnd : IsN w0 (bE lv ++ X) (.mk 8 n0 [a, b]) (.pointer (some ⟨bn, 0, none⟩))) (hlen : r.l.length + 2 ≤ 1099511627776) :
 Calls Tryd.prog 81 (List.toArray [.pointer (some ⟨bb, 0, none⟩), .pointer (some ⟨bn, 0, none⟩), .pointer (some ⟨br, 0, none⟩)]) w0 (Ret fun v w' => v = .tuple #[] ∧ ∃ lv', OpTo w0 w' base X br bm bt lv r (r.add b) lv' m) := by
 have p := htold.lt
 have hbr_ := hrw.lt
 obtain ⟨sl, xs, t, d, y, z⟩ := hnd.open
 have hbn3 : bn ≠ bt := fun h => t (h ▸ List.mem_append_right _ hX3)
 have hbn1 : bn ∉ br :: bm :: bE lv := kZ hX1 hX2 t
 have hnlv : bt ∉ bE lv := fun h => hnbt (by simp [h])
 have hnbr : br ≠ bt := fun h => hnbt (by simp [h])
 have hnbm : bm ≠ bt := fun h => hnbt (by simp [h])
 obtain ⟨va, vb, rfl, k, e⟩ := z.two
 obtain ⟨ba, rfl, hna, k⟩ := k.ptr
 obtain ⟨x, rfl, hnb2, e⟩ := e.ptr
 obtain ⟨s, u, A, rfl, o, hbsl, g⟩ := y.some (by simp)
 have hnsl1 : s ∉ br :: bm :: bE lv := kZ hX1 hX2 o
 have hnsl3 : s ≠ bt := fun h => o (h ▸ List.mem_append_right _ hX3)
 have hfa : Fit a := hfit.kid (by simp)
 replace d : At w0 bn 0 [(vI 8), (vI n0), (vS s u 2 A), (vT (txt (.mk 8 n0 [a, b])))] := d
 refine co Tryd.func81 rfl Tryd.ntmps81 rfl fun ac hF => ?_
 have hC : Ch (bt :: br :: bm :: bE lv) w0 w0 := Ch.refl _ _
 have hF := hF.sub (L' := [(0, (vp bb)), (1, (vp bn)), (2, (vp br))]) ⟨rfl, rfl, rfl, trivial⟩
 refine wp_seq ?_
 refine wp_region_lit ?_
 refine wl (bC rfl) rfl hF (fun ac hF => ?_)
 refine wl (d_nil rfl) rfl hF (fun ac hF => ?_)
 refine wl (bD cI (m := 0) sz3 rfl rfl rfl) rfl hF (fun ac hF => ?_)
 refine wl (bF Tryd.underlying3 rfl rfl (d 0 _ rfl)) rfl hF (fun ac hF => ?_)
 refine bx ?_
 refine bz ?_
 refine wp_block ?_
 refine wp_seq ?_
 refine wp_region_lit ?_
 refine wl (dU (c := false) (dN rfl rfl) (by decide)) rfl hF (fun ac hF => ?_)
 refine wl (bA rfl) rfl hF (fun ac hF => ?_)
 refine bx ?_
 refine wp_cond_false (hF.eval rfl) ?_
 refine wp_seq ?_
 refine wp_region_lit ?_
 refine wl (dU (c := true) (dN rfl rfl) (by decide)) rfl hF (fun ac hF => ?_)
 refine wl (bA rfl) rfl hF (fun ac hF => ?_)
 refine bx ?_
 refine wp_cond_true (hF.eval rfl) ?_
 refine wp_region_lit ?_
 refine wl (bC rfl) rfl hF (fun ac hF => ?_)
 refine wl (bC rfl) rfl hF (fun ac hF => ?_)
 refine wl (d_nil rfl) rfl hF (fun ac hF => ?_)
 refine wl (bD cI (m := 0) cV rfl rfl rfl) rfl hF (fun ac hF => ?_)
 refine wl (bF dH rfl rfl (d 2 _ rfl)) rfl hF (fun ac hF => ?_)
 refine wl (iz (j := 1) (q := u + 1) dH iN rfl rfl rfl (by omega) rfl) rfl hF (fun ac hF => ?_)
 refine wl (bF u83 rfl rfl (g 1 _ rfl)) rfl hF (fun ac hF => ?_)
 refine wlR (a_ c79 rfl (fN (r := r) (n := b) _ (Nat.le_trans hbase hC.size) hX1 hX2 hrw e (by first | omega | (have := fQ r a; omega)))) rfl hF ?_
 rintro _ w ac ⟨rfl, lv1, hto1⟩ hF
 have i : Ch (br :: bm :: bE lv) _ w := hto1.2.1
 have hsz1 := hto1.2.1.size
 have hnbt1 : bt ∉ br :: bm :: bE lv1 := kY hto1 p hnbt
 have d := d.mv i (by first | assumption | (simp; done) | (simp <;> omega))
 have htold := htold.mv i (by first | assumption | (simp; done) | (simp <;> omega))
 have g := g.mv i (by first | assumption | (simp; done) | (simp <;> omega))
 have hrw : RwIs w base X br bm lv1 (r.add b) := hto1.1
 have k : IsN w (bE lv1 ++ X) a (.pointer (some ⟨ba, 0, none⟩)) := hto1.n hX1 hX2 k
 have e : IsN w (bE lv1 ++ X) b (.pointer (some ⟨x, 0, none⟩)) := hto1.n hX1 hX2 e
 refine bx ?_
 refine bR ?_
 refine dy hF (dv Tryd.results81 ) ?_
 exact ⟨rfl, lv1, RwTo.op (Ch.refl _ _) hto1 htold⟩
set_option maxRecDepth 100000 in
set_option maxHeartbeats 4000000 in
theorem iR {T0 : World → Prop} {nb : Nat} (hT : ∀ w w', Below nb w w' → T0 w → T0 w') (hjoin : cG) {W : Wd} {met : bX} {f : Nat} {base : Nat} {X : List Nat} {br bm bn bb bt brk bmk : Nat} {lv rl : Value} {r : Rw} {n0 : Int} {a b : Tm} {m m' : bX} (hbl : bl W met f [a] m = some (true, m')) (w0 : World) (hnb : nb ≤ w0.heap.size) (hnbt0 : nb ≤ bt) (hw0 : T0 w0) (hbase : base ≤ w0.heap.size) (hX1 : br ∈ X) (hX2 : bm ∈ X) (hX3 : bt ∈ X) (hnbt : bt ∉ br :: bm :: bE lv) (hrw : RwIs w0 base X br bm lv r) (hbd : Bd w0 W met bb bt brk bmk rl) (htold : MapIs w0 bt m) (hfit : Fit (.mk 7 n0 [a, b])) (hnd : IsN w0 (bE lv ++ X) (.mk 7 n0 [a, b]) (.pointer (some ⟨bn, 0, none⟩))) (hlen : r.l.length + 2 ≤ 1099511627776) :
 Calls Tryd.prog 81 (List.toArray [.pointer (some ⟨bb, 0, none⟩), .pointer (some ⟨bn, 0, none⟩), .pointer (some ⟨br, 0, none⟩)]) w0 (Ret fun v w' => v = .tuple #[] ∧ ∃ lv', OpTo w0 w' base X br bm bt lv r (r.add b) lv' m') := by
 have g := htold.lt
 have hbr_ := hrw.lt
 obtain ⟨sl, xs, E, e, G, H⟩ := hnd.open
 have hbn3 : bn ≠ bt := fun h => E (h ▸ List.mem_append_right _ hX3)
 have hbn1 : bn ∉ br :: bm :: bE lv := kZ hX1 hX2 E
 have z : bt ∉ bE lv := fun h => hnbt (by simp [h])
 have hnbr : br ≠ bt := fun h => hnbt (by simp [h])
 have hnbm : bm ≠ bt := fun h => hnbt (by simp [h])
 obtain ⟨va, vb, rfl, o, k⟩ := H.two
 obtain ⟨ba, rfl, hna, o⟩ := o.ptr
 obtain ⟨A, rfl, hnb2, k⟩ := k.ptr
 obtain ⟨C, D, I, rfl, u, hbsl, i⟩ := G.some (by simp)
 have hnsl1 : C ∉ br :: bm :: bE lv := kZ hX1 hX2 u
 have hnsl3 : C ≠ bt := fun h => u (h ▸ List.mem_append_right _ hX3)
 have F : Fit a := hfit.kid (by simp)
 replace e : At w0 bn 0 [(vI 7), (vI n0), (vS C D 2 I), (vT (txt (.mk 7 n0 [a, b])))] := e
 obtain ⟨hnk1, hnk2, hnk3⟩ : bb ≠ bt ∧ brk ≠ bt ∧ bmk ≠ bt := hbd.2.2.2
 have p : Ch [bt] w0 w0 := Ch.refl _ _
 refine co Tryd.func81 rfl Tryd.ntmps81 rfl fun ac hF => ?_
 have hC : Ch (bt :: br :: bm :: bE lv) w0 w0 := Ch.refl _ _
 have hF := hF.sub (L' := [(0, (vp bb)), (1, (vp bn)), (2, (vp br))]) ⟨rfl, rfl, rfl, trivial⟩
 refine wp_seq ?_
 refine wp_region_lit ?_
 refine wl (bC rfl) rfl hF (fun ac hF => ?_)
 refine wl (d_nil rfl) rfl hF (fun ac hF => ?_)
 refine wl (bD cI (m := 0) sz3 rfl rfl rfl) rfl hF (fun ac hF => ?_)
 refine wl (bF Tryd.underlying3 rfl rfl (e 0 _ rfl)) rfl hF (fun ac hF => ?_)
 refine bx ?_
 refine bz ?_
 refine wp_block ?_
 refine wp_seq ?_
 refine wp_region_lit ?_
 refine wl (dU (c := false) (dN rfl rfl) (by decide)) rfl hF (fun ac hF => ?_)
 refine wl (bA rfl) rfl hF (fun ac hF => ?_)
 refine bx ?_
 refine wp_cond_false (hF.eval rfl) ?_
 refine wp_seq ?_
 refine wp_region_lit ?_
 refine wl (dU (c := false) (dN rfl rfl) (by decide)) rfl hF (fun ac hF => ?_)
 refine wl (bA rfl) rfl hF (fun ac hF => ?_)
 refine bx ?_
 refine wp_cond_false (hF.eval rfl) ?_
 refine wp_seq ?_
 refine wp_region_lit ?_
 refine wl (dU (c := true) (dN rfl rfl) (by decide)) rfl hF (fun ac hF => ?_)
 refine wl (bA rfl) rfl hF (fun ac hF => ?_)
 refine bx ?_
 refine wp_cond_true (hF.eval rfl) ?_
 refine wp_seq ?_
 refine wp_region_lit ?_
 refine wl (bC rfl) rfl hF (fun ac hF => ?_)
 refine wl (bC rfl) rfl hF (fun ac hF => ?_)
 refine wl (d_nil rfl) rfl hF (fun ac hF => ?_)
 refine wl (bD cI (m := 0) cV rfl rfl rfl) rfl hF (fun ac hF => ?_)
 refine wl (bF dH rfl rfl (e 2 _ rfl)) rfl hF (fun ac hF => ?_)
 refine wl (iz (j := 0) (q := D + 0) dH iN rfl rfl rfl (by omega) rfl) rfl hF (fun ac hF => ?_)
 refine wl (bF u83 rfl rfl (i 0 _ rfl)) rfl hF (fun ac hF => ?_)
 refine wlR (bU (cells := #[(vp ba)]) dH lC rfl (by decide) (by decide) (by exact jM rfl)) rfl hF ?_
 rintro _ w ac ⟨b1, rfl, hnb_⟩ hF
 have d : Ch [] _ w := hnb_.ch
 have J := hnb_.lo hC.size
 have hC := hC.trans (d.mono (by intro y hy; first | (simp at hy; done) | (simpa using hy; done) | (simp [hy]; done) | (simp at hy; simp [hy]; done)))
 have e := e.mv d (by first | assumption | (simp; done) | (simp <;> omega))
 have hrw := hrw.mv d (fun y hy => by first | (simp at hy; done) | (simp at hy; subst hy; assumption)) (by first | assumption | (simp; done) | (simp <;> omega)) (by first | assumption | (simp; done) | (simp <;> omega)) (fun y hy => by first | (simp; done) | (simp; intro h; subst h; exact absurd hy z))
 have htold := htold.mv d (by first | assumption | (simp; done) | (simp <;> omega))
 have i := i.mv d (by first | assumption | (simp; done) | (simp <;> omega))
 have o : IsN w (bE lv ++ X) a (.pointer (some ⟨ba, 0, none⟩)) := IsN.mv d (fun y hy => by first | (simp at hy; done) | (simp at hy; subst hy; exact List.mem_append_right _ hX3)) (fun x hx => .inl hx) _ _ o
 have k : IsN w (bE lv ++ X) b (.pointer (some ⟨A, 0, none⟩)) := IsN.mv d (fun y hy => by first | (simp at hy; done) | (simp at hy; subst hy; exact List.mem_append_right _ hX3)) (fun x hx => .inl hx) _ _ k
 have hbd := hbd.mv d (by first | assumption | (simp; done) | (simp <;> omega)) (by first | assumption | (simp; done) | (simp <;> omega)) (by first | assumption | (simp; done) | (simp <;> omega))
 have g := d.lt g
 have p := p.trans (d.mono (by simp))
 have s : b1 < w.heap.size := hnb_.lt
 have lob1 : w0.heap.size ≤ b1 := J
 have B : At w b1 0 [(vp ba)] := hnb_.at
 refine wlR (a_ c45 rfl (iA hT hjoin f [a] m m' true bb bt brk bmk rl _ _ _ _ (by simp) hbl (fun t ht => by simp at ht; subst ht; exact F) (Nat.le_trans hnb hC.size) hnbt0 (hT _ _ (p.below hnb (by simpa using hnbt0)) hw0) hbd htold (.inr ⟨_, 0, 0, rfl, by simp <;> omega, s, B⟩) (IsNs.one (IsN.mv (Ch.refl [] _) (by simp) (fun x hx => by simp at hx; subst hx; exact .inl (List.mem_append_right _ hX3)) _ _ o)))) rfl hF ?_
 rintro _ w ac ⟨rfl, htold, hch0_⟩ hF
 have d : Ch [bt] _ w := hch0_
 have hC := hC.trans (d.mono (by intro y hy; first | (simp at hy; done) | (simpa using hy; done) | (simp [hy]; done) | (simp at hy; simp [hy]; done)))
 have e := e.mv d (by first | assumption | (simp; done) | (simp <;> omega))
 have hrw := hrw.mv d (fun y hy => by first | (simp at hy; done) | (simp at hy; subst hy; assumption)) (by first | assumption | (simp; done) | (simp <;> omega)) (by first | assumption | (simp; done) | (simp <;> omega)) (fun y hy => by first | (simp; done) | (simp; intro h; subst h; exact absurd hy z))
 have i := i.mv d (by first | assumption | (simp; done) | (simp <;> omega))
 have o : IsN w (bE lv ++ X) a (.pointer (some ⟨ba, 0, none⟩)) := IsN.mv d (fun y hy => by first | (simp at hy; done) | (simp at hy; subst hy; exact List.mem_append_right _ hX3)) (fun x hx => .inl hx) _ _ o
 have k : IsN w (bE lv ++ X) b (.pointer (some ⟨A, 0, none⟩)) := IsN.mv d (fun y hy => by first | (simp at hy; done) | (simp at hy; subst hy; exact List.mem_append_right _ hX3)) (fun x hx => .inl hx) _ _ k
 have hbd := hbd.mv d (by first | assumption | (simp; done) | (simp <;> omega)) (by first | assumption | (simp; done) | (simp <;> omega)) (by first | assumption | (simp; done) | (simp <;> omega))
 have g := d.lt g
 have p := p.trans (d.mono (by simp))
 have s := d.lt s
 have B := B.mv d (by simp <;> omega)
 refine bx ?_
 refine wp_cond_true (hF.eval rfl) ?_
 refine wp_region_lit ?_
 refine wl (bC rfl) rfl hF (fun ac hF => ?_)
 refine wl (bC rfl) rfl hF (fun ac hF => ?_)
 refine wl (d_nil rfl) rfl hF (fun ac hF => ?_)
 refine wl (bD cI (m := 0) cV rfl rfl rfl) rfl hF (fun ac hF => ?_)
 refine wl (bF dH rfl rfl (e 2 _ rfl)) rfl hF (fun ac hF => ?_)
 refine wl (iz (j := 1) (q := D + 1) dH iN rfl rfl rfl (by omega) rfl) rfl hF (fun ac hF => ?_)
 refine wl (bF u83 rfl rfl (i 1 _ rfl)) rfl hF (fun ac hF => ?_)
 refine wlR (a_ c79 rfl (fN (r := r) (n := b) _ (Nat.le_trans hbase hC.size) hX1 hX2 hrw k (by first | omega | (have := fQ r a; omega)))) rfl hF ?_
 rintro _ w ac ⟨rfl, lv1, hto1⟩ hF
 have d : Ch (br :: bm :: bE lv) _ w := hto1.2.1
 have hsz1 := hto1.2.1.size
 have hnbt1 : bt ∉ br :: bm :: bE lv1 := kY hto1 g hnbt
 have e := e.mv d (by first | assumption | (simp; done) | (simp <;> omega))
 have htold := htold.mv d (by first | assumption | (simp; done) | (simp <;> omega))
 have i := i.mv d (by first | assumption | (simp; done) | (simp <;> omega))
 have g := d.lt g
 have hrw : RwIs w base X br bm lv1 (r.add b) := hto1.1
 have o : IsN w (bE lv1 ++ X) a (.pointer (some ⟨ba, 0, none⟩)) := hto1.n hX1 hX2 o
 have k : IsN w (bE lv1 ++ X) b (.pointer (some ⟨A, 0, none⟩)) := hto1.n hX1 hX2 k
 refine bx ?_
 refine bR ?_
 refine dy hF (dv Tryd.results81 ) ?_
 exact ⟨rfl, lv1, RwTo.op p hto1 htold⟩
set_option maxRecDepth 100000 in
set_option maxHeartbeats 4000000 in
theorem ip {T0 : World → Prop} {nb : Nat} (hT : ∀ w w', Below nb w w' → T0 w → T0 w') (hjoin : cG) {W : Wd} {met : bX} {f : Nat} {base : Nat} {X : List Nat} {br bm bn bb bt brk bmk : Nat} {lv rl : Value} {r : Rw} {n0 : Int} {a b : Tm} {m m' : bX} (hbl : bl W met f [a] m = some (false, m')) (w0 : World) (hnb : nb ≤ w0.heap.size) (hnbt0 : nb ≤ bt) (hw0 : T0 w0) (hbase : base ≤ w0.heap.size) (hX1 : br ∈ X) (hX2 : bm ∈ X) (hX3 : bt ∈ X) (hnbt : bt ∉ br :: bm :: bE lv) (hrw : RwIs w0 base X br bm lv r) (hbd : Bd w0 W met bb bt brk bmk rl) (htold : MapIs w0 bt m) (hfit : Fit (.mk 7 n0 [a, b])) (hnd : IsN w0 (bE lv ++ X) (.mk 7 n0 [a, b]) (.pointer (some ⟨bn, 0, none⟩))) (hlen : r.l.length + 2 ≤ 1099511627776) :
 Calls Tryd.prog 81 (List.toArray [.pointer (some ⟨bb, 0, none⟩), .pointer (some ⟨bn, 0, none⟩), .pointer (some ⟨br, 0, none⟩)]) w0 (Ret fun v w' => v = .tuple #[] ∧ ∃ lv', OpTo w0 w' base X br bm bt lv r r lv' m') := by
 have g := htold.lt
 have hbr_ := hrw.lt
 obtain ⟨sl, xs, C, e, F, G⟩ := hnd.open
 have hbn3 : bn ≠ bt := fun h => C (h ▸ List.mem_append_right _ hX3)
 have hbn1 : bn ∉ br :: bm :: bE lv := kZ hX1 hX2 C
 have u : bt ∉ bE lv := fun h => hnbt (by simp [h])
 have hnbr : br ≠ bt := fun h => hnbt (by simp [h])
 have hnbm : bm ≠ bt := fun h => hnbt (by simp [h])
 obtain ⟨va, vb, rfl, k, o⟩ := G.two
 obtain ⟨ba, rfl, hna, k⟩ := k.ptr
 obtain ⟨B, rfl, hnb2, o⟩ := o.ptr
 obtain ⟨A, D, H, rfl, s, hbsl, i⟩ := F.some (by simp)
 have hnsl1 : A ∉ br :: bm :: bE lv := kZ hX1 hX2 s
 have hnsl3 : A ≠ bt := fun h => s (h ▸ List.mem_append_right _ hX3)
 have E : Fit a := hfit.kid (by simp)
 replace e : At w0 bn 0 [(vI 7), (vI n0), (vS A D 2 H), (vT (txt (.mk 7 n0 [a, b])))] := e
 obtain ⟨hnk1, hnk2, hnk3⟩ : bb ≠ bt ∧ brk ≠ bt ∧ bmk ≠ bt := hbd.2.2.2
 have n : Ch [bt] w0 w0 := Ch.refl _ _
 refine co Tryd.func81 rfl Tryd.ntmps81 rfl fun ac hF => ?_
 have hC : Ch (bt :: br :: bm :: bE lv) w0 w0 := Ch.refl _ _
 have hF := hF.sub (L' := [(0, (vp bb)), (1, (vp bn)), (2, (vp br))]) ⟨rfl, rfl, rfl, trivial⟩
 refine wp_seq ?_
 refine wp_region_lit ?_
 refine wl (bC rfl) rfl hF (fun ac hF => ?_)
 refine wl (d_nil rfl) rfl hF (fun ac hF => ?_)
 refine wl (bD cI (m := 0) sz3 rfl rfl rfl) rfl hF (fun ac hF => ?_)
 refine wl (bF Tryd.underlying3 rfl rfl (e 0 _ rfl)) rfl hF (fun ac hF => ?_)
 refine bx ?_
 refine bz ?_
 refine wp_block ?_
 refine wp_seq ?_
 refine wp_region_lit ?_
 refine wl (dU (c := false) (dN rfl rfl) (by decide)) rfl hF (fun ac hF => ?_)
 refine wl (bA rfl) rfl hF (fun ac hF => ?_)
 refine bx ?_
 refine wp_cond_false (hF.eval rfl) ?_
 refine wp_seq ?_
 refine wp_region_lit ?_
 refine wl (dU (c := false) (dN rfl rfl) (by decide)) rfl hF (fun ac hF => ?_)
 refine wl (bA rfl) rfl hF (fun ac hF => ?_)
 refine bx ?_
 refine wp_cond_false (hF.eval rfl) ?_
 refine wp_seq ?_
 refine wp_region_lit ?_
 refine wl (dU (c := true) (dN rfl rfl) (by decide)) rfl hF (fun ac hF => ?_)
 refine wl (bA rfl) rfl hF (fun ac hF => ?_)
 refine bx ?_
 refine wp_cond_true (hF.eval rfl) ?_
 refine wp_seq ?_
 refine wp_region_lit ?_
 refine wl (bC rfl) rfl hF (fun ac hF => ?_)
 refine wl (bC rfl) rfl hF (fun ac hF => ?_)
 refine wl (d_nil rfl) rfl hF (fun ac hF => ?_)
 refine wl (bD cI (m := 0) cV rfl rfl rfl) rfl hF (fun ac hF => ?_)
 refine wl (bF dH rfl rfl (e 2 _ rfl)) rfl hF (fun ac hF => ?_)
 refine wl (iz (j := 0) (q := D + 0) dH iN rfl rfl rfl (by omega) rfl) rfl hF (fun ac hF => ?_)
 refine wl (bF u83 rfl rfl (i 0 _ rfl)) rfl hF (fun ac hF => ?_)
 refine wlR (bU (cells := #[(vp ba)]) dH lC rfl (by decide) (by decide) (by exact jM rfl)) rfl hF ?_
 rintro _ w ac ⟨b1, rfl, hnb_⟩ hF
 have d : Ch [] _ w := hnb_.ch
 have I := hnb_.lo hC.size
 have hC := hC.trans (d.mono (by intro y hy; first | (simp at hy; done) | (simpa using hy; done) | (simp [hy]; done) | (simp at hy; simp [hy]; done)))
 have e := e.mv d (by first | assumption | (simp; done) | (simp <;> omega))
 have hrw := hrw.mv d (fun y hy => by first | (simp at hy; done) | (simp at hy; subst hy; assumption)) (by first | assumption | (simp; done) | (simp <;> omega)) (by first | assumption | (simp; done) | (simp <;> omega)) (fun y hy => by first | (simp; done) | (simp; intro h; subst h; exact absurd hy u))
 have htold := htold.mv d (by first | assumption | (simp; done) | (simp <;> omega))
 have i := i.mv d (by first | assumption | (simp; done) | (simp <;> omega))
 have k : IsN w (bE lv ++ X) a (.pointer (some ⟨ba, 0, none⟩)) := IsN.mv d (fun y hy => by first | (simp at hy; done) | (simp at hy; subst hy; exact List.mem_append_right _ hX3)) (fun x hx => .inl hx) _ _ k
 have o : IsN w (bE lv ++ X) b (.pointer (some ⟨B, 0, none⟩)) := IsN.mv d (fun y hy => by first | (simp at hy; done) | (simp at hy; subst hy; exact List.mem_append_right _ hX3)) (fun x hx => .inl hx) _ _ o
 have hbd := hbd.mv d (by first | assumption | (simp; done) | (simp <;> omega)) (by first | assumption | (simp; done) | (simp <;> omega)) (by first | assumption | (simp; done) | (simp <;> omega))
 have g := d.lt g
 have n := n.trans (d.mono (by simp))
 have p : b1 < w.heap.size := hnb_.lt
 have lob1 : w0.heap.size ≤ b1 := I
 have z : At w b1 0 [(vp ba)] := hnb_.at
 refine wlR (a_ c45 rfl (iA hT hjoin f [a] m m' false bb bt brk bmk rl _ _ _ _ (by simp) hbl (fun t ht => by simp at ht; subst ht; exact E) (Nat.le_trans hnb hC.size) hnbt0 (hT _ _ (n.below hnb (by simpa using hnbt0)) hw0) hbd htold (.inr ⟨_, 0, 0, rfl, by simp <;> omega, p, z⟩) (IsNs.one (IsN.mv (Ch.refl [] _) (by simp) (fun x hx => by simp at hx; subst hx; exact .inl (List.mem_append_right _ hX3)) _ _ k)))) rfl hF ?_
 rintro _ w ac ⟨rfl, htold, hch0_⟩ hF
 have d : Ch [bt] _ w := hch0_
 have hC := hC.trans (d.mono (by intro y hy; first | (simp at hy; done) | (simpa using hy; done) | (simp [hy]; done) | (simp at hy; simp [hy]; done)))
 have e := e.mv d (by first | assumption | (simp; done) | (simp <;> omega))
 have hrw := hrw.mv d (fun y hy => by first | (simp at hy; done) | (simp at hy; subst hy; assumption)) (by first | assumption | (simp; done) | (simp <;> omega)) (by first | assumption | (simp; done) | (simp <;> omega)) (fun y hy => by first | (simp; done) | (simp; intro h; subst h; exact absurd hy u))
 have i := i.mv d (by first | assumption | (simp; done) | (simp <;> omega))
 have k : IsN w (bE lv ++ X) a (.pointer (some ⟨ba, 0, none⟩)) := IsN.mv d (fun y hy => by first | (simp at hy; done) | (simp at hy; subst hy; exact List.mem_append_right _ hX3)) (fun x hx => .inl hx) _ _ k
 have o : IsN w (bE lv ++ X) b (.pointer (some ⟨B, 0, none⟩)) := IsN.mv d (fun y hy => by first | (simp at hy; done) | (simp at hy; subst hy; exact List.mem_append_right _ hX3)) (fun x hx => .inl hx) _ _ o
 have hbd := hbd.mv d (by first | assumption | (simp; done) | (simp <;> omega)) (by first | assumption | (simp; done) | (simp <;> omega)) (by first | assumption | (simp; done) | (simp <;> omega))
 have g := d.lt g
 have n := n.trans (d.mono (by simp))
 have p := d.lt p
 have z := z.mv d (by simp <;> omega)
 refine bx ?_
 refine wp_cond_false (hF.eval rfl) ?_
 refine wp_skip ?_
 refine bR ?_
 refine dy hF (dv Tryd.results81 ) ?_
 exact ⟨rfl, lv, RwTo.op n (RwTo.refl hrw) htold⟩
set_option maxRecDepth 100000 in
set_option maxHeartbeats 4000000 in
theorem oW {T0 : World → Prop} {nb : Nat} (hT : ∀ w w', Below nb w w' → T0 w → T0 w') (hjoin : cG) {W : Wd} {met : bX} {f : Nat} {base : Nat} {X : List Nat} {br bm bn bb bt brk bmk : Nat} {lv rl : Value} {r : Rw} {n0 : Int} {k : Int} {ks : List Tm} {m : bX} (hk9 : ¬ k = 9) (hk8 : ¬ k = 8) (hk7 : ¬ k = 7) (w0 : World) (hnb : nb ≤ w0.heap.size) (hnbt0 : nb ≤ bt) (hw0 : T0 w0) (hbase : base ≤ w0.heap.size) (hX1 : br ∈ X) (hX2 : bm ∈ X) (hX3 : bt ∈ X) (hnbt : bt ∉ br :: bm :: bE lv) (hrw : RwIs w0 base X br bm lv r) (hbd : Bd w0 W met bb bt brk bmk rl) (htold : MapIs w0 bt m) (hfit : Fit (.mk k n0 ks)) (hnd : IsN w0 (bE lv ++ X) (.mk k n0 ks) (.pointer (some ⟨bn, 0, none⟩))) (hlen : r.l.length + 2 ≤ 1099511627776) :
 Calls Tryd.prog 81 (List.toArray [.pointer (some ⟨bb, 0, none⟩), .pointer (some ⟨bn, 0, none⟩), .pointer (some ⟨br, 0, none⟩)]) w0 (Ret fun v w' => v = .tuple #[] ∧ ∃ lv', OpTo w0 w' base X br bm bt lv r r lv' m) := by
 have hbtlt := htold.lt
 have hbr_ := hrw.lt
 obtain ⟨sl, xs, a, b, hsl, hkk⟩ := hnd.open
 have hbn3 : bn ≠ bt := fun h => a (h ▸ List.mem_append_right _ hX3)
 have hbn1 : bn ∉ br :: bm :: bE lv := kZ hX1 hX2 a
 have hnlv : bt ∉ bE lv := fun h => hnbt (by simp [h])
 have hnbr : br ≠ bt := fun h => hnbt (by simp [h])
 have hnbm : bm ≠ bt := fun h => hnbt (by simp [h])
 refine co Tryd.func81 rfl Tryd.ntmps81 rfl fun ac hF => ?_
 have hC : Ch (bt :: br :: bm :: bE lv) w0 w0 := Ch.refl _ _
 have hF := hF.sub (L' := [(0, (vp bb)), (1, (vp bn)), (2, (vp br))]) ⟨rfl, rfl, rfl, trivial⟩
 refine wp_seq ?_
 refine wp_region_lit ?_
 refine wl (bC rfl) rfl hF (fun ac hF => ?_)
 refine wl (d_nil rfl) rfl hF (fun ac hF => ?_)
 refine wl (bD cI (m := 0) sz3 rfl rfl rfl) rfl hF (fun ac hF => ?_)
 refine wl (bF Tryd.underlying3 rfl rfl (b 0 _ rfl)) rfl hF (fun ac hF => ?_)
 refine bx ?_
 refine bz ?_
 refine wp_block ?_
 refine wp_seq ?_
 refine wp_region_lit ?_
 refine wl (dU (c := false) (dN rfl rfl) (decide_eq_false hk9)) rfl hF (fun ac hF => ?_)
 refine wl (bA rfl) rfl hF (fun ac hF => ?_)
 refine bx ?_
 refine wp_cond_false (hF.eval rfl) ?_
 refine wp_seq ?_
 refine wp_region_lit ?_
 refine wl (dU (c := false) (dN rfl rfl) (decide_eq_false hk8)) rfl hF (fun ac hF => ?_)
 refine wl (bA rfl) rfl hF (fun ac hF => ?_)
 refine bx ?_
 refine wp_cond_false (hF.eval rfl) ?_
 refine wp_seq ?_
 refine wp_region_lit ?_
 refine wl (dU (c := false) (dN rfl rfl) (decide_eq_false hk7)) rfl hF (fun ac hF => ?_)
 refine wl (bA rfl) rfl hF (fun ac hF => ?_)
 refine bx ?_
 refine wp_cond_false (hF.eval rfl) ?_
 refine wp_skip ?_
 refine bR ?_
 refine dy hF (dv Tryd.results81 ) ?_
 exact ⟨rfl, lv, RwTo.op (Ch.refl _ _) (RwTo.refl hrw) htold⟩
theorem kU {T0 : World → Prop} {nb : Nat} (hT : ∀ w w', Below nb w w' → T0 w → T0 w') (hjoin : cG) {W : Wd} {met : bX} {f : Nat} {base : Nat} {X : List Nat} {br bm bn bb bt brk bmk : Nat} {lv rl : Value} {r r' : Rw} {t : Tm} {m m' : bX} (hop : opn1 W met f t m r = some (m', r')) (w0 : World) (hnb : nb ≤ w0.heap.size) (hnbt0 : nb ≤ bt) (hw0 : T0 w0) (hbase : base ≤ w0.heap.size) (hX1 : br ∈ X) (hX2 : bm ∈ X) (hX3 : bt ∈ X) (hnbt : bt ∉ br :: bm :: bE lv) (hrw : RwIs w0 base X br bm lv r) (hbd : Bd w0 W met bb bt brk bmk rl) (htold : MapIs w0 bt m) (hfit : Fit t) (hnd : IsN w0 (bE lv ++ X) t (.pointer (some ⟨bn, 0, none⟩))) (hlen : r.l.length + 2 ≤ 1099511627776) :
 Calls Tryd.prog 81 (List.toArray [.pointer (some ⟨bb, 0, none⟩), .pointer (some ⟨bn, 0, none⟩), .pointer (some ⟨br, 0, none⟩)]) w0 (Ret fun v w' => v = .tuple #[] ∧ ∃ lv', OpTo w0 w' base X br bm bt lv r r' lv' m') := by
 cases t with
 | mk k n0 ks =>
  by_cases h9 : k = 9
  ·subst h9
   obtain ⟨a, b, rfl, _, _⟩ := hfit.1.two' (by decide) (by decide) (by decide)
   simp [opn1] at hop
   obtain ⟨rfl, rfl⟩ := hop
   exact mm hT hjoin (W := W) (met := met) (f := f) w0 hnb hnbt0 hw0 hbase hX1 hX2 hX3 hnbt hrw hbd htold hfit hnd hlen
  by_cases h8 : k = 8
  ·subst h8
   obtain ⟨a, b, rfl, _, _⟩ := hfit.1.two' (by decide) (by decide) (by decide)
   simp [opn1] at hop
   obtain ⟨rfl, rfl⟩ := hop
   exact ml hT hjoin (W := W) (met := met) (f := f) w0 hnb hnbt0 hw0 hbase hX1 hX2 hX3 hnbt hrw hbd htold hfit hnd hlen
  by_cases h7 : k = 7
  ·subst h7
   obtain ⟨a, b, rfl, _, _⟩ := hfit.1.two' (by decide) (by decide) (by decide)
   simp [opn1] at hop
   split at hop
   ·cases hop
   ·rename_i m1 hb1
    simp at hop
    obtain ⟨rfl, rfl⟩ := hop
    exact iR hT hjoin hb1 w0 hnb hnbt0 hw0 hbase hX1 hX2 hX3 hnbt hrw hbd htold hfit hnd hlen
   ·rename_i m1 hb1
    simp at hop
    obtain ⟨rfl, rfl⟩ := hop
    exact ip hT hjoin hb1 w0 hnb hnbt0 hw0 hbase hX1 hX2 hX3 hnbt hrw hbd htold hfit hnd hlen
  ·simp [opn1, h9, h8, h7] at hop
   obtain ⟨rfl, rfl⟩ := hop
   exact oW hT hjoin (W := W) (met := met) (f := f) h9 h8 h7 w0 hnb hnbt0 hw0 hbase hX1 hX2 hX3 hnbt hrw hbd htold hfit hnd hlen
end Go.Mi.Term
namespace Go.Mi.Term
open Go.Mi Go.Proofs Go.RowKit
theorem RwIs.mvx {w w' : World} {base : Nat} {X X' Y : List Nat} {br bm : Nat} {lv : Value} {r : Rw} (h : RwIs w base X br bm lv r) (k : Ch Y w w') (hy : ∀ y, y ∈ Y → y ∈ X) (h1 : br ∉ Y) (h2 : bm ∉ Y) (h3 : ∀ y, y ∈ bE lv → y ∉ Y) (hx : ∀ x, x ∈ X' → x ∈ X ∨ w.heap.size ≤ x) : RwIs w' base X' br bm lv r := by
  obtain ⟨xs, h4, h5⟩ := h.own
  refine ⟨k.blk0 h.st h1, h.met.mv k h2, ⟨xs, h4.mv k h3, IsNs.mv k (fun y hm => List.mem_append_right _ (hy y hm)) (fun x hm => ?_) _ _ h5⟩, h.nr, h.nm, h.ne⟩
  rcases List.mem_append.1 hm with hm | hm
  · exact .inl (List.mem_append_left _ hm)
  · rcases hx x hm with hx | hx
    · exact .inl (List.mem_append_right _ hx)
    · exact .inr hx
theorem RwIs.lo {w : World} {base : Nat} {X : List Nat} {br bm : Nat} {lv : Value} {r : Rw} (h : RwIs w base X br bm lv r) : ∀ y, y ∈ bE lv → base ≤ y ∧ y < w.heap.size := by
  obtain ⟨xs, h4, _⟩ := h.own
  exact h4.lt
theorem OpTo.ns {w w' : World} {base : Nat} {X : List Nat} {br bm bt : Nat} {lv lv' : Value} {r r' : Rw} {m' : bX} (h : OpTo w w' base X br bm bt lv r r' lv' m') (hr : br ∈ X) (hm : bm ∈ X) (ht : bt ∈ X) {ts : List Tm} {xs : List Value} (hn : IsNs w (bE lv ++ X) ts xs) : IsNs w' (bE lv' ++ X) ts xs := by
  refine IsNs.mv h.2.2.1 (fun y hy => ?_) (fun x hx => ?_) _ _ hn
  · simp only [List.mem_cons, List.mem_append] at hy ⊢
    rcases hy with rfl | rfl | rfl | hy
    · exact .inr ht
    · exact .inr hr
    · exact .inr hm
    · exact .inl hy
  · simp only [List.mem_append] at hx ⊢
    rcases hx with hx | hx
    · rcases h.2.2.2.1 with h3 | h3
      · rw [h3] at hx; exact .inl (.inl hx)
      · exact .inr (h3 x hx)
    · exact .inl (.inr hx)
theorem jF {w w' : World} {base : Nat} {X : List Nat} {br bm bt b : Nat} {lv lv' : Value} {r r' : Rw} {m' : bX} (h : OpTo w w' base X br bm bt lv r r' lv' m') (hb : b < w.heap.size) (hn : b ∉ br :: bm :: bE lv) : b ∉ br :: bm :: bE lv' := by
  intro hm
  simp only [List.mem_cons] at hm hn
  rcases hm with hm | hm | hm
  · exact hn (.inl hm)
  · exact hn (.inr (.inl hm))
  · rcases h.2.2.2.1 with h3 | h3
    · rw [h3] at hm; exact hn (.inr (.inr hm))
    · have := h3 b hm; omega
theorem rG {w : World} {b o : Nat} {vs : List Value} (h : At w b o vs) (hv : 0 < vs.length) : b < w.heap.size := by
  cases vs with
  | nil => simp at hv
  | cons v vs => exact h.lt
theorem Bd.lt {w : World} {W : Wd} {met : bX} {bb bt br bm : Nat} {rl : Value} (h : Bd w W met bb bt br bm rl) : bb < w.heap.size ∧ br < w.heap.size ∧ bm < w.heap.size := ⟨rG h.1 (by simp), rG h.2.1 (by simp), h.2.2.1.lt⟩
def ii : Prop := ∀ (b : Nat) (es : Array MapEntry) (clock : Nat) (w : World), w.heap[b]? = some (.map es clock) → Calls Tryd.prog 80 (List.toArray [.map (some b)]) w (fun e w' => e = .returned (.map (some w.heap.size)) ∧ w' = w.alloc (.map es clock))
theorem mI (hc : ii) {b : Nat} {m : bX} (w : World) (h : MapIs w b m) : Calls Tryd.prog 80 (List.toArray [.map (some b)]) w (Ret fun v w' => ∃ b', v = .map (some b') ∧ b' = w.heap.size ∧ b' < w'.heap.size ∧ MapIs w' b' m ∧ Ch [] w w') := by
  obtain ⟨es, clock, h1, h2⟩ := h
  refine (hc b es clock w h1).mono fun e w' ⟨he, hw⟩ => ?_
  subst hw
  refine ⟨_, he, _, rfl, rfl, ?_, ⟨es, clock, ?_, h2⟩, Gr.ch ((Below.refl w.heap.size w).alloc (Nat.le_refl _) _)⟩
  · show w.heap.size < (w.heap.push _).size
    simp
  · show (w.heap.push _)[w.heap.size]? = _
    simp
structure RdIs (w : World) (lo : Nat) (W : Wd) (br bb bt : Nat) : Prop where
  at' : At w bb 0 [.bool W.dh, .bool W.kem, .pointer (some ⟨br, 0, none⟩), .map (some bt)]
  told : MapIs w bt []
  lb : lo ≤ bb
  lt : lo ≤ bt
  ne : bb ≠ bt
theorem RdIs.mv {w w' : World} {lo : Nat} {W : Wd} {br bb bt : Nat} (h : RdIs w lo W br bb bt) (k : Ch [] w w') : RdIs w' lo W br bb bt := ⟨h.at'.mv k (by simp), h.told.mv k (by simp), h.lb, h.lt, h.ne⟩
theorem gR {W : Wd} {br : Nat} (w0 : World) : Calls Tryd.prog 43 (List.toArray [.agg #[.bool W.dh, .bool W.kem], .pointer (some ⟨br, 0, none⟩)]) w0 (Ret fun v w' => ∃ bb, v = .pointer (some ⟨bb, 0, none⟩) ∧ (∃ bt, RdIs w' w0.heap.size W br bb bt) ∧ Ch [] w0 w') := by
  refine (l0 w0).mono fun e w' ⟨v, he, ⟨bb, bt, h1, h2, h3, h4, h5, h6⟩, hg⟩ => ⟨v, he, bb, h1, ⟨bt, At.of_blk h2, h3, h4, h5, h6⟩, Gr.ch hg⟩
section
variable {P : Program} {n : Nat} {L : List (Nat × Value)} {w : World} {ds : Option Nat} {ty : TypeId} {pos : String} {af : Array Edge} {gu : Option (Nat × Bool)}
theorem hQ {x : Operand} {t e e' : TypeId} {base m k : Nat} {v : Value} {xs : List Value} (ht : P.underlying t = some (.slice e')) (hx : ev L x = some v) (hown : Own w base e m v k xs) : Det P ⟨ds, .call ⟨.builtin .len, #[x], #[t]⟩, ty, pos, af, gu⟩ n L w (.int .i64 k) w := by
  rcases hown.at with ⟨rfl, rfl, _⟩ | ⟨b, cap, rfl, _, _⟩
  · exact bT ht hx
  · exact bT ht hx
theorem nG {x h : Operand} {t e : TypeId} {base m k q : Nat} {v : Value} {xs : List Value} (ht : P.underlying t = some (.slice e)) (hs : (P.info? e).map (·.size) = some q) (hx : ev L x = some v) (hh : ev L h = some (.int .i64 k)) (hown : Own w base e m v k xs) : Det P ⟨ds, .slice t x none (some h) none, ty, pos, af, gu⟩ n L w v w :=
  Det.of_run fun a hF => by
    obtain ⟨inf, hi, hz⟩ := Option.map_eq_some_iff.1 hs
    rcases hown.at with ⟨rfl, rfl, _⟩ | ⟨b, cap, rfl, hc, _⟩
    · simp [execOp, hF.eval hx, hF.eval hh, Instr.sliceAt, Instr.slice, bN ht, Instr.sliceBounds, Instr.sliceBound, asIntOf, sizeOf, typeInfo, hi]
    · have h1 : (0 : Int) ≤ k ∧ (k : Int) ≤ cap := by omega
      have h2 : ¬ cap < k := by omega
      simp [execOp, hF.eval hx, hF.eval hh, Instr.sliceAt, Instr.slice, bN ht, Instr.sliceBounds, Instr.sliceBound, asIntOf, sizeOf, typeInfo, hi, h1, h2, hz, dq]
end
theorem Own.form {w : World} {base m n : Nat} {e : TypeId} {v : Value} {xs : List Value} (h : Own w base e m v n xs) (hn : 0 < n) : ∃ b cap, v = .slice (some ⟨b, 0, none⟩) n cap ∧ At w b 0 xs ∧ b ∈ bE v := by
  rcases h.at with ⟨_, rfl, _⟩ | ⟨b, cap, rfl, _, ha⟩
  · omega
  · exact ⟨b, cap, rfl, ha, by simp [bE]⟩
end Go.Mi.Term
namespace Go.Mi.Term
open Go.Mi Go.Proofs Go.RowKit
section
variable {P : Program} {n : Nat} {L : List (Nat × Value)} {w : World} {ds : Option Nat} {ty : TypeId} {pos : String} {af : Array Edge} {gu : Option (Nat × Bool)}
theorem mF {x y : Operand} {t t' k e : TypeId} {b : Nat} (ht : P.underlying t = some (.map k e)) (hx : ev L x = some (.map (some b))) (hy : ev L y = some (.map none)) : Det P ⟨ds, .binOp .eql t x y t', ty, pos, af, gu⟩ n L w (.bool false) w :=
  Det.of_run fun a hF => by
    have h := run_eql_map_nil_sl (P := P) w t k e (some b) ht
    simp [execOp, hF.eval hx, hF.eval hy, eqGuard, h]
theorem mE {x : Operand} {t k e : TypeId} {v : Value} (ht : P.underlying t = some (.map k e)) (hx : ev L x = some v) : Det P ⟨ds, .makeInterface t x, ty, pos, af, gu⟩ n L w (.iface t v) w :=
  Det.of_run fun a hF => by simp [execOp, hF.eval hx, Instr.makeInterface, bN ht]
theorem mG {x : Operand} {t xT k e : TypeId} {v : Value} (ht : P.underlying t = some (.map k e)) (hx : ev L x = some (.iface t v)) : Det P ⟨ds, .typeAssert x xT t false, ty, pos, af, gu⟩ n L w v w :=
  Det.of_run fun a hF => by
    have h := run_typeAssert_map_sl (P := P) w t xT k e v ht
    simp [execOp, hF.eval hx, h]
theorem qi {x : Operand} {ts : Array TypeId} {f : FuncId} {fn : Func} {t : TypeId} {b : Nat} {es : Array MapEntry} {clock : Nat} (hf : P.funcs[f]? = some fn) (hname : (fn.name == "runtime.NumGoroutine") = false) (hb : fn.body.isNone = true) (hn : Extern.findNext fn = none) (he : Extern.find fn = some Extern.MapsClone.clone)
    (hx : ev L x = some (.iface t (.map (some b)))) (hm : w.heap[b]? = some (.map es clock)) : Det P ⟨ds, .call ⟨.value (.func f), #[x], ts⟩, ty, pos, af, gu⟩ n L w (.iface t (.map (some w.heap.size))) (w.alloc (.map es clock)) :=
  Det.of_run fun a hF => by
    have h1 := run_callFunc_extern (P := P) hf hname hb hn he #[.iface t (.map (some b))] w
    rw [run_maps_clone_sl w t hm] at h1
    have hev : a.eval (.func f) = .func (.func f) #[] #[] := rfl
    simp only [execOp, resolve, hev, Deferred.ofValue, Sem.run_bind, Sem.run_pure, Result.andThen_ok, invoke, List.map_toArray, List.map_cons, List.map_nil, hF.eval hx]
    simp [h1, Result.andThen]
end
end Go.Mi.Term
namespace Go.Mi.Term
open Go.Mi Go.Proofs Go.RowKit
set_option linter.unusedVariables false
set_option maxRecDepth 100000 in
set_option maxHeartbeats 4000000 in
theorem nH {b : Nat} {es : Array MapEntry} {clock : Nat} (w0 : World) (hb : w0.heap[b]? = some (.map es clock)) : Calls Tryd.prog 80 (List.toArray [.map (some b)]) w0 (Ret fun v w' => v = .map (some w0.heap.size) ∧ w' = w0.alloc (.map es clock)) := by
  refine co Tryd.func80 rfl Tryd.ntmps80 rfl fun ac hF => ?_
  have hC : Ch [] w0 w0 := Ch.refl _ _
  have hF := hF.sub (L' := [(0, (Value.map (some b)))]) ⟨rfl, trivial⟩
  refine wp_seq ?_
  refine wp_region_lit ?_
  refine wl (bA rfl) rfl hF (fun ac hF => ?_)
  refine bx ?_
  have hF := hF.sub (L' := [(0, (Value.map (some b))), (2, (Value.map none))]) ⟨rfl, rfl, trivial⟩
  refine wp_seq ?_
  refine wp_seq ?_
  refine wp_region_lit ?_
  refine wl (bC rfl) rfl hF (fun ac hF => ?_)
  refine wl (mF ij rfl rfl) rfl hF (fun ac hF => ?_)
  refine bx ?_
  have hF := hF.sub (L' := [(0, (Value.map (some b))), (2, (Value.map none)), (4, (Value.bool false))]) ⟨rfl, rfl, rfl, trivial⟩
  refine wp_cond_false (hF.eval rfl) ?_
  refine wp_skip ?_
  refine wp_seq ?_
  refine wp_region_lit ?_
  refine wl (bC rfl) rfl hF (fun ac hF => ?_)
  refine wl (mE ij rfl) rfl hF (fun ac hF => ?_)
  refine wl (qi (es := es) (clock := clock) Tryd.func94 (by kernel_rfl) (by kernel_rfl) (by kernel_rfl) (by kernel_rfl) rfl hb) rfl hF (fun ac hF => ?_)
  refine wl (mG ij rfl) rfl hF (fun ac hF => ?_)
  refine wl (bA rfl) rfl hF (fun ac hF => ?_)
  refine bx ?_
  have hF := hF.sub (L' := [(0, (Value.map (some b))), (2, (Value.map (some w0.heap.size))), (4, (Value.bool false))]) ⟨rfl, rfl, rfl, trivial⟩
  refine wp_ret ?_
  refine bv hF (bw Tryd.results80 (RV.tmp hF rfl)) ?_
  exact ⟨rfl, rfl⟩
theorem sM : ii := fun b es clock w hb => (nH w hb).mono fun e w' ⟨v, he, hv, hw⟩ => ⟨by rw [he, hv], hw⟩
end Go.Mi.Term
