/- Walks: what functions of term return. -/
import Derived.Test.YtoefhjabaanokaaDoorB6
import Derived.Test.YtoefhjabaanokaaDoorB7
set_option linter.unusedSimpArgs false
set_option linter.unusedVariables false
set_option linter.unnecessarySimpa false
namespace Go.Mi.Term
open Go.Mi Go.Proofs Go.RowKit
set_option linter.unusedVariables false
theorem pl118 (w : World) : ∀ fs, Tryd.prog.underlying 118 = some (.struct fs) → (fs.mapM fun f => (do pure (f.offset, ← sizeOf f.type) : Sem (Nat × Nat))).run Tryd.prog w = .ok #[(0, 1), (1, 1)] w := by
 intro fs h
 rw [Tryd.underlying118] at h
 cases h
 obtain ⟨i2, h2, e2⟩ := Option.map_eq_some_iff.1 sz110
 obtain ⟨i3, h3, e3⟩ := Option.map_eq_some_iff.1 sz114
 simp [sizeOf, typeInfo, h2, h3, e2, e3]
set_option maxRecDepth 100000 in
set_option maxHeartbeats 4000000 in
theorem opens_calls {T0 : World → Prop} {nb : Nat} (hT : ∀ w w', Below nb w w' → T0 w → T0 w') (hjoin : JoinOk) (hclone : CloneOk) {W : Wd} {f g : Nat} {known : List Tm} {r : Rw} {ad : Option Addr} {cap : Nat} {xs : List Value} (hopens : opens W f g known = some r) (w0 : World) (hnb : nb ≤ w0.heap.size) (hw0 : T0 w0) (hkl : known.length ≤ 1099511627000) (hrl : r.l.length ≤ 1099511627000) (hwr : ∀ t, t ∈ known → may t = true → WrT T0 t) (hfit0 : AllFit (firstL known ⟨[], []⟩))
 (hsl : 0 < known.length → ∃ b o, ad = some ⟨b, o, none⟩ ∧ b ∉ ([] : List Nat) ∧ At w0 b o xs) (hks : IsTs w0 [] known xs) : Calls Tryd.prog 44 (List.toArray [.agg #[.bool W.dh, .bool W.kem], .slice ad known.length cap]) w0 (Ret fun v w' => ∃ br bm lv, v = .pointer (some ⟨br, 0, none⟩) ∧ RwIs w' w0.heap.size [br, bm] br bm lv r ∧ w0.heap.size ≤ br ∧ w0.heap.size ≤ bm ∧ Gr w0 w') := by
 refine calls_of Tryd.func44 rfl Tryd.ntmps44 rfl fun ac hF => ?_
 have hC : Ch [] w0 w0 := Ch.refl _ _
 have hF := hF.sub (L' := [(0, (Value.agg #[(vB W.dh), (vB W.kem)])), (1, (Value.slice ad known.length cap))]) ⟨rfl, rfl, trivial⟩
 refine wp_seq ?_
 refine wp_region_lit ?_
 refine wlR (ok_box rfl) rfl hF ?_
 rintro _ w ac ⟨b1, rfl, hnb_⟩ hF
 have a : Ch [] _ w := hnb_.ch
 have N := hnb_.lo hC.size
 have hC := hC.trans' a (fun z hz => .inr (absurd hz (by simp)))
 have c : b1 < w.heap.size := hnb_.lt
 have u : w0.heap.size ≤ b1 := N
 have p : At w b1 0 [(vB W.dh), (vB W.kem)] := hnb_.at
 refine wl (d_assign rfl) rfl hF (fun ac hF => ?_)
 refine wl_nil ?_
 refine then_n ?_
 refine wp_seq ?_
 refine wp_region_lit ?_
 refine wlR (ok_makeMap) rfl hF ?_
 rintro _ w ac ⟨bm, rfl, hbn_, aK, hch0_⟩ hF
 have a : Ch [] _ w := hch0_
 have N : w0.heap.size ≤ bm := by rw [hbn_]; exact hC.size
 have hC := hC.trans' a (fun z hz => .inr (absurd hz (by simp)))
 have c := a.lt c
 have p := p.mv a (by first | (simp; done) | assumption | (simp <;> omega))
 have ay : bm < w.heap.size := aK.lt
 have q : w0.heap.size ≤ bm := N
 refine wl (d_buildS (cells := #[vN, (Value.map (some bm))]) Tryd.underlying118 z118 (fun w => pl118 w _ Tryd.underlying118) rfl (by simp [Instr.fill, Value.cells])) rfl hF (fun ac hF => ?_)
 refine wlR (ok_box rfl) rfl hF ?_
 rintro _ w ac ⟨b2, rfl, hnb_⟩ hF
 have a : Ch [] _ w := hnb_.ch
 have N := hnb_.lo hC.size
 have e := hnb_.gt c
 have d := hnb_.gt ay
 have hC := hC.trans' a (fun z hz => .inr (absurd hz (by simp)))
 have c := a.lt c
 have p := p.mv a (by first | (simp; done) | assumption | (simp <;> omega))
 have ay := a.lt ay
 have aK := aK.mv a (by simp <;> omega)
 have hib2 : b2 < w.heap.size := hnb_.lt
 have s : w0.heap.size ≤ b2 := N
 have bk : w.heap[b2]? = some (.cells #[vN, (Value.map (some bm))] 118 (0, 0)) := hnb_.blk
 have e : b1 < b2 := e
 have d : bm < b2 := d
 refine wl (d_assign rfl) rfl hF (fun ac hF => ?_)
 refine wl_nil ?_
 have k : RwIs w w0.heap.size [b2, bm] b2 bm vN (firstL (known.take 0) ⟨[], []⟩) := ⟨bk, aK, ⟨[], Own.nil _ _ _ _, by simp [IsNs, firstL]⟩, by simp [oblk], by simp [oblk], by omega⟩
 refine then_n ?_
 refine wp_seq ?_
 refine wp_seq ?_
 refine wp_region_lit ?_
 refine wl (d_move rfl) rfl hF (fun ac hF => ?_)
 refine wl (d_len_slice Tryd.underlying24 rfl) rfl hF (fun ac hF => ?_)
 refine wl (d_move rfl) rfl hF (fun ac hF => ?_)
 refine wl_nil ?_
 refine then_n ?_
 refine wp_block ?_
 refine wp_loop_k (fun aD ac w => ∃ (i : Nat) (lv : Value), aD = known.length - i ∧ (i ≤ known.length) ∧ (b1 ∉ b2 :: bm :: oblk lv) ∧ Frm ac 66 [(2, (vp b1)), (5, (vp b2)), (15, (Value.slice ad known.length cap)), (16, (vI (known.length : Int))), (17, (vI (i : Int)))] ∧ (Ch [] w0 w) ∧ (b1 < w.heap.size) ∧ (w0.heap.size ≤ b1) ∧ (At w b1 0 [(vB W.dh), (vB W.kem)]) ∧ (w0.heap.size ≤ bm) ∧ (w0.heap.size ≤ b2) ∧ (b1 < b2) ∧ (bm < b2) ∧ (RwIs w w0.heap.size ([b2, bm]) b2 bm lv (firstL (known.take i) ⟨[], []⟩)) ∧ True) _ ⟨0, Value.slice none 0 0, rfl, (by omega), (by simp [oblk] <;> omega), hF.sub ⟨rfl, rfl, rfl, rfl, rfl, trivial⟩, ⟨hC, c, u, p, q, s, e, d, k, trivial⟩⟩ ?_
 rintro _ ac w ⟨i, lv, rfl, hle, H, hF, ⟨hC, c, u, p, q, s, e, d, k, _⟩⟩
 refine wp_seq ?_
 refine wp_region_lit ?_
 refine wl (d_lss rfl rfl) rfl hF (fun ac hF => ?_)
 refine wl_nil ?_
 refine then_n ?_
 refine wp_seq ?_
 refine wp_if hF rfl (fun h => ?_) (fun h => ?_)
 ·have bh := of_decide_eq_true h
  clear h
  obtain ⟨b0, o0, bp, hb0, bg⟩ := hsl (by omega)
  obtain ⟨t1, hi⟩ : ∃ t, known[i]? = some t := ⟨_, List.getElem?_eq_getElem (by omega)⟩
  have av : t1 ∈ known := List.mem_of_getElem? hi
  obtain ⟨a1, aQ, bf⟩ := hks.at bg i t1 hi
  obtain ⟨k1, a2, a3, l1, aL, rfl⟩ := aQ.form
  refine wp_skip ?_
  refine then_n ?_
  refine wp_seq ?_
  refine wp_block ?_
  refine wp_seq ?_
  refine wp_region_lit ?_
  refine wl (d_ixSm (b := b0) (o := o0) Tryd.underlying24 sz26 (by rw [← bp]; rfl) rfl rfl (by omega)) rfl hF (fun ac hF => ?_)
  refine wl (d_loadC Tryd.underlying26 rfl sz26 rfl (bf.mv hC (by simp)) rfl) rfl hF (fun ac hF => ?_)
  refine wlR (ok_alloc z26) rfl hF ?_
  rintro _ w ac ⟨b3, rfl, hnb_⟩ hF
  have a : Ch [] _ w := hnb_.ch
  have N := hnb_.lo hC.size
  have U := hnb_.gt c
  have aW := k
  have hlt_ : b2 < b3 ∧ bm < b3 := ⟨hnb_.gt k.lt, hnb_.gt k.met.lt⟩
  have T : ∀ y, y ∈ oblk lv → y < b3 := fun y hy => hnb_.gt (k.lo y hy).2
  have hC := hC.trans' a (fun z hz => .inr (absurd hz (by simp)))
  have c := a.lt c
  have p := p.mv a (by first | (simp; done) | assumption | (simp <;> omega))
  have R : b3 < w.heap.size := hnb_.lt
  have lob3 : w0.heap.size ≤ b3 := N
  have ag : w.heap[b3]? = some (.cells #[(vI 0), (vI 0), vN] 26 (0, 0)) := hnb_.blk
  have U : b1 < b3 := U
  have k : RwIs w w0.heap.size (b3 :: [b2, bm]) b2 bm lv (firstL (known.take i) ⟨[], []⟩) := aW.mvx hnb_.ch (by simp) (by simp) (by simp) (by simp) (fun x hx => by rcases List.mem_cons.1 hx with rfl | hx; exact .inr (Nat.le_of_eq hnb_.num.symm); exact .inl hx)
  refine wl0R (ok_storeA (c' := #[(vI k1), (vI a2), (Value.slice a3 l1 aL)]) sz26 rfl rfl rfl (fun v hv => by simp at hv; rcases hv with rfl | rfl | rfl <;> rfl) ag rfl) hF ?_
  rintro w ac hu_ hF
  have a : Ch [b3] _ w := hu_.ch
  have hC := hC.trans' a (fun z hz => .inr ((by simp at hz; subst hz; assumption)))
  have c := a.lt c
  have p := p.mv a (by first | (simp; done) | assumption | (simp <;> omega))
  have k := k.mv a (fun y hy => by first | (simp at hy; done) | (simp at hy; subst hy; simp)) (by simp <;> omega) (by simp <;> omega) (fun y hy => by first | (simp; done) | (simp; intro h; subst h; have := T _ hy; omega))
  have R := a.lt R
  have ag : w.heap[b3]? = some (.cells #[(vI k1), (vI a2), (Value.slice a3 l1 aL)] 26 (0, 0)) := hu_.blk
  refine wl_nil ?_
  refine then_n ?_
  refine wp_seq ?_
  refine wp_region_lit ?_
  refine wl (d_loadC Tryd.underlying26 rfl sz26 rfl ((At.of_blk ag)) rfl) rfl hF (fun ac hF => ?_)
  refine wlR (ok_call c42 rfl (May_calls (X := []) _ (IsT.mv hC (by simp) (fun x hx => .inl hx) t1 _ aQ))) rfl hF ?_
  rintro _ w ac ⟨rfl, hg_⟩ hF
  have a : Ch [] _ w := Gr.ch hg_
  have hC := hC.trans' a (fun z hz => .inr (absurd hz (by simp)))
  have c := a.lt c
  have p := p.mv a (by first | (simp; done) | assumption | (simp <;> omega))
  have k := k.mv a (fun y hy => by first | (simp at hy; done) | (simp at hy; subst hy; simp)) (by simp <;> omega) (by simp <;> omega) (fun y hy => by first | (simp; done) | (simp; intro h; subst h; have := T _ hy; omega))
  have R := a.lt R
  have ag := Ch.blk0 a ag (by simp <;> omega)
  refine wl_nil ?_
  refine then_n ?_
  refine wp_if hF rfl (fun h => ?_) (fun h => ?_)
  ·have ao := h
   clear h
   have bc : ∀ x, x ∈ oblk lv ++ (b3 :: [b2, bm]) → w0.heap.size ≤ x := fun x hx => by
    simp only [List.mem_append, List.mem_cons, List.not_mem_nil, or_false] at hx
    rcases hx with hx | rfl | rfl | rfl
    ·exact (k.lo x hx).1
    all_goals assumption
   have a4 : ∀ x, x ∈ oblk lv ++ (b3 :: [b2, bm]) → x < w.heap.size := fun x hx => by
    simp only [List.mem_append, List.mem_cons, List.not_mem_nil, or_false] at hx
    rcases hx with hx | rfl | rfl | rfl
    ·exact (k.lo x hx).2
    ·assumption
    ·exact k.lt
    ·exact k.met.lt
   refine wp_region_lit ?_
   refine wl (d_move rfl) rfl hF (fun ac hF => ?_)
   refine wl (d_loadC Tryd.underlying26 rfl sz26 rfl ((At.of_blk ag)) rfl) rfl hF (fun ac hF => ?_)
   refine wlR (ok_call c46 rfl (nodeOf_calls hT hjoin t1 (hwr t1 av ao) (oblk lv ++ (b3 :: [b2, bm])) _ _ (Nat.le_trans hnb hC.size) (hT _ _ (hC.below hnb (by simp)) hw0) a4 (IsT.mv (X' := oblk lv ++ (b3 :: [b2, bm])) hC (by simp) (fun x hx => .inr (bc x hx)) t1 _ aQ))) rfl hF ?_
   rintro nv w ac ⟨aX, hg_⟩ hF
   have a : Ch [] _ w := Gr.ch hg_
   obtain ⟨bn, rfl, bj, aX⟩ := aX.ptr
   have hC := hC.trans' a (fun z hz => .inr (absurd hz (by simp)))
   have c := a.lt c
   have p := p.mv a (by first | (simp; done) | assumption | (simp <;> omega))
   have k := k.mv a (fun y hy => by first | (simp at hy; done) | (simp at hy; subst hy; simp)) (by simp <;> omega) (by simp <;> omega) (fun y hy => by first | (simp; done) | (simp; intro h; subst h; have := T _ hy; omega))
   have R := a.lt R
   have ag := Ch.blk0 a ag (by simp <;> omega)
   refine wlR (ok_call c79 rfl (add_calls (n := nrm t1) _ hC.size (by simp) (by simp) k aX (by have := (firstL_len (known.take i) ⟨[], []⟩).2; simp at this; omega))) rfl hF ?_
   rintro _ w ac ⟨rfl, lv1, hto⟩ hF
   have a : Ch (b2 :: bm :: oblk lv) _ w := hto.2.1
   have al := k.lo
   have H := nin_to hto c H
   have hC := hC.trans' a (fun z hz => .inr ((by simp at hz; rcases hz with rfl | rfl | hz; exact s; exact q; exact (al z hz).1)))
   have c := a.lt c
   have p := p.mv a (by first | (simp; done) | assumption | (simp <;> omega))
   have k : RwIs w w0.heap.size (b3 :: [b2, bm]) b2 bm lv1 ((firstL (known.take i) ⟨[], []⟩).add (nrm t1)) := hto.1
   refine wl_nil ?_
   refine block_n ?_
   refine then_n ?_
   refine wp_region_lit ?_
   refine wl (d_add rfl rfl (wrap_i64 (by omega) (by omega))) rfl hF (fun ac hF => ?_)
   refine wl (d_move rfl) rfl hF (fun ac hF => ?_)
   refine wl_nil ?_
   refine then_n ?_
   refine ⟨_, ?_, i + 1, _, rfl, (by omega), H, hF.sub ⟨rfl, rfl, rfl, rfl, rfl, trivial⟩, ⟨hC, c, u, p, q, s, e, d, (by rw [firstL_take hi, ao]; exact k.mvx (Ch.refl [] _) (by simp) (by simp) (by simp) (by simp) (fun x hx => .inl (by simp at hx ⊢; simp [hx]))), trivial⟩⟩
   omega
  ·have ao := h
   clear h
   refine wp_skip ?_
   refine block_n ?_
   refine then_n ?_
   refine wp_region_lit ?_
   refine wl (d_add rfl rfl (wrap_i64 (by omega) (by omega))) rfl hF (fun ac hF => ?_)
   refine wl (d_move rfl) rfl hF (fun ac hF => ?_)
   refine wl_nil ?_
   refine then_n ?_
   refine ⟨_, ?_, i + 1, _, rfl, (by omega), H, hF.sub ⟨rfl, rfl, rfl, rfl, rfl, trivial⟩, ⟨hC, c, u, p, q, s, e, d, (by rw [firstL_take hi, ao]; exact k.mvx (Ch.refl [] _) (by simp) (by simp) (by simp) (by simp) (fun x hx => .inl (by simp at hx ⊢; simp [hx]))), trivial⟩⟩
   omega
 ·have bh := of_decide_eq_false h
  clear h
  have hi : i = known.length := by omega
  have k : RwIs w w0.heap.size [b2, bm] b2 bm lv (firstL known ⟨[], []⟩) := by have h_ := k; rw [hi, List.take_length] at h_; exact h_
  refine wp_exit ?_
  refine then_exit ?_
  refine then_exit ?_
  refine block_exit ?_
  refine then_n ?_
  refine wp_seq ?_
  refine wp_seq ?_
  refine wp_region_lit ?_
  refine wl (d_assign rfl) rfl hF (fun ac hF => ?_)
  refine wl_nil ?_
  refine then_n ?_
  refine wp_block ?_
  refine wp_loop_k (fun aD ac w => ∃ (fk : Nat) (wk : Int) (rk : Rw) (lvk : Value), aD = 0 + fk ∧ ((wk < (rk.l.length : Int) ∧ ∃ g, fk = g + 1 ∧ rounds W f g rk = some r) ∨ (fk = 0 ∧ wk = (rk.l.length : Int) ∧ rk = r)) ∧ (AllFit rk) ∧ (rk.l.length ≤ r.l.length) ∧ (b1 ∉ b2 :: bm :: oblk lvk) ∧ Frm ac 66 [(2, (vp b1)), (5, (vp b2)), (8, (vI wk))] ∧ (Ch [] w0 w) ∧ (b1 < w.heap.size) ∧ (w0.heap.size ≤ b1) ∧ (At w b1 0 [(vB W.dh), (vB W.kem)]) ∧ (w0.heap.size ≤ bm) ∧ (w0.heap.size ≤ b2) ∧ (b1 < b2) ∧ (bm < b2) ∧ (RwIs w w0.heap.size ([b2, bm]) b2 bm lvk rk) ∧ True) _ ⟨g + 1, -1, firstL known ⟨[], []⟩, lv, rfl, (.inl ⟨by omega, g, rfl, hopens⟩), hfit0, (rounds_len hopens), H, hF.sub ⟨rfl, rfl, rfl, trivial⟩, ⟨hC, c, u, p, q, s, e, d, k, trivial⟩⟩ ?_
  rintro _ ac w ⟨fk, wk, rk, lvk, rfl, hs2, hfk, hrk, H, hF, ⟨hC, c, u, p, q, s, e, d, k, _⟩⟩
  obtain ⟨af, G, L⟩ := k.own
  refine wp_seq ?_
  refine wp_seq ?_
  refine wp_region_lit ?_
  refine wl (d_move rfl) rfl hF (fun ac hF => ?_)
  refine wl (d_move rfl) rfl hF (fun ac hF => ?_)
  refine wl (d_nil rfl) rfl hF (fun ac hF => ?_)
  refine wl (d_fieldAddrQ Tryd.underlying118 (m := 0) sz110 rfl rfl rfl) rfl hF (fun ac hF => ?_)
  refine wl (d_load1 Tryd.underlying110 rfl rfl ((At.of_blk k.st) 0 _ rfl)) rfl hF (fun ac hF => ?_)
  refine wl (d_lenOwn Tryd.underlying110 rfl G) rfl hF (fun ac hF => ?_)
  refine wl (d_lss rfl rfl) rfl hF (fun ac hF => ?_)
  refine wl_nil ?_
  refine then_n ?_
  refine wp_if hF rfl (fun h => ?_) (fun h => ?_)
  ·have bo := of_decide_eq_true h
   clear h
   obtain ⟨g1, hfk1, bs⟩ := (hs2.resolve_right (fun h => by omega)).2
   obtain ⟨g2, mf, r2, rfl, ap, aC⟩ := rounds_succ bs
   have hr2r : r2.l.length ≤ r.l.length := by
    rcases aC with ⟨_, h2⟩ | ⟨_, h2⟩
    ·rw [h2]; exact Nat.le_refl _
    ·exact rounds_len h2
   refine wp_skip ?_
   refine then_n ?_
   refine wp_block ?_
   refine wp_seq ?_
   refine wp_region_lit ?_
   refine wl (d_move rfl) rfl hF (fun ac hF => ?_)
   refine wl (d_nil rfl) rfl hF (fun ac hF => ?_)
   refine wl (d_fieldAddrQ Tryd.underlying118 (m := 0) sz110 rfl rfl rfl) rfl hF (fun ac hF => ?_)
   refine wl (d_load1 Tryd.underlying110 rfl rfl ((At.of_blk k.st) 0 _ rfl)) rfl hF (fun ac hF => ?_)
   refine wl (d_lenOwn Tryd.underlying110 rfl G) rfl hF (fun ac hF => ?_)
   refine wl (d_assign rfl) rfl hF (fun ac hF => ?_)
   refine wl_nil ?_
   refine then_n ?_
   refine wp_seq ?_
   obtain ⟨ai, P⟩ : ∃ A : (Nat → Value) → World → Prop, A = fun _ w => (Ch [] w0 w) ∧ (b1 < w.heap.size) ∧ (w0.heap.size ≤ b1) ∧ (At w b1 0 [(vB W.dh), (vB W.kem)]) ∧ (w0.heap.size ≤ bm) ∧ (w0.heap.size ≤ b2) ∧ (b1 < b2) ∧ (bm < b2) ∧ (RwIs w w0.heap.size ([b2, bm]) b2 bm lvk rk) ∧ True := ⟨_, rfl⟩
   obtain ⟨ah, M⟩ : ∃ A : (Nat → Value) → World → Prop, A = fun H1 w => (Ch [] w0 w) ∧ (b1 < w.heap.size) ∧ (w0.heap.size ≤ b1) ∧ (At w b1 0 [(vB W.dh), (vB W.kem)]) ∧ (w0.heap.size ≤ bm) ∧ (w0.heap.size ≤ b2) ∧ (b1 < b2) ∧ (bm < b2) ∧ (RwIs w w0.heap.size ([b2, bm]) b2 bm lvk rk) ∧ (MapIs w (blk (H1 5)) rk.met) ∧ ((blk (H1 5)) < w.heap.size) ∧ (w0.heap.size ≤ (blk (H1 5))) ∧ (b2 < (blk (H1 5)) ∧ bm < (blk (H1 5)) ∧ ∀ y, y ∈ oblk lvk → y < (blk (H1 5))) ∧ (H1 5 = (Value.map (some (blk (H1 5))))) ∧ True := ⟨_, rfl⟩
   obtain ⟨ae, V⟩ : ∃ A : (Nat → Value) → World → Prop, A = fun H1 w => (Ch [] w0 w) ∧ (b1 < w.heap.size) ∧ (w0.heap.size ≤ b1) ∧ (At w b1 0 [(vB W.dh), (vB W.kem)]) ∧ (w0.heap.size ≤ bm) ∧ (w0.heap.size ≤ b2) ∧ (b1 < b2) ∧ (bm < b2) ∧ (RwIs w w0.heap.size ([b2, bm]) b2 bm lvk rk) ∧ (MapIs w (blk (H1 5)) rk.met) ∧ ((blk (H1 5)) < w.heap.size) ∧ (w0.heap.size ≤ (blk (H1 5))) ∧ (b2 < (blk (H1 5)) ∧ bm < (blk (H1 5)) ∧ ∀ y, y ∈ oblk lvk → y < (blk (H1 5))) ∧ (H1 5 = (Value.map (some (blk (H1 5))))) ∧ ((blk (H1 7)) < w.heap.size) ∧ (w0.heap.size ≤ (blk (H1 7))) ∧ (At w (blk (H1 7)) 0 [vN, (Value.map (some (blk (H1 5))))]) ∧ (b1 < (blk (H1 7))) ∧ ((blk (H1 5)) < (blk (H1 7))) ∧ (H1 7 = (vp (blk (H1 7)))) ∧ True := ⟨_, rfl⟩
   obtain ⟨an, Z⟩ : ∃ A : (Nat → Value) → World → Prop, A = fun H1 w => (Ch [] w0 w) ∧ (b1 < w.heap.size) ∧ (w0.heap.size ≤ b1) ∧ (At w b1 0 [(vB W.dh), (vB W.kem)]) ∧ (w0.heap.size ≤ bm) ∧ (w0.heap.size ≤ b2) ∧ (b1 < b2) ∧ (bm < b2) ∧ (MapIs w (blk (H1 5)) rk.met) ∧ ((blk (H1 5)) < w.heap.size) ∧ (w0.heap.size ≤ (blk (H1 5))) ∧ (b2 < (blk (H1 5)) ∧ bm < (blk (H1 5)) ∧ ∀ y, y ∈ oblk lvk → y < (blk (H1 5))) ∧ (H1 5 = (Value.map (some (blk (H1 5))))) ∧ ((blk (H1 7)) < w.heap.size) ∧ (w0.heap.size ≤ (blk (H1 7))) ∧ (At w (blk (H1 7)) 0 [vN, (Value.map (some (blk (H1 5))))]) ∧ (b1 < (blk (H1 7))) ∧ ((blk (H1 5)) < (blk (H1 7))) ∧ (H1 7 = (vp (blk (H1 7)))) ∧ (∃ bt, RdIs w w0.heap.size W (blk (H1 7)) (blk (H1 8)) bt ∧ ((blk (H1 5)) < bt ∧ (blk (H1 7)) < bt ∧ (blk (H1 5)) < (blk (H1 8)) ∧ (blk (H1 7)) < (blk (H1 8))) ∧ (b2 < bt ∧ bm < bt ∧ b2 < (blk (H1 8)) ∧ bm < (blk (H1 8)) ∧ b1 < bt) ∧ (∀ y, y ∈ oblk lvk → y < bt ∧ y < (blk (H1 8))) ∧ RwIs w w0.heap.size [bt, b2, bm] b2 bm lvk rk) ∧ (H1 8 = (vp (blk (H1 8)))) ∧ True := ⟨_, rfl⟩
   refine region_hist mo (fun p_ H_ w_ => (([ai, ah, ae, an] : List ((Nat → Value) → World → Prop)).getD p_ (fun _ _ => True)) H_ w_) [5, 7, 8] (rows := [hr_ [] [(2, (vp b1))] [0, 1, 2] (Value.agg #[(vB W.dh), (vB W.kem)]), hr_ [] [(5, (vp b2))] [0] (vp b2), hr_ [(1, 41)] [] [0] (vp b2), hr_ [(2, 42)] [] [0] (vP b2 1), hr_ [(3, 43)] [] [0] (Value.map (some bm)), ⟨[(4, 44)], [], [0], [5], fun H1 => H1 5, fun H1 K_ h_ => by simp only [h_ 5 (by simp)]⟩, ⟨[(5, 45)], [], [1], [5], fun H1 => (Value.agg #[vN, (Value.map (some (blk (H1 5))))]), fun H1 K_ h_ => by simp only [h_ 5 (by simp)]⟩, ⟨[(6, 46)], [], [1], [7], fun H1 => H1 7, fun H1 K_ h_ => by simp only [h_ 7 (by simp)]⟩, ⟨[(0, 40), (7, 47)], [], [2], [8], fun H1 => H1 8, fun H1 K_ h_ => by simp only [h_ 8 (by simp)]⟩, ⟨[(8, 48)], [], [3], [8], fun H1 => (vp (blk (H1 8))), fun H1 K_ h_ => by simp only [h_ 8 (by simp)]⟩]) (by kernel_rfl) hF (fun H_ => ?_) ?_ ?_
   ·have a := Ch.drew w
    have I : ai H_ { w with drawn := w.drawn + 1 } := by rw [P]; exact ⟨hC.trans' a (fun z hz => .inr (absurd hz (by simp))), a.lt c, u, p.mv a (by first | (simp; done) | assumption | (simp <;> omega)), q, s, e, d, k.mv a (fun y hy => by first | (simp at hy; done) | (simp at hy; subst hy; simp)) (by simp <;> omega) (by simp <;> omega) (fun y hy => by first | (simp; done) | (simp; intro h; subst h; have := T _ hy; omega)), trivial⟩
    exact I
   ·refine ⟨?_, ?_, ?_, ?_, ?_, ?_, ?_, ?_, ?_, ?_, trivial⟩
    ·refine ⟨⟨rfl, trivial⟩, fun aN O H1 w hW => ?_⟩
     rcases memN_or O with rfl | O
     ·have aB := hW
      replace hW : ai H1 w := hW
      rw [P] at hW
      obtain ⟨hC, c, u, p, q, s, e, d, k, _⟩ := hW
      exact Det.ohc rfl aB (d_loadC Tryd.underlying31 rfl sz31 rfl (p) rfl)
     rcases memN_or O with rfl | O
     ·have aB := hW
      replace hW : ah H1 w := hW
      rw [M] at hW
      obtain ⟨hC, c, u, p, q, s, e, d, k, D, B, F, aa, E, _⟩ := hW
      exact Det.ohc rfl aB (d_loadC Tryd.underlying31 rfl sz31 rfl (p) rfl)
     obtain rfl := memN_one O
     ·have aB := hW
      replace hW : ae H1 w := hW
      rw [V] at hW
      obtain ⟨hC, c, u, p, q, s, e, d, k, D, B, F, aa, E, K, aj, ab, C, ar, Q, _⟩ := hW
      exact Det.ohc rfl aB (d_loadC Tryd.underlying31 rfl sz31 rfl (p) rfl)
    ·exact HOb.pure ⟨rfl, trivial⟩ rfl rfl (fun _ _ => d_move rfl)
    ·exact HOb.pure trivial rfl rfl (fun _ _ => d_nil rfl)
    ·exact HOb.pure trivial rfl rfl (fun _ _ => d_fieldAddrQ Tryd.underlying118 (m := 0) sz114 rfl rfl rfl)
    ·exact HOb.fact P trivial rfl rfl rfl rfl (fun H1 w ⟨_, _, _, _, _, _, _, _, k, _⟩ => d_load1 Tryd.underlying114 rfl rfl ((At.of_blk k.st) 1 _ rfl))
    ·refine ⟨trivial, fun aN O H1 w hW => ?_⟩
     obtain rfl := memN_one O
     replace hW : ai H1 w := hW
     rw [P] at hW
     obtain ⟨hC, c, u, p, q, s, e, d, k, _⟩ := hW
     refine Ok1.mono (ok_call c80 rfl (clone_calls hclone _ k.met)) ?_
     rintro _ w' ⟨bmk, rfl, hbmk_, B, D, hch0_⟩
     have a : Ch [] _ w' := hch0_
     have N : w0.heap.size ≤ bmk := by rw [hbmk_]; exact hC.size
     have a8 : b2 < bmk ∧ bm < bmk ∧ ∀ y, y ∈ oblk lvk → y < bmk := by rw [hbmk_]; exact ⟨k.lt, k.met.lt, fun y hy => (k.lo y hy).2⟩
     have hC := hC.trans' a (fun z hz => .inr (absurd hz (by simp)))
     have c := a.lt c
     have p := p.mv a (by first | (simp; done) | assumption | (simp <;> omega))
     have k := k.mv a (fun y hy => by first | (simp at hy; done) | (simp at hy; subst hy; simp)) (by simp <;> omega) (by simp <;> omega) (fun y hy => by first | (simp; done) | (simp; intro h; subst h; have := T _ hy; omega))
     have F : w0.heap.size ≤ bmk := N
     have aa : b2 < bmk ∧ bm < bmk ∧ ∀ y, y ∈ oblk lvk → y < bmk := a8
     have I : ah (updV H1 5 (Value.map (some bmk))) w' := by rw [M]; exact ⟨hC, c, u, p, q, s, e, d, k, D, B, F, aa, rfl, trivial⟩
     exact fin_ rfl ⟨I, rfl⟩
    ·exact HOb.fact M trivial rfl rfl rfl rfl (fun H1 w ⟨_, _, _, _, _, _, _, _, _, _, _, _, _, E, _⟩ => Det.sub (L' := [(45, (Value.map (some (blk (H1 5)))))]) ⟨congrArg some E, trivial⟩ (d_buildS (cells := #[vN, (Value.map (some (blk (H1 5))))]) Tryd.underlying118 z118 (fun w => pl118 w _ Tryd.underlying118) rfl (by simp [Instr.fill, Value.cells])))
    ·refine ⟨trivial, fun aN O H1 w hW => ?_⟩
     obtain rfl := memN_one O
     replace hW : ah H1 w := hW
     rw [M] at hW
     obtain ⟨hC, c, u, p, q, s, e, d, k, D, B, F, aa, E, _⟩ := hW
     refine Ok1.mono (ok_box rfl) ?_
     rintro _ w' ⟨b4, rfl, hnb_⟩
     have a : Ch [] _ w' := hnb_.ch
     have N := hnb_.lo hC.size
     have C := hnb_.gt c
     have a5 := hnb_.gt B
     have hC := hC.trans' a (fun z hz => .inr (absurd hz (by simp)))
     have c := a.lt c
     have p := p.mv a (by first | (simp; done) | assumption | (simp <;> omega))
     have k := k.mv a (fun y hy => by first | (simp at hy; done) | (simp at hy; subst hy; simp)) (by simp <;> omega) (by simp <;> omega) (fun y hy => by first | (simp; done) | (simp; intro h; subst h; have := T _ hy; omega))
     have D := D.mv a (by simp <;> omega)
     have B := a.lt B
     have K : b4 < w'.heap.size := hnb_.lt
     have aj : w0.heap.size ≤ b4 := N
     have ab : At w' b4 0 [vN, (Value.map (some (blk (H1 5))))] := hnb_.at
     have C : b1 < b4 := C
     have ar : (blk (H1 5)) < b4 := a5
     have I : ae (updV H1 7 (vp b4)) w' := by rw [V]; exact ⟨hC, c, u, p, q, s, e, d, k, D, B, F, aa, E, K, aj, ab, C, ar, rfl, trivial⟩
     exact fin_ rfl ⟨I, rfl⟩
    ·refine ⟨trivial, fun aN O H1 w hW => ?_⟩
     obtain rfl := memN_one O
     replace hW : ae H1 w := hW
     rw [V] at hW
     obtain ⟨hC, c, u, p, q, s, e, d, k, D, B, F, aa, E, K, aj, ab, C, ar, Q, _⟩ := hW
     refine Ok1.sub (L' := [(40, (Value.agg #[(vB W.dh), (vB W.kem)])), (47, (vp (blk (H1 7))))]) ⟨rfl, congrArg some Q, trivial⟩ (Ok1.mono (ok_call c43 rfl (ready_calls' _)) ?_)
     rintro _ w' ⟨bb, rfl, hrd_, hch0_⟩
     have a : Ch [] _ w' := hch0_
     have aT : ∃ bt, RdIs w' w0.heap.size W (blk (H1 7)) bb bt ∧ ((blk (H1 5)) < bt ∧ (blk (H1 7)) < bt ∧ (blk (H1 5)) < bb ∧ (blk (H1 7)) < bb) ∧ (b2 < bt ∧ bm < bt ∧ b2 < bb ∧ bm < bb ∧ b1 < bt) ∧ (∀ y, y ∈ oblk lvk → y < bt ∧ y < bb) ∧ RwIs w' w0.heap.size [bt, b2, bm] b2 bm lvk rk := by
      obtain ⟨bt, h⟩ := hrd_
      have s1 := hC.size
      have s2 := h.lb
      have s3 := h.lt
      have s4 := k.lt
      have s5 := k.met.lt
      have s6 := c
      have s7 := B
      have s8 := K
      exact ⟨bt, ⟨h.at', h.told, by omega, by omega, h.ne⟩, ⟨by omega, by omega, by omega, by omega⟩, ⟨by omega, by omega, by omega, by omega, by omega⟩, fun y hy => by have := (k.lo y hy).2; omega, k.mvx a (by simp) (by simp) (by simp) (by simp) (fun x hx => by rcases List.mem_cons.1 hx with rfl | hx; exact .inr h.lt; exact .inl hx)⟩
     have hC := hC.trans' a (fun z hz => .inr (absurd hz (by simp)))
     have c := a.lt c
     have p := p.mv a (by first | (simp; done) | assumption | (simp <;> omega))
     have D := D.mv a (by simp <;> omega)
     have B := a.lt B
     have K := a.lt K
     have ab := ab.mv a (by simp <;> omega)
     have Y : ∃ bt, RdIs w' w0.heap.size W (blk (H1 7)) bb bt ∧ ((blk (H1 5)) < bt ∧ (blk (H1 7)) < bt ∧ (blk (H1 5)) < bb ∧ (blk (H1 7)) < bb) ∧ (b2 < bt ∧ bm < bt ∧ b2 < bb ∧ bm < bb ∧ b1 < bt) ∧ (∀ y, y ∈ oblk lvk → y < bt ∧ y < bb) ∧ RwIs w' w0.heap.size [bt, b2, bm] b2 bm lvk rk := aT
     have I : an (updV H1 8 (vp bb)) w' := by rw [Z]; exact ⟨hC, c, u, p, q, s, e, d, D, B, F, aa, E, K, aj, ab, C, ar, Q, Y, rfl, trivial⟩
     exact fin_ rfl ⟨I, rfl⟩
    ·exact HOb.fact Z trivial rfl rfl rfl rfl (fun H1 w ⟨_, _, _, _, _, _, _, _, _, _, _, _, _, _, _, _, _, _, _, _, ak, _⟩ => Det.sub (L' := [(48, (vp (blk (H1 8))))]) ⟨congrArg some ak, trivial⟩ (d_assign rfl))
   ·intro ac w H1 hW hF
    replace hW : an H1 w := hW
    rw [Z] at hW
    obtain ⟨hC, c, u, p, q, s, e, d, D, B, F, aa, E, K, aj, ab, C, ar, Q, Y, ak, _⟩ := hW
    clear P ai M ah V ae Z an
    have hF := hF.sub (L' := [(2, (vp b1)), (5, (vp b2)), (8, (vI (rk.l.length : Int))), (9, (vp (blk (H1 8)))), (34, (vB (decide (wk < (rk.l.length : Int)))))]) ⟨rfl, rfl, rfl, rfl, rfl, trivial⟩
    clear E
    clear Q
    clear ak
    generalize (blk (H1 5)) = bmk at *
    generalize (blk (H1 7)) = b4 at *
    generalize (blk (H1 8)) = bb at *
    obtain ⟨bt, Y, ⟨q1, q2, q3, q4⟩, ⟨q5, q6, q7, q8, q9⟩, aO, k⟩ := Y
    have am : Bd w W rk.met bb bt b4 bmk (.slice none 0 0) := ⟨Y.at', ab, D, Y.ne, by omega, by omega⟩
    have J := Y.told
    have aM := Y.lt
    obtain ⟨af, G, L⟩ := k.own
    have S : ∀ g, g ∈ oblk lvk → At w g 0 af := fun g hg => own_at G hg
    have bi : af.length = rk.l.length := by have := G.1; simpa using this
    have aV := fun (h : 0 < rk.l.length) => Own.form G h
    have aE : ∀ g, g ∈ oblk lvk → g ≠ bt ∧ g ≠ b2 ∧ g ≠ bm := fun g hg => ⟨by have := (aO g hg).1; omega, fun h => k.nr (h ▸ hg), fun h => k.nm (h ▸ hg)⟩
    have aI := Y.ne
    have au : b4 ≠ bt := by omega
    have aA : bmk ≠ bt := by omega
    obtain ⟨u1, u2, u3⟩ := aa
    have aJ : bb ∉ b2 :: bm :: oblk lvk := fun hm => by
     simp only [List.mem_cons] at hm
     rcases hm with hm | hm | hm
     ·omega
     ·omega
     ·have := (aO _ hm).2; omega
    have aG : b4 ∉ b2 :: bm :: oblk lvk := fun hm => by
     simp only [List.mem_cons] at hm
     rcases hm with hm | hm | hm
     ·omega
     ·omega
     ·have := u3 _ hm; omega
    have aF : bmk ∉ b2 :: bm :: oblk lvk := fun hm => by
     simp only [List.mem_cons] at hm
     rcases hm with hm | hm | hm
     ·omega
     ·omega
     ·have := u3 _ hm; omega
    have aH : bt ∉ b2 :: bm :: oblk lvk := fun hm => by
     simp only [List.mem_cons] at hm
     rcases hm with hm | hm | hm
     ·omega
     ·omega
     ·have := (aO _ hm).1; omega
    refine then_n ?_
    refine wp_seq ?_
    refine wp_region_lit ?_
    refine wl (d_move rfl) rfl hF (fun ac hF => ?_)
    refine wl (d_nil rfl) rfl hF (fun ac hF => ?_)
    refine wl (d_fieldAddrQ Tryd.underlying118 (m := 0) sz110 rfl rfl rfl) rfl hF (fun ac hF => ?_)
    refine wl (d_load1 Tryd.underlying110 rfl rfl ((At.of_blk k.st) 0 _ rfl)) rfl hF (fun ac hF => ?_)
    refine wl (d_move rfl) rfl hF (fun ac hF => ?_)
    refine wl (d_sliceOwn Tryd.underlying110 sz83 rfl rfl G) rfl hF (fun ac hF => ?_)
    refine wl (d_lenOwn Tryd.underlying110 rfl G) rfl hF (fun ac hF => ?_)
    refine wl (d_move rfl) rfl hF (fun ac hF => ?_)
    refine wl_nil ?_
    refine then_n ?_
    refine wp_block ?_
    refine wp_loop_k (fun aD ac w => ∃ (j : Nat) (mj : Told) (rj : Rw) (lvj : Value), aD = rk.l.length - j ∧ (j ≤ rk.l.length) ∧ (opnL W rk.met f (rk.l.drop j) mj rj = some (mf, r2)) ∧ (rk.l.length ≤ rj.l.length) ∧ (bb ∉ b2 :: bm :: oblk lvj) ∧ (b4 ∉ b2 :: bm :: oblk lvj) ∧ (bmk ∉ b2 :: bm :: oblk lvj) ∧ (bt ∉ b2 :: bm :: oblk lvj) ∧ (b1 ∉ b2 :: bm :: oblk lvj) ∧ Frm ac 66 [(2, (vp b1)), (5, (vp b2)), (8, (vI (rk.l.length : Int))), (9, (vp bb)), (54, lvk), (55, (vI (rk.l.length : Int))), (56, (vI (j : Int)))] ∧ (Ch [] w0 w) ∧ (b1 < w.heap.size) ∧ (w0.heap.size ≤ b1) ∧ (At w b1 0 [(vB W.dh), (vB W.kem)]) ∧ (w0.heap.size ≤ bm) ∧ (w0.heap.size ≤ b2) ∧ (RwIs w w0.heap.size ([bt, b2, bm]) b2 bm lvj rj) ∧ (Bd w W rk.met bb bt b4 bmk (.slice none 0 0)) ∧ (MapIs w bt mj) ∧ (∀ g, g ∈ oblk lvk → At w g 0 af) ∧ (IsNs w (oblk lvj ++ [bt, b2, bm]) rk.l af) ∧ True) _ ⟨0, [], rk, lvk, rfl, (by omega), (by simpa using ap), (Nat.le_refl _), aJ, aG, aF, aH, H, hF.sub ⟨rfl, rfl, rfl, rfl, rfl, rfl, rfl, trivial⟩, ⟨hC, c, u, p, q, s, k, am, J, S, L, trivial⟩⟩ ?_
    rintro _ ac w ⟨j, mj, rj, lvj, rfl, hj, hopn, hlj, aJ, aG, aF, aH, H, hF, ⟨hC, c, u, p, q, s, k, am, J, S, L, _⟩⟩
    refine wp_seq ?_
    refine wp_region_lit ?_
    refine wl (d_lss rfl rfl) rfl hF (fun ac hF => ?_)
    refine wl_nil ?_
    refine then_n ?_
    refine wp_seq ?_
    refine wp_if hF rfl (fun h => ?_) (fun h => ?_)
    ·have aZ := of_decide_eq_true h
     clear h
     obtain ⟨g0, cap0, a7, _, bq⟩ := aV (by omega)
     obtain ⟨t1, hi⟩ : ∃ t, rk.l[j]? = some t := ⟨_, List.getElem?_eq_getElem (by omega)⟩
     have av : t1 ∈ rk.l := List.mem_of_getElem? hi
     obtain ⟨v1, bl, aS⟩ := L.at j t1 hi
     obtain ⟨bn, rfl, bj, aS⟩ := aS.ptr
     obtain ⟨m1, r1, aq, ax⟩ := opnL_cons (show opnL W rk.met f (t1 :: rk.l.drop (j + 1)) mj rj = some (mf, r2) by rw [← drop_cons hi]; exact hopn)
     refine wp_skip ?_
     refine then_n ?_
     refine wp_seq ?_
     refine wp_block ?_
     refine wp_seq ?_
     refine wp_region_lit ?_
     refine wl (d_ixS (b := g0) (o := 0) (j := j) Tryd.underlying110 sz83 (by rw [← a7]; rfl) rfl rfl (by omega)) rfl hF (fun ac hF => ?_)
     refine wl (d_load1 Tryd.underlying83 rfl rfl (S g0 bq j _ bl)) rfl hF (fun ac hF => ?_)
     refine wl (d_assign rfl) rfl hF (fun ac hF => ?_)
     refine wl_nil ?_
     refine then_n ?_
     refine wp_region_lit ?_
     refine wl (d_move rfl) rfl hF (fun ac hF => ?_)
     refine wl (d_move rfl) rfl hF (fun ac hF => ?_)
     refine wl (d_move rfl) rfl hF (fun ac hF => ?_)
     refine wlR (ok_call c81 rfl (opened_calls hT hjoin aq (X := [bt, b2, bm]) _ (Nat.le_trans hnb hC.size) (Nat.le_trans hnb aM) (hT _ _ (hC.below hnb (by simp)) hw0) hC.size (by simp) (by simp) (by simp) aH k am J (hfk t1 av) aS (by have h1_ := opn1_len aq; have h2_ := opnL_len ax; omega))) rfl hF ?_
     rintro _ w ac ⟨rfl, lv2, hop2⟩ hF
     have a : Ch (bt :: b2 :: bm :: oblk lvj) _ w := hop2.2.2.1
     have al := k.lo
     have az := am.lt
     have a0 := J.lt
     have a9 := nin_op hop2 az.1 aJ
     have be := nin_op hop2 az.2.1 aG
     have ba := nin_op hop2 az.2.2 aF
     have bd := nin_op hop2 a0 aH
     have aU := fun g hg => hop2.2.2.2.2.2 g af (aE g hg).1 (aE g hg).2.1 (aE g hg).2.2 (fun _ => by rw [bi]; exact hlj) (S g hg)
     have aR := hop2.ns (by simp) (by simp) (by simp) L
     have hb1m : b1 ∉ bt :: b2 :: bm :: oblk lvj := fun hm => by rcases List.mem_cons.1 hm with hm | hm; omega; exact H hm
     have aP := nin_op hop2 c H
     have hC := hC.trans' a (fun z hz => .inr ((by simp at hz; rcases hz with rfl | rfl | rfl | hz; exact aM; exact s; exact q; exact (al z hz).1)))
     have c := a.lt c
     have p := p.mv a (by first | (simp; done) | assumption | (simp <;> omega))
     have k : RwIs w w0.heap.size ([bt, b2, bm]) b2 bm lv2 r1 := hop2.1
     have am : Bd w W rk.met bb bt b4 bmk (.slice none 0 0) := am.mv a (fun hm => by rcases List.mem_cons.1 hm with hm | hm; exact aI hm; exact aJ hm) (fun hm => by rcases List.mem_cons.1 hm with hm | hm; exact au hm; exact aG hm) (fun hm => by rcases List.mem_cons.1 hm with hm | hm; exact aA hm; exact aF hm)
     have J : MapIs w bt m1 := hop2.2.1
     have S : ∀ g, g ∈ oblk lvk → At w g 0 af := aU
     have L : IsNs w (oblk lv2 ++ [bt, b2, bm]) rk.l af := aR
     refine wl_nil ?_
     refine block_n ?_
     refine then_n ?_
     refine wp_region_lit ?_
     refine wl (d_add rfl rfl (wrap_i64 (by omega) (by omega))) rfl hF (fun ac hF => ?_)
     refine wl (d_move rfl) rfl hF (fun ac hF => ?_)
     refine wl_nil ?_
     refine then_n ?_
     refine ⟨_, ?_, j + 1, m1, r1, lv2, rfl, (by omega), ax, (Nat.le_trans hlj (opn1_len aq)), a9, be, ba, bd, aP, hF.sub ⟨rfl, rfl, rfl, rfl, rfl, rfl, rfl, trivial⟩, ⟨hC, c, u, p, q, s, k, am, J, S, L, trivial⟩⟩
     omega
    ·have aZ := of_decide_eq_false h
     clear h
     have bu : j = rk.l.length := by omega
     rw [bu, List.drop_length] at hopn
     simp only [opnL, Option.some.injEq, Prod.mk.injEq] at hopn
     obtain ⟨rfl, rfl⟩ := hopn
     obtain ⟨aw, hfk2, aY⟩ : ∃ aw, aw < fk ∧ (((rk.l.length : Int) < (rj.l.length : Int) ∧ ∃ g, aw = g + 1 ∧ rounds W f g rj = some r) ∨ (aw = 0 ∧ (rk.l.length : Int) = (rj.l.length : Int) ∧ rj = r)) := by
      rcases aC with ⟨h1, h2⟩ | ⟨h1, h2⟩
      ·exact ⟨0, by omega, .inr ⟨rfl, by omega, h2⟩⟩
      ·exact ⟨g2 + 1, by omega, .inl ⟨by omega, g2, rfl, h2⟩⟩
     have a6 : rj.l.length ≤ r.l.length := by
      rcases aC with ⟨_, h2⟩ | ⟨_, h2⟩
      ·rw [h2]; exact Nat.le_refl _
      ·exact rounds_len h2
     refine wp_exit ?_
     refine then_exit ?_
     refine then_exit ?_
     refine block_exit ?_
     refine block_n ?_
     refine then_n ?_
     refine ⟨_, ?_, aw, (rk.l.length : Int), rj, lvj, rfl, aY, (hfk.opnL hfk ap), a6, H, hF.sub ⟨rfl, rfl, rfl, trivial⟩, ⟨hC, c, u, p, q, s, e, d, (k.mvx (Ch.refl [] _) (by simp) (by simp) (by simp) (by simp) (fun x hx => .inl (by simp at hx ⊢; simp [hx]))), trivial⟩⟩
     omega
  ·have bo := of_decide_eq_false h
   clear h
   obtain ⟨_, _, rfl⟩ := hs2.resolve_left (fun h => by omega)
   refine wp_exit ?_
   refine then_exit ?_
   refine then_exit ?_
   refine block_exit ?_
   refine then_n ?_
   refine wp_seq ?_
   refine wp_region_lit ?_
   refine wl (d_move rfl) rfl hF (fun ac hF => ?_)
   refine wl (d_assign rfl) rfl hF (fun ac hF => ?_)
   refine wl_nil ?_
   refine then_n ?_
   refine wp_ret ?_
   refine body_ret hF (results1 Tryd.results44 (RV.tmp hF rfl)) ?_
   exact ⟨b2, bm, lvk, rfl, k, s, q, hC.gr⟩
end Go.Mi.Term
