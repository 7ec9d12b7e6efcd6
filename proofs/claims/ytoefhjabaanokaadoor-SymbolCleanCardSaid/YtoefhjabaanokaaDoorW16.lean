/- Walks: what functions of term return. -/
import Derived.Test.YtoefhjabaanokaaDoorB6
import Derived.Test.YtoefhjabaanokaaDoorB7
set_option linter.unusedSimpArgs false
set_option linter.unusedVariables false
set_option linter.unnecessarySimpa false
namespace Go.Mi.Term
open Go.Mi Go.Proofs Go.RowKit
set_option linter.unusedVariables false
theorem tg (w : World) : ∀ fs, Tryd.prog.underlying 118 = some (.struct fs) → (fs.mapM fun f => (do pure (f.offset, ← sizeOf f.type) : Sem (Nat × Nat))).run Tryd.prog w = .ok #[(0, 1), (1, 1)] w := by
 intro fs h
 rw [kK] at h
 cases h
 obtain ⟨i2, h2, e2⟩ := Option.map_eq_some_iff.1 cV
 obtain ⟨i3, h3, e3⟩ := Option.map_eq_some_iff.1 lS
 simp [sizeOf, typeInfo, h2, h3, e2, e3]
set_option maxRecDepth 100000 in
set_option maxHeartbeats 4000000 in
theorem mh {T0 : World → Prop} {nb : Nat} (hT : ∀ w w', Below nb w w' → T0 w → T0 w') (hjoin : cG) (hclone : ii) {W : Wd} {f g : Nat} {known : List Tm} {r : Rw} {ad : Option Addr} {cap : Nat} {xs : List Value} (hopens : gU W f g known = some r) (w0 : World) (hnb : nb ≤ w0.heap.size) (hw0 : T0 w0) (hkl : known.length ≤ 1099511627000) (hrl : r.l.length ≤ 1099511627000) (hwr : ∀ t, t ∈ known → may t = true → WrT T0 t) (hfit0 : AllFit (cQ known ⟨[], []⟩))
 (hsl : 0 < known.length → ∃ b o, ad = some ⟨b, o, none⟩ ∧ b ∉ ([] : List Nat) ∧ At w0 b o xs) (hks : IsTs w0 [] known xs) : Calls Tryd.prog 44 (List.toArray [.agg #[.bool W.dh, .bool W.kem], .slice ad known.length cap]) w0 (Ret fun v w' => ∃ br bm lv, v = .pointer (some ⟨br, 0, none⟩) ∧ RwIs w' w0.heap.size [br, bm] br bm lv r ∧ w0.heap.size ≤ br ∧ w0.heap.size ≤ bm ∧ Gr w0 w') := by
 refine co Tryd.func44 rfl Tryd.ntmps44 rfl fun ac hF => ?_
 have hC : Ch [] w0 w0 := Ch.refl _ _
 have hF := hF.sub (L' := [(0, (Value.agg #[(vB W.dh), (vB W.kem)])), (1, (Value.slice ad known.length cap))]) ⟨rfl, rfl, trivial⟩
 refine wp_seq ?_
 refine wp_region_lit ?_
 refine wlR (dI rfl) rfl hF ?_
 rintro _ w ac ⟨b1, rfl, hnb_⟩ hF
 have a : Ch [] _ w := hnb_.ch
 have P := hnb_.lo hC.size
 have hC := hC.trans' a (fun z hz => .inr (absurd hz (by simp)))
 have c : b1 < w.heap.size := hnb_.lt
 have u : w0.heap.size ≤ b1 := P
 have p : At w b1 0 [(vB W.dh), (vB W.kem)] := hnb_.at
 refine wl (bA rfl) rfl hF (fun ac hF => ?_)
 refine bx ?_
 refine wp_seq ?_
 refine wp_region_lit ?_
 refine wlR (jA) rfl hF ?_
 rintro _ w ac ⟨bm, rfl, hbn_, aK, hch0_⟩ hF
 have a : Ch [] _ w := hch0_
 have P : w0.heap.size ≤ bm := by rw [hbn_]; exact hC.size
 have hC := hC.trans' a (fun z hz => .inr (absurd hz (by simp)))
 have c := a.lt c
 have p := p.mv a (by first | (simp; done) | assumption | (simp <;> omega))
 have ax : bm < w.heap.size := aK.lt
 have q : w0.heap.size ≤ bm := P
 refine wl (dg (cells := #[vN, (Value.map (some bm))]) kK vq (fun w => tg w _ kK) rfl (by simp [Instr.fill, Value.cells])) rfl hF (fun ac hF => ?_)
 refine wlR (dI rfl) rfl hF ?_
 rintro _ w ac ⟨b2, rfl, hnb_⟩ hF
 have a : Ch [] _ w := hnb_.ch
 have P := hnb_.lo hC.size
 have e := hnb_.gt c
 have d := hnb_.gt ax
 have hC := hC.trans' a (fun z hz => .inr (absurd hz (by simp)))
 have c := a.lt c
 have p := p.mv a (by first | (simp; done) | assumption | (simp <;> omega))
 have ax := a.lt ax
 have aK := aK.mv a (by simp <;> omega)
 have hib2 : b2 < w.heap.size := hnb_.lt
 have s : w0.heap.size ≤ b2 := P
 have bu : w.heap[b2]? = some (.cells #[vN, (Value.map (some bm))] 118 (0, 0)) := hnb_.blk
 have e : b1 < b2 := e
 have d : bm < b2 := d
 refine wl (bA rfl) rfl hF (fun ac hF => ?_)
 refine bx ?_
 have k : RwIs w w0.heap.size [b2, bm] b2 bm vN (cQ (known.take 0) ⟨[], []⟩) := ⟨bu, aK, ⟨[], Own.nil _ _ _ _, by simp [IsNs, cQ]⟩, by simp [bE], by simp [bE], by omega⟩
 refine wp_seq ?_
 refine wp_seq ?_
 refine wp_region_lit ?_
 refine wl (bC rfl) rfl hF (fun ac hF => ?_)
 refine wl (bT u24 rfl) rfl hF (fun ac hF => ?_)
 refine wl (bC rfl) rfl hF (fun ac hF => ?_)
 refine bx ?_
 refine bz ?_
 refine wp_block ?_
 refine cb (fun aD ac w => ∃ (i : Nat) (lv : Value), aD = known.length - i ∧ (i ≤ known.length) ∧ (b1 ∉ b2 :: bm :: bE lv) ∧ Frm ac 66 [(2, (vp b1)), (5, (vp b2)), (15, (Value.slice ad known.length cap)), (16, (vI (known.length : Int))), (17, (vI (i : Int)))] ∧ (Ch [] w0 w) ∧ (b1 < w.heap.size) ∧ (w0.heap.size ≤ b1) ∧ (At w b1 0 [(vB W.dh), (vB W.kem)]) ∧ (w0.heap.size ≤ bm) ∧ (w0.heap.size ≤ b2) ∧ (b1 < b2) ∧ (bm < b2) ∧ (RwIs w w0.heap.size ([b2, bm]) b2 bm lv (cQ (known.take i) ⟨[], []⟩)) ∧ True) _ ⟨0, Value.slice none 0 0, rfl, (by omega), (by simp [bE] <;> omega), hF.sub ⟨rfl, rfl, rfl, rfl, rfl, trivial⟩, ⟨hC, c, u, p, q, s, e, d, k, trivial⟩⟩ ?_
 rintro _ ac w ⟨i, lv, rfl, hle, G, hF, ⟨hC, c, u, p, q, s, e, d, k, _⟩⟩
 refine wp_seq ?_
 refine wp_region_lit ?_
 refine wl (ez rfl rfl) rfl hF (fun ac hF => ?_)
 refine bx ?_
 refine wp_seq ?_
 refine cn hF rfl (fun h => ?_) (fun h => ?_)
 ·have bl := of_decide_eq_true h
  clear h
  obtain ⟨b0, o0, bh, hb0, bg⟩ := hsl (by omega)
  obtain ⟨t1, hi⟩ : ∃ t, known[i]? = some t := ⟨_, List.getElem?_eq_getElem (by omega)⟩
  have aC : t1 ∈ known := List.mem_of_getElem? hi
  obtain ⟨a1, aQ, be⟩ := hks.at bg i t1 hi
  obtain ⟨k1, a2, aY, l1, aM, rfl⟩ := aQ.form
  refine wp_skip ?_
  refine wp_seq ?_
  refine wp_block ?_
  refine wp_seq ?_
  refine wp_region_lit ?_
  refine wl (d6 (b := b0) (o := o0) u24 bV (by rw [← bh]; rfl) rfl rfl (by omega)) rfl hF (fun ac hF => ?_)
  refine wl (cj u26 rfl bV rfl (be.mv hC (by simp)) rfl) rfl hF (fun ac hF => ?_)
  refine wlR (d8 z26) rfl hF ?_
  rintro _ w ac ⟨b3, rfl, hnb_⟩ hF
  have a : Ch [] _ w := hnb_.ch
  have P := hnb_.lo hC.size
  have R := hnb_.gt c
  have aP := k
  have hlt_ : b2 < b3 ∧ bm < b3 := ⟨hnb_.gt k.lt, hnb_.gt k.met.lt⟩
  have U : ∀ y, y ∈ bE lv → y < b3 := fun y hy => hnb_.gt (k.lo y hy).2
  have hC := hC.trans' a (fun z hz => .inr (absurd hz (by simp)))
  have c := a.lt c
  have p := p.mv a (by first | (simp; done) | assumption | (simp <;> omega))
  have S : b3 < w.heap.size := hnb_.lt
  have lob3 : w0.heap.size ≤ b3 := P
  have af : w.heap[b3]? = some (.cells #[(vI 0), (vI 0), vN] 26 (0, 0)) := hnb_.blk
  have R : b1 < b3 := R
  have k : RwIs w w0.heap.size (b3 :: [b2, bm]) b2 bm lv (cQ (known.take i) ⟨[], []⟩) := aP.mvx hnb_.ch (by simp) (by simp) (by simp) (by simp) (fun x hx => by rcases List.mem_cons.1 hx with rfl | hx; exact .inr (Nat.le_of_eq hnb_.num.symm); exact .inl hx)
  refine kI (dk (c' := #[(vI k1), (vI a2), (Value.slice aY l1 aM)]) bV rfl rfl rfl (fun v hv => by simp at hv; rcases hv with rfl | rfl | rfl <;> rfl) af rfl) hF ?_
  rintro w ac hu_ hF
  have a : Ch [b3] _ w := hu_.ch
  have hC := hC.trans' a (fun z hz => .inr ((by simp at hz; subst hz; assumption)))
  have c := a.lt c
  have p := p.mv a (by first | (simp; done) | assumption | (simp <;> omega))
  have k := k.mv a (fun y hy => by first | (simp at hy; done) | (simp at hy; subst hy; simp)) (by simp <;> omega) (by simp <;> omega) (fun y hy => by first | (simp; done) | (simp; intro h; subst h; have := U _ hy; omega))
  have S := a.lt S
  have af : w.heap[b3]? = some (.cells #[(vI k1), (vI a2), (Value.slice aY l1 aM)] 26 (0, 0)) := hu_.blk
  refine bx ?_
  refine wp_seq ?_
  refine wp_region_lit ?_
  refine wl (cj u26 rfl bV rfl ((At.of_blk af)) rfl) rfl hF (fun ac hF => ?_)
  refine wlR (a_ c42 rfl (iC (X := []) _ (IsT.mv hC (by simp) (fun x hx => .inl hx) t1 _ aQ))) rfl hF ?_
  rintro _ w ac ⟨rfl, hg_⟩ hF
  have a : Ch [] _ w := Gr.ch hg_
  have hC := hC.trans' a (fun z hz => .inr (absurd hz (by simp)))
  have c := a.lt c
  have p := p.mv a (by first | (simp; done) | assumption | (simp <;> omega))
  have k := k.mv a (fun y hy => by first | (simp at hy; done) | (simp at hy; subst hy; simp)) (by simp <;> omega) (by simp <;> omega) (fun y hy => by first | (simp; done) | (simp; intro h; subst h; have := U _ hy; omega))
  have S := a.lt S
  have af := Ch.blk0 a af (by simp <;> omega)
  refine bx ?_
  refine bz ?_
  refine cn hF rfl (fun h => ?_) (fun h => ?_)
  ·have an := h
   clear h
   have ba : ∀ x, x ∈ bE lv ++ (b3 :: [b2, bm]) → w0.heap.size ≤ x := fun x hx => by
    simp only [List.mem_append, List.mem_cons, List.not_mem_nil, or_false] at hx
    rcases hx with hx | rfl | rfl | rfl
    ·exact (k.lo x hx).1
    all_goals assumption
   have bd : ∀ x, x ∈ bE lv ++ (b3 :: [b2, bm]) → x < w.heap.size := fun x hx => by
    simp only [List.mem_append, List.mem_cons, List.not_mem_nil, or_false] at hx
    rcases hx with hx | rfl | rfl | rfl
    ·exact (k.lo x hx).2
    ·assumption
    ·exact k.lt
    ·exact k.met.lt
   refine wp_region_lit ?_
   refine wl (bC rfl) rfl hF (fun ac hF => ?_)
   refine wl (cj u26 rfl bV rfl ((At.of_blk af)) rfl) rfl hF (fun ac hF => ?_)
   refine wlR (a_ c46 rfl (gZ hT hjoin t1 (hwr t1 aC an) (bE lv ++ (b3 :: [b2, bm])) _ _ (Nat.le_trans hnb hC.size) (hT _ _ (hC.below hnb (by simp)) hw0) bd (IsT.mv (X' := bE lv ++ (b3 :: [b2, bm])) hC (by simp) (fun x hx => .inr (ba x hx)) t1 _ aQ))) rfl hF ?_
   rintro nv w ac ⟨aT, hg_⟩ hF
   have a : Ch [] _ w := Gr.ch hg_
   obtain ⟨bn, rfl, bi, aT⟩ := aT.ptr
   have hC := hC.trans' a (fun z hz => .inr (absurd hz (by simp)))
   have c := a.lt c
   have p := p.mv a (by first | (simp; done) | assumption | (simp <;> omega))
   have k := k.mv a (fun y hy => by first | (simp at hy; done) | (simp at hy; subst hy; simp)) (by simp <;> omega) (by simp <;> omega) (fun y hy => by first | (simp; done) | (simp; intro h; subst h; have := U _ hy; omega))
   have S := a.lt S
   have af := Ch.blk0 a af (by simp <;> omega)
   refine wlR (a_ c79 rfl (fN (n := nrm t1) _ hC.size (by simp) (by simp) k aT (by have := (nA (known.take i) ⟨[], []⟩).2; simp at this; omega))) rfl hF ?_
   rintro _ w ac ⟨rfl, lv1, hto⟩ hF
   have a : Ch (b2 :: bm :: bE lv) _ w := hto.2.1
   have am := k.lo
   have G := kY hto c G
   have hC := hC.trans' a (fun z hz => .inr ((by simp at hz; rcases hz with rfl | rfl | hz; exact s; exact q; exact (am z hz).1)))
   have c := a.lt c
   have p := p.mv a (by first | (simp; done) | assumption | (simp <;> omega))
   have k : RwIs w w0.heap.size (b3 :: [b2, bm]) b2 bm lv1 ((cQ (known.take i) ⟨[], []⟩).add (nrm t1)) := hto.1
   refine bx ?_
   refine bR ?_
   refine bz ?_
   refine wp_region_lit ?_
   refine wl (cy rfl rfl (bO (by omega) (by omega))) rfl hF (fun ac hF => ?_)
   refine wl (bC rfl) rfl hF (fun ac hF => ?_)
   refine bx ?_
   refine bz ?_
   refine ⟨_, ?_, i + 1, _, rfl, (by omega), G, hF.sub ⟨rfl, rfl, rfl, rfl, rfl, trivial⟩, ⟨hC, c, u, p, q, s, e, d, (by rw [iL hi, an]; exact k.mvx (Ch.refl [] _) (by simp) (by simp) (by simp) (by simp) (fun x hx => .inl (by simp at hx ⊢; simp [hx]))), trivial⟩⟩
   omega
  ·have an := h
   clear h
   refine wp_skip ?_
   refine bR ?_
   refine bz ?_
   refine wp_region_lit ?_
   refine wl (cy rfl rfl (bO (by omega) (by omega))) rfl hF (fun ac hF => ?_)
   refine wl (bC rfl) rfl hF (fun ac hF => ?_)
   refine bx ?_
   refine bz ?_
   refine ⟨_, ?_, i + 1, _, rfl, (by omega), G, hF.sub ⟨rfl, rfl, rfl, rfl, rfl, trivial⟩, ⟨hC, c, u, p, q, s, e, d, (by rw [iL hi, an]; exact k.mvx (Ch.refl [] _) (by simp) (by simp) (by simp) (by simp) (fun x hx => .inl (by simp at hx ⊢; simp [hx]))), trivial⟩⟩
   omega
 ·have bl := of_decide_eq_false h
  clear h
  have hi : i = known.length := by omega
  have k : RwIs w w0.heap.size [b2, bm] b2 bm lv (cQ known ⟨[], []⟩) := by have h_ := k; rw [hi, List.take_length] at h_; exact h_
  refine wp_exit ?_
  refine bG ?_
  refine bG ?_
  refine bZ ?_
  refine wp_seq ?_
  refine wp_seq ?_
  refine wp_region_lit ?_
  refine wl (bA rfl) rfl hF (fun ac hF => ?_)
  refine bx ?_
  refine bz ?_
  refine wp_block ?_
  refine cb (fun aD ac w => ∃ (fk : Nat) (wk : Int) (rk : Rw) (lvk : Value), aD = 0 + fk ∧ ((wk < (rk.l.length : Int) ∧ ∃ g, fk = g + 1 ∧ du W f g rk = some r) ∨ (fk = 0 ∧ wk = (rk.l.length : Int) ∧ rk = r)) ∧ (AllFit rk) ∧ (rk.l.length ≤ r.l.length) ∧ (b1 ∉ b2 :: bm :: bE lvk) ∧ Frm ac 66 [(2, (vp b1)), (5, (vp b2)), (8, (vI wk))] ∧ (Ch [] w0 w) ∧ (b1 < w.heap.size) ∧ (w0.heap.size ≤ b1) ∧ (At w b1 0 [(vB W.dh), (vB W.kem)]) ∧ (w0.heap.size ≤ bm) ∧ (w0.heap.size ≤ b2) ∧ (b1 < b2) ∧ (bm < b2) ∧ (RwIs w w0.heap.size ([b2, bm]) b2 bm lvk rk) ∧ True) _ ⟨g + 1, -1, cQ known ⟨[], []⟩, lv, rfl, (.inl ⟨by omega, g, rfl, hopens⟩), hfit0, (gA hopens), G, hF.sub ⟨rfl, rfl, rfl, trivial⟩, ⟨hC, c, u, p, q, s, e, d, k, trivial⟩⟩ ?_
  rintro _ ac w ⟨fk, wk, rk, lvk, rfl, hs2, hfk, hrk, G, hF, ⟨hC, c, u, p, q, s, e, d, k, _⟩⟩
  obtain ⟨ai, H, N⟩ := k.own
  refine wp_seq ?_
  refine wp_seq ?_
  refine wp_region_lit ?_
  refine wl (bC rfl) rfl hF (fun ac hF => ?_)
  refine wl (bC rfl) rfl hF (fun ac hF => ?_)
  refine wl (d_nil rfl) rfl hF (fun ac hF => ?_)
  refine wl (bD kK (m := 0) cV rfl rfl rfl) rfl hF (fun ac hF => ?_)
  refine wl (bF dH rfl rfl ((At.of_blk k.st) 0 _ rfl)) rfl hF (fun ac hF => ?_)
  refine wl (hQ dH rfl H) rfl hF (fun ac hF => ?_)
  refine wl (ez rfl rfl) rfl hF (fun ac hF => ?_)
  refine bx ?_
  refine bz ?_
  refine cn hF rfl (fun h => ?_) (fun h => ?_)
  ·have bp := of_decide_eq_true h
   clear h
   obtain ⟨g1, hfk1, bq⟩ := (hs2.resolve_right (fun h => by omega)).2
   obtain ⟨g2, mf, r2, rfl, ay, aE⟩ := iG bq
   have hr2r : r2.l.length ≤ r.l.length := by
    rcases aE with ⟨_, h2⟩ | ⟨_, h2⟩
    ·rw [h2]; exact Nat.le_refl _
    ·exact gA h2
   refine wp_skip ?_
   refine bz ?_
   refine wp_block ?_
   refine wp_seq ?_
   refine wp_region_lit ?_
   refine wl (bC rfl) rfl hF (fun ac hF => ?_)
   refine wl (d_nil rfl) rfl hF (fun ac hF => ?_)
   refine wl (bD kK (m := 0) cV rfl rfl rfl) rfl hF (fun ac hF => ?_)
   refine wl (bF dH rfl rfl ((At.of_blk k.st) 0 _ rfl)) rfl hF (fun ac hF => ?_)
   refine wl (hQ dH rfl H) rfl hF (fun ac hF => ?_)
   refine wl (bA rfl) rfl hF (fun ac hF => ?_)
   refine bx ?_
   refine wp_seq ?_
   obtain ⟨ah, M⟩ : ∃ A : (Nat → Value) → World → Prop, A = fun _ w => (Ch [] w0 w) ∧ (b1 < w.heap.size) ∧ (w0.heap.size ≤ b1) ∧ (At w b1 0 [(vB W.dh), (vB W.kem)]) ∧ (w0.heap.size ≤ bm) ∧ (w0.heap.size ≤ b2) ∧ (b1 < b2) ∧ (bm < b2) ∧ (RwIs w w0.heap.size ([b2, bm]) b2 bm lvk rk) ∧ True := ⟨_, rfl⟩
   obtain ⟨ab, L⟩ : ∃ A : (Nat → Value) → World → Prop, A = fun H1 w => (Ch [] w0 w) ∧ (b1 < w.heap.size) ∧ (w0.heap.size ≤ b1) ∧ (At w b1 0 [(vB W.dh), (vB W.kem)]) ∧ (w0.heap.size ≤ bm) ∧ (w0.heap.size ≤ b2) ∧ (b1 < b2) ∧ (bm < b2) ∧ (RwIs w w0.heap.size ([b2, bm]) b2 bm lvk rk) ∧ (MapIs w (blk (H1 5)) rk.met) ∧ ((blk (H1 5)) < w.heap.size) ∧ (w0.heap.size ≤ (blk (H1 5))) ∧ (b2 < (blk (H1 5)) ∧ bm < (blk (H1 5)) ∧ ∀ y, y ∈ bE lvk → y < (blk (H1 5))) ∧ (H1 5 = (Value.map (some (blk (H1 5))))) ∧ True := ⟨_, rfl⟩
   obtain ⟨ag, aa⟩ : ∃ A : (Nat → Value) → World → Prop, A = fun H1 w => (Ch [] w0 w) ∧ (b1 < w.heap.size) ∧ (w0.heap.size ≤ b1) ∧ (At w b1 0 [(vB W.dh), (vB W.kem)]) ∧ (w0.heap.size ≤ bm) ∧ (w0.heap.size ≤ b2) ∧ (b1 < b2) ∧ (bm < b2) ∧ (RwIs w w0.heap.size ([b2, bm]) b2 bm lvk rk) ∧ (MapIs w (blk (H1 5)) rk.met) ∧ ((blk (H1 5)) < w.heap.size) ∧ (w0.heap.size ≤ (blk (H1 5))) ∧ (b2 < (blk (H1 5)) ∧ bm < (blk (H1 5)) ∧ ∀ y, y ∈ bE lvk → y < (blk (H1 5))) ∧ (H1 5 = (Value.map (some (blk (H1 5))))) ∧ ((blk (H1 7)) < w.heap.size) ∧ (w0.heap.size ≤ (blk (H1 7))) ∧ (At w (blk (H1 7)) 0 [vN, (Value.map (some (blk (H1 5))))]) ∧ (b1 < (blk (H1 7))) ∧ ((blk (H1 5)) < (blk (H1 7))) ∧ (H1 7 = (vp (blk (H1 7)))) ∧ True := ⟨_, rfl⟩
   obtain ⟨ao, Z⟩ : ∃ A : (Nat → Value) → World → Prop, A = fun H1 w => (Ch [] w0 w) ∧ (b1 < w.heap.size) ∧ (w0.heap.size ≤ b1) ∧ (At w b1 0 [(vB W.dh), (vB W.kem)]) ∧ (w0.heap.size ≤ bm) ∧ (w0.heap.size ≤ b2) ∧ (b1 < b2) ∧ (bm < b2) ∧ (MapIs w (blk (H1 5)) rk.met) ∧ ((blk (H1 5)) < w.heap.size) ∧ (w0.heap.size ≤ (blk (H1 5))) ∧ (b2 < (blk (H1 5)) ∧ bm < (blk (H1 5)) ∧ ∀ y, y ∈ bE lvk → y < (blk (H1 5))) ∧ (H1 5 = (Value.map (some (blk (H1 5))))) ∧ ((blk (H1 7)) < w.heap.size) ∧ (w0.heap.size ≤ (blk (H1 7))) ∧ (At w (blk (H1 7)) 0 [vN, (Value.map (some (blk (H1 5))))]) ∧ (b1 < (blk (H1 7))) ∧ ((blk (H1 5)) < (blk (H1 7))) ∧ (H1 7 = (vp (blk (H1 7)))) ∧ (∃ bt, RdIs w w0.heap.size W (blk (H1 7)) (blk (H1 8)) bt ∧ ((blk (H1 5)) < bt ∧ (blk (H1 7)) < bt ∧ (blk (H1 5)) < (blk (H1 8)) ∧ (blk (H1 7)) < (blk (H1 8))) ∧ (b2 < bt ∧ bm < bt ∧ b2 < (blk (H1 8)) ∧ bm < (blk (H1 8)) ∧ b1 < bt) ∧ (∀ y, y ∈ bE lvk → y < bt ∧ y < (blk (H1 8))) ∧ RwIs w w0.heap.size [bt, b2, bm] b2 bm lvk rk) ∧ (H1 8 = (vp (blk (H1 8)))) ∧ True := ⟨_, rfl⟩
   refine eK mo (fun p_ H_ w_ => (([ah, ab, ag, ao] : List ((Nat → Value) → World → Prop)).getD p_ (fun _ _ => True)) H_ w_) [5, 7, 8] (rows := [hr_ [] [(2, (vp b1))] [0, 1, 2] (Value.agg #[(vB W.dh), (vB W.kem)]), hr_ [] [(5, (vp b2))] [0] (vp b2), hr_ [(1, 41)] [] [0] (vp b2), hr_ [(2, 42)] [] [0] (vP b2 1), hr_ [(3, 43)] [] [0] (Value.map (some bm)), ⟨[(4, 44)], [], [0], [5], fun H1 => H1 5, fun H1 K_ h_ => by simp only [h_ 5 (by simp)]⟩, ⟨[(5, 45)], [], [1], [5], fun H1 => (Value.agg #[vN, (Value.map (some (blk (H1 5))))]), fun H1 K_ h_ => by simp only [h_ 5 (by simp)]⟩, ⟨[(6, 46)], [], [1], [7], fun H1 => H1 7, fun H1 K_ h_ => by simp only [h_ 7 (by simp)]⟩, ⟨[(0, 40), (7, 47)], [], [2], [8], fun H1 => H1 8, fun H1 K_ h_ => by simp only [h_ 8 (by simp)]⟩, ⟨[(8, 48)], [], [3], [8], fun H1 => (vp (blk (H1 8))), fun H1 K_ h_ => by simp only [h_ 8 (by simp)]⟩]) (by kernel_rfl) hF (fun H_ => ?_) ?_ ?_
   ·have a := Ch.drew w
    have I : ah H_ { w with drawn := w.drawn + 1 } := by rw [M]; exact ⟨hC.trans' a (fun z hz => .inr (absurd hz (by simp))), a.lt c, u, p.mv a (by first | (simp; done) | assumption | (simp <;> omega)), q, s, e, d, k.mv a (fun y hy => by first | (simp at hy; done) | (simp at hy; subst hy; simp)) (by simp <;> omega) (by simp <;> omega) (fun y hy => by first | (simp; done) | (simp; intro h; subst h; have := U _ hy; omega)), trivial⟩
    exact I
   ·refine ⟨?_, ?_, ?_, ?_, ?_, ?_, ?_, ?_, ?_, ?_, trivial⟩
    ·refine ⟨⟨rfl, trivial⟩, fun aN O H1 w hW => ?_⟩
     rcases g6 O with rfl | O
     ·have av := hW
      replace hW : ah H1 w := hW
      rw [M] at hW
      obtain ⟨hC, c, u, p, q, s, e, d, k, _⟩ := hW
      exact Det.ohc rfl av (cj u31 rfl il rfl (p) rfl)
     rcases g6 O with rfl | O
     ·have av := hW
      replace hW : ab H1 w := hW
      rw [L] at hW
      obtain ⟨hC, c, u, p, q, s, e, d, k, C, B, F, Y, E, _⟩ := hW
      exact Det.ohc rfl av (cj u31 rfl il rfl (p) rfl)
     obtain rfl := ca O
     ·have av := hW
      replace hW : ag H1 w := hW
      rw [aa] at hW
      obtain ⟨hC, c, u, p, q, s, e, d, k, C, B, F, Y, E, K, aj, ae, D, ap, Q, _⟩ := hW
      exact Det.ohc rfl av (cj u31 rfl il rfl (p) rfl)
    ·exact HOb.pure ⟨rfl, trivial⟩ rfl rfl (fun _ _ => bC rfl)
    ·exact HOb.pure trivial rfl rfl (fun _ _ => d_nil rfl)
    ·exact HOb.pure trivial rfl rfl (fun _ _ => bD kK (m := 0) lS rfl rfl rfl)
    ·exact HOb.fact M trivial rfl rfl rfl rfl (fun H1 w ⟨_, _, _, _, _, _, _, _, k, _⟩ => bF ij rfl rfl ((At.of_blk k.st) 1 _ rfl))
    ·refine ⟨trivial, fun aN O H1 w hW => ?_⟩
     obtain rfl := ca O
     replace hW : ah H1 w := hW
     rw [M] at hW
     obtain ⟨hC, c, u, p, q, s, e, d, k, _⟩ := hW
     refine Ok1.mono (a_ c80 rfl (mI hclone _ k.met)) ?_
     rintro _ w' ⟨bmk, rfl, hbmk_, B, C, hch0_⟩
     have a : Ch [] _ w' := hch0_
     have P : w0.heap.size ≤ bmk := by rw [hbmk_]; exact hC.size
     have a8 : b2 < bmk ∧ bm < bmk ∧ ∀ y, y ∈ bE lvk → y < bmk := by rw [hbmk_]; exact ⟨k.lt, k.met.lt, fun y hy => (k.lo y hy).2⟩
     have hC := hC.trans' a (fun z hz => .inr (absurd hz (by simp)))
     have c := a.lt c
     have p := p.mv a (by first | (simp; done) | assumption | (simp <;> omega))
     have k := k.mv a (fun y hy => by first | (simp at hy; done) | (simp at hy; subst hy; simp)) (by simp <;> omega) (by simp <;> omega) (fun y hy => by first | (simp; done) | (simp; intro h; subst h; have := U _ hy; omega))
     have F : w0.heap.size ≤ bmk := P
     have Y : b2 < bmk ∧ bm < bmk ∧ ∀ y, y ∈ bE lvk → y < bmk := a8
     have I : ab (dO H1 5 (Value.map (some bmk))) w' := by rw [L]; exact ⟨hC, c, u, p, q, s, e, d, k, C, B, F, Y, rfl, trivial⟩
     exact jL rfl ⟨I, rfl⟩
    ·exact HOb.fact L trivial rfl rfl rfl rfl (fun H1 w ⟨_, _, _, _, _, _, _, _, _, _, _, _, _, E, _⟩ => Det.sub (L' := [(45, (Value.map (some (blk (H1 5)))))]) ⟨congrArg some E, trivial⟩ (dg (cells := #[vN, (Value.map (some (blk (H1 5))))]) kK vq (fun w => tg w _ kK) rfl (by simp [Instr.fill, Value.cells])))
    ·refine ⟨trivial, fun aN O H1 w hW => ?_⟩
     obtain rfl := ca O
     replace hW : ab H1 w := hW
     rw [L] at hW
     obtain ⟨hC, c, u, p, q, s, e, d, k, C, B, F, Y, E, _⟩ := hW
     refine Ok1.mono (dI rfl) ?_
     rintro _ w' ⟨b4, rfl, hnb_⟩
     have a : Ch [] _ w' := hnb_.ch
     have P := hnb_.lo hC.size
     have D := hnb_.gt c
     have bc := hnb_.gt B
     have hC := hC.trans' a (fun z hz => .inr (absurd hz (by simp)))
     have c := a.lt c
     have p := p.mv a (by first | (simp; done) | assumption | (simp <;> omega))
     have k := k.mv a (fun y hy => by first | (simp at hy; done) | (simp at hy; subst hy; simp)) (by simp <;> omega) (by simp <;> omega) (fun y hy => by first | (simp; done) | (simp; intro h; subst h; have := U _ hy; omega))
     have C := C.mv a (by simp <;> omega)
     have B := a.lt B
     have K : b4 < w'.heap.size := hnb_.lt
     have aj : w0.heap.size ≤ b4 := P
     have ae : At w' b4 0 [vN, (Value.map (some (blk (H1 5))))] := hnb_.at
     have D : b1 < b4 := D
     have ap : (blk (H1 5)) < b4 := bc
     have I : ag (dO H1 7 (vp b4)) w' := by rw [aa]; exact ⟨hC, c, u, p, q, s, e, d, k, C, B, F, Y, E, K, aj, ae, D, ap, rfl, trivial⟩
     exact jL rfl ⟨I, rfl⟩
    ·refine ⟨trivial, fun aN O H1 w hW => ?_⟩
     obtain rfl := ca O
     replace hW : ag H1 w := hW
     rw [aa] at hW
     obtain ⟨hC, c, u, p, q, s, e, d, k, C, B, F, Y, E, K, aj, ae, D, ap, Q, _⟩ := hW
     refine Ok1.sub (L' := [(40, (Value.agg #[(vB W.dh), (vB W.kem)])), (47, (vp (blk (H1 7))))]) ⟨rfl, congrArg some Q, trivial⟩ (Ok1.mono (a_ c43 rfl (gR _)) ?_)
     rintro _ w' ⟨bb, rfl, hrd_, hch0_⟩
     have a : Ch [] _ w' := hch0_
     have aS : ∃ bt, RdIs w' w0.heap.size W (blk (H1 7)) bb bt ∧ ((blk (H1 5)) < bt ∧ (blk (H1 7)) < bt ∧ (blk (H1 5)) < bb ∧ (blk (H1 7)) < bb) ∧ (b2 < bt ∧ bm < bt ∧ b2 < bb ∧ bm < bb ∧ b1 < bt) ∧ (∀ y, y ∈ bE lvk → y < bt ∧ y < bb) ∧ RwIs w' w0.heap.size [bt, b2, bm] b2 bm lvk rk := by
      obtain ⟨bt, h⟩ := hrd_
      have s1 := hC.size
      have s2 := h.lb
      have s3 := h.lt
      have s4 := k.lt
      have s5 := k.met.lt
      have s6 := c
      have s7 := B
      have s8 := K
      exact ⟨bt, ⟨h.at', h.told, by omega, by omega, h.ne⟩, ⟨by omega, by omega, by omega, by omega⟩, ⟨by omega, by omega, by omega, by omega, by omega⟩, fun y hy => by have := (k.lo y hy).2; omega, k.mvx a (by simp) (by simp) (by simp) (by simp) (fun x hx => by rcases List.mem_cons.1 hx with rfl | hx; exact .inr h.lt; exact .inl hx)⟩
     have hC := hC.trans' a (fun z hz => .inr (absurd hz (by simp)))
     have c := a.lt c
     have p := p.mv a (by first | (simp; done) | assumption | (simp <;> omega))
     have C := C.mv a (by simp <;> omega)
     have B := a.lt B
     have K := a.lt K
     have ae := ae.mv a (by simp <;> omega)
     have V : ∃ bt, RdIs w' w0.heap.size W (blk (H1 7)) bb bt ∧ ((blk (H1 5)) < bt ∧ (blk (H1 7)) < bt ∧ (blk (H1 5)) < bb ∧ (blk (H1 7)) < bb) ∧ (b2 < bt ∧ bm < bt ∧ b2 < bb ∧ bm < bb ∧ b1 < bt) ∧ (∀ y, y ∈ bE lvk → y < bt ∧ y < bb) ∧ RwIs w' w0.heap.size [bt, b2, bm] b2 bm lvk rk := aS
     have I : ao (dO H1 8 (vp bb)) w' := by rw [Z]; exact ⟨hC, c, u, p, q, s, e, d, C, B, F, Y, E, K, aj, ae, D, ap, Q, V, rfl, trivial⟩
     exact jL rfl ⟨I, rfl⟩
    ·exact HOb.fact Z trivial rfl rfl rfl rfl (fun H1 w ⟨_, _, _, _, _, _, _, _, _, _, _, _, _, _, _, _, _, _, _, _, al, _⟩ => Det.sub (L' := [(48, (vp (blk (H1 8))))]) ⟨congrArg some al, trivial⟩ (bA rfl))
   ·intro ac w H1 hW hF
    replace hW : ao H1 w := hW
    rw [Z] at hW
    obtain ⟨hC, c, u, p, q, s, e, d, C, B, F, Y, E, K, aj, ae, D, ap, Q, V, al, _⟩ := hW
    clear M ah L ab aa ag Z ao
    have hF := hF.sub (L' := [(2, (vp b1)), (5, (vp b2)), (8, (vI (rk.l.length : Int))), (9, (vp (blk (H1 8)))), (34, (vB (decide (wk < (rk.l.length : Int)))))]) ⟨rfl, rfl, rfl, rfl, rfl, trivial⟩
    clear E
    clear Q
    clear al
    generalize (blk (H1 5)) = bmk at *
    generalize (blk (H1 7)) = b4 at *
    generalize (blk (H1 8)) = bb at *
    obtain ⟨bt, V, ⟨q1, q2, q3, q4⟩, ⟨q5, q6, q7, q8, q9⟩, aV, k⟩ := V
    have ak : Bd w W rk.met bb bt b4 bmk (.slice none 0 0) := ⟨V.at', ae, C, V.ne, by omega, by omega⟩
    have J := V.told
    have aL := V.lt
    obtain ⟨ai, H, N⟩ := k.own
    have T : ∀ g, g ∈ bE lvk → At w g 0 ai := fun g hg => qe H hg
    have bk : ai.length = rk.l.length := by have := H.1; simpa using this
    have aW := fun (h : 0 < rk.l.length) => Own.form H h
    have au : ∀ g, g ∈ bE lvk → g ≠ bt ∧ g ≠ b2 ∧ g ≠ bm := fun g hg => ⟨by have := (aV g hg).1; omega, fun h => k.nr (h ▸ hg), fun h => k.nm (h ▸ hg)⟩
    have aF := V.ne
    have az : b4 ≠ bt := by omega
    have ar : bmk ≠ bt := by omega
    obtain ⟨u1, u2, u3⟩ := Y
    have aI : bb ∉ b2 :: bm :: bE lvk := fun hm => by
     simp only [List.mem_cons] at hm
     rcases hm with hm | hm | hm
     ·omega
     ·omega
     ·have := (aV _ hm).2; omega
    have aG : b4 ∉ b2 :: bm :: bE lvk := fun hm => by
     simp only [List.mem_cons] at hm
     rcases hm with hm | hm | hm
     ·omega
     ·omega
     ·have := u3 _ hm; omega
    have aH : bmk ∉ b2 :: bm :: bE lvk := fun hm => by
     simp only [List.mem_cons] at hm
     rcases hm with hm | hm | hm
     ·omega
     ·omega
     ·have := u3 _ hm; omega
    have aJ : bt ∉ b2 :: bm :: bE lvk := fun hm => by
     simp only [List.mem_cons] at hm
     rcases hm with hm | hm | hm
     ·omega
     ·omega
     ·have := (aV _ hm).1; omega
    refine wp_seq ?_
    refine wp_region_lit ?_
    refine wl (bC rfl) rfl hF (fun ac hF => ?_)
    refine wl (d_nil rfl) rfl hF (fun ac hF => ?_)
    refine wl (bD kK (m := 0) cV rfl rfl rfl) rfl hF (fun ac hF => ?_)
    refine wl (bF dH rfl rfl ((At.of_blk k.st) 0 _ rfl)) rfl hF (fun ac hF => ?_)
    refine wl (bC rfl) rfl hF (fun ac hF => ?_)
    refine wl (nG dH iN rfl rfl H) rfl hF (fun ac hF => ?_)
    refine wl (hQ dH rfl H) rfl hF (fun ac hF => ?_)
    refine wl (bC rfl) rfl hF (fun ac hF => ?_)
    refine bx ?_
    refine bz ?_
    refine wp_block ?_
    refine cb (fun aD ac w => ∃ (j : Nat) (mj : bX) (rj : Rw) (lvj : Value), aD = rk.l.length - j ∧ (j ≤ rk.l.length) ∧ (opnL W rk.met f (rk.l.drop j) mj rj = some (mf, r2)) ∧ (rk.l.length ≤ rj.l.length) ∧ (bb ∉ b2 :: bm :: bE lvj) ∧ (b4 ∉ b2 :: bm :: bE lvj) ∧ (bmk ∉ b2 :: bm :: bE lvj) ∧ (bt ∉ b2 :: bm :: bE lvj) ∧ (b1 ∉ b2 :: bm :: bE lvj) ∧ Frm ac 66 [(2, (vp b1)), (5, (vp b2)), (8, (vI (rk.l.length : Int))), (9, (vp bb)), (54, lvk), (55, (vI (rk.l.length : Int))), (56, (vI (j : Int)))] ∧ (Ch [] w0 w) ∧ (b1 < w.heap.size) ∧ (w0.heap.size ≤ b1) ∧ (At w b1 0 [(vB W.dh), (vB W.kem)]) ∧ (w0.heap.size ≤ bm) ∧ (w0.heap.size ≤ b2) ∧ (RwIs w w0.heap.size ([bt, b2, bm]) b2 bm lvj rj) ∧ (Bd w W rk.met bb bt b4 bmk (.slice none 0 0)) ∧ (MapIs w bt mj) ∧ (∀ g, g ∈ bE lvk → At w g 0 ai) ∧ (IsNs w (bE lvj ++ [bt, b2, bm]) rk.l ai) ∧ True) _ ⟨0, [], rk, lvk, rfl, (by omega), (by simpa using ay), (Nat.le_refl _), aI, aG, aH, aJ, G, hF.sub ⟨rfl, rfl, rfl, rfl, rfl, rfl, rfl, trivial⟩, ⟨hC, c, u, p, q, s, k, ak, J, T, N, trivial⟩⟩ ?_
    rintro _ ac w ⟨j, mj, rj, lvj, rfl, hj, hopn, hlj, aI, aG, aH, aJ, G, hF, ⟨hC, c, u, p, q, s, k, ak, J, T, N, _⟩⟩
    refine wp_seq ?_
    refine wp_region_lit ?_
    refine wl (ez rfl rfl) rfl hF (fun ac hF => ?_)
    refine bx ?_
    refine wp_seq ?_
    refine cn hF rfl (fun h => ?_) (fun h => ?_)
    ·have a7 := of_decide_eq_true h
     clear h
     obtain ⟨g0, cap0, a9, _, bs⟩ := aW (by omega)
     obtain ⟨t1, hi⟩ : ∃ t, rk.l[j]? = some t := ⟨_, List.getElem?_eq_getElem (by omega)⟩
     have aC : t1 ∈ rk.l := List.mem_of_getElem? hi
     obtain ⟨v1, bj, aO⟩ := N.at j t1 hi
     obtain ⟨bn, rfl, bi, aO⟩ := aO.ptr
     obtain ⟨m1, r1, aq, aB⟩ := fK (show opnL W rk.met f (t1 :: rk.l.drop (j + 1)) mj rj = some (mf, r2) by rw [← kv hi]; exact hopn)
     refine wp_skip ?_
     refine wp_seq ?_
     refine wp_block ?_
     refine wp_seq ?_
     refine wp_region_lit ?_
     refine wl (kx (b := g0) (o := 0) (j := j) dH iN (by rw [← a9]; rfl) rfl rfl (by omega)) rfl hF (fun ac hF => ?_)
     refine wl (bF u83 rfl rfl (T g0 bs j _ bj)) rfl hF (fun ac hF => ?_)
     refine wl (bA rfl) rfl hF (fun ac hF => ?_)
     refine bx ?_
     refine bz ?_
     refine wp_region_lit ?_
     refine wl (bC rfl) rfl hF (fun ac hF => ?_)
     refine wl (bC rfl) rfl hF (fun ac hF => ?_)
     refine wl (bC rfl) rfl hF (fun ac hF => ?_)
     refine wlR (a_ c81 rfl (kU hT hjoin aq (X := [bt, b2, bm]) _ (Nat.le_trans hnb hC.size) (Nat.le_trans hnb aL) (hT _ _ (hC.below hnb (by simp)) hw0) hC.size (by simp) (by simp) (by simp) aJ k ak J (hfk t1 aC) aO (by have h1_ := gT aq; have h2_ := fg aB; omega))) rfl hF ?_
     rintro _ w ac ⟨rfl, lv2, hop2⟩ hF
     have a : Ch (bt :: b2 :: bm :: bE lvj) _ w := hop2.2.2.1
     have am := k.lo
     have aA := ak.lt
     have bf := J.lt
     have a3 := jF hop2 aA.1 aI
     have a5 := jF hop2 aA.2.1 aG
     have aZ := jF hop2 aA.2.2 aH
     have a0 := jF hop2 bf aJ
     have aR := fun g hg => hop2.2.2.2.2.2 g ai (au g hg).1 (au g hg).2.1 (au g hg).2.2 (fun _ => by rw [bk]; exact hlj) (T g hg)
     have aU := hop2.ns (by simp) (by simp) (by simp) N
     have hb1m : b1 ∉ bt :: b2 :: bm :: bE lvj := fun hm => by rcases List.mem_cons.1 hm with hm | hm; omega; exact G hm
     have aX := jF hop2 c G
     have hC := hC.trans' a (fun z hz => .inr ((by simp at hz; rcases hz with rfl | rfl | rfl | hz; exact aL; exact s; exact q; exact (am z hz).1)))
     have c := a.lt c
     have p := p.mv a (by first | (simp; done) | assumption | (simp <;> omega))
     have k : RwIs w w0.heap.size ([bt, b2, bm]) b2 bm lv2 r1 := hop2.1
     have ak : Bd w W rk.met bb bt b4 bmk (.slice none 0 0) := ak.mv a (fun hm => by rcases List.mem_cons.1 hm with hm | hm; exact aF hm; exact aI hm) (fun hm => by rcases List.mem_cons.1 hm with hm | hm; exact az hm; exact aG hm) (fun hm => by rcases List.mem_cons.1 hm with hm | hm; exact ar hm; exact aH hm)
     have J : MapIs w bt m1 := hop2.2.1
     have T : ∀ g, g ∈ bE lvk → At w g 0 ai := aR
     have N : IsNs w (bE lv2 ++ [bt, b2, bm]) rk.l ai := aU
     refine bx ?_
     refine bR ?_
     refine bz ?_
     refine wp_region_lit ?_
     refine wl (cy rfl rfl (bO (by omega) (by omega))) rfl hF (fun ac hF => ?_)
     refine wl (bC rfl) rfl hF (fun ac hF => ?_)
     refine bx ?_
     refine bz ?_
     refine ⟨_, ?_, j + 1, m1, r1, lv2, rfl, (by omega), aB, (Nat.le_trans hlj (gT aq)), a3, a5, aZ, a0, aX, hF.sub ⟨rfl, rfl, rfl, rfl, rfl, rfl, rfl, trivial⟩, ⟨hC, c, u, p, q, s, k, ak, J, T, N, trivial⟩⟩
     omega
    ·have a7 := of_decide_eq_false h
     clear h
     have bo : j = rk.l.length := by omega
     rw [bo, List.drop_length] at hopn
     simp only [opnL, Option.some.injEq, Prod.mk.injEq] at hopn
     obtain ⟨rfl, rfl⟩ := hopn
     obtain ⟨aw, hfk2, a4⟩ : ∃ aw, aw < fk ∧ (((rk.l.length : Int) < (rj.l.length : Int) ∧ ∃ g, aw = g + 1 ∧ du W f g rj = some r) ∨ (aw = 0 ∧ (rk.l.length : Int) = (rj.l.length : Int) ∧ rj = r)) := by
      rcases aE with ⟨h1, h2⟩ | ⟨h1, h2⟩
      ·exact ⟨0, by omega, .inr ⟨rfl, by omega, h2⟩⟩
      ·exact ⟨g2 + 1, by omega, .inl ⟨by omega, g2, rfl, h2⟩⟩
     have a6 : rj.l.length ≤ r.l.length := by
      rcases aE with ⟨_, h2⟩ | ⟨_, h2⟩
      ·rw [h2]; exact Nat.le_refl _
      ·exact gA h2
     refine wp_exit ?_
     refine bG ?_
     refine bG ?_
     refine bZ ?_
     refine bR ?_
     refine bz ?_
     refine ⟨_, ?_, aw, (rk.l.length : Int), rj, lvj, rfl, a4, (hfk.opnL hfk ay), a6, G, hF.sub ⟨rfl, rfl, rfl, trivial⟩, ⟨hC, c, u, p, q, s, e, d, (k.mvx (Ch.refl [] _) (by simp) (by simp) (by simp) (by simp) (fun x hx => .inl (by simp at hx ⊢; simp [hx]))), trivial⟩⟩
     omega
  ·have bp := of_decide_eq_false h
   clear h
   obtain ⟨_, _, rfl⟩ := hs2.resolve_left (fun h => by omega)
   refine wp_exit ?_
   refine bG ?_
   refine bG ?_
   refine bZ ?_
   refine wp_seq ?_
   refine wp_region_lit ?_
   refine wl (bC rfl) rfl hF (fun ac hF => ?_)
   refine wl (bA rfl) rfl hF (fun ac hF => ?_)
   refine bx ?_
   refine wp_ret ?_
   refine bv hF (bw Tryd.results44 (RV.tmp hF rfl)) ?_
   exact ⟨b2, bm, lvk, rfl, k, s, q, hC.gr⟩
end Go.Mi.Term
