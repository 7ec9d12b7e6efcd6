/- Walks: what functions of term return. -/
import Derived.Test.YtoefhjabaanokaaDoorB6
import Derived.Test.YtoefhjabaanokaaDoorW16
set_option linter.unusedSimpArgs false
set_option linter.unusedVariables false
set_option linter.unnecessarySimpa false
namespace Go.Mi.Term
open Go.Mi Go.Proofs Go.RowKit
set_option linter.unusedVariables false
theorem RwIs.mvb {w : World} {base base' : Nat} {X : List Nat} {br bm : Nat} {lv : Value} {r : Rw} (h : RwIs w base X br bm lv r) (hb : base' ≤ base) : RwIs w base' X br bm lv r := by
 obtain ⟨xs, h4, h5⟩ := h.own
 refine ⟨h.st, h.met, ⟨xs, ⟨h4.1, ?_⟩, h5⟩, h.nr, h.nm, h.ne⟩
 rcases h4.2 with h6 | ⟨g, cap, cur, h7, h8, h9⟩
 ·exact .inl h6
 ·exact .inr ⟨g, cap, cur, h7, by omega, h9⟩
theorem qp {b b' : Bool} {n : Nat} {xs : Array Value} {w : World} (h : b = b') (k : Calls Tryd.prog n xs w (Ret fun v w' => v = .bool b ∧ Gr w w')) : Calls Tryd.prog n xs w (Ret fun v w' => v = .bool b' ∧ Gr w w') := h ▸ k
theorem mt {W : Wd} {f g : Nat} {known : List Tm} {t : Tm} {b : Bool} (h : kl W f g known t = some b) : (may t = false ∧ b = false) ∨ (may t = true ∧ ∃ r m', gU W f g known = some r ∧ bl W r.met f [nrm t] [] = some (b, m')) := by
 unfold kl at h
 cases hm : may t with
 | false => rw [hm] at h; simp at h; exact .inl ⟨rfl, h⟩
 | true =>
  rw [hm] at h
  simp only [if_true] at h
  cases ho : gU W f g known with
  | none => rw [ho] at h; simp at h
  | some r =>
   rw [ho] at h
   simp only [Option.map_eq_some_iff] at h
   obtain ⟨⟨b', m'⟩, h1, h2⟩ := h
   simp at h2
   subst h2
   exact .inr ⟨rfl, r, m', rfl, h1⟩
set_option maxRecDepth 100000 in
set_option maxHeartbeats 4000000 in
theorem mP {T0 : World → Prop} {nb : Nat} (hT : ∀ w w', Below nb w w' → T0 w → T0 w') (hjoin : cG) (hclone : ii) {W : Wd} {f g : Nat} {known : List Tm} {t : Tm} {b : Bool} {k nm : Int} {ad ad2 : Option Addr} {cap l2 cap2 : Nat} {xs : List Value} (hkn : kl W f g known t = some b) (w0 : World) (hnb : nb ≤ w0.heap.size) (hw0 : T0 w0) (hkl : known.length ≤ 1099511627000) (hrl0 : ∀ r, gU W f g known = some r → r.l.length ≤ 1099511627000) (hwr : ∀ t, t ∈ known → may t = true → WrT T0 t) (hfit0 : AllFit (cQ known ⟨[], []⟩)) (hwt0 : may t = true → WrT T0 t) (hfitt0 : may t = true → Fit (nrm t))
 (hsl : 0 < known.length → ∃ b o, ad = some ⟨b, o, none⟩ ∧ b ∉ ([] : List Nat) ∧ At w0 b o xs) (hks : IsTs w0 [] known xs) (ht : IsT w0 [] t [.int .i64 k, .int .i64 nm, .slice ad2 l2 cap2]) : Calls Tryd.prog 19 (List.toArray [.agg #[.bool W.dh, .bool W.kem], .slice ad known.length cap, .agg #[.int .i64 k, .int .i64 nm, .slice ad2 l2 cap2]]) w0 (Ret fun v w' => v = .bool b ∧ Gr w0 w') := by
 refine co Tryd.func19 rfl Tryd.ntmps19 rfl fun ac hF => ?_
 have hC : Ch [] w0 w0 := Ch.refl _ _
 have hF := hF.sub (L' := [(0, (Value.agg #[(vB W.dh), (vB W.kem)])), (1, (Value.slice ad known.length cap)), (2, (Value.agg #[(vI k), (vI nm), (Value.slice ad2 l2 cap2)]))]) ⟨rfl, rfl, rfl, trivial⟩
 refine wp_seq ?_
 refine wp_region_lit ?_
 refine wlR (dI rfl) rfl hF ?_
 rintro _ w ac ⟨b1, rfl, hnb_⟩ hF
 have c : Ch [] _ w := hnb_.ch
 have al := hnb_.lo hC.size
 have hC := hC.trans' c (fun z hz => .inr (absurd hz (by simp)))
 have d : b1 < w.heap.size := hnb_.lt
 have m : w0.heap.size ≤ b1 := al
 have j : At w b1 0 [(vB W.dh), (vB W.kem)] := hnb_.at
 refine wlR (dI rfl) rfl hF ?_
 rintro _ w ac ⟨b2, rfl, hnb_⟩ hF
 have c : Ch [] _ w := hnb_.ch
 have al := hnb_.lo hC.size
 have a := hnb_.gt d
 have hC := hC.trans' c (fun z hz => .inr (absurd hz (by simp)))
 have d := c.lt d
 have j := j.mv c (by simp <;> omega)
 have e : b2 < w.heap.size := hnb_.lt
 have n : w0.heap.size ≤ b2 := al
 have i : At w b2 0 [(vI k), (vI nm), (Value.slice ad2 l2 cap2)] := hnb_.at
 have a : b1 < b2 := a
 refine wl (bA rfl) rfl hF (fun ac hF => ?_)
 refine bx ?_
 refine wp_seq ?_
 rcases mt hkn with ⟨hmay, rfl⟩ | ⟨hmay, r, m', hop, hbl⟩
 ·skip
  obtain ⟨ae, K⟩ : ∃ A : (Nat → Value) → World → Prop, A = fun _ w => (Ch [] w0 w) ∧ (b1 < w.heap.size) ∧ (w0.heap.size ≤ b1) ∧ (At w b1 0 [(vB W.dh), (vB W.kem)]) ∧ (b2 < w.heap.size) ∧ (w0.heap.size ≤ b2) ∧ (At w b2 0 [(vI k), (vI nm), (Value.slice ad2 l2 cap2)]) ∧ (b1 < b2) ∧ True := ⟨_, rfl⟩
  obtain ⟨aa, U⟩ : ∃ A : (Nat → Value) → World → Prop, A = fun _ w => (Ch [] w0 w) ∧ (b1 < w.heap.size) ∧ (w0.heap.size ≤ b1) ∧ (At w b1 0 [(vB W.dh), (vB W.kem)]) ∧ (b2 < w.heap.size) ∧ (w0.heap.size ≤ b2) ∧ (At w b2 0 [(vI k), (vI nm), (Value.slice ad2 l2 cap2)]) ∧ (b1 < b2) ∧ True := ⟨_, rfl⟩
  refine eK mo (fun p_ H_ w_ => (([ae, aa] : List ((Nat → Value) → World → Prop)).getD p_ (fun _ _ => True)) H_ w_) [1] (rows := [hr_ [] [(5, (vp b2))] [0] (Value.agg #[(vI k), (vI nm), (Value.slice ad2 l2 cap2)]), hr_ [(0, 7)] [] [0] vf, hr_ [(1, 8)] [] [1] vf, hr_ [(2, 9)] [(3, (vp b1))] [1] undef, hr_ [(2, 9)] [(3, (vp b1))] [1] undef, hr_ [(2, 9)] [(1, (Value.slice ad known.length cap))] [1] undef, hr_ [(4, 11), (5, 12), (2, 9)] [] [1] undef, hr_ [(3, 10), (6, 13), (2, 9)] [] [1] undef, hr_ [(2, 9)] [(5, (vp b2))] [1] undef, hr_ [(8, 15), (2, 9)] [] [1] undef, hr_ [(9, 16), (2, 9)] [] [1] undef, hr_ [(7, 14), (10, 17), (2, 9)] [] [1] undef, hr_ [(2, 9), (11, 18)] [] [1] vf, hr_ [(12, 19)] [] [1] vf]) (by kernel_rfl) hF (fun H_ => ?_) ?_ ?_
  ·have c := Ch.drew w
   have p : ae H_ { w with drawn := w.drawn + 1 } := by rw [K]; exact ⟨hC.trans' c (fun z hz => .inr (absurd hz (by simp))), c.lt d, m, j.mv c (by simp <;> omega), c.lt e, n, i.mv c (by simp <;> omega), a, trivial⟩
   exact p
  ·refine ⟨?_, ?_, ?_, ?_, ?_, ?_, ?_, ?_, ?_, ?_, ?_, ?_, ?_, ?_, trivial⟩
   ·exact HOb.fact K ⟨rfl, trivial⟩ rfl rfl rfl rfl (fun H1 w ⟨_, _, _, _, _, _, i, _⟩ => cj u26 rfl bV rfl (i) rfl)
   ·refine ⟨trivial, fun P B H1 w hW => ?_⟩
    obtain rfl := ca B
    replace hW : ae H1 w := hW
    rw [K] at hW
    obtain ⟨hC, d, m, j, e, n, i, a, _⟩ := hW
    refine Ok1.mono (a_ c42 rfl (qp hmay (iC (X := []) _ (IsT.mv hC (by simp) (fun x hx => .inl hx) t _ ht)))) ?_
    rintro _ w' ⟨rfl, hg_⟩
    have c : Ch [] _ w' := Gr.ch hg_
    have hC := hC.trans' c (fun z hz => .inr (absurd hz (by simp)))
    have d := c.lt d
    have j := j.mv c (by simp <;> omega)
    have e := c.lt e
    have i := i.mv c (by simp <;> omega)
    have p : aa (dO H1 1 vf) w' := by rw [U]; exact ⟨hC, d, m, j, e, n, i, a, trivial⟩
    exact jL rfl ⟨p, rfl⟩
   ·exact HOb.pure trivial rfl rfl (fun _ _ => bC rfl)
   ·exact HOb.skip ⟨rfl, trivial⟩ rfl rfl (fun _ => rfl) (by decide) rfl (fun _ => rfl)
   ·exact HOb.skip ⟨rfl, trivial⟩ rfl rfl (fun _ => rfl) (by decide) rfl (fun _ => rfl)
   ·exact HOb.skip ⟨rfl, trivial⟩ rfl rfl (fun _ => rfl) (by decide) rfl (fun _ => rfl)
   ·exact HOb.skip trivial rfl rfl (fun _ => rfl) (by decide) rfl (fun _ => rfl)
   ·exact HOb.skip trivial rfl rfl (fun _ => rfl) (by decide) rfl (fun _ => rfl)
   ·exact HOb.skip ⟨rfl, trivial⟩ rfl rfl (fun _ => rfl) (by decide) rfl (fun _ => rfl)
   ·exact HOb.skip trivial rfl rfl (fun _ => rfl) (by decide) rfl (fun _ => rfl)
   ·exact HOb.skip trivial rfl rfl (fun _ => rfl) (by decide) rfl (fun _ => rfl)
   ·exact HOb.skip trivial rfl rfl (fun _ => rfl) (by decide) rfl (fun _ => rfl)
   ·exact HOb.pure trivial rfl rfl (fun _ _ => cJ (b := false) rfl rfl)
   ·exact HOb.pure trivial rfl rfl (fun _ _ => bA rfl)
  ·intro ac w H1 hW hF
   replace hW : aa H1 w := hW
   rw [U] at hW
   obtain ⟨hC, d, m, j, e, n, i, a, _⟩ := hW
   clear K ae U aa
   have hF := hF.sub (L' := [(0, (Value.agg #[(vB W.dh), (vB W.kem)])), (1, (Value.slice ad known.length cap)), (2, (Value.agg #[(vI k), (vI nm), (Value.slice ad2 l2 cap2)])), (3, (vp b1)), (5, (vp b2)), (6, vf)]) ⟨rfl, rfl, rfl, rfl, rfl, rfl, trivial⟩
   refine wp_ret ?_
   refine bv hF (bw Tryd.results19 (RV.tmp hF rfl)) ?_
   exact ⟨rfl, hC.gr⟩
 ·have ar := hrl0 r hop
  have au := hwt0 hmay
  have ao := hfitt0 hmay
  obtain ⟨Z, N⟩ : ∃ A : (Nat → Value) → World → Prop, A = fun _ w => (Ch [] w0 w) ∧ (b1 < w.heap.size) ∧ (w0.heap.size ≤ b1) ∧ (At w b1 0 [(vB W.dh), (vB W.kem)]) ∧ (b2 < w.heap.size) ∧ (w0.heap.size ≤ b2) ∧ (At w b2 0 [(vI k), (vI nm), (Value.slice ad2 l2 cap2)]) ∧ (b1 < b2) ∧ True := ⟨_, rfl⟩
  obtain ⟨I, E⟩ : ∃ A : (Nat → Value) → World → Prop, A = fun _ w => (Ch [] w0 w) ∧ (b1 < w.heap.size) ∧ (w0.heap.size ≤ b1) ∧ (At w b1 0 [(vB W.dh), (vB W.kem)]) ∧ (b2 < w.heap.size) ∧ (w0.heap.size ≤ b2) ∧ (At w b2 0 [(vI k), (vI nm), (Value.slice ad2 l2 cap2)]) ∧ (b1 < b2) ∧ True := ⟨_, rfl⟩
  obtain ⟨J, G⟩ : ∃ A : (Nat → Value) → World → Prop, A = fun H2 w => (Ch [] w0 w) ∧ (b1 < w.heap.size) ∧ (w0.heap.size ≤ b1) ∧ (At w b1 0 [(vB W.dh), (vB W.kem)]) ∧ (b2 < w.heap.size) ∧ (w0.heap.size ≤ b2) ∧ (At w b2 0 [(vI k), (vI nm), (Value.slice ad2 l2 cap2)]) ∧ (b1 < b2) ∧ (∃ bm lv, RwIs w w0.heap.size [(blk (H2 6)), bm] (blk (H2 6)) bm lv r) ∧ (w0.heap.size ≤ (blk (H2 6))) ∧ (H2 6 = (vp (blk (H2 6)))) ∧ True := ⟨_, rfl⟩
  obtain ⟨Q, O⟩ : ∃ A : (Nat → Value) → World → Prop, A = fun H2 w => (Ch [] w0 w) ∧ (b1 < w.heap.size) ∧ (w0.heap.size ≤ b1) ∧ (At w b1 0 [(vB W.dh), (vB W.kem)]) ∧ (b2 < w.heap.size) ∧ (w0.heap.size ≤ b2) ∧ (At w b2 0 [(vI k), (vI nm), (Value.slice ad2 l2 cap2)]) ∧ (b1 < b2) ∧ (∃ bm lv bt, RwIs w w0.heap.size [(blk (H2 6)), bm] (blk (H2 6)) bm lv r ∧ RdIs w w0.heap.size W (blk (H2 6)) (blk (H2 7)) bt ∧ (blk (H2 6)) ≠ bt ∧ bm ≠ bt) ∧ (w0.heap.size ≤ (blk (H2 6))) ∧ (H2 6 = (vp (blk (H2 6)))) ∧ (H2 7 = (vp (blk (H2 7)))) ∧ True := ⟨_, rfl⟩
  obtain ⟨ab, S⟩ : ∃ A : (Nat → Value) → World → Prop, A = fun H2 w => (Ch [] w0 w) ∧ (b1 < w.heap.size) ∧ (w0.heap.size ≤ b1) ∧ (At w b1 0 [(vB W.dh), (vB W.kem)]) ∧ (b2 < w.heap.size) ∧ (w0.heap.size ≤ b2) ∧ (At w b2 0 [(vI k), (vI nm), (Value.slice ad2 l2 cap2)]) ∧ (b1 < b2) ∧ (∃ bm lv bt, RwIs w w0.heap.size [(blk (H2 6)), bm] (blk (H2 6)) bm lv r ∧ RdIs w w0.heap.size W (blk (H2 6)) (blk (H2 7)) bt ∧ (blk (H2 6)) ≠ bt ∧ bm ≠ bt ∧ IsN w [bt] (nrm t) (H2 9)) ∧ (w0.heap.size ≤ (blk (H2 6))) ∧ (H2 6 = (vp (blk (H2 6)))) ∧ (H2 7 = (vp (blk (H2 7)))) ∧ True := ⟨_, rfl⟩
  obtain ⟨Y, V⟩ : ∃ A : (Nat → Value) → World → Prop, A = fun H2 w => (Ch [] w0 w) ∧ (b1 < w.heap.size) ∧ (w0.heap.size ≤ b1) ∧ (At w b1 0 [(vB W.dh), (vB W.kem)]) ∧ (b2 < w.heap.size) ∧ (w0.heap.size ≤ b2) ∧ (At w b2 0 [(vI k), (vI nm), (Value.slice ad2 l2 cap2)]) ∧ (b1 < b2) ∧ (∃ bm lv bt, RwIs w w0.heap.size [(blk (H2 6)), bm] (blk (H2 6)) bm lv r ∧ RdIs w w0.heap.size W (blk (H2 6)) (blk (H2 7)) bt ∧ (blk (H2 6)) ≠ bt ∧ bm ≠ bt ∧ IsN w [bt] (nrm t) (H2 9) ∧ (blk (H2 10)) ≠ bt) ∧ (w0.heap.size ≤ (blk (H2 6))) ∧ (H2 6 = (vp (blk (H2 6)))) ∧ (H2 7 = (vp (blk (H2 7)))) ∧ ((blk (H2 10)) < w.heap.size) ∧ (w0.heap.size ≤ (blk (H2 10))) ∧ (At w (blk (H2 10)) 0 [(H2 9)]) ∧ (b1 < (blk (H2 10))) ∧ (b2 < (blk (H2 10))) ∧ (H2 10 = (vS (blk (H2 10)) 0 1 1)) ∧ True := ⟨_, rfl⟩
  obtain ⟨af, T⟩ : ∃ A : (Nat → Value) → World → Prop, A = fun H2 w => (Ch [] w0 w) ∧ (w0.heap.size ≤ b1) ∧ (w0.heap.size ≤ b2) ∧ (b1 < b2) ∧ (w0.heap.size ≤ (blk (H2 6))) ∧ (H2 6 = (vp (blk (H2 6)))) ∧ (H2 7 = (vp (blk (H2 7)))) ∧ (w0.heap.size ≤ (blk (H2 10))) ∧ (b1 < (blk (H2 10))) ∧ (b2 < (blk (H2 10))) ∧ (H2 10 = (vS (blk (H2 10)) 0 1 1)) ∧ True := ⟨_, rfl⟩
  refine eK mo (fun p_ H_ w_ => (([Z, I, J, Q, ab, Y, af] : List ((Nat → Value) → World → Prop)).getD p_ (fun _ _ => True)) H_ w_) [1, 6, 7, 9, 10, 11] (rows := [hr_ [] [(5, (vp b2))] [0] (Value.agg #[(vI k), (vI nm), (Value.slice ad2 l2 cap2)]), hr_ [(0, 7)] [] [0] vt, hr_ [(1, 8)] [] [1] vt, hr_ [(2, 9)] [(3, (vp b1))] [1, 2] (Value.agg #[(vB W.dh), (vB W.kem)]), hr_ [(2, 9)] [(3, (vp b1))] [1] (Value.agg #[(vB W.dh), (vB W.kem)]), hr_ [(2, 9)] [(1, (Value.slice ad known.length cap))] [1] (Value.slice ad known.length cap), ⟨[(4, 11), (5, 12), (2, 9)], [], [1], [6], fun H2 => H2 6, fun H2 K_ h_ => by simp only [h_ 6 (by simp)]⟩, ⟨[(3, 10), (6, 13), (2, 9)], [], [2], [7], fun H2 => H2 7, fun H2 K_ h_ => by simp only [h_ 7 (by simp)]⟩, hr_ [(2, 9)] [(5, (vp b2))] [1, 2, 3] (Value.agg #[(vI k), (vI nm), (Value.slice ad2 l2 cap2)]), ⟨[(8, 15), (2, 9)], [], [3], [9], fun H2 => H2 9, fun H2 K_ h_ => by simp only [h_ 9 (by simp)]⟩, ⟨[(9, 16), (2, 9)], [], [4], [10], fun H2 => H2 10, fun H2 K_ h_ => by simp only [h_ 10 (by simp)]⟩, hr_ [(7, 14), (10, 17), (2, 9)] [] [5] (vB b), hr_ [(2, 9), (11, 18)] [] [6] (vB b), hr_ [(12, 19)] [] [6] (vB b)]) (by kernel_rfl) hF (fun H_ => ?_) ?_ ?_
  ·have c := Ch.drew w
   have p : Z H_ { w with drawn := w.drawn + 1 } := by rw [N]; exact ⟨hC.trans' c (fun z hz => .inr (absurd hz (by simp))), c.lt d, m, j.mv c (by simp <;> omega), c.lt e, n, i.mv c (by simp <;> omega), a, trivial⟩
   exact p
  ·refine ⟨?_, ?_, ?_, ?_, ?_, ?_, ?_, ?_, ?_, ?_, ?_, ?_, ?_, ?_, trivial⟩
   ·exact HOb.fact N ⟨rfl, trivial⟩ rfl rfl rfl rfl (fun H2 w ⟨_, _, _, _, _, _, i, _⟩ => cj u26 rfl bV rfl (i) rfl)
   ·refine ⟨trivial, fun P B H2 w hW => ?_⟩
    obtain rfl := ca B
    replace hW : Z H2 w := hW
    rw [N] at hW
    obtain ⟨hC, d, m, j, e, n, i, a, _⟩ := hW
    refine Ok1.mono (a_ c42 rfl (qp hmay (iC (X := []) _ (IsT.mv hC (by simp) (fun x hx => .inl hx) t _ ht)))) ?_
    rintro _ w' ⟨rfl, hg_⟩
    have c : Ch [] _ w' := Gr.ch hg_
    have hC := hC.trans' c (fun z hz => .inr (absurd hz (by simp)))
    have d := c.lt d
    have j := j.mv c (by simp <;> omega)
    have e := c.lt e
    have i := i.mv c (by simp <;> omega)
    have p : I (dO H2 1 vt) w' := by rw [E]; exact ⟨hC, d, m, j, e, n, i, a, trivial⟩
    exact jL rfl ⟨p, rfl⟩
   ·exact HOb.pure trivial rfl rfl (fun _ _ => bC rfl)
   ·refine ⟨⟨rfl, trivial⟩, fun P B H2 w hW => ?_⟩
    rcases g6 B with rfl | B
    ·have L := hW
     replace hW : I H2 w := hW
     rw [E] at hW
     obtain ⟨hC, d, m, j, e, n, i, a, _⟩ := hW
     exact ⟨(some true), _, rfl, rfl, Det.ohc rfl L (cj u31 rfl il rfl (j) rfl)⟩
    obtain rfl := ca B
    ·have L := hW
     replace hW : J H2 w := hW
     rw [G] at hW
     obtain ⟨hC, d, m, j, e, n, i, a, hK, C, q, _⟩ := hW
     exact ⟨(some true), _, rfl, rfl, Det.ohc rfl L (cj u31 rfl il rfl (j) rfl)⟩
   ·exact HOb.factG E ⟨rfl, trivial⟩ rfl rfl rfl rfl (fun _ => rfl) rfl (fun H2 w ⟨_, _, _, j, _⟩ => cj u31 rfl il rfl (j) rfl)
   ·exact HOb.pureG ⟨rfl, trivial⟩ rfl rfl (fun _ => rfl) rfl (fun _ _ => bC rfl)
   ·refine ⟨trivial, fun P B H2 w hW => ?_⟩
    obtain rfl := ca B
    replace hW : I H2 w := hW
    rw [E] at hW
    obtain ⟨hC, d, m, j, e, n, i, a, _⟩ := hW
    have aq : 0 < known.length → ∃ b o, ad = some ⟨b, o, none⟩ ∧ b ∉ ([] : List Nat) ∧ At w b o xs := fun h => by
     obtain ⟨b, o, h1, h2, h3⟩ := hsl h
     exact ⟨b, o, h1, h2, h3.mv hC (by simp)⟩
    refine ⟨(some true), _, rfl, rfl, Ok1.mono (a_ c44 rfl (mh hT hjoin hclone hop _ (Nat.le_trans hnb hC.size) (hT _ _ (hC.below hnb (by simp)) hw0) hkl ar hwr hfit0 aq (IsTs.mv hC (by simp) (fun x hx => .inl hx) _ _ hks))) ?_⟩
    rintro _ w' ⟨br, bm, lv, rfl, hrw_, lo1_, lo2_, hg_⟩
    have c : Ch [] _ w' := Gr.ch hg_
    have R := hC.size
    have hC := hC.trans' c (fun z hz => .inr (absurd hz (by simp)))
    have d := c.lt d
    have j := j.mv c (by simp <;> omega)
    have e := c.lt e
    have i := i.mv c (by simp <;> omega)
    have hK : ∃ bm lv, RwIs w' w0.heap.size [br, bm] br bm lv r := ⟨bm, lv, RwIs.mvb hrw_ R⟩
    have C : w0.heap.size ≤ br := Nat.le_trans R lo1_
    have p : J (dO H2 6 (vp br)) w' := by rw [G]; exact ⟨hC, d, m, j, e, n, i, a, hK, C, rfl, trivial⟩
    exact jL rfl ⟨p, rfl⟩
   ·refine ⟨trivial, fun P B H2 w hW => ?_⟩
    obtain rfl := ca B
    replace hW : J H2 w := hW
    rw [G] at hW
    obtain ⟨hC, d, m, j, e, n, i, a, hK, C, q, _⟩ := hW
    obtain ⟨bm, lv, H⟩ := hK
    refine ⟨(some true), _, rfl, rfl, Ok1.sub (L' := [(9, vt), (10, (Value.agg #[(vB W.dh), (vB W.kem)])), (13, (vp (blk (H2 6))))]) ⟨rfl, rfl, congrArg some q, trivial⟩ (Ok1.mono (a_ c43 rfl (gR _)) ?_)⟩
    rintro _ w' ⟨bb, rfl, ⟨bt, hrd_⟩, hch0_⟩
    have c : Ch [] _ w' := hch0_
    have R := hC.size
    have hl1_ := H.lt
    have hl2_ := H.met.lt
    have ap := hrd_.lt
    have hC := hC.trans' c (fun z hz => .inr (absurd hz (by simp)))
    have d := c.lt d
    have j := j.mv c (by simp <;> omega)
    have e := c.lt e
    have i := i.mv c (by simp <;> omega)
    have hK : ∃ bm lv bt, RwIs w' w0.heap.size [(blk (H2 6)), bm] (blk (H2 6)) bm lv r ∧ RdIs w' w0.heap.size W (blk (H2 6)) bb bt ∧ (blk (H2 6)) ≠ bt ∧ bm ≠ bt := ⟨bm, lv, bt, H.mv c (by simp) (by simp) (by simp) (by simp), ⟨hrd_.at', hrd_.told, Nat.le_trans R hrd_.lb, Nat.le_trans R hrd_.lt, hrd_.ne⟩, by omega, by omega⟩
    have p : Q (dO H2 7 (vp bb)) w' := by rw [O]; exact ⟨hC, d, m, j, e, n, i, a, hK, C, q, rfl, trivial⟩
    exact jL rfl ⟨p, rfl⟩
   ·refine ⟨⟨rfl, trivial⟩, fun P B H2 w hW => ?_⟩
    rcases g6 B with rfl | B
    ·have L := hW
     replace hW : I H2 w := hW
     rw [E] at hW
     obtain ⟨hC, d, m, j, e, n, i, a, _⟩ := hW
     exact ⟨(some true), _, rfl, rfl, Det.ohc rfl L (cj u26 rfl bV rfl (i) rfl)⟩
    rcases g6 B with rfl | B
    ·have L := hW
     replace hW : J H2 w := hW
     rw [G] at hW
     obtain ⟨hC, d, m, j, e, n, i, a, hK, C, q, _⟩ := hW
     exact ⟨(some true), _, rfl, rfl, Det.ohc rfl L (cj u26 rfl bV rfl (i) rfl)⟩
    obtain rfl := ca B
    ·have L := hW
     replace hW : Q H2 w := hW
     rw [O] at hW
     obtain ⟨hC, d, m, j, e, n, i, a, hK, C, q, D, _⟩ := hW
     exact ⟨(some true), _, rfl, rfl, Det.ohc rfl L (cj u26 rfl bV rfl (i) rfl)⟩
   ·refine ⟨trivial, fun P B H2 w hW => ?_⟩
    obtain rfl := ca B
    replace hW : Q H2 w := hW
    rw [O] at hW
    obtain ⟨hC, d, m, j, e, n, i, a, hK, C, q, D, _⟩ := hW
    obtain ⟨bm, lv, bt, H, F, ak, aj⟩ := hK
    refine ⟨(some true), _, rfl, rfl, Ok1.mono (a_ c46 rfl (gZ hT hjoin t au [bt] _ _ (Nat.le_trans hnb hC.size) (hT _ _ (hC.below hnb (by simp)) hw0) (by simp; exact F.told.lt) (IsT.mv hC (by simp) (fun x hx => .inr (by simp at hx; subst hx; exact F.lt)) t _ ht))) ?_⟩
    rintro pv w' ⟨ah, hg_⟩
    have c : Ch [] _ w' := Gr.ch hg_
    have hC := hC.trans' c (fun z hz => .inr (absurd hz (by simp)))
    have d := c.lt d
    have j := j.mv c (by simp <;> omega)
    have e := c.lt e
    have i := i.mv c (by simp <;> omega)
    have hK : ∃ bm lv bt, RwIs w' w0.heap.size [(blk (H2 6)), bm] (blk (H2 6)) bm lv r ∧ RdIs w' w0.heap.size W (blk (H2 6)) (blk (H2 7)) bt ∧ (blk (H2 6)) ≠ bt ∧ bm ≠ bt ∧ IsN w' [bt] (nrm t) pv := ⟨bm, lv, bt, H.mv c (by simp) (by simp) (by simp) (by simp), F.mv c, ak, aj, ah⟩
    have p : ab (dO H2 9 pv) w' := by rw [S]; exact ⟨hC, d, m, j, e, n, i, a, hK, C, q, D, trivial⟩
    exact jL rfl ⟨p, rfl⟩
   ·refine ⟨trivial, fun P B H2 w hW => ?_⟩
    obtain rfl := ca B
    replace hW : ab H2 w := hW
    rw [S] at hW
    obtain ⟨hC, d, m, j, e, n, i, a, hK, C, q, D, _⟩ := hW
    obtain ⟨bm, lv, bt, H, F, ak, aj, ah⟩ := hK
    refine ⟨(some true), _, rfl, rfl, Ok1.mono (bU (cells := #[(H2 9)]) dH lC rfl (by decide) (by decide) (by exact jM (IsN.cellsv ah))) ?_⟩
    rintro _ w' ⟨b3, rfl, hnb_⟩
    have c : Ch [] _ w' := hnb_.ch
    have al := hnb_.lo hC.size
    have s := hnb_.gt d
    have y := hnb_.gt e
    have ap := hnb_.gt F.told.lt
    have hC := hC.trans' c (fun z hz => .inr (absurd hz (by simp)))
    have d := c.lt d
    have j := j.mv c (by simp <;> omega)
    have e := c.lt e
    have i := i.mv c (by simp <;> omega)
    have ai : b3 < w'.heap.size := hnb_.lt
    have ag : w0.heap.size ≤ b3 := al
    have am : At w' b3 0 [(H2 9)] := hnb_.at
    have s : b1 < b3 := s
    have y : b2 < b3 := y
    have hK : ∃ bm lv bt, RwIs w' w0.heap.size [(blk (H2 6)), bm] (blk (H2 6)) bm lv r ∧ RdIs w' w0.heap.size W (blk (H2 6)) (blk (H2 7)) bt ∧ (blk (H2 6)) ≠ bt ∧ bm ≠ bt ∧ IsN w' [bt] (nrm t) (H2 9) ∧ b3 ≠ bt := ⟨bm, lv, bt, H.mv hnb_.ch (by simp) (by simp) (by simp) (by simp), F.mv hnb_.ch, ak, aj, IsN.mv hnb_.ch (by simp) (fun x hx => .inl hx) _ _ ah, by omega⟩
    have p : Y (dO H2 10 (vS b3 0 1 1)) w' := by rw [V]; exact ⟨hC, d, m, j, e, n, i, a, hK, C, q, D, ai, ag, am, s, y, rfl, trivial⟩
    exact jL rfl ⟨p, rfl⟩
   ·refine ⟨trivial, fun P B H2 w hW => ?_⟩
    obtain rfl := ca B
    replace hW : Y H2 w := hW
    rw [V] at hW
    obtain ⟨hC, d, m, j, e, n, i, a, hK, C, q, D, ai, ag, am, s, y, M, _⟩ := hW
    obtain ⟨bm, lv, bt, H, F, ak, aj, ah, an⟩ := hK
    refine ⟨(some true), _, rfl, rfl, Ok1.sub (L' := [(9, vt), (14, (vp (blk (H2 7)))), (17, (vS (blk (H2 10)) 0 1 1))]) ⟨rfl, congrArg some D, congrArg some M, trivial⟩ (Ok1.mono (a_ c45 rfl (iA hT hjoin f [nrm t] [] m' b _ bt _ bm lv _ _ _ _ (by simp) hbl (fun u hu => by simp at hu; subst hu; exact ao) (Nat.le_trans hnb hC.size) (Nat.le_trans hnb F.lt) (hT _ _ (hC.below hnb (by simp)) hw0) ⟨F.at', At.of_blk H.st, H.met, F.ne, ak, aj⟩ F.told (.inr ⟨_, 0, 0, rfl, by simp; exact an, ai, am⟩) (IsNs.one ah))) ?_)⟩
    rintro _ w' ⟨rfl, htold_, hch0_⟩
    have c : Ch [bt] _ w' := hch0_
    have hC := hC.trans' c (fun z hz => .inr ((by simp at hz; subst hz; exact F.lt)))
    have p : af (dO H2 11 (vB b)) w' := by rw [T]; exact ⟨hC, m, n, a, C, q, D, ag, s, y, M, trivial⟩
    exact jL rfl ⟨p, rfl⟩
   ·exact HOb.pure trivial rfl rfl (fun _ _ => cJ (b := true) rfl rfl)
   ·exact HOb.pure trivial rfl rfl (fun _ _ => bA rfl)
  ·intro ac w H2 hW hF
   replace hW : af H2 w := hW
   rw [T] at hW
   obtain ⟨hC, m, n, a, C, q, D, ag, s, y, M, _⟩ := hW
   clear N Z E I G J O Q S ab V Y T af
   have hF := hF.sub (L' := [(0, (Value.agg #[(vB W.dh), (vB W.kem)])), (1, (Value.slice ad known.length cap)), (2, (Value.agg #[(vI k), (vI nm), (Value.slice ad2 l2 cap2)])), (3, (vp b1)), (5, (vp b2)), (6, (vB b))]) ⟨rfl, rfl, rfl, rfl, rfl, rfl, trivial⟩
   refine wp_ret ?_
   refine bv hF (bw Tryd.results19 (RV.tmp hF rfl)) ?_
   exact ⟨rfl, hC.gr⟩
end Go.Mi.Term
