/- Walks: what functions of term return. -/
import Derived.Test.YtoefhjabaanokaaDoorB6
import Derived.Test.YtoefhjabaanokaaDoorW16
set_option linter.unusedSimpArgs false
set_option linter.unusedVariables false
set_option linter.unnecessarySimpa false
namespace Go.Mi.Term
open Go.Mi Go.Proofs Go.RowKit
set_option linter.unusedVariables false
theorem RwIs.mvb {w : World} {base base' : Nat} {X : List Nat} {br bm : Nat} {lv : Value} {r : Rw} (h : RwIs w base X br bm lv r) (hb : base' ≤ base) : RwIs w base' X br bm lv r := by
 obtain ⟨xs, h4, h5⟩ := h.own
 refine ⟨h.st, h.met, ⟨xs, ⟨h4.1, ?_⟩, h5⟩, h.nr, h.nm, h.ne⟩
 rcases h4.2 with h6 | ⟨g, cap, cur, h7, h8, h9⟩
 ·exact .inl h6
 ·exact .inr ⟨g, cap, cur, h7, by omega, h9⟩
theorem may_eq {b b' : Bool} {n : Nat} {xs : Array Value} {w : World} (h : b = b') (k : Calls Tryd.prog n xs w (Ret fun v w' => v = .bool b ∧ Gr w w')) : Calls Tryd.prog n xs w (Ret fun v w' => v = .bool b' ∧ Gr w w') := h ▸ k
theorem knows_cases {W : Wd} {f g : Nat} {known : List Tm} {t : Tm} {b : Bool} (h : knows W f g known t = some b) : (may t = false ∧ b = false) ∨ (may t = true ∧ ∃ r m', opens W f g known = some r ∧ bl W r.met f [nrm t] [] = some (b, m')) := by
 unfold knows at h
 cases hm : may t with
 | false => rw [hm] at h; simp at h; exact .inl ⟨rfl, h⟩
 | true =>
  rw [hm] at h
  simp only [if_true] at h
  cases ho : opens W f g known with
  | none => rw [ho] at h; simp at h
  | some r =>
   rw [ho] at h
   simp only [Option.map_eq_some_iff] at h
   obtain ⟨⟨b', m'⟩, h1, h2⟩ := h
   simp at h2
   subst h2
   exact .inr ⟨rfl, r, m', rfl, h1⟩
set_option maxRecDepth 100000 in
set_option maxHeartbeats 4000000 in
theorem Knows_calls {T0 : World → Prop} {nb : Nat} (hT : ∀ w w', Below nb w w' → T0 w → T0 w') (hjoin : JoinOk) (hclone : CloneOk) {W : Wd} {f g : Nat} {known : List Tm} {t : Tm} {b : Bool} {k nm : Int} {ad ad2 : Option Addr} {cap l2 cap2 : Nat} {xs : List Value} (hkn : knows W f g known t = some b) (w0 : World) (hnb : nb ≤ w0.heap.size) (hw0 : T0 w0) (hkl : known.length ≤ 1099511627000) (hrl0 : ∀ r, opens W f g known = some r → r.l.length ≤ 1099511627000) (hwr : ∀ t, t ∈ known → may t = true → WrT T0 t) (hfit0 : AllFit (firstL known ⟨[], []⟩)) (hwt0 : may t = true → WrT T0 t) (hfitt0 : may t = true → Fit (nrm t))
 (hsl : 0 < known.length → ∃ b o, ad = some ⟨b, o, none⟩ ∧ b ∉ ([] : List Nat) ∧ At w0 b o xs) (hks : IsTs w0 [] known xs) (ht : IsT w0 [] t [.int .i64 k, .int .i64 nm, .slice ad2 l2 cap2]) : Calls Tryd.prog 19 (List.toArray [.agg #[.bool W.dh, .bool W.kem], .slice ad known.length cap, .agg #[.int .i64 k, .int .i64 nm, .slice ad2 l2 cap2]]) w0 (Ret fun v w' => v = .bool b ∧ Gr w0 w') := by
 refine calls_of Tryd.func19 rfl Tryd.ntmps19 rfl fun ac hF => ?_
 have hC : Ch [] w0 w0 := Ch.refl _ _
 have hF := hF.sub (L' := [(0, (Value.agg #[(vB W.dh), (vB W.kem)])), (1, (Value.slice ad known.length cap)), (2, (Value.agg #[(vI k), (vI nm), (Value.slice ad2 l2 cap2)]))]) ⟨rfl, rfl, rfl, trivial⟩
 refine wp_seq ?_
 refine wp_region_lit ?_
 refine wlR (ok_box rfl) rfl hF ?_
 rintro _ w ac ⟨b1, rfl, hnb_⟩ hF
 have c : Ch [] _ w := hnb_.ch
 have al := hnb_.lo hC.size
 have hC := hC.trans' c (fun z hz => .inr (absurd hz (by simp)))
 have d : b1 < w.heap.size := hnb_.lt
 have m : w0.heap.size ≤ b1 := al
 have j : At w b1 0 [(vB W.dh), (vB W.kem)] := hnb_.at
 refine wlR (ok_box rfl) rfl hF ?_
 rintro _ w ac ⟨b2, rfl, hnb_⟩ hF
 have c : Ch [] _ w := hnb_.ch
 have al := hnb_.lo hC.size
 have a := hnb_.gt d
 have hC := hC.trans' c (fun z hz => .inr (absurd hz (by simp)))
 have d := c.lt d
 have j := j.mv c (by simp <;> omega)
 have e : b2 < w.heap.size := hnb_.lt
 have p : w0.heap.size ≤ b2 := al
 have i : At w b2 0 [(vI k), (vI nm), (Value.slice ad2 l2 cap2)] := hnb_.at
 have a : b1 < b2 := a
 refine wl (d_assign rfl) rfl hF (fun ac hF => ?_)
 refine wl_nil ?_
 refine then_n ?_
 refine wp_seq ?_
 rcases knows_cases hkn with ⟨hmay, rfl⟩ | ⟨hmay, r, m', hop, hbl⟩
 ·skip
  obtain ⟨ab, L⟩ : ∃ A : (Nat → Value) → World → Prop, A = fun _ w => (Ch [] w0 w) ∧ (b1 < w.heap.size) ∧ (w0.heap.size ≤ b1) ∧ (At w b1 0 [(vB W.dh), (vB W.kem)]) ∧ (b2 < w.heap.size) ∧ (w0.heap.size ≤ b2) ∧ (At w b2 0 [(vI k), (vI nm), (Value.slice ad2 l2 cap2)]) ∧ (b1 < b2) ∧ True := ⟨_, rfl⟩
  obtain ⟨aa, V⟩ : ∃ A : (Nat → Value) → World → Prop, A = fun _ w => (Ch [] w0 w) ∧ (b1 < w.heap.size) ∧ (w0.heap.size ≤ b1) ∧ (At w b1 0 [(vB W.dh), (vB W.kem)]) ∧ (b2 < w.heap.size) ∧ (w0.heap.size ≤ b2) ∧ (At w b2 0 [(vI k), (vI nm), (Value.slice ad2 l2 cap2)]) ∧ (b1 < b2) ∧ True := ⟨_, rfl⟩
  refine region_hist mo (fun p_ H_ w_ => (([ab, aa] : List ((Nat → Value) → World → Prop)).getD p_ (fun _ _ => True)) H_ w_) [1] (rows := [hr_ [] [(5, (vp b2))] [0] (Value.agg #[(vI k), (vI nm), (Value.slice ad2 l2 cap2)]), hr_ [(0, 7)] [] [0] vf, hr_ [(1, 8)] [] [1] vf, hr_ [(2, 9)] [(3, (vp b1))] [1] undef, hr_ [(2, 9)] [(3, (vp b1))] [1] undef, hr_ [(2, 9)] [(1, (Value.slice ad known.length cap))] [1] undef, hr_ [(4, 11), (5, 12), (2, 9)] [] [1] undef, hr_ [(3, 10), (6, 13), (2, 9)] [] [1] undef, hr_ [(2, 9)] [(5, (vp b2))] [1] undef, hr_ [(8, 15), (2, 9)] [] [1] undef, hr_ [(9, 16), (2, 9)] [] [1] undef, hr_ [(7, 14), (10, 17), (2, 9)] [] [1] undef, hr_ [(2, 9), (11, 18)] [] [1] vf, hr_ [(12, 19)] [] [1] vf]) (by kernel_rfl) hF (fun H_ => ?_) ?_ ?_
  ·have c := Ch.drew w
   have n : ab H_ { w with drawn := w.drawn + 1 } := by rw [L]; exact ⟨hC.trans' c (fun z hz => .inr (absurd hz (by simp))), c.lt d, m, j.mv c (by simp <;> omega), c.lt e, p, i.mv c (by simp <;> omega), a, trivial⟩
   exact n
  ·refine ⟨?_, ?_, ?_, ?_, ?_, ?_, ?_, ?_, ?_, ?_, ?_, ?_, ?_, ?_, trivial⟩
   ·exact HOb.fact L ⟨rfl, trivial⟩ rfl rfl rfl rfl (fun H1 w ⟨_, _, _, _, _, _, i, _⟩ => d_loadC Tryd.underlying26 rfl sz26 rfl (i) rfl)
   ·refine ⟨trivial, fun P B H1 w hW => ?_⟩
    obtain rfl := memN_one B
    replace hW : ab H1 w := hW
    rw [L] at hW
    obtain ⟨hC, d, m, j, e, p, i, a, _⟩ := hW
    refine Ok1.mono (ok_call c42 rfl (may_eq hmay (May_calls (X := []) _ (IsT.mv hC (by simp) (fun x hx => .inl hx) t _ ht)))) ?_
    rintro _ w' ⟨rfl, hg_⟩
    have c : Ch [] _ w' := Gr.ch hg_
    have hC := hC.trans' c (fun z hz => .inr (absurd hz (by simp)))
    have d := c.lt d
    have j := j.mv c (by simp <;> omega)
    have e := c.lt e
    have i := i.mv c (by simp <;> omega)
    have n : aa (updV H1 1 vf) w' := by rw [V]; exact ⟨hC, d, m, j, e, p, i, a, trivial⟩
    exact fin_ rfl ⟨n, rfl⟩
   ·exact HOb.pure trivial rfl rfl (fun _ _ => d_move rfl)
   ·exact HOb.skip ⟨rfl, trivial⟩ rfl rfl (fun _ => rfl) (by decide) rfl (fun _ => rfl)
   ·exact HOb.skip ⟨rfl, trivial⟩ rfl rfl (fun _ => rfl) (by decide) rfl (fun _ => rfl)
   ·exact HOb.skip ⟨rfl, trivial⟩ rfl rfl (fun _ => rfl) (by decide) rfl (fun _ => rfl)
   ·exact HOb.skip trivial rfl rfl (fun _ => rfl) (by decide) rfl (fun _ => rfl)
   ·exact HOb.skip trivial rfl rfl (fun _ => rfl) (by decide) rfl (fun _ => rfl)
   ·exact HOb.skip ⟨rfl, trivial⟩ rfl rfl (fun _ => rfl) (by decide) rfl (fun _ => rfl)
   ·exact HOb.skip trivial rfl rfl (fun _ => rfl) (by decide) rfl (fun _ => rfl)
   ·exact HOb.skip trivial rfl rfl (fun _ => rfl) (by decide) rfl (fun _ => rfl)
   ·exact HOb.skip trivial rfl rfl (fun _ => rfl) (by decide) rfl (fun _ => rfl)
   ·exact HOb.pure trivial rfl rfl (fun _ _ => d_pick (b := false) rfl rfl)
   ·exact HOb.pure trivial rfl rfl (fun _ _ => d_assign rfl)
  ·intro ac w H1 hW hF
   replace hW : aa H1 w := hW
   rw [V] at hW
   obtain ⟨hC, d, m, j, e, p, i, a, _⟩ := hW
   clear L ab V aa
   have hF := hF.sub (L' := [(0, (Value.agg #[(vB W.dh), (vB W.kem)])), (1, (Value.slice ad known.length cap)), (2, (Value.agg #[(vI k), (vI nm), (Value.slice ad2 l2 cap2)])), (3, (vp b1)), (5, (vp b2)), (6, vf)]) ⟨rfl, rfl, rfl, rfl, rfl, rfl, trivial⟩
   refine then_n ?_
   refine wp_ret ?_
   refine body_ret hF (results1 Tryd.results19 (RV.tmp hF rfl)) ?_
   exact ⟨rfl, hC.gr⟩
 ·have au := hrl0 r hop
  have ar := hwt0 hmay
  have an := hfitt0 hmay
  obtain ⟨af, K⟩ : ∃ A : (Nat → Value) → World → Prop, A = fun _ w => (Ch [] w0 w) ∧ (b1 < w.heap.size) ∧ (w0.heap.size ≤ b1) ∧ (At w b1 0 [(vB W.dh), (vB W.kem)]) ∧ (b2 < w.heap.size) ∧ (w0.heap.size ≤ b2) ∧ (At w b2 0 [(vI k), (vI nm), (Value.slice ad2 l2 cap2)]) ∧ (b1 < b2) ∧ True := ⟨_, rfl⟩
  obtain ⟨J, E⟩ : ∃ A : (Nat → Value) → World → Prop, A = fun _ w => (Ch [] w0 w) ∧ (b1 < w.heap.size) ∧ (w0.heap.size ≤ b1) ∧ (At w b1 0 [(vB W.dh), (vB W.kem)]) ∧ (b2 < w.heap.size) ∧ (w0.heap.size ≤ b2) ∧ (At w b2 0 [(vI k), (vI nm), (Value.slice ad2 l2 cap2)]) ∧ (b1 < b2) ∧ True := ⟨_, rfl⟩
  obtain ⟨I, G⟩ : ∃ A : (Nat → Value) → World → Prop, A = fun H2 w => (Ch [] w0 w) ∧ (b1 < w.heap.size) ∧ (w0.heap.size ≤ b1) ∧ (At w b1 0 [(vB W.dh), (vB W.kem)]) ∧ (b2 < w.heap.size) ∧ (w0.heap.size ≤ b2) ∧ (At w b2 0 [(vI k), (vI nm), (Value.slice ad2 l2 cap2)]) ∧ (b1 < b2) ∧ (∃ bm lv, RwIs w w0.heap.size [(blk (H2 6)), bm] (blk (H2 6)) bm lv r) ∧ (w0.heap.size ≤ (blk (H2 6))) ∧ (H2 6 = (vp (blk (H2 6)))) ∧ True := ⟨_, rfl⟩
  obtain ⟨R, O⟩ : ∃ A : (Nat → Value) → World → Prop, A = fun H2 w => (Ch [] w0 w) ∧ (b1 < w.heap.size) ∧ (w0.heap.size ≤ b1) ∧ (At w b1 0 [(vB W.dh), (vB W.kem)]) ∧ (b2 < w.heap.size) ∧ (w0.heap.size ≤ b2) ∧ (At w b2 0 [(vI k), (vI nm), (Value.slice ad2 l2 cap2)]) ∧ (b1 < b2) ∧ (∃ bm lv bt, RwIs w w0.heap.size [(blk (H2 6)), bm] (blk (H2 6)) bm lv r ∧ RdIs w w0.heap.size W (blk (H2 6)) (blk (H2 7)) bt ∧ (blk (H2 6)) ≠ bt ∧ bm ≠ bt) ∧ (w0.heap.size ≤ (blk (H2 6))) ∧ (H2 6 = (vp (blk (H2 6)))) ∧ (H2 7 = (vp (blk (H2 7)))) ∧ True := ⟨_, rfl⟩
  obtain ⟨ag, S⟩ : ∃ A : (Nat → Value) → World → Prop, A = fun H2 w => (Ch [] w0 w) ∧ (b1 < w.heap.size) ∧ (w0.heap.size ≤ b1) ∧ (At w b1 0 [(vB W.dh), (vB W.kem)]) ∧ (b2 < w.heap.size) ∧ (w0.heap.size ≤ b2) ∧ (At w b2 0 [(vI k), (vI nm), (Value.slice ad2 l2 cap2)]) ∧ (b1 < b2) ∧ (∃ bm lv bt, RwIs w w0.heap.size [(blk (H2 6)), bm] (blk (H2 6)) bm lv r ∧ RdIs w w0.heap.size W (blk (H2 6)) (blk (H2 7)) bt ∧ (blk (H2 6)) ≠ bt ∧ bm ≠ bt ∧ IsN w [bt] (nrm t) (H2 9)) ∧ (w0.heap.size ≤ (blk (H2 6))) ∧ (H2 6 = (vp (blk (H2 6)))) ∧ (H2 7 = (vp (blk (H2 7)))) ∧ True := ⟨_, rfl⟩
  obtain ⟨Y, T⟩ : ∃ A : (Nat → Value) → World → Prop, A = fun H2 w => (Ch [] w0 w) ∧ (b1 < w.heap.size) ∧ (w0.heap.size ≤ b1) ∧ (At w b1 0 [(vB W.dh), (vB W.kem)]) ∧ (b2 < w.heap.size) ∧ (w0.heap.size ≤ b2) ∧ (At w b2 0 [(vI k), (vI nm), (Value.slice ad2 l2 cap2)]) ∧ (b1 < b2) ∧ (∃ bm lv bt, RwIs w w0.heap.size [(blk (H2 6)), bm] (blk (H2 6)) bm lv r ∧ RdIs w w0.heap.size W (blk (H2 6)) (blk (H2 7)) bt ∧ (blk (H2 6)) ≠ bt ∧ bm ≠ bt ∧ IsN w [bt] (nrm t) (H2 9) ∧ (blk (H2 10)) ≠ bt) ∧ (w0.heap.size ≤ (blk (H2 6))) ∧ (H2 6 = (vp (blk (H2 6)))) ∧ (H2 7 = (vp (blk (H2 7)))) ∧ ((blk (H2 10)) < w.heap.size) ∧ (w0.heap.size ≤ (blk (H2 10))) ∧ (At w (blk (H2 10)) 0 [(H2 9)]) ∧ (b1 < (blk (H2 10))) ∧ (b2 < (blk (H2 10))) ∧ (H2 10 = (vS (blk (H2 10)) 0 1 1)) ∧ True := ⟨_, rfl⟩
  obtain ⟨Z, U⟩ : ∃ A : (Nat → Value) → World → Prop, A = fun H2 w => (Ch [] w0 w) ∧ (w0.heap.size ≤ b1) ∧ (w0.heap.size ≤ b2) ∧ (b1 < b2) ∧ (w0.heap.size ≤ (blk (H2 6))) ∧ (H2 6 = (vp (blk (H2 6)))) ∧ (H2 7 = (vp (blk (H2 7)))) ∧ (w0.heap.size ≤ (blk (H2 10))) ∧ (b1 < (blk (H2 10))) ∧ (b2 < (blk (H2 10))) ∧ (H2 10 = (vS (blk (H2 10)) 0 1 1)) ∧ True := ⟨_, rfl⟩
  refine region_hist mo (fun p_ H_ w_ => (([af, J, I, R, ag, Y, Z] : List ((Nat → Value) → World → Prop)).getD p_ (fun _ _ => True)) H_ w_) [1, 6, 7, 9, 10, 11] (rows := [hr_ [] [(5, (vp b2))] [0] (Value.agg #[(vI k), (vI nm), (Value.slice ad2 l2 cap2)]), hr_ [(0, 7)] [] [0] vt, hr_ [(1, 8)] [] [1] vt, hr_ [(2, 9)] [(3, (vp b1))] [1, 2] (Value.agg #[(vB W.dh), (vB W.kem)]), hr_ [(2, 9)] [(3, (vp b1))] [1] (Value.agg #[(vB W.dh), (vB W.kem)]), hr_ [(2, 9)] [(1, (Value.slice ad known.length cap))] [1] (Value.slice ad known.length cap), ⟨[(4, 11), (5, 12), (2, 9)], [], [1], [6], fun H2 => H2 6, fun H2 K_ h_ => by simp only [h_ 6 (by simp)]⟩, ⟨[(3, 10), (6, 13), (2, 9)], [], [2], [7], fun H2 => H2 7, fun H2 K_ h_ => by simp only [h_ 7 (by simp)]⟩, hr_ [(2, 9)] [(5, (vp b2))] [1, 2, 3] (Value.agg #[(vI k), (vI nm), (Value.slice ad2 l2 cap2)]), ⟨[(8, 15), (2, 9)], [], [3], [9], fun H2 => H2 9, fun H2 K_ h_ => by simp only [h_ 9 (by simp)]⟩, ⟨[(9, 16), (2, 9)], [], [4], [10], fun H2 => H2 10, fun H2 K_ h_ => by simp only [h_ 10 (by simp)]⟩, hr_ [(7, 14), (10, 17), (2, 9)] [] [5] (vB b), hr_ [(2, 9), (11, 18)] [] [6] (vB b), hr_ [(12, 19)] [] [6] (vB b)]) (by kernel_rfl) hF (fun H_ => ?_) ?_ ?_
  ·have c := Ch.drew w
   have n : af H_ { w with drawn := w.drawn + 1 } := by rw [K]; exact ⟨hC.trans' c (fun z hz => .inr (absurd hz (by simp))), c.lt d, m, j.mv c (by simp <;> omega), c.lt e, p, i.mv c (by simp <;> omega), a, trivial⟩
   exact n
  ·refine ⟨?_, ?_, ?_, ?_, ?_, ?_, ?_, ?_, ?_, ?_, ?_, ?_, ?_, ?_, trivial⟩
   ·exact HOb.fact K ⟨rfl, trivial⟩ rfl rfl rfl rfl (fun H2 w ⟨_, _, _, _, _, _, i, _⟩ => d_loadC Tryd.underlying26 rfl sz26 rfl (i) rfl)
   ·refine ⟨trivial, fun P B H2 w hW => ?_⟩
    obtain rfl := memN_one B
    replace hW : af H2 w := hW
    rw [K] at hW
    obtain ⟨hC, d, m, j, e, p, i, a, _⟩ := hW
    refine Ok1.mono (ok_call c42 rfl (may_eq hmay (May_calls (X := []) _ (IsT.mv hC (by simp) (fun x hx => .inl hx) t _ ht)))) ?_
    rintro _ w' ⟨rfl, hg_⟩
    have c : Ch [] _ w' := Gr.ch hg_
    have hC := hC.trans' c (fun z hz => .inr (absurd hz (by simp)))
    have d := c.lt d
    have j := j.mv c (by simp <;> omega)
    have e := c.lt e
    have i := i.mv c (by simp <;> omega)
    have n : J (updV H2 1 vt) w' := by rw [E]; exact ⟨hC, d, m, j, e, p, i, a, trivial⟩
    exact fin_ rfl ⟨n, rfl⟩
   ·exact HOb.pure trivial rfl rfl (fun _ _ => d_move rfl)
   ·refine ⟨⟨rfl, trivial⟩, fun P B H2 w hW => ?_⟩
    rcases memN_or B with rfl | B
    ·have M := hW
     replace hW : J H2 w := hW
     rw [E] at hW
     obtain ⟨hC, d, m, j, e, p, i, a, _⟩ := hW
     exact ⟨(some true), _, rfl, rfl, Det.ohc rfl M (d_loadC Tryd.underlying31 rfl sz31 rfl (j) rfl)⟩
    obtain rfl := memN_one B
    ·have M := hW
     replace hW : I H2 w := hW
     rw [G] at hW
     obtain ⟨hC, d, m, j, e, p, i, a, hK, C, q, _⟩ := hW
     exact ⟨(some true), _, rfl, rfl, Det.ohc rfl M (d_loadC Tryd.underlying31 rfl sz31 rfl (j) rfl)⟩
   ·exact HOb.factG E ⟨rfl, trivial⟩ rfl rfl rfl rfl (fun _ => rfl) rfl (fun H2 w ⟨_, _, _, j, _⟩ => d_loadC Tryd.underlying31 rfl sz31 rfl (j) rfl)
   ·exact HOb.pureG ⟨rfl, trivial⟩ rfl rfl (fun _ => rfl) rfl (fun _ _ => d_move rfl)
   ·refine ⟨trivial, fun P B H2 w hW => ?_⟩
    obtain rfl := memN_one B
    replace hW : J H2 w := hW
    rw [E] at hW
    obtain ⟨hC, d, m, j, e, p, i, a, _⟩ := hW
    have ap : 0 < known.length → ∃ b o, ad = some ⟨b, o, none⟩ ∧ b ∉ ([] : List Nat) ∧ At w b o xs := fun h => by
     obtain ⟨b, o, h1, h2, h3⟩ := hsl h
     exact ⟨b, o, h1, h2, h3.mv hC (by simp)⟩
    refine ⟨(some true), _, rfl, rfl, Ok1.mono (ok_call c44 rfl (opens_calls hT hjoin hclone hop _ (Nat.le_trans hnb hC.size) (hT _ _ (hC.below hnb (by simp)) hw0) hkl au hwr hfit0 ap (IsTs.mv hC (by simp) (fun x hx => .inl hx) _ _ hks))) ?_⟩
    rintro _ w' ⟨br, bm, lv, rfl, hrw_, lo1_, lo2_, hg_⟩
    have c : Ch [] _ w' := Gr.ch hg_
    have Q := hC.size
    have hC := hC.trans' c (fun z hz => .inr (absurd hz (by simp)))
    have d := c.lt d
    have j := j.mv c (by simp <;> omega)
    have e := c.lt e
    have i := i.mv c (by simp <;> omega)
    have hK : ∃ bm lv, RwIs w' w0.heap.size [br, bm] br bm lv r := ⟨bm, lv, RwIs.mvb hrw_ Q⟩
    have C : w0.heap.size ≤ br := Nat.le_trans Q lo1_
    have n : I (updV H2 6 (vp br)) w' := by rw [G]; exact ⟨hC, d, m, j, e, p, i, a, hK, C, rfl, trivial⟩
    exact fin_ rfl ⟨n, rfl⟩
   ·refine ⟨trivial, fun P B H2 w hW => ?_⟩
    obtain rfl := memN_one B
    replace hW : I H2 w := hW
    rw [G] at hW
    obtain ⟨hC, d, m, j, e, p, i, a, hK, C, q, _⟩ := hW
    obtain ⟨bm, lv, H⟩ := hK
    refine ⟨(some true), _, rfl, rfl, Ok1.sub (L' := [(9, vt), (10, (Value.agg #[(vB W.dh), (vB W.kem)])), (13, (vp (blk (H2 6))))]) ⟨rfl, rfl, congrArg some q, trivial⟩ (Ok1.mono (ok_call c43 rfl (ready_calls' _)) ?_)⟩
    rintro _ w' ⟨bb, rfl, ⟨bt, hrd_⟩, hch0_⟩
    have c : Ch [] _ w' := hch0_
    have Q := hC.size
    have hl1_ := H.lt
    have hl2_ := H.met.lt
    have aq := hrd_.lt
    have hC := hC.trans' c (fun z hz => .inr (absurd hz (by simp)))
    have d := c.lt d
    have j := j.mv c (by simp <;> omega)
    have e := c.lt e
    have i := i.mv c (by simp <;> omega)
    have hK : ∃ bm lv bt, RwIs w' w0.heap.size [(blk (H2 6)), bm] (blk (H2 6)) bm lv r ∧ RdIs w' w0.heap.size W (blk (H2 6)) bb bt ∧ (blk (H2 6)) ≠ bt ∧ bm ≠ bt := ⟨bm, lv, bt, H.mv c (by simp) (by simp) (by simp) (by simp), ⟨hrd_.at', hrd_.told, Nat.le_trans Q hrd_.lb, Nat.le_trans Q hrd_.lt, hrd_.ne⟩, by omega, by omega⟩
    have n : R (updV H2 7 (vp bb)) w' := by rw [O]; exact ⟨hC, d, m, j, e, p, i, a, hK, C, q, rfl, trivial⟩
    exact fin_ rfl ⟨n, rfl⟩
   ·refine ⟨⟨rfl, trivial⟩, fun P B H2 w hW => ?_⟩
    rcases memN_or B with rfl | B
    ·have M := hW
     replace hW : J H2 w := hW
     rw [E] at hW
     obtain ⟨hC, d, m, j, e, p, i, a, _⟩ := hW
     exact ⟨(some true), _, rfl, rfl, Det.ohc rfl M (d_loadC Tryd.underlying26 rfl sz26 rfl (i) rfl)⟩
    rcases memN_or B with rfl | B
    ·have M := hW
     replace hW : I H2 w := hW
     rw [G] at hW
     obtain ⟨hC, d, m, j, e, p, i, a, hK, C, q, _⟩ := hW
     exact ⟨(some true), _, rfl, rfl, Det.ohc rfl M (d_loadC Tryd.underlying26 rfl sz26 rfl (i) rfl)⟩
    obtain rfl := memN_one B
    ·have M := hW
     replace hW : R H2 w := hW
     rw [O] at hW
     obtain ⟨hC, d, m, j, e, p, i, a, hK, C, q, D, _⟩ := hW
     exact ⟨(some true), _, rfl, rfl, Det.ohc rfl M (d_loadC Tryd.underlying26 rfl sz26 rfl (i) rfl)⟩
   ·refine ⟨trivial, fun P B H2 w hW => ?_⟩
    obtain rfl := memN_one B
    replace hW : R H2 w := hW
    rw [O] at hW
    obtain ⟨hC, d, m, j, e, p, i, a, hK, C, q, D, _⟩ := hW
    obtain ⟨bm, lv, bt, H, F, ak, ai⟩ := hK
    refine ⟨(some true), _, rfl, rfl, Ok1.mono (ok_call c46 rfl (nodeOf_calls hT hjoin t ar [bt] _ _ (Nat.le_trans hnb hC.size) (hT _ _ (hC.below hnb (by simp)) hw0) (by simp; exact F.told.lt) (IsT.mv hC (by simp) (fun x hx => .inr (by simp at hx; subst hx; exact F.lt)) t _ ht))) ?_⟩
    rintro pv w' ⟨ah, hg_⟩
    have c : Ch [] _ w' := Gr.ch hg_
    have hC := hC.trans' c (fun z hz => .inr (absurd hz (by simp)))
    have d := c.lt d
    have j := j.mv c (by simp <;> omega)
    have e := c.lt e
    have i := i.mv c (by simp <;> omega)
    have hK : ∃ bm lv bt, RwIs w' w0.heap.size [(blk (H2 6)), bm] (blk (H2 6)) bm lv r ∧ RdIs w' w0.heap.size W (blk (H2 6)) (blk (H2 7)) bt ∧ (blk (H2 6)) ≠ bt ∧ bm ≠ bt ∧ IsN w' [bt] (nrm t) pv := ⟨bm, lv, bt, H.mv c (by simp) (by simp) (by simp) (by simp), F.mv c, ak, ai, ah⟩
    have n : ag (updV H2 9 pv) w' := by rw [S]; exact ⟨hC, d, m, j, e, p, i, a, hK, C, q, D, trivial⟩
    exact fin_ rfl ⟨n, rfl⟩
   ·refine ⟨trivial, fun P B H2 w hW => ?_⟩
    obtain rfl := memN_one B
    replace hW : ag H2 w := hW
    rw [S] at hW
    obtain ⟨hC, d, m, j, e, p, i, a, hK, C, q, D, _⟩ := hW
    obtain ⟨bm, lv, bt, H, F, ak, ai, ah⟩ := hK
    refine ⟨(some true), _, rfl, rfl, Ok1.mono (ok_buildSlice (cells := #[(H2 9)]) Tryd.underlying110 zz83 rfl (by decide) (by decide) (by exact fill1 (IsN.cellsv ah))) ?_⟩
    rintro _ w' ⟨b3, rfl, hnb_⟩
    have c : Ch [] _ w' := hnb_.ch
    have al := hnb_.lo hC.size
    have s := hnb_.gt d
    have y := hnb_.gt e
    have aq := hnb_.gt F.told.lt
    have hC := hC.trans' c (fun z hz => .inr (absurd hz (by simp)))
    have d := c.lt d
    have j := j.mv c (by simp <;> omega)
    have e := c.lt e
    have i := i.mv c (by simp <;> omega)
    have aj : b3 < w'.heap.size := hnb_.lt
    have ae : w0.heap.size ≤ b3 := al
    have am : At w' b3 0 [(H2 9)] := hnb_.at
    have s : b1 < b3 := s
    have y : b2 < b3 := y
    have hK : ∃ bm lv bt, RwIs w' w0.heap.size [(blk (H2 6)), bm] (blk (H2 6)) bm lv r ∧ RdIs w' w0.heap.size W (blk (H2 6)) (blk (H2 7)) bt ∧ (blk (H2 6)) ≠ bt ∧ bm ≠ bt ∧ IsN w' [bt] (nrm t) (H2 9) ∧ b3 ≠ bt := ⟨bm, lv, bt, H.mv hnb_.ch (by simp) (by simp) (by simp) (by simp), F.mv hnb_.ch, ak, ai, IsN.mv hnb_.ch (by simp) (fun x hx => .inl hx) _ _ ah, by omega⟩
    have n : Y (updV H2 10 (vS b3 0 1 1)) w' := by rw [T]; exact ⟨hC, d, m, j, e, p, i, a, hK, C, q, D, aj, ae, am, s, y, rfl, trivial⟩
    exact fin_ rfl ⟨n, rfl⟩
   ·refine ⟨trivial, fun P B H2 w hW => ?_⟩
    obtain rfl := memN_one B
    replace hW : Y H2 w := hW
    rw [T] at hW
    obtain ⟨hC, d, m, j, e, p, i, a, hK, C, q, D, aj, ae, am, s, y, N, _⟩ := hW
    obtain ⟨bm, lv, bt, H, F, ak, ai, ah, ao⟩ := hK
    refine ⟨(some true), _, rfl, rfl, Ok1.sub (L' := [(9, vt), (14, (vp (blk (H2 7)))), (17, (vS (blk (H2 10)) 0 1 1))]) ⟨rfl, congrArg some D, congrArg some N, trivial⟩ (Ok1.mono (ok_call c45 rfl (builds_ok hT hjoin f [nrm t] [] m' b _ bt _ bm lv _ _ _ _ (by simp) hbl (fun u hu => by simp at hu; subst hu; exact an) (Nat.le_trans hnb hC.size) (Nat.le_trans hnb F.lt) (hT _ _ (hC.below hnb (by simp)) hw0) ⟨F.at', At.of_blk H.st, H.met, F.ne, ak, ai⟩ F.told (.inr ⟨_, 0, _, rfl, by simp; exact ao, aj, am⟩) (IsNs.one ah))) ?_)⟩
    rintro _ w' ⟨rfl, htold_, hch0_⟩
    have c : Ch [bt] _ w' := hch0_
    have hC := hC.trans' c (fun z hz => .inr ((by simp at hz; subst hz; exact F.lt)))
    have n : Z (updV H2 11 (vB b)) w' := by rw [U]; exact ⟨hC, m, p, a, C, q, D, ae, s, y, N, trivial⟩
    exact fin_ rfl ⟨n, rfl⟩
   ·exact HOb.pure trivial rfl rfl (fun _ _ => d_pick (b := true) rfl rfl)
   ·exact HOb.pure trivial rfl rfl (fun _ _ => d_assign rfl)
  ·intro ac w H2 hW hF
   replace hW : Z H2 w := hW
   rw [U] at hW
   obtain ⟨hC, m, p, a, C, q, D, ae, s, y, N, _⟩ := hW
   clear K af E J G I O R S ag T Y U Z
   have hF := hF.sub (L' := [(0, (Value.agg #[(vB W.dh), (vB W.kem)])), (1, (Value.slice ad known.length cap)), (2, (Value.agg #[(vI k), (vI nm), (Value.slice ad2 l2 cap2)])), (3, (vp b1)), (5, (vp b2)), (6, (vB b))]) ⟨rfl, rfl, rfl, rfl, rfl, rfl, trivial⟩
   refine then_n ?_
   refine wp_ret ?_
   refine body_ret hF (results1 Tryd.results19 (RV.tmp hF rfl)) ?_
   exact ⟨rfl, hC.gr⟩
set_option maxRecDepth 100000 in
set_option maxHeartbeats 4000000 in
theorem Text_calls {T0 : World → Prop} {nb : Nat} (hT : ∀ w w', Below nb w w' → T0 w → T0 w') (hjoin : JoinOk) {t : Tm} {k nm : Int} {ad2 : Option Addr} {l2 cap2 : Nat} (w0 : World) (hnb : nb ≤ w0.heap.size) (hw0 : T0 w0) (hwt : may t = true → WrT T0 t) (ht : IsT w0 [] t [.int .i64 k, .int .i64 nm, .slice ad2 l2 cap2]) : Calls Tryd.prog 41 (List.toArray [.agg #[.int .i64 k, .int .i64 nm, .slice ad2 l2 cap2]]) w0 (Ret fun v w' => v = .string (bs (if may t then txt t else [])) ∧ Gr w0 w') := by
 refine calls_of Tryd.func41 rfl Tryd.ntmps41 rfl fun ac hF => ?_
 have hC : Ch [] w0 w0 := Ch.refl _ _
 have hF := hF.sub (L' := [(0, (Value.agg #[(vI k), (vI nm), (Value.slice ad2 l2 cap2)]))]) ⟨rfl, trivial⟩
 refine wp_seq ?_
 refine wp_region_lit ?_
 refine wlR (ok_box rfl) rfl hF ?_
 rintro _ w ac ⟨b1, rfl, hnb_⟩ hF
 have a : Ch [] _ w := hnb_.ch
 have f := hnb_.lo hC.size
 have hC := hC.trans (a.mono (by simp))
 have c : b1 < w.heap.size := hnb_.lt
 have lob1 : w0.heap.size ≤ b1 := f
 have d : At w b1 0 [(vI k), (vI nm), (Value.slice ad2 l2 cap2)] := hnb_.at
 refine wl (d_assign rfl) rfl hF (fun ac hF => ?_)
 refine wl_nil ?_
 refine then_n ?_
 refine wp_seq ?_
 refine wp_seq ?_
 refine wp_region_lit ?_
 refine wl (d_loadC Tryd.underlying26 rfl sz26 rfl (d) rfl) rfl hF (fun ac hF => ?_)
 refine wlR (ok_call c42 rfl (May_calls (X := []) _ (IsT.mv hC (by simp) (fun x hx => .inl hx) t _ ht))) rfl hF ?_
 rintro _ w ac ⟨rfl, hg_⟩ hF
 have a : Ch [] _ w := Gr.ch hg_
 have hC := hC.trans (a.mono (by simp))
 have c := a.lt c
 have d := d.mv a (by simp <;> omega)
 refine wl (d_not rfl) rfl hF (fun ac hF => ?_)
 refine wl_nil ?_
 refine then_n ?_
 refine wp_if hF rfl (fun h => ?_) (fun h => ?_)
 ·have hm := h
  clear h
  have b : may t = false := by simpa using hm
  refine wp_seq ?_
  refine wp_region_lit ?_
  refine wl (d_assign rfl) rfl hF (fun ac hF => ?_)
  refine wl_nil ?_
  refine then_n ?_
  refine wp_ret ?_
  refine then_ret ?_
  refine body_ret hF (results1 Tryd.results41 (RV.tmp hF rfl)) ?_
  refine ⟨?_, hC.gr⟩
  rw [b]
  first | rfl | (rw [txt_nrm]; rfl)
 ·have hm := h
  clear h
  have b : may t = true := by simpa using hm
  refine wp_skip ?_
  refine then_n ?_
  refine wp_seq ?_
  refine wp_region_lit ?_
  refine wl (d_loadC Tryd.underlying26 rfl sz26 rfl (d) rfl) rfl hF (fun ac hF => ?_)
  refine wlR (ok_call c46 rfl (nodeOf_calls hT hjoin t (hwt b) [] _ _ (Nat.le_trans hnb hC.size) (hT _ _ (hC.below hnb (by simp)) hw0) (by simp) (IsT.mv hC (by simp) (fun x hx => .inl hx) t _ ht))) rfl hF ?_
  rintro nv w ac ⟨hnv, hg_⟩ hF
  have a : Ch [] _ w := Gr.ch hg_
  obtain ⟨bn, kn, nn, sn, rfl, hbn, e⟩ := hnv.form
  have hC := hC.trans (a.mono (by simp))
  have c := a.lt c
  have d := d.mv a (by simp <;> omega)
  refine wl (d_nil rfl) rfl hF (fun ac hF => ?_)
  refine wl (d_fieldAddrQ Tryd.underlying112 (m := 0) sz9 rfl rfl rfl) rfl hF (fun ac hF => ?_)
  refine wl (d_load1 Tryd.underlying9 rfl rfl (e 3 _ rfl)) rfl hF (fun ac hF => ?_)
  refine wl (d_assign rfl) rfl hF (fun ac hF => ?_)
  refine wl_nil ?_
  refine then_n ?_
  refine wp_ret ?_
  refine body_ret hF (results1 Tryd.results41 (RV.tmp hF rfl)) ?_
  refine ⟨?_, hC.gr⟩
  rw [b]
  first | rfl | (rw [txt_nrm]; rfl)
end Go.Mi.Term
