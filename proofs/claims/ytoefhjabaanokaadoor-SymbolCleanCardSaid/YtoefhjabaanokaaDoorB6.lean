/- Texts that belong together: W7, W8, H9. General lemmas and walks; no conditions. -/
import Derived.Test.YtoefhjabaanokaaDoorB4
import Derived.Test.YtoefhjabaanokaaDoorB2
import Derived.Test.YtoefhjabaanokaaDoorB3
set_option linter.unusedSimpArgs false
set_option linter.unusedVariables false
set_option linter.unnecessarySimpa false
namespace Go.Mi.Term
open Go.Mi Go.Proofs Go.RowKit
set_option maxRecDepth 100000 in
theorem mq {T0 : World → Prop} {nb : Nat} (hT : ∀ w w', Below nb w w' → T0 w → T0 w') (hjoin : cG) {k nm : Int} {ks : List Tm} (hw : WrK T0 k (if k = 1 then nm else 0) (ks.map nrm)) (h8 : ks.length ≤ 1000)
 (ih : ∀ t, t ∈ ks → ∀ (X : List Nat) (vs : List Value) (w : World), nb ≤ w.heap.size → T0 w → (∀ x, x ∈ X → x < w.heap.size) → IsT w X t vs → Calls Tryd.prog 46 (List.toArray [.agg vs.toArray]) w (Ret fun v w' => IsN w' X (nrm t) v ∧ Gr w w'))
 {X : List Nat} {ad : Option Addr} {cap : Nat} {xs : List Value} (w0 : World) (hnb : nb ≤ w0.heap.size) (hw0 : T0 w0) (hX : ∀ x, x ∈ X → x < w0.heap.size) (hsl : 0 < ks.length → ∃ b o, ad = some ⟨b, o, none⟩ ∧ b ∉ X ∧ At w0 b o xs) (hks : IsTs w0 X ks xs) :
 Calls Tryd.prog 46 (List.toArray [.agg #[.int .i64 k, .int .i64 nm, .slice ad ks.length cap]]) w0 (Ret fun v w' => IsN w' X (nrm (.mk k nm ks)) v ∧ Gr w0 w') := by
 refine co Tryd.func46 rfl Tryd.ntmps46 rfl fun a hF => ?_
 have hM := Mem.start w0
 have hF := hF.sub (L' := [(0, (Value.agg (#[(vI k), (vI nm), (Value.slice ad ks.length cap)])))]) ⟨rfl, trivial⟩
 refine wp_seq ?_
 refine wp_region_lit ?_
 refine wlR (dI rfl) rfl hF ?_
 rintro _ w a ⟨b1, rfl, hnb_⟩ hF
 have hM : Mem w0 w [(b1, #[(vI k), (vI nm), (Value.slice ad ks.length cap)], 26)] := hM.alloc hnb_
 refine wl (bA rfl) rfl hF (fun a hF => ?_)
 refine bx ?_
 refine wp_seq ?_
 refine wp_region_lit ?_
 refine wl (bA rfl) rfl hF (fun a hF => ?_)
 refine bx ?_
 refine wp_seq ?_
 refine wp_seq ?_
 refine wp_region_lit ?_
 refine wl (bD u26 (m := 0) fe rfl rfl rfl) rfl hF (fun a hF => ?_)
 refine wl (bF u24 rfl rfl (hM.cell 0 rfl rfl)) rfl hF (fun a hF => ?_)
 refine wl (bT u24 rfl) rfl hF (fun a hF => ?_)
 refine wl (bC rfl) rfl hF (fun a hF => ?_)
 refine bx ?_
 refine bz ?_
 refine wp_block ?_
 refine cb (fun Q a w => ∃ (i : Nat) (lv : Value) (ps : List Value), Q = ks.length - i ∧ (i ≤ ks.length) ∧ (Own w w0.heap.size 83 1 lv i ps) ∧ (IsNs w (bE lv ++ X) ((ks.take i).map nrm) ps) ∧ (∀ y, y ∈ bE lv → b1 ≠ y) ∧ Frm a 47 [(1, (vp b1)), (3, lv), (8, (Value.slice ad ks.length cap)), (9, (vI (ks.length : Int))), (10, (vI (i : Int)))] ∧ Mem w0 w [(b1, #[(vI k), (vI nm), (Value.slice ad ks.length cap)], 26)]) _ ⟨0, Value.slice none 0 0, [], rfl, (by omega), (Own.nil _ _ _ _), (by simp [IsNs]), (by simp [bE]), hF.sub ⟨rfl, rfl, rfl, rfl, rfl, trivial⟩, ?_⟩ ?_
 ·exact hM
 rintro _ a w ⟨i, lv, ps, rfl, hl1_0, hl1_1, hl1_2, hl1_3, hF, hM⟩
 have c := hl1_1
 have f := hl1_2
 have l := hl1_3
 refine wp_seq ?_
 refine wp_region_lit ?_
 refine wl (ez rfl rfl) rfl hF (fun a hF => ?_)
 refine bx ?_
 refine wp_seq ?_
 refine cn hF rfl (fun h => ?_) (fun h => ?_)
 ·have O := of_decide_eq_true h
  clear h
  obtain ⟨b0, o0, N, hb0, M⟩ := hsl (by omega)
  obtain ⟨t1, hi⟩ : ∃ t, ks[i]? = some t := ⟨_, List.getElem?_eq_getElem (by omega)⟩
  have K : t1 ∈ ks := List.mem_of_getElem? hi
  obtain ⟨a1, F, J⟩ := hks.at M i t1 hi
  obtain ⟨k1, D, C, l1, s, rfl⟩ := F.form
  refine wp_skip ?_
  refine wp_seq ?_
  refine wp_block ?_
  refine wp_seq ?_
  refine wp_region_lit ?_
  refine wl (d6 (b := b0) (o := o0) u24 bV (by rw [← N]; rfl) rfl rfl (by omega)) rfl hF (fun a hF => ?_)
  refine wl (cj u26 rfl bV rfl (J.mv (Gr.ch hM.below) (by simp)) rfl) rfl hF (fun a hF => ?_)
  refine wlR (d8 z26) rfl hF ?_
  rintro _ w a ⟨b2, rfl, hnb_⟩ hF
  have hM : Mem w0 w [(b1, #[(vI k), (vI nm), (Value.slice ad ks.length cap)], 26), (b2, #[(vI 0), (vI 0), vN], 26)] := hM.alloc hnb_
  have B : ∀ y, y ∈ bE lv → b2 ≠ y := fun y hy => by have H := (c.lt y hy).2; have I := hnb_.num; omega
  have c := c.mv hnb_.ch (by simp)
  have f := IsNs.mv (X' := b2 :: (bE lv ++ X)) hnb_.ch (by simp) (fun x hx => by rcases List.mem_cons.1 hx with rfl | hx; exact .inr (Nat.le_of_eq hnb_.num.symm); exact .inl hx) _ _ f
  refine kI (dk (c' := #[(vI k1), (vI D), (Value.slice C l1 s)]) bV rfl rfl rfl (fun v hv => by simp at hv; rcases hv with rfl | rfl | rfl <;> rfl) (hM.at 1 rfl) rfl) hF ?_
  rintro w a hu hF
  have hM : Mem w0 w [(b1, #[(vI k), (vI nm), (Value.slice ad ks.length cap)], 26), (b2, #[(vI k1), (vI D), (Value.slice C l1 s)], 26)] := hM.upd 1 rfl hu
  have c := c.mv hu.ch (fun y hy => by simp; exact fun e => B y hy e.symm)
  have f := IsNs.mv hu.ch (by simp) (fun x hx => .inl hx) _ _ f
  refine bx ?_
  refine bz ?_
  refine wp_region_lit ?_
  refine wl (bC rfl) rfl hF (fun a hF => ?_)
  refine wl (em u26 rfl bV rfl (hM.at 1 rfl) rfl) rfl hF (fun a hF => ?_)
  have R : ∀ x, x ∈ (b2 :: (bE lv ++ X)) → x < w.heap.size := fun x hx => by
   have hs_ := hM.below.size
   have n := hM.lt (show (b2, _, _) ∈ _ from List.mem_cons_of_mem _ (List.mem_cons_self ..))
   simp only [List.mem_cons, List.mem_append] at hx
   rcases hx with rfl | hx | hx
   ·exact n
   ·exact (c.lt x hx).2
   ·have := hX x hx; omega
  have S := IsT.mv (X' := (b2 :: (bE lv ++ X))) (Gr.ch hM.below) (by simp) (fun x hx => by
   have n := hM.new _ (show (b2, _, _) ∈ _ from List.mem_cons_of_mem _ (List.mem_cons_self ..))
   simp only [List.mem_cons, List.mem_append] at hx
   rcases hx with rfl | hx | hx
   ·exact .inr n
   ·exact .inr (c.lt x hx).1
   ·exact .inl hx) t1 _ F
  refine wlR (a_ c46 rfl (ih t1 K (b2 :: (bE lv ++ X)) _ _ (Nat.le_trans hnb hM.below.size) (hT _ _ (hM.below.mono hnb) hw0) R S)) rfl hF ?_
  rintro nv w a ⟨p, hg⟩ hF
  have hM := hM.call hg
  have c := c.mv (Gr.ch hg) (by simp)
  have f := IsNs.mv (Gr.ch hg) (by simp) (fun x hx => .inl hx) _ _ f
  refine wlR (bU (cells := #[nv]) dH lC rfl (by decide) (by decide) (jM (IsN.cellsv p))) rfl hF ?_
  rintro _ w a ⟨b3, rfl, hnb_⟩ hF
  have hM : Mem w0 w [(b1, #[(vI k), (vI nm), (Value.slice ad ks.length cap)], 26), (b2, #[(vI k1), (vI D), (Value.slice C l1 s)], 26), (b3, #[nv], 83)] := hM.alloc hnb_
  have G : ∀ y, y ∈ bE lv → b3 ≠ y := fun y hy => by have H := (c.lt y hy).2; have I := hnb_.num; omega
  have c := c.mv hnb_.ch (by simp)
  have f := IsNs.mv hnb_.ch (by simp) (fun x hx => .inl hx) _ _ f
  have p := IsN.mv hnb_.ch (by simp) (fun x hx => .inl hx) _ _ p
  have z := c
  have P := hM
  refine wlR (gF (b := b3) (u := nv) dH wC rfl rfl rfl z (At.of_blk (hM.at 2 rfl)) (p.cell1) (by omega) (by unfold maxLen; omega) hM.below.size) rfl hF ?_
  rintro lv1 w a ⟨c, hch, hob⟩ hF
  have hM := jf hM hch (fun y hy => ⟨(z.lt y hy).1, fun e he => by simp at he; rcases he with rfl | rfl | rfl; exact l y hy; exact B y hy; exact G y hy⟩)
  have L : ∀ x, x ∈ bE lv1 ++ X → x ∈ (b2 :: (bE lv ++ X)) ∨ _ ≤ x := fun x hx => by
   simp only [List.mem_cons, List.mem_append] at hx ⊢
   rcases hx with hx | hx
   ·rcases hob with hob | hob
    ·rw [hob] at hx; exact .inl (.inr (.inl hx))
    ·rw [hob] at hx; simp at hx; exact .inr (Nat.le_of_eq hx.symm)
   ·exact .inl (.inr (.inr hx))
  have f := (IsNs.mv (X' := bE lv1 ++ X) hch (fun y hy => List.mem_cons_of_mem _ (List.mem_append_left _ hy)) L _ _ f).app (IsNs.one (IsN.mv (X' := bE lv1 ++ X) hch (fun y hy => List.mem_cons_of_mem _ (List.mem_append_left _ hy)) L _ _ p))
  have l : ∀ y, y ∈ bE lv1 → b1 ≠ y := fun y hy => by
   have n := P.lt (List.mem_cons_self ..)
   rcases hob with hob | hob
   ·rw [hob] at hy; exact l y hy
   ·rw [hob] at hy; simp at hy n; omega
  refine wl (bA rfl) rfl hF (fun a hF => ?_)
  refine bx ?_
  refine bR ?_
  refine bz ?_
  refine wp_region_lit ?_
  refine wl (cy rfl rfl (bO (by omega) (by omega))) rfl hF (fun a hF => ?_)
  refine wl (bC rfl) rfl hF (fun a hF => ?_)
  refine bx ?_
  refine bz ?_
  refine ⟨_, ?_, i + 1, lv1, ps ++ [nv], rfl, (by omega), c, (by rw [fD hi]; exact f), l, hF.sub ⟨rfl, rfl, rfl, rfl, rfl, trivial⟩, ?_⟩
  ·omega
  exact hM.sub (by simp)
 ·have O := of_decide_eq_false h
  clear h
  have hi : i = ks.length := by omega
  have c : Own w w0.heap.size 83 1 lv ks.length ps := by have h_ := c; rw [hi] at h_; exact h_
  have f : IsNs w (bE lv ++ X) (ks.map nrm) ps := by have h_ := f; rw [hi, List.take_length] at h_; exact h_
  refine wp_exit ?_
  refine bG ?_
  refine bG ?_
  refine bZ ?_
  refine wp_seq ?_
  refine wp_region_lit ?_
  refine wl (bD u26 (m := 0) sz3 rfl rfl rfl) rfl hF (fun a hF => ?_)
  refine wl (bF Tryd.underlying3 rfl rfl (hM.cell 0 rfl rfl)) rfl hF (fun a hF => ?_)
  refine wl (bC rfl) rfl hF (fun a hF => ?_)
  refine wl (dg (cells := #[(vI k), (vI 0), lv, (vT [])]) cI vr (fun w => th w _ cI) rfl (tz rfl rfl (Own.cells1 c) rfl)) rfl hF (fun a hF => ?_)
  refine wlR (dI rfl) rfl hF ?_
  rintro _ w a ⟨b4, rfl, hnb_⟩ hF
  have hM : Mem w0 w [(b1, #[(vI k), (vI nm), (Value.slice ad ks.length cap)], 26), (b4, #[(vI k), (vI 0), lv, (vT [])], 112)] := hM.alloc hnb_
  have A : ∀ y, y ∈ bE lv → b4 ≠ y := fun y hy => by have H := (c.lt y hy).2; have I := hnb_.num; omega
  have c := c.mv hnb_.ch (by simp)
  have f := IsNs.mv (X' := b4 :: (bE lv ++ X)) hnb_.ch (by simp) (fun x hx => by rcases List.mem_cons.1 hx with rfl | hx; exact .inr (Nat.le_of_eq hnb_.num.symm); exact .inl hx) _ _ f
  refine wl (bA rfl) rfl hF (fun a hF => ?_)
  refine bx ?_
  refine wp_seq ?_
  refine wp_seq ?_
  refine wp_region_lit ?_
  refine wl (bD u26 (m := 0) sz3 rfl rfl rfl) rfl hF (fun a hF => ?_)
  refine wl (bF Tryd.underlying3 rfl rfl (hM.cell 0 rfl rfl)) rfl hF (fun a hF => ?_)
  refine wl (dN rfl rfl) rfl hF (fun a hF => ?_)
  refine bx ?_
  refine bz ?_
  refine cn hF rfl (fun h => ?_) (fun h => ?_)
  ·have q := of_decide_eq_true h
   clear h
   have E : WrK T0 k nm (ks.map nrm) := by have h_ := hw; rw [if_pos q] at h_; exact h_
   refine wp_region_lit ?_
   refine wl (bC rfl) rfl hF (fun a hF => ?_)
   refine wl (bD u26 (m := 0) sz3 rfl rfl rfl) rfl hF (fun a hF => ?_)
   refine wl (bF Tryd.underlying3 rfl rfl (hM.cell 0 rfl rfl)) rfl hF (fun a hF => ?_)
   refine wl (d_nil rfl) rfl hF (fun a hF => ?_)
   refine wl (bD cI (m := 0) sz3 rfl rfl rfl) rfl hF (fun a hF => ?_)
   refine kI (dG (v := (vI nm)) sz3 rfl rfl rfl (hM.at 1 rfl) (Nat.le_of_ble_eq_true rfl)) hF ?_
   rintro w a hu hF
   have hM : Mem w0 w [(b1, #[(vI k), (vI nm), (Value.slice ad ks.length cap)], 26), (b4, #[(vI k), (vI nm), lv, (vT [])], 112)] := hM.upd 1 rfl hu
   have c := c.mv hu.ch (fun y hy => by simp; exact fun e => A y hy e.symm)
   have f := IsNs.mv hu.ch (by simp) (fun x hx => .inl hx) _ _ f
   refine bx ?_
   refine wp_seq ?_
   refine eJ Tt mo (fun d w => Mem w0 w (([[(b1, #[(vI k), (vI nm), (Value.slice ad ks.length cap)], 26), (b4, #[(vI k), (vI nm), lv, (vT [])], 112)], [(b1, #[(vI k), (vI nm), (Value.slice ad ks.length cap)], 26), (b4, #[(vI k), (vI nm), lv, (vT (txt (.mk k nm (ks.map nrm))))], 112)]] : List (List Blk)).getD d []) ∧ Own w w0.heap.size 83 1 lv ks.length ps ∧ IsNs w (b4 :: (bE lv ++ X)) (ks.map nrm) ps) [13] (rows := [⟨[], [(6, (vp b4))], [0], .val (vp b4)⟩, ⟨[], [(6, (vp b4))], [0], .val (vp b4)⟩, ⟨[(1, 34)], [], [0], .val (vp b4)⟩, ⟨[(2, 35)], [], [0], .val (vp b4)⟩, ⟨[(3, 36)], [], [0], .val (vI k)⟩, ⟨[], [(6, (vp b4))], [0], .val (vp b4)⟩, ⟨[(5, 38)], [], [0], .val (vp b4)⟩, ⟨[(6, 39)], [], [0], .val (vP b4 1)⟩, ⟨[(7, 40)], [], [0], .val (vI nm)⟩, ⟨[], [(3, lv)], [0], .val lv⟩, ⟨[(4, 37), (8, 41), (9, 42)], [], [0], .val (vT (txt (.mk k nm (ks.map nrm))))⟩, ⟨[(0, 33)], [], [0], .val (vp b4)⟩, ⟨[(11, 44)], [], [0], .val (vP b4 3)⟩, ⟨[(12, 45), (10, 43)], [], [0], .rel (fun _ _ => True) (fun _ _ _ _ _ => trivial)⟩]) (by kernel_rfl) hF ⟨hM.drew, c.mv (Ch.drew _) (by simp), IsNs.mv (Ch.drew _) (by simp) (fun x hx => .inl hx) _ _ f⟩ ?_ ?_
   ·refine ⟨?_, ?_, ?_, ?_, ?_, ?_, ?_, ?_, ?_, ?_, ?_, ?_, ?_, ?_, trivial⟩
    ·exact ⟨⟨rfl, trivial⟩, fun d _ vs w hW _ => Det.ob hW (bC rfl)⟩
    ·exact ⟨⟨rfl, trivial⟩, fun d _ vs w hW _ => Det.ob hW (bC rfl)⟩
    ·exact ⟨trivial, fun d _ vs w hW _ => Det.ob hW (d_nil rfl)⟩
    ·exact ⟨trivial, fun d _ vs w hW _ => Det.ob hW (bD cI (m := 0) sz3 rfl rfl rfl)⟩
    ·refine ⟨trivial, fun d j vs w hW _ => ?_⟩
     obtain rfl := ca j
     have hM : Mem w0 w [(b1, #[(vI k), (vI nm), (Value.slice ad ks.length cap)], 26), (b4, #[(vI k), (vI nm), lv, (vT [])], 112)] := hW.1
     exact Det.ob hW (bF Tryd.underlying3 rfl rfl (hM.cell 1 rfl rfl))
    ·exact ⟨⟨rfl, trivial⟩, fun d _ vs w hW _ => Det.ob hW (bC rfl)⟩
    ·exact ⟨trivial, fun d _ vs w hW _ => Det.ob hW (d_nil rfl)⟩
    ·exact ⟨trivial, fun d _ vs w hW _ => Det.ob hW (bD cI (m := 0) sz3 rfl rfl rfl)⟩
    ·refine ⟨trivial, fun d j vs w hW _ => ?_⟩
     obtain rfl := ca j
     have hM : Mem w0 w [(b1, #[(vI k), (vI nm), (Value.slice ad ks.length cap)], 26), (b4, #[(vI k), (vI nm), lv, (vT [])], 112)] := hW.1
     exact Det.ob hW (bF Tryd.underlying3 rfl rfl (hM.cell 1 rfl rfl))
    ·exact ⟨⟨rfl, trivial⟩, fun d _ vs w hW _ => Det.ob hW (bC rfl)⟩
    ·refine ⟨trivial, fun d j vs w hW _ => ?_⟩
     obtain rfl := ca j
     have hM : Mem w0 w [(b1, #[(vI k), (vI nm), (Value.slice ad ks.length cap)], 26), (b4, #[(vI k), (vI nm), lv, (vT [])], 112)] := hW.1
     exact Ok1.obc (fun w' g => ⟨Mem.call hW.1 g, hW.2.1.mv (Gr.ch g) (by simp), IsNs.mv (Gr.ch g) (by simp) (fun x hx => .inl hx) _ _ hW.2.2⟩) (a_ c83 rfl (iD hT hjoin E _ (Nat.le_trans hnb hM.below.size) (hT _ _ (hM.below.mono hnb) hw0) hW.2.1 (by simp) hW.2.2))
    ·exact ⟨trivial, fun d _ vs w hW _ => Det.ob hW (d_nil rfl)⟩
    ·exact ⟨trivial, fun d _ vs w hW _ => Det.ob hW (bD cI (m := 0) sz9 rfl rfl rfl)⟩
    ·refine ⟨trivial, fun d j vs w hW _ => ?_⟩
     obtain rfl := ca j
     have hM : Mem w0 w [(b1, #[(vI k), (vI nm), (Value.slice ad ks.length cap)], 26), (b4, #[(vI k), (vI nm), lv, (vT [])], 112)] := hW.1
     exact Ok1.obs (fun w' hu => by exact ⟨hM.upd 1 rfl hu, hW.2.1.mv hu.ch (fun y hy => by simp; exact fun e => A y hy e.symm), IsNs.mv hu.ch (by simp) (fun x hx => .inl hx) _ _ hW.2.2⟩) (dG (v := (vT (txt (.mk k nm (ks.map nrm))))) sz9 rfl rfl rfl (hM.at 1 rfl) (Nat.le_of_ble_eq_true rfl))
   ·intro a w vs hW _ hF
    have hM : Mem w0 w [(b1, #[(vI k), (vI nm), (Value.slice ad ks.length cap)], 26), (b4, #[(vI k), (vI nm), lv, (vT (txt (.mk k nm (ks.map nrm))))], 112)] := hW.1
    have c := hW.2.1
    have f := hW.2.2
    have hF := hF.sub (L' := [(1, (vp b1)), (3, lv), (6, (vp b4)), (8, (Value.slice ad ks.length cap)), (9, (vI (ks.length : Int))), (10, (vI (i : Int))), (11, (vB (decide ((i : Int) < (ks.length : Int))))), (27, (vB (decide (k = 1))))]) ⟨rfl, rfl, rfl, rfl, rfl, rfl, rfl, rfl, trivial⟩
    refine wp_seq ?_
    refine wp_region_lit ?_
    refine wl (bC rfl) rfl hF (fun a hF => ?_)
    refine wl (bA rfl) rfl hF (fun a hF => ?_)
    refine bx ?_
    refine wp_ret ?_
    refine bv hF (bw Tryd.results46 (RV.tmp hF rfl)) ?_
    have r : ∀ x, x ∈ X → ¬ w0.heap.size ≤ x := fun x hx => by have := hX x hx; omega
    refine ⟨IsN.mk' (fun hx => r _ hx (hM.new _ (List.mem_cons_of_mem _ (List.mem_cons_self ..)))) (hM.at 1 rfl) (by simp [q]) c (fun y hy hx => r y hx (c.lt y hy).1) (IsNs.mv (Ch.refl [] _) (by simp) (fun x hx => .inl (by simp [hx])) _ _ f), hM.below⟩
  ·have q := of_decide_eq_false h
   clear h
   have E : WrK T0 k 0 (ks.map nrm) := by have h_ := hw; rw [if_neg q] at h_; exact h_
   refine wp_skip ?_
   refine wp_seq ?_
   refine eJ Tt mo (fun d w => Mem w0 w (([[(b1, #[(vI k), (vI nm), (Value.slice ad ks.length cap)], 26), (b4, #[(vI k), (vI 0), lv, (vT [])], 112)], [(b1, #[(vI k), (vI nm), (Value.slice ad ks.length cap)], 26), (b4, #[(vI k), (vI 0), lv, (vT (txt (.mk k 0 (ks.map nrm))))], 112)]] : List (List Blk)).getD d []) ∧ Own w w0.heap.size 83 1 lv ks.length ps ∧ IsNs w (b4 :: (bE lv ++ X)) (ks.map nrm) ps) [13] (rows := [⟨[], [(6, (vp b4))], [0], .val (vp b4)⟩, ⟨[], [(6, (vp b4))], [0], .val (vp b4)⟩, ⟨[(1, 34)], [], [0], .val (vp b4)⟩, ⟨[(2, 35)], [], [0], .val (vp b4)⟩, ⟨[(3, 36)], [], [0], .val (vI k)⟩, ⟨[], [(6, (vp b4))], [0], .val (vp b4)⟩, ⟨[(5, 38)], [], [0], .val (vp b4)⟩, ⟨[(6, 39)], [], [0], .val (vP b4 1)⟩, ⟨[(7, 40)], [], [0], .val (vI 0)⟩, ⟨[], [(3, lv)], [0], .val lv⟩, ⟨[(4, 37), (8, 41), (9, 42)], [], [0], .val (vT (txt (.mk k 0 (ks.map nrm))))⟩, ⟨[(0, 33)], [], [0], .val (vp b4)⟩, ⟨[(11, 44)], [], [0], .val (vP b4 3)⟩, ⟨[(12, 45), (10, 43)], [], [0], .rel (fun _ _ => True) (fun _ _ _ _ _ => trivial)⟩]) (by kernel_rfl) hF ⟨hM.drew, c.mv (Ch.drew _) (by simp), IsNs.mv (Ch.drew _) (by simp) (fun x hx => .inl hx) _ _ f⟩ ?_ ?_
   ·refine ⟨?_, ?_, ?_, ?_, ?_, ?_, ?_, ?_, ?_, ?_, ?_, ?_, ?_, ?_, trivial⟩
    ·exact ⟨⟨rfl, trivial⟩, fun d _ vs w hW _ => Det.ob hW (bC rfl)⟩
    ·exact ⟨⟨rfl, trivial⟩, fun d _ vs w hW _ => Det.ob hW (bC rfl)⟩
    ·exact ⟨trivial, fun d _ vs w hW _ => Det.ob hW (d_nil rfl)⟩
    ·exact ⟨trivial, fun d _ vs w hW _ => Det.ob hW (bD cI (m := 0) sz3 rfl rfl rfl)⟩
    ·refine ⟨trivial, fun d j vs w hW _ => ?_⟩
     obtain rfl := ca j
     have hM : Mem w0 w [(b1, #[(vI k), (vI nm), (Value.slice ad ks.length cap)], 26), (b4, #[(vI k), (vI 0), lv, (vT [])], 112)] := hW.1
     exact Det.ob hW (bF Tryd.underlying3 rfl rfl (hM.cell 1 rfl rfl))
    ·exact ⟨⟨rfl, trivial⟩, fun d _ vs w hW _ => Det.ob hW (bC rfl)⟩
    ·exact ⟨trivial, fun d _ vs w hW _ => Det.ob hW (d_nil rfl)⟩
    ·exact ⟨trivial, fun d _ vs w hW _ => Det.ob hW (bD cI (m := 0) sz3 rfl rfl rfl)⟩
    ·refine ⟨trivial, fun d j vs w hW _ => ?_⟩
     obtain rfl := ca j
     have hM : Mem w0 w [(b1, #[(vI k), (vI nm), (Value.slice ad ks.length cap)], 26), (b4, #[(vI k), (vI 0), lv, (vT [])], 112)] := hW.1
     exact Det.ob hW (bF Tryd.underlying3 rfl rfl (hM.cell 1 rfl rfl))
    ·exact ⟨⟨rfl, trivial⟩, fun d _ vs w hW _ => Det.ob hW (bC rfl)⟩
    ·refine ⟨trivial, fun d j vs w hW _ => ?_⟩
     obtain rfl := ca j
     have hM : Mem w0 w [(b1, #[(vI k), (vI nm), (Value.slice ad ks.length cap)], 26), (b4, #[(vI k), (vI 0), lv, (vT [])], 112)] := hW.1
     exact Ok1.obc (fun w' g => ⟨Mem.call hW.1 g, hW.2.1.mv (Gr.ch g) (by simp), IsNs.mv (Gr.ch g) (by simp) (fun x hx => .inl hx) _ _ hW.2.2⟩) (a_ c83 rfl (iD hT hjoin E _ (Nat.le_trans hnb hM.below.size) (hT _ _ (hM.below.mono hnb) hw0) hW.2.1 (by simp) hW.2.2))
    ·exact ⟨trivial, fun d _ vs w hW _ => Det.ob hW (d_nil rfl)⟩
    ·exact ⟨trivial, fun d _ vs w hW _ => Det.ob hW (bD cI (m := 0) sz9 rfl rfl rfl)⟩
    ·refine ⟨trivial, fun d j vs w hW _ => ?_⟩
     obtain rfl := ca j
     have hM : Mem w0 w [(b1, #[(vI k), (vI nm), (Value.slice ad ks.length cap)], 26), (b4, #[(vI k), (vI 0), lv, (vT [])], 112)] := hW.1
     exact Ok1.obs (fun w' hu => by exact ⟨hM.upd 1 rfl hu, hW.2.1.mv hu.ch (fun y hy => by simp; exact fun e => A y hy e.symm), IsNs.mv hu.ch (by simp) (fun x hx => .inl hx) _ _ hW.2.2⟩) (dG (v := (vT (txt (.mk k 0 (ks.map nrm))))) sz9 rfl rfl rfl (hM.at 1 rfl) (Nat.le_of_ble_eq_true rfl))
   ·intro a w vs hW _ hF
    have hM : Mem w0 w [(b1, #[(vI k), (vI nm), (Value.slice ad ks.length cap)], 26), (b4, #[(vI k), (vI 0), lv, (vT (txt (.mk k 0 (ks.map nrm))))], 112)] := hW.1
    have c := hW.2.1
    have f := hW.2.2
    have hF := hF.sub (L' := [(1, (vp b1)), (3, lv), (6, (vp b4)), (8, (Value.slice ad ks.length cap)), (9, (vI (ks.length : Int))), (10, (vI (i : Int))), (11, (vB (decide ((i : Int) < (ks.length : Int))))), (27, (vB (decide (k = 1))))]) ⟨rfl, rfl, rfl, rfl, rfl, rfl, rfl, rfl, trivial⟩
    refine wp_seq ?_
    refine wp_region_lit ?_
    refine wl (bC rfl) rfl hF (fun a hF => ?_)
    refine wl (bA rfl) rfl hF (fun a hF => ?_)
    refine bx ?_
    refine wp_ret ?_
    refine bv hF (bw Tryd.results46 (RV.tmp hF rfl)) ?_
    have r : ∀ x, x ∈ X → ¬ w0.heap.size ≤ x := fun x hx => by have := hX x hx; omega
    refine ⟨IsN.mk' (fun hx => r _ hx (hM.new _ (List.mem_cons_of_mem _ (List.mem_cons_self ..)))) (hM.at 1 rfl) (by simp [q]) c (fun y hy hx => r y hx (c.lt y hy).1) (IsNs.mv (Ch.refl [] _) (by simp) (fun x hx => .inl (by simp [hx])) _ _ f), hM.below⟩
theorem gZ {T0 : World → Prop} {nb : Nat} (hT : ∀ w w', Below nb w w' → T0 w → T0 w') (hjoin : cG) (t : Tm) : WrT T0 t → ∀ (X : List Nat) (vs : List Value) (w : World), nb ≤ w.heap.size → T0 w → (∀ x, x ∈ X → x < w.heap.size) → IsT w X t vs → Calls Tryd.prog 46 (List.toArray [.agg vs.toArray]) w (Ret fun v w' => IsN w' X (nrm t) v ∧ Gr w w') := by
 refine Tm.ind (p := fun t => WrT T0 t → ∀ (X : List Nat) (vs : List Value) (w : World), nb ≤ w.heap.size → T0 w → (∀ x, x ∈ X → x < w.heap.size) → IsT w X t vs → Calls Tryd.prog 46 (List.toArray [.agg vs.toArray]) w (Ret fun v w' => IsN w' X (nrm t) v ∧ Gr w w')) ?_ t
 intro k nm ks ih hwr X vs w hnb hw0 hX ht
 simp only [WrT] at hwr
 simp only [IsT] at ht
 obtain ⟨sl, xs, rfl, h1, h2⟩ := ht
 obtain ⟨ad, cap, rfl, h3⟩ := h1.form
 exact mq hT hjoin hwr.1 hwr.2.1 (fun u hu => ih u hu (hwr.2.2.at u hu)) w hnb hw0 hX h3 h2
end Go.Mi.Term
namespace Go.Mi.Term
open Go.Mi Go.Proofs Go.RowKit
theorem IsN.mk2 {w : World} {X : List Nat} {b : Nat} {k n : Int} {ks : List Tm} {sl : Value} {ps : List Value} {t : TypeId} {f : Nat × Nat} (hb : b ∉ X) (hat : w.heap[b]? = some (.cells #[.int .i64 k, .int .i64 n, sl, .string (bs (txt (.mk k n ks)))] t f))
 (hsl : SlA w X sl ks.length ps) (hns : IsNs w X ks ps) : IsN w X (.mk k n ks) (.pointer (some ⟨b, 0, none⟩)) := by
 simp only [IsN]
 exact ⟨b, sl, ps, rfl, hb, At.of_blk hat, hsl, hns⟩
set_option maxRecDepth 100000 in
theorem jG {T0 : World → Prop} {nb : Nat} (hT : ∀ w w', Below nb w w' → T0 w → T0 w') (hjoin : cG) {k : Int} {ks : List Tm} (hw : WrK T0 k 0 ks) {X : List Nat} {ad : Option Addr} {cap : Nat} {ps : List Value} (w0 : World) (hnb : nb ≤ w0.heap.size) (hw0 : T0 w0) (hX : ∀ x, x ∈ X → x < w0.heap.size)
 (hsl : SlA w0 X (.slice ad ks.length cap) ks.length ps) (hns : IsNs w0 X ks ps) : Calls Tryd.prog 96 (List.toArray [.int .i64 k, .slice ad ks.length cap]) w0 (Ret fun v w' => IsN w' X (.mk k 0 ks) v ∧ Gr w0 w') := by
 have c : 0 < ks.length → ∃ b o, ad = some ⟨b, o, none⟩ ∧ b ∉ X ∧ At w0 b o ps := by
  obtain ⟨ad2, cap2, he, h⟩ := hsl.form
  cases he
  exact h
 refine co Tryd.func96 rfl Tryd.ntmps96 rfl fun a hF => ?_
 have hM := Mem.start w0
 have hF := hF.sub (L' := [(0, (vI k)), (1, (Value.slice ad ks.length cap))]) ⟨rfl, rfl, trivial⟩
 refine wp_seq ?_
 refine wp_region_lit ?_
 refine wl (bA rfl) rfl hF (fun a hF => ?_)
 refine bx ?_
 refine wp_seq ?_
 refine wp_region_lit ?_
 refine wl (bC rfl) rfl hF (fun a hF => ?_)
 refine wl (bC rfl) rfl hF (fun a hF => ?_)
 refine wl (bC rfl) rfl hF (fun a hF => ?_)
 refine wl (bC rfl) rfl hF (fun a hF => ?_)
 refine wlR (a_ c83 rfl (fA hT hjoin hw _ (Nat.le_trans hnb hM.below.size) (hT _ _ (hM.below.mono hnb) hw0) (fun h => by obtain ⟨b, o, h1, h2, h3⟩ := c h; exact ⟨b, o, h1, h2, h3.mv (Gr.ch hM.below) (by simp)⟩) (IsNs.mv (Gr.ch hM.below) (by simp) (fun x hx => .inl hx) _ _ hns))) rfl hF ?_
 rintro _ w a ⟨rfl, hg⟩ hF
 have hM := hM.call hg
 refine wl (dg (cells := #[(vI k), (vI 0), (Value.slice ad ks.length cap), (vT (txt (.mk k 0 ks)))]) cI vr (fun w => th w _ cI) rfl (tz rfl rfl rfl rfl)) rfl hF (fun a hF => ?_)
 refine wlR (dI rfl) rfl hF ?_
 rintro _ w a ⟨b1, rfl, hnb_⟩ hF
 have hM : Mem w0 w [(b1, #[(vI k), (vI 0), (Value.slice ad ks.length cap), (vT (txt (.mk k 0 ks)))], 112)] := hM.alloc hnb_
 refine wl (bA rfl) rfl hF (fun a hF => ?_)
 refine bx ?_
 refine wp_ret ?_
 refine bv hF (bw Tryd.results96 (RV.tmp hF rfl)) ?_
 have d : ∀ x, x ∈ X → ¬ w0.heap.size ≤ x := fun x hx => by have := hX x hx; omega
 exact ⟨IsN.mk2 (fun hx => d _ hx (hM.new _ (List.mem_cons_self ..))) (hM.at 0 rfl) (hsl.mv (Gr.ch hM.below) (by simp) (fun x hx => .inl hx)) (IsNs.mv (Gr.ch hM.below) (by simp) (fun x hx => .inl hx) _ _ hns), hM.below⟩
theorem MapIs.lt {w : World} {b : Nat} {m : bX} (h : MapIs w b m) : b < w.heap.size := by
 obtain ⟨es, c, h1, _⟩ := h
 rcases Nat.lt_or_ge b w.heap.size with h' | h'
 ·exact h'
 ·rw [Array.getElem?_eq_none h'] at h1; cases h1
theorem wi (w : World) : ∀ fs, Tryd.prog.underlying 116 = some (.struct fs) → (fs.mapM fun f => (do pure (f.offset, ← sizeOf f.type) : Sem (Nat × Nat))).run Tryd.prog w = .ok #[(0, 2), (2, 1), (3, 1)] w := by
 intro fs h
 rw [Tryd.underlying116] at h
 cases h
 obtain ⟨i1, h1, e1⟩ := Option.map_eq_some_iff.1 il
 obtain ⟨i2, h2, e2⟩ := Option.map_eq_some_iff.1 w9
 obtain ⟨i3, h3, e3⟩ := Option.map_eq_some_iff.1 lS
 simp [sizeOf, typeInfo, h1, h2, h3, e1, e2, e3]
theorem wK {z0 z1 z2 z3 a b : Value} {c : Option Addr} {d : Option Nat} : Instr.fill ((#[(0, 2), (2, 1), (3, 1)] : Array (Nat × Nat))[·]?) #[z0, z1, z2, z3] [(0, .agg #[a, b]), (1, .pointer c), (2, .map d)] = some #[a, b, .pointer c, .map d] := by
 simp [Instr.fill, Value.cells]
set_option maxRecDepth 100000 in
theorem l0 {dh kem : Bool} {br : Nat} (w0 : World) : Calls Tryd.prog 43 (List.toArray [.agg #[.bool dh, .bool kem], .pointer (some ⟨br, 0, none⟩)]) w0 (Ret fun v w' => (∃ bb bt, v = .pointer (some ⟨bb, 0, none⟩) ∧ w'.heap[bb]? = some (.cells #[.bool dh, .bool kem, .pointer (some ⟨br, 0, none⟩), .map (some bt)] 116 (0, 0)) ∧ MapIs w' bt [] ∧ w0.heap.size ≤ bb ∧ w0.heap.size ≤ bt ∧ bb ≠ bt) ∧ Gr w0 w') := by
 refine co Tryd.func43 rfl Tryd.ntmps43 rfl fun a hF => ?_
 have hM := Mem.start w0
 have hF := hF.sub (L' := [(0, (Value.agg (#[(vB dh), (vB kem)]))), (1, (vp br))]) ⟨rfl, rfl, trivial⟩
 refine wp_seq ?_
 refine wp_region_lit ?_
 refine wlR (dI rfl) rfl hF ?_
 rintro _ w a ⟨b1, rfl, hnb_⟩ hF
 have hM : Mem w0 w [(b1, #[(vB dh), (vB kem)], 31)] := hM.alloc hnb_
 refine wl (bA rfl) rfl hF (fun a hF => ?_)
 refine bx ?_
 refine wp_seq ?_
 refine wp_region_lit ?_
 refine wl (em u31 rfl il rfl (hM.at 0 rfl) rfl) rfl hF (fun a hF => ?_)
 refine wl (bC rfl) rfl hF (fun a hF => ?_)
 refine wlR jA rfl hF ?_
 rintro _ w a ⟨bt, rfl, hbt, b, hch⟩ hF
 have hMs := hM.below.size
 have hM := jf hM hch (by simp)
 have c := b.lt
 refine wl (dg (cells := #[(vB dh), (vB kem), (vp br), (Value.map (some bt))]) Tryd.underlying116 w5 (fun w => wi w _ Tryd.underlying116) rfl wK) rfl hF (fun a hF => ?_)
 refine wlR (dI rfl) rfl hF ?_
 rintro _ w a ⟨b2, rfl, hnb_⟩ hF
 have hM : Mem w0 w [(b1, #[(vB dh), (vB kem)], 31), (b2, #[(vB dh), (vB kem), (vp br), (Value.map (some bt))], 116)] := hM.alloc hnb_
 have hne := hnb_.num
 have b := b.mv hnb_.ch (by simp)
 refine wl (bA rfl) rfl hF (fun a hF => ?_)
 refine bx ?_
 refine wp_ret ?_
 refine bv hF (bw Tryd.results43 (RV.tmp hF rfl)) ?_
 refine ⟨⟨_, bt, rfl, hM.at 1 rfl, b, hM.new _ (List.mem_cons_of_mem _ (List.mem_cons_self ..)), by omega, by have := hch.size; have := c; omega⟩, hM.below⟩
set_option maxRecDepth 100000 in
theorem oR {T0 : World → Prop} {nb : Nat} (hT : ∀ w w', Below nb w w' → T0 w → T0 w') (hjoin : cG) {k nm : Int} {ks : List Tm} {t1 : Tm} {X : List Nat} {bc bn bk b1s o1s cap2 i : Nat} {ads : Option Addr} {tx : Tx} {xs : List Value} (hw : WrK T0 2 0 [t1]) (w0 : World) (hnb : nb ≤ w0.heap.size) (hw0 : T0 w0) (hX : ∀ x, x ∈ X → x < w0.heap.size)
 (hcap : w0.cell? ⟨bc, 0, none⟩ = some (.pointer (some ⟨bn, 0, none⟩))) (hatn : At w0 bn 0 [.int .i64 k, .int .i64 nm, .slice ads ks.length cap2, .string (bs tx)]) (hae : ads = some ⟨b1s, o1s, none⟩) (hats : At w0 b1s o1s xs) (hi : i < ks.length) (hxi : xs[i]? = some (.pointer (some ⟨bk, 0, none⟩))) (hnk : IsN w0 X t1 (.pointer (some ⟨bk, 0, none⟩))) :
 Calls Tryd.prog 95 (List.toArray [.int .i64 i, .pointer (some ⟨bc, 0, none⟩)]) w0 (Ret fun v w' => IsN w' X (bB t1) v ∧ Gr w0 w') := by
 refine co Tryd.func95 rfl Tryd.ntmps95 rfl fun a hF => ?_
 have hM := Mem.start w0
 have hF := hF.sub (L' := [(0, (vI (i : Int))), (1, (vp bc))]) ⟨rfl, rfl, trivial⟩
 refine wp_seq ?_
 refine wp_region_lit ?_
 refine wl (bA rfl) rfl hF (fun a hF => ?_)
 refine bx ?_
 refine wp_seq ?_
 refine wp_region_lit ?_
 refine wl (bF u83 rfl rfl hcap) rfl hF (fun a hF => ?_)
 refine wl (d_nil rfl) rfl hF (fun a hF => ?_)
 refine wl (bD cI (m := 0) cV rfl rfl rfl) rfl hF (fun a hF => ?_)
 refine wl (bF dH rfl rfl (hatn 2 _ rfl)) rfl hF (fun a hF => ?_)
 refine wl (bC rfl) rfl hF (fun a hF => ?_)
 refine wl (kx (b := b1s) (o := o1s) (j := i) dH iN (by rw [← hae]; rfl) rfl rfl hi) rfl hF (fun a hF => ?_)
 refine wl (bF u83 rfl rfl (hats i _ hxi)) rfl hF (fun a hF => ?_)
 refine wlR (bU (cells := #[(vp bk)]) dH lC rfl (by decide) (by decide) (by kernel_rfl)) rfl hF ?_
 rintro _ w a ⟨b1, rfl, hnb_⟩ hF
 have hM : Mem w0 w [(b1, #[(vp bk)], 83)] := hM.alloc hnb_
 have c : SlA w X (.slice (some ⟨b1, 0, none⟩) [t1].length 1) [t1].length [Value.pointer (some ⟨bk, 0, none⟩)] := .inr ⟨b1, 0, 0, rfl, fun hx => by have h1_ := hX _ hx; have h2_ := hnb_.num; omega, hM.lt (List.mem_cons_self ..), At.of_blk (hM.at 0 rfl)⟩
 refine wlR (a_ c96 rfl (jG (k := 2) (ks := [t1]) (X := X) hT hjoin hw _ (Nat.le_trans hnb hM.below.size) (hT _ _ (hM.below.mono hnb) hw0) (fun x hx => Nat.lt_of_lt_of_le (hX x hx) hM.below.size) c (IsNs.one (IsN.mv hnb_.ch (by simp) (fun x hx => .inl hx) _ _ hnk)))) rfl hF ?_
 rintro pv w a ⟨hpv, hg⟩ hF
 have hM := hM.call hg
 refine wl (bA rfl) rfl hF (fun a hF => ?_)
 refine bx ?_
 refine wp_ret ?_
 refine bv hF (bw Tryd.results95 (RV.tmp hF rfl)) ?_
 exact ⟨hpv, hM.below⟩
end Go.Mi.Term
namespace Go.Mi.Term
open Go.Mi Go.Proofs Go.RowKit
theorem rI {T0 : World → Prop} {t : Tm} (h : cz t ≤ 1099511600000) : WrK T0 2 0 [t] := by
  refine ⟨by omega, by omega, fun _ => by simp, by omega, ?_⟩
  simp only [List.map_cons, List.map_nil, List.sum_cons, List.sum_nil, List.length_cons, List.length_nil]
  unfold cz at h
  omega
theorem iS {T0 : World → Prop} {k : Int} {a b : Tm} (hk : 3 ≤ k ∧ k ≤ 9) (h : cz a + cz b ≤ 1099511600000) : WrK T0 k 0 [a, b] := by
  refine ⟨by omega, by omega, fun _ => by simp, fun _ => by simp, ?_⟩
  simp only [List.map_cons, List.map_nil, List.sum_cons, List.sum_nil, List.length_cons, List.length_nil]
  unfold cz at h
  omega
theorem wO {z a b : Value} (ha : a.cells = #[a]) (hb : b.cells = #[b]) : Instr.fill (fun i => some (i * 1, 1)) ((Array.range (2 * 1)).map (z.cells[· % z.cells.size]!)) [(0, a), (1, b)] = some #[a, b] := by
  simp [Instr.fill, ha, hb]
  apply Array.ext'
  simp [Array.toList_setIfInBounds, Array.toList_map, Array.toList_range, List.range_succ]
def Bd (w : World) (W : Wd) (met : bX) (bb bt br bm : Nat) (rl : Value) : Prop :=
  At w bb 0 [.bool W.dh, .bool W.kem, .pointer (some ⟨br, 0, none⟩), .map (some bt)] ∧ At w br 0 [rl, .map (some bm)] ∧ MapIs w bm met ∧ bb ≠ bt ∧ br ≠ bt ∧ bm ≠ bt
theorem Bd.mv {w w' : World} {W : Wd} {met : bX} {bb bt br bm : Nat} {rl : Value} {Y : List Nat} (h : Bd w W met bb bt br bm rl) (k : Ch Y w w') (h1 : bb ∉ Y) (h2 : br ∉ Y) (h3 : bm ∉ Y) : Bd w' W met bb bt br bm rl :=
  ⟨h.1.mv k h1, h.2.1.mv k h2, h.2.2.1.mv k h3, h.2.2.2⟩
def dc (T0 : World → Prop) (nb : Nat) (W : Wd) (met : bX) (f : Nat) : Prop :=
  ∀ (l : List Tm) (m m' : bX) (r : Bool) (bb bt br bm : Nat) (rl : Value) (ad : Option Addr) (cap : Nat) (xs : List Value) (w : World), l.length ≤ 1000 → bl W met f l m = some (r, m') → (∀ t, t ∈ l → Fit t) → nb ≤ w.heap.size → nb ≤ bt → T0 w → Bd w W met bb bt br bm rl → MapIs w bt m →
    SlA w [bt] (.slice ad l.length cap) l.length xs → IsNs w [bt] l xs → Calls Tryd.prog 45 (List.toArray [.pointer (some ⟨bb, 0, none⟩), .slice ad l.length cap]) w (Ret fun v w' => v = .bool r ∧ MapIs w' bt m' ∧ Ch [bt] w w')
def jg (T0 : World → Prop) (nb : Nat) (W : Wd) (met : bX) (f : Nat) : Prop :=
  ∀ (t : Tm) (m m' : bX) (r : Bool) (bb bt br bm bn : Nat) (rl : Value) (w : World), cX W met f (cr W t) m = some (r, m') → Fit t → nb ≤ w.heap.size → nb ≤ bt → T0 w → Bd w W met bb bt br bm rl → MapIs w bt m → IsN w [bt] t (.pointer (some ⟨bn, 0, none⟩)) →
    Calls Tryd.prog 82 (List.toArray [.pointer (some ⟨bb, 0, none⟩), .pointer (some ⟨bn, 0, none⟩)]) w (Ret fun v w' => v = .bool r ∧ MapIs w' bt m' ∧ Ch [bt] w w')
theorem IsNs.two {w : World} {X : List Nat} {a b : Tm} {xs : List Value} (h : IsNs w X [a, b] xs) : ∃ va vb, xs = [va, vb] ∧ IsN w X a va ∧ IsN w X b vb := by
  simp only [IsNs] at h
  obtain ⟨va, _, rfl, ha, vb, _, rfl, hb, rfl⟩ := h
  exact ⟨va, vb, rfl, ha, hb⟩
theorem IsNs.of_two {w : World} {X : List Nat} {a b : Tm} {va vb : Value} (ha : IsN w X a va) (hb : IsN w X b vb) : IsNs w X [a, b] [va, vb] := by
  simp only [IsNs]
  exact ⟨va, [vb], rfl, ha, vb, [], rfl, hb, rfl⟩
theorem IsN.open {w : World} {X : List Nat} {k n : Int} {ks : List Tm} {bn : Nat} (h : IsN w X (.mk k n ks) (.pointer (some ⟨bn, 0, none⟩))) : ∃ sl xs, bn ∉ X ∧ At w bn 0 [.int .i64 k, .int .i64 n, sl, .string (bs (txt (.mk k n ks)))] ∧ SlA w X sl ks.length xs ∧ IsNs w X ks xs := by
  simp only [IsN] at h
  obtain ⟨b, sl, xs, h1, h2, h3, h4, h5⟩ := h
  cases h1
  exact ⟨sl, xs, h2, h3, h4, h5⟩
theorem IsN.ptr {w : World} {X : List Nat} {t : Tm} {v : Value} (h : IsN w X t v) : ∃ b, v = .pointer (some ⟨b, 0, none⟩) ∧ b ∉ X ∧ IsN w X t (.pointer (some ⟨b, 0, none⟩)) := by
  obtain ⟨b, k, n, sl, rfl, hb, _⟩ := h.form
  exact ⟨b, rfl, hb, h⟩
theorem SlA.some {w : World} {X : List Nat} {v : Value} {n : Nat} {xs : List Value} (h : SlA w X v n xs) (hn : 0 < n) : ∃ b o cap, v = .slice (some ⟨b, o, none⟩) n cap ∧ b ∉ X ∧ b < w.heap.size ∧ At w b o xs := by
  rcases h with ⟨_, rfl, _⟩ | ⟨b, o, cap, h⟩
  · omega
  · exact ⟨b, o, _, h⟩
section
variable {P : Program} {n : Nat} {L : List (Nat × Value)} {w : World} {ds : Option Nat} {ty : TypeId} {pos : String} {af : Array Edge} {gu : Option (Nat × Bool)}
theorem gI {fn : Fn} {fs xs : Array Operand} {us vs : List Value} (hf : evs L fs.toList = some us) (hx : evs L xs.toList = some vs) : Det P ⟨ds, .makeFunc fn fs xs, ty, pos, af, gu⟩ n L w (.func fn us.toArray vs.toArray) w :=
  Det.of_run fun a hF => by
    have h1 : xs.map a.eval = vs.toArray := by rw [← hF.evals hx, ← List.map_toArray]
    have h2 : fs.map a.eval = us.toArray := by rw [← hF.evals hf, ← List.map_toArray]
    simp [execOp, Instr.makeFunc, h1, h2]
end
end Go.Mi.Term
