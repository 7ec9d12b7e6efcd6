/- Texts that belong together: H10, W14. General lemmas and walks; no conditions. -/
import Derived.Test.YtoefhjabaanokaaDoorE2
import Derived.Test.YtoefhjabaanokaaDoorB6
set_option linter.unusedSimpArgs false
set_option linter.unusedVariables false
set_option linter.unnecessarySimpa false
namespace Go.Mi
open Go.RowKit
theorem Ch.trans' {Y Z : List Nat} {a b c : World} (h : Ch Y a b) (k : Ch Z b c) (hz : ∀ z, z ∈ Z → z ∈ Y ∨ a.heap.size ≤ z) : Ch Y a c :=
  ⟨k.os.trans h.os, k.tape.trans h.tape, k.output.trans h.output, Nat.le_trans h.size k.size, fun i hi hn => (k.blk i (Nat.lt_of_lt_of_le hi h.size) fun hm => by rcases hz i hm with h | h; exact hn h; omega).trans (h.blk i hi hn)⟩
section
variable {P : Program} {n : Nat} {L : List (Nat × Value)} {w : World} {ds : Option Nat} {ty : TypeId} {pos : String} {af : Array Edge} {gu : Option (Nat × Bool)}
theorem mn {s x : Operand} {t e : TypeId} {z : Value} {base bytes n' c b o : Nat} {v u : Value} {xs : List Value} (ht : P.underlying t = some (.slice e)) (hi : (P.info? e).map (fun i => (i.size, i.bytes, i.zero)) = some (1, bytes, some z))
    (hzs : z.cells.size = 1) (hs : ev L s = some v) (hx : ev L x = some (.slice (some ⟨b, o, none⟩) 1 c)) (hown : Own w base e 1 v n' xs)
    (hn : At w b o [u]) (h1 : u.oneCell' = true) (hby : (n' + 1) * bytes ≤ 140737488355328) (h63 : n' + 1 ≤ maxLen) (hbase : base ≤ w.heap.size) :
    Ok1 P ⟨ds, .call ⟨.builtin .append, #[s, x], #[t, t]⟩, ty, pos, af, gu⟩ n L w fun v' w' => Own w' base e 1 v' (n' + 1) (xs ++ [u]) ∧ Ch (bE v) w w' ∧ (bE v' = bE v ∨ bE v' = [w.heap.size]) ∧ (∀ g, g ∈ bE v → At w' g 0 xs) := by
  obtain ⟨m, A, hz⟩ := Option.map_eq_some_iff.1 hi
  simp only [Prod.mk.injEq] at hz
  obtain ⟨f, C, D⟩ := hz
  have hl : [u].length = 1 * 1 := rfl
  have B : ∀ (j : Nat) (q : Value), [u][j]? = some q → w.cell? ((⟨b, o, none⟩ : Addr).add j) = some q := fun j q hq => by rw [dq]; exact hn j q hq
  have E : ∀ q ∈ [u], q.oneCell' = true := fun q hq => by simp at hq; subst hq; exact h1
  obtain ⟨v', w', hr, h2, h3, h4, h5⟩ := run_append_own_at (P := P) w base t ty e m z 1 bytes ht A D f C hzs (by omega) v n' xs hown ⟨b, o, none⟩ 1 c [u] hl B E h63 hby hbase
  have p : ∀ g, g ∈ bE v → At w' g 0 xs := by
    intro g hg
    rcases hown.2 with ⟨rfl, rfl⟩ | ⟨g', cap, cur, rfl, hbg, hgb, hnc, hcm, hcs, htake⟩
    · simp [bE] at hg
    · simp only [bE, List.mem_singleton] at hg
      subst hg
      have l : At w g 0 xs := by
        rcases hown.at with ⟨h, _⟩ | ⟨b', cap', h, _, ha⟩
        · cases h
        · cases h; exact ha
      by_cases hroom : n' + 1 ≤ cap
      · have d := run_append_room (P := P) w t ty e m ht A g n' cap cur hgb ⟨b, o, none⟩ 1 c [u] (by rw [f]; rfl) B E hroom (by rw [f, hcs]; simp; omega)
        rw [hr] at d
        cases d
        rcases Own.at h2 with ⟨h, _⟩ | ⟨b', cap', h, _, ha⟩
        · cases h
        · cases h
          exact (At.app.1 ha).1
      · have y : ∀ (j : Nat) (q : Value), xs[j]? = some q → w.cell? ((⟨g, 0, none⟩ : Addr).add j) = some q := fun j q hq => by rw [dq]; exact l j q hq
        have d := run_append_grow (P := P) w t ty e m z ht A D ⟨g, 0, none⟩ n' cap xs (by rw [f]; exact hown.1) y ⟨b, o, none⟩ 1 c [u] (by rw [f]; rfl) B (by omega) (by simp only [maxLen] at h63; omega) (by rw [C]; exact growslice_fits (by simp only [maxLen] at h63; omega) hby)
        rw [hr] at d
        cases d
        have hg' : g < w.heap.size := by
          rcases Nat.lt_or_ge g w.heap.size with h' | h'
          · exact h'
          · rw [Array.getElem?_eq_none h'] at hgb; cases hgb
        refine l.mv (Y := []) ⟨rfl, rfl, rfl, by simp, fun k hk _ => heap_alloc_old w.drew _ k hk⟩ (by simp)
  have hd : Det P ⟨ds, .call ⟨.builtin .append, #[s, x], #[t, t]⟩, ty, pos, af, gu⟩ n L w v' w' := Det.of_run fun a hF => by
    simp [execOp, hF.eval hs, hF.eval hx, resolve, invoke, builtin, hr]
  refine hd.mono fun r w'' ⟨ha, hb⟩ => ?_
  subst ha; subst hb
  have ob : ∀ u : Value, ∀ g, u.ownBlock = some g ↔ bE u = [g] := by
    intro u g
    cases u with
    | slice a _ _ => cases a <;> simp [Value.ownBlock, bE]
    | _ => simp [Value.ownBlock, bE]
  have F : ∀ u : Value, u.ownBlock = none ↔ bE u = [] := by
    intro u
    cases u with
    | slice a _ _ => cases a <;> simp [Value.ownBlock, bE]
    | _ => simp [Value.ownBlock, bE]
  refine ⟨h2, ⟨h3.os, h3.tape, h3.output, h3.size, fun g hg hn => h3.block g hg fun he => hn ?_⟩, ?_, p⟩
  · rw [(ob v g).1 he.symm]; simp
  · rcases h5 with h5 | h5
    · left
      cases hv : v.ownBlock with
      | none => rw [(F v).1 hv, (F r).1 (h5.trans hv)]
      | some g => rw [(ob v g).1 hv, (ob r g).1 (h5.trans hv)]
    · right; exact (ob r _).1 h5
end
end Go.Mi
namespace Go.Mi.Term
open Go.Mi Go.Proofs Go.RowKit
structure RwIs (w : World) (base : Nat) (X : List Nat) (br bm : Nat) (lv : Value) (r : Rw) : Prop where
  st : w.heap[br]? = some (.cells #[lv, .map (some bm)] 118 (0, 0))
  met : MapIs w bm r.met
  own : ∃ xs, Own w base 83 1 lv r.l.length xs ∧ IsNs w (bE lv ++ X) r.l xs
  nr : br ∉ bE lv
  nm : bm ∉ bE lv
  ne : br ≠ bm
theorem RwIs.lt {w : World} {base : Nat} {X : List Nat} {br bm : Nat} {lv : Value} {r : Rw} (h : RwIs w base X br bm lv r) : br < w.heap.size := by
  rcases Nat.lt_or_ge br w.heap.size with h' | h'
  · exact h'
  · have := h.st; rw [Array.getElem?_eq_none h'] at this; cases this
theorem RwIs.mv {w w' : World} {base : Nat} {X Y : List Nat} {br bm : Nat} {lv : Value} {r : Rw} (h : RwIs w base X br bm lv r) (k : Ch Y w w') (hy : ∀ y, y ∈ Y → y ∈ X) (h1 : br ∉ Y) (h2 : bm ∉ Y) (h3 : ∀ y, y ∈ bE lv → y ∉ Y) : RwIs w' base X br bm lv r := by
  obtain ⟨xs, h4, h5⟩ := h.own
  exact ⟨k.blk0 h.st h1, h.met.mv k h2, ⟨xs, h4.mv k h3, IsNs.mv k (fun y hm => List.mem_append_right _ (hy y hm)) (fun x hx => .inl hx) _ _ h5⟩, h.nr, h.nm, h.ne⟩
def RwTo (w w' : World) (base : Nat) (X : List Nat) (br bm : Nat) (lv : Value) (r r' : Rw) (lv' : Value) : Prop :=
  RwIs w' base X br bm lv' r' ∧ Ch (br :: bm :: bE lv) w w' ∧ (bE lv' = bE lv ∨ ∀ y, y ∈ bE lv' → w.heap.size ≤ y) ∧ r.l.length ≤ r'.l.length ∧
    (∀ g xs0, g ≠ br → g ≠ bm → (g ∈ bE lv → xs0.length ≤ r.l.length) → At w g 0 xs0 → At w' g 0 xs0)
theorem RwTo.refl {w : World} {base : Nat} {X : List Nat} {br bm : Nat} {lv : Value} {r : Rw} (h : RwIs w base X br bm lv r) : RwTo w w base X br bm lv r r lv :=
  ⟨h, Ch.refl _ _, .inl rfl, Nat.le_refl _, fun _ _ _ _ _ h => h⟩
theorem RwTo.trans {w w1 w2 : World} {base : Nat} {X : List Nat} {br bm : Nat} {lv lv1 lv2 : Value} {r r1 r2 : Rw} (h : RwTo w w1 base X br bm lv r r1 lv1) (k : RwTo w1 w2 base X br bm lv1 r1 r2 lv2) : RwTo w w2 base X br bm lv r r2 lv2 := by
  obtain ⟨_, h2, h3, h4, h5⟩ := h
  obtain ⟨k1, k2, k3, k4, k5⟩ := k
  refine ⟨k1, h2.trans' k2 fun y hy => ?_, ?_, by omega, fun g xs0 hg1 hg2 hl ha => ?_⟩
  · simp only [List.mem_cons] at hy ⊢
    rcases hy with hy | hy | hy
    · exact .inl (.inl hy)
    · exact .inl (.inr (.inl hy))
    · rcases h3 with h3 | h3
      · rw [h3] at hy; exact .inl (.inr (.inr hy))
      · exact .inr (h3 y hy)
  · rcases k3 with k3 | k3
    · rw [k3]; exact h3
    · exact .inr fun y hy => Nat.le_trans h2.size (k3 y hy)
  · refine k5 g xs0 hg1 hg2 (fun hm => ?_) (h5 g xs0 hg1 hg2 hl ha)
    rcases h3 with h3 | h3
    · rw [h3] at hm; have := hl hm; omega
    · have := h3 g hm
      cases xs0 with
      | nil => simp
      | cons x xs0 => have := ha.lt; omega
theorem RwTo.ns {w w' : World} {base : Nat} {X : List Nat} {br bm : Nat} {lv lv' : Value} {r r' : Rw} (h : RwTo w w' base X br bm lv r r' lv') (hr : br ∈ X) (hm : bm ∈ X) {ts : List Tm} {xs : List Value} (hn : IsNs w (bE lv ++ X) ts xs) : IsNs w' (bE lv' ++ X) ts xs := by
  refine IsNs.mv h.2.1 (fun y hy => ?_) (fun x hx => ?_) _ _ hn
  · simp only [List.mem_cons, List.mem_append] at hy ⊢
    rcases hy with rfl | rfl | hy
    · exact .inr hr
    · exact .inr hm
    · exact .inl hy
  · simp only [List.mem_append] at hx ⊢
    rcases hx with hx | hx
    · rcases h.2.2.1 with h3 | h3
      · rw [h3] at hx; exact .inl (.inl hx)
      · exact .inr (h3 x hx)
    · exact .inl (.inr hx)
theorem RwTo.n {w w' : World} {base : Nat} {X : List Nat} {br bm : Nat} {lv lv' : Value} {r r' : Rw} (h : RwTo w w' base X br bm lv r r' lv') (hr : br ∈ X) (hm : bm ∈ X) {t : Tm} {v : Value} (hn : IsN w (bE lv ++ X) t v) : IsN w' (bE lv' ++ X) t v := by
  have := h.ns hr hm (IsNs.one hn)
  simp only [IsNs] at this
  obtain ⟨v', _, h1, h2, rfl⟩ := this
  cases h1
  exact h2
theorem qd {w w' : World} {g : Nat} {xs xs0 : List Value} (h : At w g 0 xs) (h' : At w' g 0 xs) (hl : xs0.length ≤ xs.length) (h0 : At w g 0 xs0) : At w' g 0 xs0 := fun i u hu => by
  have hi : i < xs.length := by
    rcases Nat.lt_or_ge i xs0.length with h | h
    · omega
    · rw [List.getElem?_eq_none h] at hu; cases hu
  have h1 := h i _ (List.getElem?_eq_getElem hi)
  rw [h0 i u hu] at h1
  cases h1
  exact h' i _ (List.getElem?_eq_getElem hi)
end Go.Mi.Term
namespace Go.Mi
open Go.RowKit
theorem dv {P : Program} {a : Act} {w : World} {fn : Func} (h : fn.results = #[]) : (results fn a.tmps).run P w = .ok (.tuple #[]) w := by
  rw [gB, h]
  simp
end Go.Mi
namespace Go.Mi.Term
open Go.Mi Go.Proofs Go.RowKit
set_option linter.unusedVariables false
theorem o3 {w : World} {b : Nat} {x : Obj} (h : w.heap[b]? = some x) : b < w.heap.size := by
 rcases Nat.lt_or_ge b w.heap.size with h' | h'
 ·exact h'
 ·rw [Array.getElem?_eq_none h'] at h; cases h
theorem oV {w : World} {base m n : Nat} {e : TypeId} {v : Value} {xs : List Value} (h : Own w base e m v n xs) : v.oneCell' = true := by
 rcases h.at with ⟨rfl, _⟩ | ⟨b, cap, rfl, _⟩ <;> rfl
theorem qe {w : World} {base m n g : Nat} {e : TypeId} {v : Value} {xs : List Value} (h : Own w base e m v n xs) (hg : g ∈ bE v) : At w g 0 xs := by
 rcases h.at with ⟨rfl, _⟩ | ⟨b, cap, rfl, _, ha⟩
 ·simp [bE] at hg
 ·simp [bE] at hg; subst hg; exact ha
set_option maxRecDepth 100000 in
set_option maxHeartbeats 4000000 in
theorem fN {base : Nat} {X : List Nat} {br bm bn : Nat} {lv : Value} {r : Rw} {n : Tm} (w0 : World) (hbase : base ≤ w0.heap.size) (hX1 : br ∈ X) (hX2 : bm ∈ X) (hr : RwIs w0 base X br bm lv r) (hn1 : IsN w0 (bE lv ++ X) n (.pointer (some ⟨bn, 0, none⟩))) (hlen : r.l.length ≤ 1099511627776) :
 Calls Tryd.prog 79 (List.toArray [.pointer (some ⟨br, 0, none⟩), .pointer (some ⟨bn, 0, none⟩)]) w0 (Ret fun v w' => v = .tuple #[] ∧ ∃ lv', RwTo w0 w' base X br bm lv r (r.add n) lv') := by
 obtain ⟨i, c, ⟨xs, e, p⟩, L, K, R⟩ := hr
 have I := e
 have d : ∀ g f, g ≠ br → g ≠ bm → (g ∈ bE lv → f.length ≤ r.l.length) → At w0 g 0 f → At w0 g 0 f := fun _ _ _ _ _ h => h
 obtain ⟨bn', kn, nn, sn, he, J, j⟩ := hn1.form
 cases he
 simp only [List.mem_append, not_or] at J
 have hbn1 := J.1
 have hbnm : bn ≠ bm := fun h => J.2 (h ▸ hX2)
 refine co Tryd.func79 rfl Tryd.ntmps79 rfl fun ac hF => ?_
 have hC : Ch (br :: bm :: bE lv) w0 w0 := Ch.refl _ _
 have hF := hF.sub (L' := [(0, (vp br)), (1, (vp bn))]) ⟨rfl, rfl, trivial⟩
 refine wp_seq ?_
 obtain ⟨H, z⟩ : ∃ A : (Nat → Value) → World → Prop, A = fun _ w => (Ch (br :: bm :: bE lv) w0 w) ∧ (w.heap[br]? = some (.cells #[lv, (Value.map (some bm))] 118 (0, 0))) ∧ (MapIs w bm r.met) ∧ (At w bn 0 [(vI kn), (vI nn), sn, (vT (txt n))]) ∧ (Own w base 83 1 lv r.l.length xs) ∧ (IsNs w (bE lv ++ X) r.l xs) ∧ (IsN w (bE lv ++ X) n (.pointer (some ⟨bn, 0, none⟩))) ∧ (∀ g f, g ≠ br → g ≠ bm → (g ∈ bE lv → f.length ≤ r.l.length) → At w0 g 0 f → At w g 0 f) ∧ True := ⟨_, rfl⟩
 refine eK mo (fun p_ H_ w_ => (([H] : List ((Nat → Value) → World → Prop)).getD p_ (fun _ _ => True)) H_ w_) [] (rows := [hr_ [] [(0, (vp br))] [0] (vp br), hr_ [(0, 4)] [] [0] (vp br), hr_ [(1, 5)] [] [0] (vP br 1), hr_ [(2, 6)] [] [0] (Value.map (some bm)), hr_ [] [(1, (vp bn))] [0] (vp bn), hr_ [(4, 8)] [] [0] (vp bn), hr_ [(5, 9)] [] [0] (vP bn 3), hr_ [(6, 10)] [] [0] (vT (txt n)), hr_ [(3, 7), (7, 11)] [] [0] (vI (tl r.met (txt n))), hr_ [(8, 12)] [] [0] (vB (decide ((tl r.met (txt n)) = 0)))]) (by kernel_rfl) hF (fun H_ => ?_) ?_ ?_
 ·have a := Ch.drew w0
  have B : H H_ { w0 with drawn := w0.drawn + 1 } := by rw [z]; exact ⟨hC.trans (a.mono (by intro y hy; first | (simp at hy; done) | (simpa using hy; done) | (simp [hy]; done) | (simp at hy; simp [hy]; done))), Ch.blk0 a i (by first | assumption | (simp <;> omega)), c.mv a (by first | assumption | (simp <;> omega)), j.mv a (by first | assumption | (simp <;> omega)), e.mv a (fun b hb => by first | (simp; done) | (simp; intro h; subst h; contradiction)), IsNs.mv a (fun y hy => by first | (simp at hy; done) | (simp at hy; subst hy; simp [hX1, hX2])) (fun x hx => .inl hx) _ _ p, IsN.mv a (fun y hy => by first | (simp at hy; done) | (simp at hy; subst hy; simp [hX1, hX2])) (fun x hx => .inl hx) _ _ hn1, (fun g f q s C D => (d g f q s C D).mv a (by first | (simp; done) | (simp [q, s]; done))), trivial⟩
  exact B
 ·refine ⟨?_, ?_, ?_, ?_, ?_, ?_, ?_, ?_, ?_, ?_, trivial⟩
  ·exact HOb.pure ⟨rfl, trivial⟩ rfl rfl (fun _ _ => bC rfl)
  ·exact HOb.pure trivial rfl rfl (fun _ _ => d_nil rfl)
  ·exact HOb.pure trivial rfl rfl (fun _ _ => bD Tryd.underlying118 (m := 0) lS rfl rfl rfl)
  ·exact HOb.fact z trivial rfl rfl rfl rfl (fun H1 w ⟨_, i, _⟩ => bF Tryd.underlying114 rfl rfl ((At.of_blk i) 1 _ rfl))
  ·exact HOb.pure ⟨rfl, trivial⟩ rfl rfl (fun _ _ => bC rfl)
  ·exact HOb.pure trivial rfl rfl (fun _ _ => d_nil rfl)
  ·exact HOb.pure trivial rfl rfl (fun _ _ => bD Tryd.underlying112 (m := 0) sz9 rfl rfl rfl)
  ·exact HOb.fact z trivial rfl rfl rfl rfl (fun H1 w ⟨_, _, _, j, _⟩ => bF Tryd.underlying9 rfl rfl (j 3 _ rfl))
  ·exact HOb.fact z trivial rfl rfl rfl rfl (fun H1 w ⟨_, _, c, _⟩ => hP (m := r.met) (k := txt n) Tryd.underlying114 Tryd.underlying9 (by kernel_rfl) rfl rfl c)
  ·exact HOb.pure trivial rfl rfl (fun _ _ => dN rfl rfl)
 ·intro ac w H1 hW hF
  replace hW : H H1 w := hW
  rw [z] at hW
  obtain ⟨hC, i, c, j, e, p, hn1, d, _⟩ := hW
  clear z H
  have hF := hF.sub (L' := [(0, (vp br)), (1, (vp bn)), (13, (vB (decide ((tl r.met (txt n)) = 0))))]) ⟨rfl, rfl, rfl, trivial⟩
  refine bz ?_
  refine cn hF rfl (fun h => ?_) (fun h => ?_)
  ·have h0 := of_decide_eq_true h
   clear h
   refine wp_seq ?_
   obtain ⟨E, t⟩ : ∃ A : (Nat → Value) → World → Prop, A = fun _ w => (Ch (br :: bm :: bE lv) w0 w) ∧ (w.heap[br]? = some (.cells #[lv, (Value.map (some bm))] 118 (0, 0))) ∧ (MapIs w bm r.met) ∧ (At w bn 0 [(vI kn), (vI nn), sn, (vT (txt n))]) ∧ (Own w base 83 1 lv r.l.length xs) ∧ (IsNs w (bE lv ++ X) r.l xs) ∧ (IsN w (bE lv ++ X) n (.pointer (some ⟨bn, 0, none⟩))) ∧ (∀ g f, g ≠ br → g ≠ bm → (g ∈ bE lv → f.length ≤ r.l.length) → At w0 g 0 f → At w g 0 f) ∧ True := ⟨_, rfl⟩
   obtain ⟨G, F⟩ : ∃ A : (Nat → Value) → World → Prop, A = fun _ w => (Ch (br :: bm :: bE lv) w0 w) ∧ (w.heap[br]? = some (.cells #[lv, (Value.map (some bm))] 118 (0, 0))) ∧ (MapIs w bm (st r.met (txt n) 1)) ∧ (At w bn 0 [(vI kn), (vI nn), sn, (vT (txt n))]) ∧ (Own w base 83 1 lv r.l.length xs) ∧ (IsNs w (bE lv ++ X) r.l xs) ∧ (IsN w (bE lv ++ X) n (.pointer (some ⟨bn, 0, none⟩))) ∧ (∀ g f, g ≠ br → g ≠ bm → (g ∈ bE lv → f.length ≤ r.l.length) → At w0 g 0 f → At w g 0 f) ∧ True := ⟨_, rfl⟩
   refine eK mo (fun p_ H_ w_ => (([E, G] : List ((Nat → Value) → World → Prop)).getD p_ (fun _ _ => True)) H_ w_) [10] (rows := [hr_ [] [(0, (vp br))] [0] (vp br), hr_ [(0, 14)] [] [0] (vp br), hr_ [(1, 15)] [] [0] (vP br 1), hr_ [(2, 16)] [] [0] (Value.map (some bm)), hr_ [] [(1, (vp bn))] [0] (vp bn), hr_ [(4, 18)] [] [0] (vp bn), hr_ [(5, 19)] [] [0] (vP bn 3), hr_ [(6, 20)] [] [0] (vT (txt n)), hr_ [(3, 17), (7, 21)] [] [0] (vI (tl r.met (txt n))), hr_ [(8, 22)] [] [0] (vI 1), ⟨[(3, 17), (7, 21), (9, 23)], [], [0], [10], fun H2 => H2 10, fun H2 K_ h_ => by simp only [h_ 10 (by simp)]⟩]) (by kernel_rfl) hF (fun H_ => ?_) ?_ ?_
   ·have a := Ch.drew w
    have B : E H_ { w with drawn := w.drawn + 1 } := by rw [t]; exact ⟨hC.trans (a.mono (by intro y hy; first | (simp at hy; done) | (simpa using hy; done) | (simp [hy]; done) | (simp at hy; simp [hy]; done))), Ch.blk0 a i (by first | assumption | (simp <;> omega)), c.mv a (by first | assumption | (simp <;> omega)), j.mv a (by first | assumption | (simp <;> omega)), e.mv a (fun b hb => by first | (simp; done) | (simp; intro h; subst h; contradiction)), IsNs.mv a (fun y hy => by first | (simp at hy; done) | (simp at hy; subst hy; simp [hX1, hX2])) (fun x hx => .inl hx) _ _ p, IsN.mv a (fun y hy => by first | (simp at hy; done) | (simp at hy; subst hy; simp [hX1, hX2])) (fun x hx => .inl hx) _ _ hn1, (fun g f q s C D => (d g f q s C D).mv a (by first | (simp; done) | (simp [q, s]; done))), trivial⟩
    exact B
   ·refine ⟨?_, ?_, ?_, ?_, ?_, ?_, ?_, ?_, ?_, ?_, ?_, trivial⟩
    ·exact HOb.pure ⟨rfl, trivial⟩ rfl rfl (fun _ _ => bC rfl)
    ·exact HOb.pure trivial rfl rfl (fun _ _ => d_nil rfl)
    ·exact HOb.pure trivial rfl rfl (fun _ _ => bD Tryd.underlying118 (m := 0) lS rfl rfl rfl)
    ·exact HOb.fact t trivial rfl rfl rfl rfl (fun H2 w ⟨_, i, _⟩ => bF Tryd.underlying114 rfl rfl ((At.of_blk i) 1 _ rfl))
    ·exact HOb.pure ⟨rfl, trivial⟩ rfl rfl (fun _ _ => bC rfl)
    ·exact HOb.pure trivial rfl rfl (fun _ _ => d_nil rfl)
    ·exact HOb.pure trivial rfl rfl (fun _ _ => bD Tryd.underlying112 (m := 0) sz9 rfl rfl rfl)
    ·exact HOb.fact t trivial rfl rfl rfl rfl (fun H2 w ⟨_, _, _, j, _⟩ => bF Tryd.underlying9 rfl rfl (j 3 _ rfl))
    ·exact HOb.fact t trivial rfl rfl rfl rfl (fun H2 w ⟨_, _, c, _⟩ => hP (m := r.met) (k := txt n) Tryd.underlying114 Tryd.underlying9 (by kernel_rfl) rfl rfl c)
    ·refine ⟨trivial, fun T N H2 w hW => ?_⟩
     obtain rfl := ca N
     have Y := hW
     replace hW : E H2 w := hW
     rw [t] at hW
     obtain ⟨hC, i, c, j, e, p, hn1, d, _⟩ := hW
     exact Det.ohc rfl Y (wQ (y := 1) (cy rfl rfl (bO (by omega) (by omega))) (by omega))
    ·refine ⟨trivial, fun T N H2 w hW => ?_⟩
     obtain rfl := ca N
     replace hW : E H2 w := hW
     rw [t] at hW
     obtain ⟨hC, i, c, j, e, p, hn1, d, _⟩ := hW
     refine Ok1.mono (gV (m := r.met) (k := txt n) (v := 1) Tryd.underlying114 Tryd.underlying9 rfl rfl rfl c) ?_
     rintro v_ w' ⟨c, hch0_⟩
     have a : Ch [bm] _ w' := hch0_
     have hC := hC.trans (a.mono (by intro y hy; first | (simp at hy; done) | (simpa using hy; done) | (simp [hy]; done) | (simp at hy; simp [hy]; done)))
     have i := Ch.blk0 a i (by first | assumption | (simp <;> omega))
     have j := j.mv a (by first | assumption | (simp <;> omega))
     have e := e.mv a (fun b hb => by first | (simp; done) | (simp; intro h; subst h; contradiction))
     have p : IsNs w' (bE lv ++ X) r.l xs := IsNs.mv a (fun y hy => by first | (simp at hy; done) | (simp at hy; subst hy; simp [hX1, hX2])) (fun x hx => .inl hx) _ _ p
     have hn1 : IsN w' (bE lv ++ X) n (.pointer (some ⟨bn, 0, none⟩)) := IsN.mv a (fun y hy => by first | (simp at hy; done) | (simp at hy; subst hy; simp [hX1, hX2])) (fun x hx => .inl hx) _ _ hn1
     have d := (fun g f q s C D => (d g f q s C D).mv a (by first | (simp; done) | (simp [q, s]; done)))
     have B : G (dO H2 10 v_) w' := by rw [F]; exact ⟨hC, i, c, j, e, p, hn1, d, trivial⟩
     exact jL rfl ⟨B, rfl⟩
   ·intro ac w H2 hW hF
    replace hW : G H2 w := hW
    rw [F] at hW
    obtain ⟨hC, i, c, j, e, p, hn1, d, _⟩ := hW
    clear t E F G
    have hF := hF.sub (L' := [(0, (vp br)), (1, (vp bn)), (13, (vB (decide ((tl r.met (txt n)) = 0))))]) ⟨rfl, rfl, rfl, trivial⟩
    refine bz ?_
    refine wp_region_lit ?_
    refine wl (bC rfl) rfl hF (fun ac hF => ?_)
    refine wl (bC rfl) rfl hF (fun ac hF => ?_)
    refine wl (d_nil rfl) rfl hF (fun ac hF => ?_)
    refine wl (bD Tryd.underlying118 (m := 0) cV rfl rfl rfl) rfl hF (fun ac hF => ?_)
    refine wl (bF Tryd.underlying110 rfl rfl ((At.of_blk i) 0 _ rfl)) rfl hF (fun ac hF => ?_)
    refine wl (bC rfl) rfl hF (fun ac hF => ?_)
    refine wlR (bU (cells := #[(vp bn)]) Tryd.underlying110 lC rfl (by decide) (by decide) (by exact jM rfl)) rfl hF ?_
    rintro _ w ac ⟨b1, rfl, hnb_⟩ hF
    have a : Ch [] _ w := hnb_.ch
    have V := hnb_.lo hC.size
    have hC := hC.trans (a.mono (by intro y hy; first | (simp at hy; done) | (simpa using hy; done) | (simp [hy]; done) | (simp at hy; simp [hy]; done)))
    have i := Ch.blk0 a i (by first | assumption | (simp <;> omega))
    have c := c.mv a (by simp <;> omega)
    have j := j.mv a (by first | assumption | (simp <;> omega))
    have e := e.mv a (fun b hb => by first | (simp; done) | (simp; intro h; subst h; contradiction))
    have p : IsNs w (bE lv ++ X) r.l xs := IsNs.mv a (fun y hy => by first | (simp at hy; done) | (simp at hy; subst hy; simp [hX1, hX2])) (fun x hx => .inl hx) _ _ p
    have hn1 : IsN w (bE lv ++ X) n (.pointer (some ⟨bn, 0, none⟩)) := IsN.mv a (fun y hy => by first | (simp at hy; done) | (simp at hy; subst hy; simp [hX1, hX2])) (fun x hx => .inl hx) _ _ hn1
    have d := (fun g f q s C D => (d g f q s C D).mv a (by first | (simp; done) | (simp [q, s]; done)))
    have hib1 : b1 < w.heap.size := hnb_.lt
    have lob1 : w0.heap.size ≤ b1 := V
    have W : At w b1 0 [(vp bn)] := hnb_.at
    refine wlR (mn (b := b1) (o := 0) (u := .pointer (some ⟨bn, 0, none⟩)) Tryd.underlying110 wC rfl rfl rfl e W rfl (by omega) (by unfold maxLen; omega) (Nat.le_trans hbase hC.size)) rfl hF ?_
    rintro lv1 w ac ⟨e, hch0_, hob, hkp⟩ hF
    have a : Ch (bE lv) _ w := hch0_
    have hsz_ := hC.size
    have Q : ∀ x, x ∈ bE lv1 ++ X → x ∈ bE lv ++ X ∨ _ ≤ x := fun x hx => by
     rcases List.mem_append.1 hx with hx | hx
     ·rcases hob with hob | hob
      ·rw [hob] at hx; exact .inl (List.mem_append_left _ hx)
      ·rw [hob] at hx; simp at hx; exact .inr (Nat.le_of_eq hx.symm)
     ·exact .inl (List.mem_append_right _ hx)
    have hbr_ := i
    have P : br ∉ bE lv1 := fun hy => by
     have S := o3 i
     rcases hob with hob | hob
     ·rw [hob] at hy; exact L hy
     ·rw [hob] at hy; simp at hy; omega
    have O : bm ∉ bE lv1 := fun hy => by
     have S := c.lt
     rcases hob with hob | hob
     ·rw [hob] at hy; exact K hy
     ·rw [hob] at hy; simp at hy; omega
    have U : bE lv1 = bE lv ∨ ∀ y, y ∈ bE lv1 → w0.heap.size ≤ y := by
     rcases hob with hob | hob
     ·exact .inl hob
     ·refine .inr fun y hy => ?_
      rw [hob] at hy; simp at hy; omega
    have hC := hC.trans (a.mono (by intro y hy; first | (simp at hy; done) | (simpa using hy; done) | (simp [hy]; done) | (simp at hy; simp [hy]; done)))
    have i : w.heap[br]? = some (.cells #[lv, (Value.map (some bm))] 118 (0, 0)) := Ch.blk0 a i L
    have c : MapIs w bm (st r.met (txt n) 1) := c.mv a K
    have p : IsNs w (bE lv1 ++ X) (r.l ++ [n]) (xs ++ [.pointer (some ⟨bn, 0, none⟩)]) := (IsNs.mv a (fun y hy => List.mem_append_left _ hy) Q _ _ p).app (IsNs.one (IsN.mv a (fun y hy => List.mem_append_left _ hy) Q _ _ hn1))
    replace d : ∀ g f, g ≠ br → g ≠ bm → (g ∈ bE lv → f.length ≤ r.l.length) → At w0 g 0 f → At w g 0 f := fun g f q s hl ha => by
     by_cases hg : g ∈ bE lv
     ·refine qd (qe I hg) (hkp g hg) ?_ ha
      have := I.1
      have := hl hg
      omega
     ·exact ha.mv hC (by simp [q, s, hg])
    refine wl (d_nil rfl) rfl hF (fun ac hF => ?_)
    refine wl (bD Tryd.underlying118 (m := 0) cV rfl rfl rfl) rfl hF (fun ac hF => ?_)
    refine kI (dG (v := lv1) cV rfl rfl (oV e) i (Nat.le_of_ble_eq_true rfl)) hF ?_
    rintro w ac hu_ hF
    have a : Ch [br] _ w := hu_.ch
    have hC := hC.trans (a.mono (by intro y hy; first | (simp at hy; done) | (simpa using hy; done) | (simp [hy]; done) | (simp at hy; simp [hy]; done)))
    have c := c.mv a (by first | assumption | (simp <;> omega))
    have e := e.mv a (fun b hb => by first | (simp; done) | (simp; intro h; subst h; contradiction))
    have p : IsNs w (bE lv1 ++ X) (r.l ++ [n]) (xs ++ [.pointer (some ⟨bn, 0, none⟩)]) := IsNs.mv a (fun y hy => by simp at hy; subst hy; simp [hX1, hX2]) (fun x hx => .inl hx) _ _ p
    have d := (fun g f q s C D => (d g f q s C D).mv a (by first | (simp; done) | (simp [q, s]; done)))
    have i : w.heap[br]? = some (.cells #[lv1, (Value.map (some bm))] 118 (0, 0)) := hu_.blk
    refine bx ?_
    refine dy hF (dv Tryd.results79 ) ?_
    have M : r.add n = ⟨r.l ++ [n], st r.met (txt n) 1⟩ := by simp only [Rw.add, h0, if_true]
    rw [M]
    have e : Own w base 83 1 lv1 (r.l ++ [n]).length (xs ++ [.pointer (some ⟨bn, 0, none⟩)]) := by simpa using e
    exact ⟨rfl, lv1, ⟨i, c, ⟨_, e, p⟩, P, O, R⟩, hC, U, by simp, d⟩
  ·have h0 := of_decide_eq_false h
   clear h
   refine wp_skip ?_
   refine dy hF (dv Tryd.results79 ) ?_
   refine ⟨rfl, lv, ?_⟩
   have M : r.add n = r := by simp only [Rw.add, h0, if_false]
   rw [M]
   exact ⟨⟨i, c, ⟨xs, e, p⟩, L, K, R⟩, hC, .inl rfl, Nat.le_refl _, d⟩
end Go.Mi.Term
