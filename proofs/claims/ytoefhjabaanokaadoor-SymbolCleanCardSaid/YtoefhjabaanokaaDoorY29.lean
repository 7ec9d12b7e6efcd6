/- Walks: package symbol. -/
import Derived.Test.YtoefhjabaanokaaDoorH43
import Derived.Test.YtoefhjabaanokaaDoorY24
set_option linter.unusedSimpArgs false
set_option linter.unusedVariables false
set_option linter.unnecessarySimpa false
namespace Go.Mi.Term
open Go.Mi Go.Proofs Go.RowKit
set_option maxRecDepth 100000 in
set_option maxHeartbeats 4000000 in
theorem wT {X : List Nat} {l : List Ac} {kem : Bool} {v : Value} (w0 : World) (hX : ∀ x, x ∈ X → x < w0.heap.size) (h00 : 0 ∈ X) (hT : T0 w0) (hv : (acS l).hold ⟨[], [], X, []⟩ w0 v) (h : 14 < l.length) : Calls Tryd.prog 12 (List.toArray [.bool kem, v]) w0 (Ret fun v w' => Gr w0 w' ∧ v = .bool true) := by
 refine b7 (F := []) (ρ := lw (eh noY eg) w0.heap.size) [eB kem, acS l] hX ⟨rfl, ⟨trivial, h00, hT⟩, Nat.le_refl _, hX⟩ ⟨rfl, hv, trivial⟩ Tryd.func12 rfl Tryd.ntmps12 rfl fun ac hS => ?_
 refine wp_seq ?_
 refine rz hS [] [0, 1, 4] [(0, eB kem), (1, acS l), (4, eqS vf)] trivial fun ac g w hS => ?_
 refine wp_seq ?_
 refine wp_seq ?_
 refine rz hS [e0 1 [(13, acS l)] (eI l.length), e0 2 [(14, eI l.length)] (eqS vt)] [0, 1, 4, 15] [(0, eB kem), (1, acS l), (4, eqS vf), (15, eqS vt)] ⟨⟨kP rfl rfl, trivial⟩, ⟨bS rfl rfl rfl (congrArg some (decide_eq_true (by omega))), trivial⟩, trivial⟩ fun ac g w hS => ?_
 refine wp_cond_true (hS.f.frm.eval rfl) ?_
 refine wp_seq ?_
 refine rz hS [e0 0 [] (eqS vt)] [0, 1, 4] [(0, eB kem), (1, acS l), (4, eqS vt)] ⟨⟨uq rfl rfl, trivial⟩, trivial⟩ fun ac g w hS => ?_
 refine wp_ret ?_
 refine bH ?_
 exact bv hS.f.frm (bw Tryd.results12 (RV.tmp hS.f.frm rfl)) ⟨hS.gr0, rfl⟩
set_option maxRecDepth 100000 in
set_option maxHeartbeats 4000000 in
theorem wS {X : List Nat} {l : List Ac} {kem : Bool} {v : Value} (w0 : World) (hX : ∀ x, x ∈ X → x < w0.heap.size) (h00 : 0 ∈ X) (hT : T0 w0) (hv : (acS l).hold ⟨[], [], X, []⟩ w0 v) (hl : l.length ≤ 14) : Calls Tryd.prog 12 (List.toArray [.bool kem, v]) w0 (Ret fun v w' => Gr w0 w' ∧ v = .bool true) := by
 have hkl : (acR kem l l.length).known.length ≤ 1000000 := by have := (acG kem l l.length).small.hk; omega
 have hky : (acR kem l l.length).keys.length ≤ 1000000 := by have := (acG kem l l.length).small.hy; omega
 obtain ⟨gq, lf, q, p, hll, hU, n, s, o⟩ := nJ (acG kem l l.length)
 refine b7 (F := []) (ρ := lw (eh noY eg) w0.heap.size) [eB kem, acS l] hX ⟨rfl, ⟨trivial, h00, hT⟩, Nat.le_refl _, hX⟩ ⟨rfl, hv, trivial⟩ Tryd.func12 rfl Tryd.ntmps12 rfl fun ac hS => ?_
 refine wp_seq ?_
 refine rz hS [] [0, 1, 4] [(0, eB kem), (1, acS l), (4, eqS vf)] trivial fun ac g w hS => ?_
 refine wp_seq ?_
 refine wp_seq ?_
 refine rz hS [e0 1 [(13, acS l)] (eI l.length), e0 2 [(14, eI l.length)] (eqS vf)] [0, 1, 4, 15] [(0, eB kem), (1, acS l), (4, eqS vf), (15, eqS vf)] ⟨⟨kP rfl rfl, trivial⟩, ⟨bS rfl rfl rfl (congrArg some (decide_eq_false (by omega))), trivial⟩, trivial⟩ fun ac g w hS => ?_
 refine wp_cond_false (hS.f.frm.eval rfl) ?_
 refine wp_skip ?_
 refine wp_seq ?_
 refine rx [e1 1 [(17, eB kem)] (ptS 0)] [1, 4, 5] (Bl [stB (lw (eh noY eg) w0.heap.size) [], stB (qx (eh noY eg) w0.heap.size 0 (Rn.new kem)) [(0, bM)]]) 1 [(1, acS l), (4, eqS vf), (5, ptS 0)] ⟨⟨tj rfl rfl rfl rfl rfl, trivial⟩, trivial⟩ hS rfl fun ac g w hS => ?_
 obtain ⟨b, hS⟩ := hS.bornL (t := 5) rfl
 refine wp_seq ?_
 refine wp_seq ?_
 refine rz hS [e0 1 [(19, eP b 0)] (eqS vf)] [1, 4, 5, 20] [(1, acS l), (4, eqS vf), (5, eP b 0), (20, eqS vf)] ⟨⟨pN rfl rfl rfl rfl, trivial⟩, trivial⟩ fun ac g w hS => ?_
 refine wp_cond_false (hS.f.frm.eval rfl) ?_
 refine wp_skip ?_
 refine wp_seq ?_
 refine wp_seq ?_
 refine rz hS [] [1, 4, 5, 6] [(1, acS l), (4, eqS vf), (5, eP b 0), (6, eI 0)] trivial fun ac g w hS => ?_
 refine bz ?_
 refine wp_block ?_
 refine cb (fun d ac w => ∃ (i : Nat) (g : Gh), d = l.length - i ∧ (i ≤ l.length) ∧ SS [(1, acS l), (5, eP b 0), (6, eI i)] 83 (stB (dJ (eh noY eg) w0.heap.size b (acR kem l i)) [(0, bM)]) ⟨[], [], X, []⟩ w0 ac g w) _ ⟨0, _, rfl, Nat.zero_le _, hS.to ⟨rfl, rfl, rfl, trivial⟩⟩ ?_
 rintro _ ac w ⟨i, g, rfl, hi, hS⟩
 refine wp_seq ?_
 refine wp_seq ?_
 refine rz hS [e0 2 [(22, acS l)] (eI l.length)] [1, 5, 6, 24] [(1, acS l), (5, eP b 0), (6, eI i), (24, eB (decide ((i : Int) < l.length)))] ⟨⟨kP rfl rfl, trivial⟩, trivial⟩ fun ac g w hS => ?_
 refine bz ?_
 refine cn hS.f.frm rfl (fun h => ?_) (fun h => ?_)
 ·have hc := of_decide_eq_true h
  clear h
  have hc := Int.ofNat_lt.1 hc
  obtain ⟨a, ha⟩ : ∃ a, l[i]? = some a := ⟨_, List.getElem?_eq_getElem hc⟩
  refine wp_skip ?_
  refine wp_seq ?_
  refine wp_block ?_
  refine rw_ mo [e0 3 [(28, acS l), (29, eI i)] (apS a 0), e0 4 [(30, apS a 0)] (apS a 0), e0 5 [(31, apS a 0)] (eI a.k), e0 8 [(33, acS l), (34, eI i)] (apS a 0), e0 9 [(35, apS a 0)] (apS a 1), e0 10 [(36, apS a 1)] (eI a.who), e0 13 [(38, acS l), (39, eI i)] (apS a 0), e0 14 [(40, apS a 0)] (apS a 2), e0 15 [(41, apS a 2)] (eB a.kem), e0 16 [(32, eI a.k), (37, eI a.who), (42, eB a.kem)] (agS (cxV [vI a.k, vI a.who, .bool a.kem])), e1 17 [(27, eP b 0), (43, agS (cxV [vI a.k, vI a.who, .bool a.kem]))] bM] [1, 5, 6] (Bl [stB (dJ (eh noY eg) w0.heap.size b (acR kem l i)) [(0, bM)], stB (dJ (eh noY eg) w0.heap.size b (acR kem l (i + 1))) [(0, bM)]]) 1 [(1, acS l), (5, eP b 0), (6, eI i)] ⟨⟨na rfl rfl rfl ha, trivial⟩, ⟨p8 rfl rfl sz3 Tryd.underlying52 rfl rfl, trivial⟩, ⟨p7 rfl rfl Tryd.underlying3 rfl rfl, trivial⟩, ⟨na rfl rfl rfl ha, trivial⟩, ⟨p8 rfl rfl sz3 Tryd.underlying52 rfl rfl, trivial⟩, ⟨p7 rfl rfl Tryd.underlying3 rfl rfl, trivial⟩, ⟨na rfl rfl rfl ha, trivial⟩, ⟨p8 rfl rfl sz4 Tryd.underlying52 rfl rfl, trivial⟩, ⟨p7 rfl rfl u4 rfl rfl, trivial⟩, ⟨ur rfl rfl rfl rfl, trivial⟩, ⟨wt (kd := a.k) (wh := a.who) (c := a.kem) (acG kem l i) (rC ha) rfl rfl rfl rfl rfl, trivial⟩, trivial⟩ hS rfl fun ac g w hS => ?_
  refine bR ?_
  refine rz hS [e0 1 [(25, eI i)] (eI (((i : Nat) : Int) + 1))] [1, 5, 6] [(1, acS l), (5, eP b 0), (6, eI (((i : Nat) : Int) + 1))] ⟨⟨bL fun ξ g w hB hH => ⟨_, rfl, cy rfl rfl (bO (by omega) (by omega))⟩, trivial⟩, trivial⟩ fun ac g w hS => ?_
  refine bz ?_
  refine ⟨_, ?_, i + 1, _, rfl, hc, hS.to ⟨rfl, rfl, rfl, trivial⟩⟩
  omega
 ·have hc := of_decide_eq_false h
  clear h
  obtain rfl : i = l.length := by omega
  refine wp_exit ?_
  refine bG ?_
  refine bG ?_
  refine bZ ?_
  refine wp_seq ?_
  refine rz hS [e0 1 [(45, eP b 0)] (ksS (acR kem l l.length).keys)] [1, 5, 7] [(1, acS l), (5, eP b 0), (7, ksS (acR kem l l.length).keys)] ⟨⟨ug (acG kem l l.length) rfl rfl rfl, trivial⟩, trivial⟩ fun ac g w hS => ?_
  refine wp_seq ?_
  refine rz hS [e0 1 [(47, eP b 0)] (tkS (acR kem l l.length).known)] [1, 5, 7, 8] [(1, acS l), (5, eP b 0), (7, ksS (acR kem l l.length).keys), (8, tkS (acR kem l l.length).known)] ⟨⟨r8 (acG kem l l.length) rfl rfl rfl, trivial⟩, trivial⟩ fun ac g w hS => ?_
  refine wp_seq ?_
  refine rx [e0 1 [(49, eP b 0)] (agS (cxV [.bool (acR kem l l.length).dh, .bool (acR kem l l.length).kem])), e1 2 [] (nwS 1), ⟨3, [(9, nwS 1), (50, agS (cxV [.bool (acR kem l l.length).dh, .bool (acR kem l l.length).kem]))], bM, [1], true⟩] [1, 5, 7, 8, 9] (Bl [stB (dJ (eh noY eg) w0.heap.size b (acR kem l l.length)) [(0, bM)], stB (dJ (eh noY eg) w0.heap.size b (acR kem l l.length)) [(0, bM), (31, cU 2)], stB (dJ (eh noY eg) w0.heap.size b (acR kem l l.length)) [(0, bM), (31, agS (cxV [.bool (acR kem l l.length).dh, .bool (acR kem l l.length).kem]))]]) 2 [(1, acS l), (5, eP b 0), (7, ksS (acR kem l l.length).keys), (8, tkS (acR kem l l.length).known), (9, nwS 1)] ⟨⟨rY (acG kem l l.length) rfl rfl rfl, trivial⟩, ⟨c_ rfl rfl rfl z31 rfl rfl, trivial⟩, ⟨cZ (k := 1) (m := 2) rfl rfl rfl rfl rfl rfl (by decide) il (cD 2) (nQ _ _), trivial⟩, trivial⟩ hS rfl fun ac g w hS => ?_
  refine wp_seq ?_
  refine rz hS [e0 1 [(51, eP b 0)] (eqS (.func (.func 28) #[vp b] #[]))] [1, 5, 7, 8, 9, 10] [(1, acS l), (5, eP b 0), (7, ksS (acR kem l l.length).keys), (8, tkS (acR kem l l.length).known), (9, nwS 1), (10, eqS (.func (.func 28) #[vp b] #[]))] ⟨⟨vY rfl rfl, trivial⟩, trivial⟩ fun ac g w hS => ?_
  refine wp_seq ?_
  refine wp_seq ?_
  refine rz hS [] [1, 5, 7, 8, 9, 10, 11] [(1, acS l), (5, eP b 0), (7, ksS (acR kem l l.length).keys), (8, tkS (acR kem l l.length).known), (9, nwS 1), (10, eqS (.func (.func 28) #[vp b] #[])), (11, eI 0)] trivial fun ac g w hS => ?_
  refine bz ?_
  refine wp_block ?_
  refine cb (fun d ac w => ∃ (i : Nat) (g : Gh), d = (acR kem l l.length).keys.length - i ∧ (i ≤ (acR kem l l.length).keys.length) ∧ SS [(5, eP b 0), (7, ksS (acR kem l l.length).keys), (8, tkS (acR kem l l.length).known), (9, nwS 1), (10, eqS (.func (.func 28) #[vp b] #[])), (11, eI i)] 83 (stB (dJ (eh noY eg) w0.heap.size b (acR kem l l.length)) [(0, bM), (31, agS (cxV [.bool (acR kem l l.length).dh, .bool (acR kem l l.length).kem]))]) ⟨[], [], X, []⟩ w0 ac g w) _ ⟨0, _, rfl, Nat.zero_le _, hS.to ⟨rfl, rfl, rfl, rfl, rfl, rfl, trivial⟩⟩ ?_
  rintro _ ac w ⟨i, g, rfl, hi, hS⟩
  refine wp_seq ?_
  refine wp_seq ?_
  refine rz hS [e0 2 [(54, ksS (acR kem l l.length).keys)] (eI ((acR kem l l.length).keys.length))] [5, 7, 8, 9, 10, 11, 56] [(5, eP b 0), (7, ksS (acR kem l l.length).keys), (8, tkS (acR kem l l.length).known), (9, nwS 1), (10, eqS (.func (.func 28) #[vp b] #[])), (11, eI i), (56, eB (decide ((i : Int) < (acR kem l l.length).keys.length)))] ⟨⟨r6 rfl rfl, trivial⟩, trivial⟩ fun ac g w hS => ?_
  refine bz ?_
  refine cn hS.f.frm rfl (fun h => ?_) (fun h => ?_)
  ·have hc := of_decide_eq_true h
   clear h
   have hc := Int.ofNat_lt.1 hc
   obtain ⟨e, he⟩ : ∃ e, (acR kem l l.length).keys[i]? = some e := ⟨_, List.getElem?_eq_getElem hc⟩
   obtain ⟨ht, r⟩ := o i e he
   refine wp_skip ?_
   refine wp_seq ?_
   refine wp_block ?_
   refine wp_seq ?_
   refine rz hS [e0 2 [(59, eP b 0), (60, eI i)] (eB (!(acR kem l l.length).cleanZ (i : Nat)))] [5, 7, 8, 9, 10, 11, 12] [(5, eP b 0), (7, ksS (acR kem l l.length).keys), (8, tkS (acR kem l l.length).known), (9, nwS 1), (10, eqS (.func (.func 28) #[vp b] #[])), (11, eI i), (12, eB (!(acR kem l l.length).cleanZ (i : Nat)))] ⟨⟨pU (acG kem l l.length) rfl rfl rfl rfl (by simp; omega), trivial⟩, trivial⟩ fun ac g w hS => ?_
   refine wp_seq ?_
   refine ry mo hS [e0 2 [(62, eqS (.func (.func 28) #[vp b] #[])), (63, eI i)] (eB ((acR kem l l.length).cleanZ (i : Nat))), e0 4 [(64, eB ((acR kem l l.length).cleanZ (i : Nat))), (65, eB (!(acR kem l l.length).cleanZ (i : Nat)))] (eqS vf), e0 7 [(67, eqS vf), (9, nwS 1)] (nwO 1 0), e0 8 [(67, eqS vf), (69, nwO 1 0)] (eB ((acR kem l l.length).dh)), e0 9 [(67, eqS vf), (9, nwS 1)] (nwO 1 1), e0 10 [(67, eqS vf), (71, nwO 1 1)] (eB ((acR kem l l.length).kem)), e0 14 [(67, eqS vf), (74, ksS (acR kem l l.length).keys), (75, eI i)] (kpS e 0), e0 15 [(67, eqS vf), (76, kpS e 0)] (kpS e 0), e0 16 [(67, eqS vf), (77, kpS e 0)] (tmS e.t), e0 17 [(67, eqS vf), (70, eB ((acR kem l l.length).dh)), (72, eB ((acR kem l l.length).kem)), (73, tkS (acR kem l l.length).known), (78, tmS e.t)] (eB (!(acR kem l l.length).cleanZ (i : Nat))), e0 18 [(67, eqS vf), (68, eB (!(acR kem l l.length).cleanZ (i : Nat))), (79, eB (!(acR kem l l.length).cleanZ (i : Nat)))] (eqS vf)] [5, 7, 8, 9, 10, 11, 81] [(5, eP b 0), (7, ksS (acR kem l l.length).keys), (8, tkS (acR kem l l.length).known), (9, nwS 1), (10, eqS (.func (.func 28) #[vp b] #[])), (11, eI i), (81, eqS vf)] ⟨⟨pV (acG kem l l.length) rfl rfl rfl rfl rfl, trivial⟩, ⟨uk rfl rfl rfl (by cases (acR kem l l.length).cleanZ (i : Nat) <;> rfl), trivial⟩, ⟨bK (k := 1) rfl rfl rfl rfl (by decide) (by kernel_rfl), trivial⟩, ⟨b6 (k := 1) (j := 0) rfl rfl rfl rfl (by decide) u4 rfl rfl, trivial⟩, ⟨bK (k := 1) rfl rfl rfl rfl (by decide) (by kernel_rfl), trivial⟩, ⟨b6 (k := 1) (j := 1) rfl rfl rfl rfl (by decide) u4 rfl rfl, trivial⟩, ⟨v7 rfl rfl rfl he, trivial⟩, ⟨xq rfl rfl bV u58 rfl rfl, trivial⟩, ⟨xo rfl rfl, trivial⟩, ⟨b_ rfl fun ξ g w hB hH => a_ c40 rfl (dL (oO w hB.wf.lt s (by omega) n hU q p (by omega) ht (hH 73 _ rfl) (hH 78 _ rfl)) r), trivial⟩, ⟨rZ rfl rfl rfl, trivial⟩, trivial⟩ fun ac g w hS => ?_
   refine wp_cond_false (hS.f.frm.eval rfl) ?_
   refine wp_skip ?_
   refine bR ?_
   refine rz hS [e0 1 [(57, eI i)] (eI (((i : Nat) : Int) + 1))] [5, 7, 8, 9, 10, 11] [(5, eP b 0), (7, ksS (acR kem l l.length).keys), (8, tkS (acR kem l l.length).known), (9, nwS 1), (10, eqS (.func (.func 28) #[vp b] #[])), (11, eI (((i : Nat) : Int) + 1))] ⟨⟨bL fun ξ g w hB hH => ⟨_, rfl, cy rfl rfl (bO (by omega) (by omega))⟩, trivial⟩, trivial⟩ fun ac g w hS => ?_
   refine bz ?_
   refine ⟨_, ?_, i + 1, _, rfl, hc, hS.to ⟨rfl, rfl, rfl, rfl, rfl, rfl, trivial⟩⟩
   omega
  ·have hc := of_decide_eq_false h
   clear h
   refine wp_exit ?_
   refine bG ?_
   refine bG ?_
   refine bZ ?_
   refine wp_seq ?_
   refine rz hS [e0 0 [] (eqS vt)] [4, 5, 7, 8, 9, 10] [(4, eqS vt), (5, eP b 0), (7, ksS (acR kem l l.length).keys), (8, tkS (acR kem l l.length).known), (9, nwS 1), (10, eqS (.func (.func 28) #[vp b] #[]))] ⟨⟨uo rfl rfl, trivial⟩, trivial⟩ fun ac g w hS => ?_
   refine wp_ret ?_
   exact bv hS.f.frm (bw Tryd.results12 (RV.tmp hS.f.frm rfl)) ⟨hS.gr0, rfl⟩
theorem nI {l : List Ac} {kem : Bool} {v : Value} (w0 : World) (hT : T0 w0) (hv : (acS l).hold ⟨[], [], [0], []⟩ w0 v) : Calls Tryd.prog 12 (List.toArray [.bool kem, v]) w0 (Ret fun v w' => v = .bool true ∧ Gr w0 w') := by
 have hX : ∀ x, x ∈ [0] → x < w0.heap.size := fun x hx => by rw [List.mem_singleton.1 hx]; exact hT.size
 have fin : Calls Tryd.prog 12 (List.toArray [.bool kem, v]) w0 (Ret fun v w' => Gr w0 w' ∧ v = .bool true) → Calls Tryd.prog 12 (List.toArray [.bool kem, v]) w0 (Ret fun v w' => v = .bool true ∧ Gr w0 w') := fun h => h.mono fun en w' ⟨v, h1, h2, h3⟩ => ⟨v, h1, h3, h2⟩
 by_cases h : 14 < l.length
 ·exact fin (wT w0 hX (by simp) hT hv h)
 ·exact fin (wS w0 hX (by simp) hT hv (by omega))
end Go.Mi.Term
