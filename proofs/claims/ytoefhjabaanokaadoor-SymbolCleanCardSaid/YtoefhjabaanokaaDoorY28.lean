/- Walks: package symbol. -/
import Derived.Test.YtoefhjabaanokaaDoorH42
set_option linter.unusedSimpArgs false
set_option linter.unusedVariables false
set_option linter.unnecessarySimpa false
namespace Go.Mi.Term
open Go.Mi Go.Proofs Go.RowKit
set_option maxRecDepth 100000 in
set_option maxHeartbeats 4000000 in
theorem oN {dh kem : Bool} {known lf : List Tm} {gq : Nat} {U : List Tx} {X : List Nat} {v : Value} (w0 : World) (hX : ∀ x, x ∈ X → x < w0.heap.size) (hk : ∀ x, x ∈ known → cw x 0 = true ∧ cx x ≤ 5000 ∧ Ok x) (hkl : known.length ≤ 100000000) (hinv : ∀ i, LInv U (fsl known i)) (hU : U.length ≤ 900000) (hro : dA ⟨dh, kem⟩ gq (fsl known known.length) = some lf) (hv : fZ w0 X known v) : Calls Tryd.prog 76 (List.toArray [.bool dh, .bool kem, v]) w0 (Ret fun v w' => Gr w0 w' ∧ fZ w' X lf v) := by
 refine b7 (F := []) (ρ := cW (loY w0.heap.size) w0.heap.size 26 3 vN 0 (dC [])) [eqS (.bool dh), eqS (.bool kem), tkS known] hX ⟨⟨Nat.le_refl _, hX⟩, Nat.le_refl _, hX, rfl, [], mb, rfl⟩ ⟨rfl, rfl, hv, trivial⟩ Tryd.func76 rfl Tryd.ntmps76 rfl fun ac hS => ?_
 refine wp_seq ?_
 refine rz hS [] [0, 1, 2, 6] [(0, eB dh), (1, eB kem), (2, tkS known), (6, eqS vN)] trivial fun ac g w hS => ?_
 refine wp_seq ?_
 refine rz hS [] [0, 1, 2, 6, 7] [(0, eB dh), (1, eB kem), (2, tkS known), (6, eqS vN), (7, eqS vN)] trivial fun ac g w hS => ?_
 refine wp_seq ?_
 refine wp_seq ?_
 refine rz hS [] [0, 1, 2, 6, 7, 8] [(0, eB dh), (1, eB kem), (2, tkS known), (6, eqS vN), (7, eqS vN), (8, eI 0)] trivial fun ac g w hS => ?_
 refine bz ?_
 refine wp_block ?_
 refine cb (fun c ac w => ∃ (i : Nat) (v : Value) (g : Gh), c = known.length - i ∧ (i ≤ known.length) ∧ SS [(0, eB dh), (1, eB kem), (2, tkS known), (7, eqS v), (8, eI i)] 104 (stB (cW (loY w0.heap.size) w0.heap.size 26 3 v (fsl known i).length (dC (fsl known i))) []) ⟨[], [], X, []⟩ w0 ac g w) _ ⟨0, vN, _, rfl, Nat.zero_le _, hS.to ⟨rfl, rfl, rfl, rfl, rfl, trivial⟩⟩ ?_
 rintro _ ac w ⟨i, v, g, rfl, hi, hS⟩
 have s := (hinv i)
 have z := Nat.le_trans s.len hU
 refine wp_seq ?_
 refine wp_seq ?_
 refine rz hS [e0 2 [(15, tkS known)] (eI known.length)] [0, 1, 2, 7, 8, 17] [(0, eB dh), (1, eB kem), (2, tkS known), (7, eqS v), (8, eI i), (17, eB (decide ((i : Int) < known.length)))] ⟨⟨cC rfl rfl, trivial⟩, trivial⟩ fun ac g w hS => ?_
 refine bz ?_
 refine cn hS.f.frm rfl (fun h => ?_) (fun h => ?_)
 ·have hc := of_decide_eq_true h
  clear h
  have hc := Int.ofNat_lt.1 hc
  obtain ⟨x, hx⟩ : ∃ x, known[i]? = some x := ⟨_, List.getElem?_eq_getElem hc⟩
  have e := hk x (List.mem_of_getElem? hx)
  refine wp_skip ?_
  refine wp_seq ?_
  refine wp_block ?_
  refine wp_seq ?_
  refine rz hS [e0 2 [(20, tkS known), (21, eI i)] (tpS x 0), e0 3 [(22, tpS x 0)] (tmS x), e0 4 [(23, tmS x)] (eqS vt), e0 9 [(25, eqS vt), (27, tkS known), (28, eI i)] (tpS x 0), e0 10 [(25, eqS vt), (29, tpS x 0)] (tmS x), e0 11 [(25, eqS vt), (26, eqS v), (30, tmS x)] (eB (ci (fsl known i) x))] [0, 1, 2, 7, 8, 33] [(0, eB dh), (1, eB kem), (2, tkS known), (7, eqS v), (8, eI i), (33, eB (!(ci (fsl known i) x)))] ⟨⟨dM rfl rfl rfl hx, trivial⟩, ⟨eZ rfl rfl, trivial⟩, ⟨b_ rfl fun ξ g w hB hH => a_ c22 rfl (n3 w hB.wf.lt e.1 e.2.1 (hH 23 _ rfl)), trivial⟩, ⟨dM rfl rfl rfl hx, trivial⟩, ⟨eZ rfl rfl, trivial⟩, ⟨b_ rfl fun ξ g w hB hH => a_ c92 rfl (dp (X := []) w (by simp) s.ok e.2.2 (wE hB.run rfl) ((hH 30 _ rfl).sub (by simp)) (by omega)), trivial⟩, trivial⟩ fun ac g w hS => ?_
  refine bz ?_
  refine cn hS.f.frm rfl (fun h => ?_) (fun h => ?_)
  ·have hq := h
   clear h
   have hq : ci (fsl known i) x = false := by simpa using hq
   refine rx [e0 3 [(35, tkS known), (36, eI i)] (tpS x 0), e0 4 [(37, tpS x 0)] (tmS x), e0 5 [(38, tmS x)] (tfS [x]), e1 6 [(34, eqS v), (39, tfS [x])] (nwS 0)] [0, 1, 2, 7, 8] (Bl [stB (cW (loY w0.heap.size) w0.heap.size 26 3 v (fsl known i).length (dC (fsl known i))) [], stB (fj (loY w0.heap.size) w0.heap.size 26 3 0 ((fsl known i).length + 1) (dC (fsl known i ++ [x]))) [(0, bM)]]) 1 [(0, eB dh), (1, eB kem), (2, tkS known), (7, nwS 0), (8, eI i)] ⟨⟨dM rfl rfl rfl hx, trivial⟩, ⟨eZ rfl rfl, trivial⟩, ⟨de rfl rfl rfl, trivial⟩, ⟨oj rfl rfl rfl rfl u24 ll rfl (by decide) rfl rfl (R2 := dC [x]) lz rq (by omega) (by unfold maxLen; omega), trivial⟩, trivial⟩ hS rfl fun ac g w hS => ?_
   refine bR ?_
   refine rz hS [e0 1 [(18, eI i)] (eI (((i : Nat) : Int) + 1))] [0, 1, 2, 7, 8] [(0, eB dh), (1, eB kem), (2, tkS known), (7, nwS 0), (8, eI (((i : Nat) : Int) + 1))] ⟨⟨bL fun ξ g w hB hH => ⟨_, rfl, cy rfl rfl (bO (by omega) (by omega))⟩, trivial⟩, trivial⟩ fun ac g w hS => ?_
   refine bz ?_
   obtain ⟨v2, hS⟩ := hS.openG (t := 7) rfl
   refine ⟨_, ?_, i + 1, v2, _, rfl, hc, by rw [uM hx hq, List.length_append]; exact hS.cut (ns := []) (m := 0) rfl rfl (fun h => h) (fun k p hp => by simp at hp) ⟨⟨_, rfl, fun _ _ _ h => h⟩, ⟨_, rfl, fun _ _ _ h => h⟩, ⟨_, rfl, fun _ _ _ h => h⟩, ⟨_, rfl, fun _ _ _ h => h⟩, ⟨_, rfl, fun _ _ _ h => h⟩, trivial⟩⟩
   omega
  ·have hq := h
   clear h
   have hq : ci (fsl known i) x = true := by simpa using hq
   refine wp_skip ?_
   refine bR ?_
   refine rz hS [e0 1 [(18, eI i)] (eI (((i : Nat) : Int) + 1))] [0, 1, 2, 7, 8] [(0, eB dh), (1, eB kem), (2, tkS known), (7, eqS v), (8, eI (((i : Nat) : Int) + 1))] ⟨⟨bL fun ξ g w hB hH => ⟨_, rfl, cy rfl rfl (bO (by omega) (by omega))⟩, trivial⟩, trivial⟩ fun ac g w hS => ?_
   refine bz ?_
   refine ⟨_, ?_, i + 1, v, _, rfl, hc, by rw [sF hx hq]; exact hS.to ⟨rfl, rfl, rfl, rfl, rfl, trivial⟩⟩
   omega
 ·have hc := of_decide_eq_false h
  clear h
  obtain rfl : i = known.length := by omega
  have hS := hS.freeze (t := 7) rfl
  refine wp_exit ?_
  refine bG ?_
  refine bG ?_
  refine bZ ?_
  refine bz ?_
  refine wp_block ?_
  refine cb (fun c ac w => ∃ (q : Nat) (l : List Tm) (g : Gh), c = q ∧ (dA ⟨dh, kem⟩ q l = some lf) ∧ (LInv U l) ∧ SS [(0, eB dh), (1, eB kem), (7, tkS l)] 104 (stB ((loY w0.heap.size).rx) []) ⟨[], [], X, []⟩ w0 ac g w) _ ⟨gq, fsl known known.length, _, rfl, hro, hinv _, hS.to ⟨rfl, rfl, rfl, trivial⟩⟩ ?_
  rintro _ ac w ⟨q, l, g, rfl, hr, hl, hS⟩
  obtain ⟨q, rfl⟩ := tS hr
  have z := Nat.le_trans hl.len hU
  refine wp_block ?_
  refine wp_seq ?_
  refine rz hS [] [0, 1, 7, 9] [(0, eB dh), (1, eB kem), (7, tkS l), (9, tkS l)] trivial fun ac g w hS => ?_
  refine wp_seq ?_
  refine wp_seq ?_
  refine rz hS [] [0, 1, 7, 9, 10] [(0, eB dh), (1, eB kem), (7, tkS l), (9, tkS l), (10, eI 0)] trivial fun ac g w hS => ?_
  refine bz ?_
  refine wp_block ?_
  refine cb (fun c ac w => ∃ (i : Nat) (g : Gh), c = l.length - i ∧ (i ≤ l.length) ∧ SS [(0, eB dh), (1, eB kem), (7, tkS (cv ⟨dh, kem⟩ l (l.take i) l)), (9, tkS l), (10, eI i)] 104 (stB ((loY w0.heap.size).rx) []) ⟨[], [], X, []⟩ w0 ac g w) _ ⟨0, _, rfl, Nat.zero_le _, hS.to ⟨rfl, rfl, rfl, rfl, rfl, trivial⟩⟩ ?_
  rintro _ ac w ⟨i, g, rfl, hi, hS⟩
  have r := hl.opns (old' := l) (W := ⟨dh, kem⟩) (ts := l.take i) hl (fun _ h => List.mem_of_mem_take h)
  have hcl := Nat.le_trans r.len hU
  refine wp_seq ?_
  refine wp_seq ?_
  refine rz hS [e0 2 [(43, tkS l)] (eI l.length)] [0, 1, 7, 9, 10, 45] [(0, eB dh), (1, eB kem), (7, tkS (cv ⟨dh, kem⟩ l (l.take i) l)), (9, tkS l), (10, eI i), (45, eB (decide ((i : Int) < l.length)))] ⟨⟨cC rfl rfl, trivial⟩, trivial⟩ fun ac g w hS => ?_
  refine bz ?_
  refine cn hS.f.frm rfl (fun h => ?_) (fun h => ?_)
  ·have hc := of_decide_eq_true h
   clear h
   have hc := Int.ofNat_lt.1 hc
   obtain ⟨x, hx⟩ : ∃ x, l[i]? = some x := ⟨_, List.getElem?_eq_getElem hc⟩
   obtain ⟨k, n, ks⟩ := x
   refine wp_skip ?_
   refine wp_seq ?_
   refine wp_block ?_
   refine wp_seq ?_
   refine rx [e0 2 [(48, tkS l), (49, eI i)] (tpS (.mk k n ks) 0), e0 3 [(50, tpS (.mk k n ks) 0)] (tmS (.mk k n ks)), e1 4 [] (nwS 0), ⟨5, [(11, nwS 0), (51, tmS (.mk k n ks))], bM, [1], true⟩] [0, 1, 7, 9, 10, 11] (Bl [stB ((loY w0.heap.size).rx) [], stB ((loY w0.heap.size).rx) [(26, cU 3)], stB ((loY w0.heap.size).rx) [(26, tmS (.mk k n ks))]]) 2 [(0, eB dh), (1, eB kem), (7, tkS (cv ⟨dh, kem⟩ l (l.take i) l)), (9, tkS l), (10, eI i), (11, nwS 0)] ⟨⟨dM rfl rfl rfl hx, trivial⟩, ⟨eZ rfl rfl, trivial⟩, ⟨c_ rfl rfl rfl z26 rfl rfl, trivial⟩, ⟨cZ (k := 0) (m := 3) rfl rfl rfl rfl rfl rfl (by decide) bV (cD 3) (bQ _), trivial⟩, trivial⟩ hS rfl fun ac g w hS => ?_
   refine wp_seq ?_
   refine rz hS [e0 0 [] (tkS [])] [0, 1, 7, 9, 10, 11, 12] [(0, eB dh), (1, eB kem), (7, tkS (cv ⟨dh, kem⟩ l (l.take i) l)), (9, tkS l), (10, eI i), (11, nwS 0), (12, tkS [])] ⟨⟨t8 rfl, trivial⟩, trivial⟩ fun ac g w hS => ?_
   refine wp_seq ?_
   refine wp_seq ?_
   refine rz hS [e0 0 [(11, nwS 0)] (nwO 0 0), e0 1 [(52, nwO 0 0)] (eI k)] [0, 1, 7, 9, 10, 11, 12, 53] [(0, eB dh), (1, eB kem), (7, tkS (cv ⟨dh, kem⟩ l (l.take i) l)), (9, tkS l), (10, eI i), (11, nwS 0), (12, tkS []), (53, eI k)] ⟨⟨bK (k := 0) rfl rfl rfl rfl (by decide) (by kernel_rfl), trivial⟩, ⟨fp (k := 0) rfl rfl rfl rfl, trivial⟩, trivial⟩ fun ac g w hS => ?_
   refine bz ?_
   refine eD (fun ac w => ∃ (cm : List Tm) (g : Gh), (cm = come ⟨dh, kem⟩ l (.mk k n ks)) ∧ SS [(0, eB dh), (1, eB kem), (7, tkS (cv ⟨dh, kem⟩ l (l.take i) l)), (9, tkS l), (10, eI i), (12, tkS cm)] 104 (stB ((loY w0.heap.size).rx) [(26, tmS (.mk k n ks))]) ⟨[], [], X, []⟩ w0 ac g w) ?_ ?_
   rotate_left
   ·rintro ac w ⟨cm, g, hcm, hS⟩
    refine wp_seq ?_
    refine rz hS [] [0, 1, 7, 9, 10, 12, 13] [(0, eB dh), (1, eB kem), (7, tkS (cv ⟨dh, kem⟩ l (l.take i) l)), (9, tkS l), (10, eI i), (12, tkS cm), (13, eI 0)] trivial fun ac g w hS => ?_
    refine bz ?_
    refine wp_block ?_
    refine cb (fun c ac w => ∃ (j : Nat) (g : Gh), c = cm.length - j ∧ (j ≤ cm.length) ∧ SS [(0, eB dh), (1, eB kem), (7, tkS (adj cm (cv ⟨dh, kem⟩ l (l.take i) l) j)), (9, tkS l), (10, eI i), (12, tkS cm), (13, eI j)] 104 (stB ((loY w0.heap.size).rx) [(26, tmS (.mk k n ks))]) ⟨[], [], X, []⟩ w0 ac g w) _ ⟨0, _, rfl, Nat.zero_le _, hS.to ⟨rfl, rfl, rfl, rfl, rfl, rfl, rfl, trivial⟩⟩ ?_
    rintro _ ac w ⟨j, g, rfl, hj, hS⟩
    have hc2 : cm.length ≤ 2 := by rw [hcm]; exact q_
    have u := qw hl r (List.mem_of_getElem? hx) hcm j
    have hal := Nat.le_trans u.len hU
    refine wp_seq ?_
    refine wp_seq ?_
    refine rz hS [e0 2 [(77, tkS cm)] (eI cm.length)] [0, 1, 7, 9, 10, 12, 13, 79] [(0, eB dh), (1, eB kem), (7, tkS (adj cm (cv ⟨dh, kem⟩ l (l.take i) l) j)), (9, tkS l), (10, eI i), (12, tkS cm), (13, eI j), (79, eB (decide ((j : Int) < cm.length)))] ⟨⟨cC rfl rfl, trivial⟩, trivial⟩ fun ac g w hS => ?_
    refine bz ?_
    refine cn hS.f.frm rfl (fun h => ?_) (fun h => ?_)
    ·have hd := of_decide_eq_true h
     clear h
     have hd := Int.ofNat_lt.1 hd
     obtain ⟨y, hy⟩ : ∃ y, cm[j]? = some y := ⟨_, List.getElem?_eq_getElem hd⟩
     have A : Ok y := (hl.come (List.mem_of_getElem? hx) (hcm ▸ List.mem_of_getElem? hy)).1
     refine wp_skip ?_
     refine wp_seq ?_
     refine wp_block ?_
     refine wp_seq ?_
     refine rz hS [e0 3 [(83, tkS cm), (84, eI j)] (tpS y 0), e0 4 [(85, tpS y 0)] (tmS y), e0 5 [(82, tkS (adj cm (cv ⟨dh, kem⟩ l (l.take i) l) j)), (86, tmS y)] (eB (ci (adj cm (cv ⟨dh, kem⟩ l (l.take i) l) j) y))] [0, 1, 7, 9, 10, 12, 13, 88] [(0, eB dh), (1, eB kem), (7, tkS (adj cm (cv ⟨dh, kem⟩ l (l.take i) l) j)), (9, tkS l), (10, eI i), (12, tkS cm), (13, eI j), (88, eB (!(ci (adj cm (cv ⟨dh, kem⟩ l (l.take i) l) j) y)))] ⟨⟨dM rfl rfl rfl hy, trivial⟩, ⟨eZ rfl rfl, trivial⟩, ⟨b_ rfl fun ξ g w hB hH => a_ c92 rfl (dp w hB.wf.lt u.ok A (hH 82 _ rfl) (hH 86 _ rfl) (by omega)), trivial⟩, trivial⟩ fun ac g w hS => ?_
     refine bz ?_
     refine cn hS.f.frm rfl (fun h => ?_) (fun h => ?_)
     ·have hq := h
      clear h
      have hq : ci (adj cm (cv ⟨dh, kem⟩ l (l.take i) l) j) y = false := by simpa using hq
      refine rw_ mo [e1 0 [] (nwS 1), ⟨2, [(89, nwS 1), (90, tkS (adj cm (cv ⟨dh, kem⟩ l (l.take i) l) j))], nwS 2, [1], true⟩, ⟨5, [(92, tkS cm), (93, eI j)], tpS y 0, [0, 1, 2], false⟩, ⟨6, [(94, tpS y 0)], tmS y, [0, 1, 2], false⟩, ⟨7, [(95, tmS y)], tfS [y], [0, 1, 2], false⟩, ⟨8, [(91, nwS 2), (96, tfS [y])], nwS 3, [2], true⟩] [0, 1, 7, 9, 10, 12, 13] (Bl [stB ((loY w0.heap.size).rx) [(26, tmS (.mk k n ks))], stB (mA w0.heap.size 1) [(26, tmS (.mk k n ks)), (0, bM)], stB (fj (loY w0.heap.size) w0.heap.size 26 3 2 (adj cm (cv ⟨dh, kem⟩ l (l.take i) l) j).length (dC (adj cm (cv ⟨dh, kem⟩ l (l.take i) l) j))) [(26, tmS (.mk k n ks)), (0, bM), (0, bM)], stB (fj (loY w0.heap.size) w0.heap.size 26 3 3 ((adj cm (cv ⟨dh, kem⟩ l (l.take i) l) j).length + 1) (dC (adj cm (cv ⟨dh, kem⟩ l (l.take i) l) j ++ [y]))) [(26, tmS (.mk k n ks)), (0, bM), (0, bM), (0, bM)]]) 3 [(0, eB dh), (1, eB kem), (7, nwS 3), (9, tkS l), (10, eI i), (12, tkS cm), (13, eI j)] ⟨⟨xu rfl rfl rfl rfl, trivial⟩, ⟨ww rfl rfl rfl rfl rfl rfl (by omega), trivial⟩, ⟨dM rfl rfl rfl hy, dM rfl rfl rfl hy, dM rfl rfl rfl hy, trivial⟩, ⟨eZ rfl rfl, eZ rfl rfl, eZ rfl rfl, trivial⟩, ⟨de rfl rfl rfl, de rfl rfl rfl, de rfl rfl rfl, trivial⟩, ⟨wu rfl rfl rfl rfl rfl rfl (by omega), trivial⟩, trivial⟩ hS rfl fun ac g w hS => ?_
      obtain ⟨v2, hS⟩ := hS.openG (t := 7) rfl
      have hS := hS.freeze (t := 7) rfl
      have hS := SS.cut (L' := [(0, eqS (.bool dh)), (1, eqS (.bool kem)), (7, tkS (adj cm (cv ⟨dh, kem⟩ l (l.take i) l) j ++ [y])), (9, tkS l), (10, eI i), (12, tkS cm), (13, eI j)]) (ρ' := (loY w0.heap.size).rx) (ns := [(26, tmS (.mk k n ks))]) (l := [(0, bM), (0, bM), (0, bM)]) (m := 1) hS rfl rfl (fun h => h) (fun k p hp _ _ _ _ hh => by match k, hp with | 0, hp => cases hp; exact hh) ⟨⟨_, rfl, fun _ _ _ h => h⟩, ⟨_, rfl, fun _ _ _ h => h⟩, ⟨_, rfl, fun _ _ _ h => rP h⟩, ⟨_, rfl, fun _ _ _ h => h⟩, ⟨_, rfl, fun _ _ _ h => h⟩, ⟨_, rfl, fun _ _ _ h => h⟩, ⟨_, rfl, fun _ _ _ h => h⟩, trivial⟩
      refine bR ?_
      refine rz hS [e0 1 [(80, eI j)] (eI (((j : Nat) : Int) + 1))] [0, 1, 7, 9, 10, 12, 13] [(0, eB dh), (1, eB kem), (7, tkS (adj cm (cv ⟨dh, kem⟩ l (l.take i) l) j ++ [y])), (9, tkS l), (10, eI i), (12, tkS cm), (13, eI (((j : Nat) : Int) + 1))] ⟨⟨bL fun ξ g w hB hH => ⟨_, rfl, cy rfl rfl (bO (by omega) (by omega))⟩, trivial⟩, trivial⟩ fun ac g w hS => ?_
      refine bz ?_
      refine ⟨_, ?_, j + 1, _, rfl, hd, by rw [vm hy hq]; exact hS.to ⟨rfl, rfl, rfl, rfl, rfl, rfl, rfl, trivial⟩⟩
      omega
     ·have hq := h
      clear h
      have hq : ci (adj cm (cv ⟨dh, kem⟩ l (l.take i) l) j) y = true := by simpa using hq
      refine wp_skip ?_
      refine bR ?_
      refine rz hS [e0 1 [(80, eI j)] (eI (((j : Nat) : Int) + 1))] [0, 1, 7, 9, 10, 12, 13] [(0, eB dh), (1, eB kem), (7, tkS (adj cm (cv ⟨dh, kem⟩ l (l.take i) l) j)), (9, tkS l), (10, eI i), (12, tkS cm), (13, eI (((j : Nat) : Int) + 1))] ⟨⟨bL fun ξ g w hB hH => ⟨_, rfl, cy rfl rfl (bO (by omega) (by omega))⟩, trivial⟩, trivial⟩ fun ac g w hS => ?_
      refine bz ?_
      refine ⟨_, ?_, j + 1, _, rfl, hd, by rw [sU hy hq]; exact hS.to ⟨rfl, rfl, rfl, rfl, rfl, rfl, rfl, trivial⟩⟩
      omega
    ·have hd := of_decide_eq_false h
     clear h
     obtain rfl : j = cm.length := by omega
     refine wp_exit ?_
     refine bG ?_
     refine bG ?_
     refine bZ ?_
     refine bR ?_
     refine rz hS [e0 1 [(46, eI i)] (eI (((i : Nat) : Int) + 1))] [0, 1, 7, 9, 10] [(0, eB dh), (1, eB kem), (7, tkS (adj cm (cv ⟨dh, kem⟩ l (l.take i) l) cm.length)), (9, tkS l), (10, eI (((i : Nat) : Int) + 1))] ⟨⟨bL fun ξ g w hB hH => ⟨_, rfl, cy rfl rfl (bO (by omega) (by omega))⟩, trivial⟩, trivial⟩ fun ac g w hS => ?_
     refine bz ?_
     refine ⟨_, ?_, i + 1, _, rfl, hc, by rw [qf hx hcm]; exact hS.cut (ns := []) (m := 0) rfl rfl (fun h => h) (fun k p hp => by simp at hp) ⟨⟨_, rfl, fun _ _ _ h => h⟩, ⟨_, rfl, fun _ _ _ h => h⟩, ⟨_, rfl, fun _ _ _ h => h⟩, ⟨_, rfl, fun _ _ _ h => h⟩, ⟨_, rfl, fun _ _ _ h => h⟩, trivial⟩⟩
     omega
   refine wp_block ?_
   refine wp_seq ?_
   rcases rh k with rfl | rfl | rfl | ⟨h9, h8, h7⟩
   ·obtain ⟨a, b, rfl, d, o⟩ := (hl.ok _ (List.mem_of_getElem? hx)).two' (by decide) (by decide) (by decide)
    refine rz hS [] [0, 1, 7, 9, 10, 11, 12, 53, 54] [(0, eB dh), (1, eB kem), (7, tkS (cv ⟨dh, kem⟩ l (l.take i) l)), (9, tkS l), (10, eI i), (11, nwS 0), (12, tkS []), (53, eI 9), (54, eqS vt)] trivial fun ac g w hS => ?_
    refine wp_cond_true (hS.f.frm.eval rfl) ?_
    refine rz hS [e0 0 [(11, nwS 0)] (nwO 0 2), e0 1 [(56, nwO 0 2)] (tkS ([a, b]))] [0, 1, 7, 9, 10, 12] [(0, eB dh), (1, eB kem), (7, tkS (cv ⟨dh, kem⟩ l (l.take i) l)), (9, tkS l), (10, eI i), (12, tkS ([a, b]))] ⟨⟨bK (k := 0) rfl rfl rfl rfl (by decide) (by kernel_rfl), trivial⟩, ⟨dw (k := 0) rfl rfl rfl rfl, trivial⟩, trivial⟩ fun ac g w hS => ?_
    refine bR ?_
    refine bz ?_
    exact ⟨[a, b], g, u8, hS.to ⟨rfl, rfl, rfl, rfl, rfl, rfl, trivial⟩⟩
   ·obtain ⟨a, b, rfl, d, o⟩ := (hl.ok _ (List.mem_of_getElem? hx)).two' (by decide) (by decide) (by decide)
    refine rz hS [] [0, 1, 7, 9, 10, 11, 12, 53, 54] [(0, eB dh), (1, eB kem), (7, tkS (cv ⟨dh, kem⟩ l (l.take i) l)), (9, tkS l), (10, eI i), (11, nwS 0), (12, tkS []), (53, eI 8), (54, eqS vf)] trivial fun ac g w hS => ?_
    refine wp_cond_false (hS.f.frm.eval rfl) ?_
    refine wp_seq ?_
    refine rz hS [] [0, 1, 7, 9, 10, 11, 12, 53, 58] [(0, eB dh), (1, eB kem), (7, tkS (cv ⟨dh, kem⟩ l (l.take i) l)), (9, tkS l), (10, eI i), (11, nwS 0), (12, tkS []), (53, eI 8), (58, eqS vt)] trivial fun ac g w hS => ?_
    refine wp_cond_true (hS.f.frm.eval rfl) ?_
    refine rz hS [e0 0 [(11, nwS 0)] (nwO 0 2), e0 1 [(60, nwO 0 2)] (tkS ([a, b])), e0 2 [(61, tkS ([a, b]))] (tkS [b])] [0, 1, 7, 9, 10, 12] [(0, eB dh), (1, eB kem), (7, tkS (cv ⟨dh, kem⟩ l (l.take i) l)), (9, tkS l), (10, eI i), (12, tkS [b])] ⟨⟨bK (k := 0) rfl rfl rfl rfl (by decide) (by kernel_rfl), trivial⟩, ⟨dw (k := 0) rfl rfl rfl rfl, trivial⟩, ⟨tc rfl rfl rfl, trivial⟩, trivial⟩ fun ac g w hS => ?_
    refine bR ?_
    refine bz ?_
    exact ⟨[b], g, u_, hS.to ⟨rfl, rfl, rfl, rfl, rfl, rfl, trivial⟩⟩
   ·obtain ⟨a, b, rfl, d, o⟩ := (hl.ok _ (List.mem_of_getElem? hx)).two' (by decide) (by decide) (by decide)
    refine rz hS [] [0, 1, 7, 9, 10, 11, 12, 53, 54] [(0, eB dh), (1, eB kem), (7, tkS (cv ⟨dh, kem⟩ l (l.take i) l)), (9, tkS l), (10, eI i), (11, nwS 0), (12, tkS []), (53, eI 7), (54, eqS vf)] trivial fun ac g w hS => ?_
    refine wp_cond_false (hS.f.frm.eval rfl) ?_
    refine wp_seq ?_
    refine rz hS [] [0, 1, 7, 9, 10, 11, 12, 53, 58] [(0, eB dh), (1, eB kem), (7, tkS (cv ⟨dh, kem⟩ l (l.take i) l)), (9, tkS l), (10, eI i), (11, nwS 0), (12, tkS []), (53, eI 7), (58, eqS vf)] trivial fun ac g w hS => ?_
    refine wp_cond_false (hS.f.frm.eval rfl) ?_
    refine wp_seq ?_
    refine rz hS [] [0, 1, 7, 9, 10, 11, 12, 63] [(0, eB dh), (1, eB kem), (7, tkS (cv ⟨dh, kem⟩ l (l.take i) l)), (9, tkS l), (10, eI i), (11, nwS 0), (12, tkS []), (63, eqS vt)] trivial fun ac g w hS => ?_
    refine wp_cond_true (hS.f.frm.eval rfl) ?_
    refine wp_seq ?_
    refine rz hS [e0 3 [(11, nwS 0)] (nwO 0 2), e0 4 [(68, nwO 0 2)] (tkS ([a, b])), e0 5 [(69, tkS ([a, b]))] (tpS a 0), e0 6 [(70, tpS a 0)] (tmS a), e0 7 [(65, eB dh), (66, eB kem), (67, tkS l), (71, tmS a)] (eB (rb ⟨dh, kem⟩ l a))] [0, 1, 7, 9, 10, 11, 12, 72] [(0, eB dh), (1, eB kem), (7, tkS (cv ⟨dh, kem⟩ l (l.take i) l)), (9, tkS l), (10, eI i), (11, nwS 0), (12, tkS []), (72, eB (rb ⟨dh, kem⟩ l a))] ⟨⟨bK (k := 0) rfl rfl rfl rfl (by decide) (by kernel_rfl), trivial⟩, ⟨dw (k := 0) rfl rfl rfl rfl, trivial⟩, ⟨dM (j := 0) rfl rfl rfl rfl, trivial⟩, ⟨eZ rfl rfl, trivial⟩, ⟨b_ rfl fun ξ g w hB hH => a_ c75 rfl (jv hl.ok (by omega) a _ _ _ w d hB.wf.lt (hH 67 _ rfl) (hH 71 _ rfl)), trivial⟩, trivial⟩ fun ac g w hS => ?_
    refine bz ?_
    refine cn hS.f.frm rfl (fun h => ?_) (fun h => ?_)
    ·have hq := h
     clear h
     refine rz hS [e0 0 [(11, nwS 0)] (nwO 0 2), e0 1 [(73, nwO 0 2)] (tkS ([a, b])), e0 2 [(74, tkS ([a, b]))] (tkS [b])] [0, 1, 7, 9, 10, 12] [(0, eB dh), (1, eB kem), (7, tkS (cv ⟨dh, kem⟩ l (l.take i) l)), (9, tkS l), (10, eI i), (12, tkS [b])] ⟨⟨bK (k := 0) rfl rfl rfl rfl (by decide) (by kernel_rfl), trivial⟩, ⟨dw (k := 0) rfl rfl rfl rfl, trivial⟩, ⟨tc rfl rfl rfl, trivial⟩, trivial⟩ fun ac g w hS => ?_
     refine bR ?_
     refine bz ?_
     exact ⟨[b], g, sK hq, hS.to ⟨rfl, rfl, rfl, rfl, rfl, rfl, trivial⟩⟩
    ·have hq := h
     clear h
     refine wp_skip ?_
     refine bR ?_
     refine bz ?_
     exact ⟨[], g, sL hq, hS.to ⟨rfl, rfl, rfl, rfl, rfl, rfl, trivial⟩⟩
   ·skip
    refine rz hS [e0 0 [(53, eI k)] (eqS vf)] [0, 1, 7, 9, 10, 11, 12, 53, 54] [(0, eB dh), (1, eB kem), (7, tkS (cv ⟨dh, kem⟩ l (l.take i) l)), (9, tkS l), (10, eI i), (11, nwS 0), (12, tkS []), (53, eI k), (54, eqS vf)] ⟨⟨bS rfl rfl rfl (by simp [eQ, h9]), trivial⟩, trivial⟩ fun ac g w hS => ?_
    refine wp_cond_false (hS.f.frm.eval rfl) ?_
    refine wp_seq ?_
    refine rz hS [e0 0 [(53, eI k)] (eqS vf)] [0, 1, 7, 9, 10, 11, 12, 53, 58] [(0, eB dh), (1, eB kem), (7, tkS (cv ⟨dh, kem⟩ l (l.take i) l)), (9, tkS l), (10, eI i), (11, nwS 0), (12, tkS []), (53, eI k), (58, eqS vf)] ⟨⟨bS rfl rfl rfl (by simp [eQ, h8]), trivial⟩, trivial⟩ fun ac g w hS => ?_
    refine wp_cond_false (hS.f.frm.eval rfl) ?_
    refine wp_seq ?_
    refine rz hS [e0 0 [(53, eI k)] (eqS vf)] [0, 1, 7, 9, 10, 11, 12, 63] [(0, eB dh), (1, eB kem), (7, tkS (cv ⟨dh, kem⟩ l (l.take i) l)), (9, tkS l), (10, eI i), (11, nwS 0), (12, tkS []), (63, eqS vf)] ⟨⟨bS rfl rfl rfl (by simp [eQ, h7]), trivial⟩, trivial⟩ fun ac g w hS => ?_
    refine wp_cond_false (hS.f.frm.eval rfl) ?_
    refine wp_skip ?_
    refine bR ?_
    refine bz ?_
    exact ⟨[], g, u7 h9 h8 h7, hS.to ⟨rfl, rfl, rfl, rfl, rfl, rfl, trivial⟩⟩
  ·have hc := of_decide_eq_false h
   clear h
   obtain rfl : i = l.length := by omega
   rw [List.take_length] at hS
   refine wp_exit ?_
   refine bG ?_
   refine bG ?_
   refine bZ ?_
   refine wp_seq ?_
   refine rz hS [e0 1 [(98, tkS (cv ⟨dh, kem⟩ l l l))] (eI ((cv ⟨dh, kem⟩ l l l).length)), e0 3 [(100, tkS l)] (eI l.length)] [0, 1, 7, 9, 102] [(0, eB dh), (1, eB kem), (7, tkS (cv ⟨dh, kem⟩ l l l)), (9, tkS l), (102, eB (decide (((cv ⟨dh, kem⟩ l l l).length : Int) = l.length)))] ⟨⟨cC rfl rfl, trivial⟩, ⟨cC rfl rfl, trivial⟩, trivial⟩ fun ac g w hS => ?_
   refine bz ?_
   refine cn hS.f.frm rfl (fun h => ?_) (fun h => ?_)
   ·have he := of_decide_eq_true h
    clear h
    obtain rfl := tR hr (by omega)
    refine wp_seq ?_
    refine rz hS [] [0, 1, 6, 7, 9] [(0, eB dh), (1, eB kem), (6, tkS (cv ⟨dh, kem⟩ l l l)), (7, tkS (cv ⟨dh, kem⟩ l l l)), (9, tkS l)] trivial fun ac g w hS => ?_
    refine wp_ret ?_
    refine bY ?_
    refine bH ?_
    refine bY ?_
    exact bv hS.f.frm (bw Tryd.results76 (RV.tmp hS.f.frm rfl)) ⟨hS.gr0, tK (hS.f.get 6 _ rfl) hS.sub0⟩
   ·have he := of_decide_eq_false h
    clear h
    have he : ¬ (cv ⟨dh, kem⟩ l l l).length = l.length := by omega
    refine wp_skip ?_
    refine bR ?_
    refine bz ?_
    refine ⟨_, ?_, q, cv ⟨dh, kem⟩ l l l, _, rfl, vJ hr he, hl.opns hl (fun _ h => h), hS.to ⟨rfl, rfl, rfl, trivial⟩⟩
    omega
set_option maxRecDepth 100000 in
set_option maxHeartbeats 4000000 in
theorem oO {dh kem : Bool} {known lf : List Tm} {t : Tm} {gq : Nat} {U : List Tx} {X : List Nat} {v u : Value} (w0 : World) (hX : ∀ x, x ∈ X → x < w0.heap.size) (hk : ∀ x, x ∈ known → cw x 0 = true ∧ cx x ≤ 5000 ∧ Ok x) (hkl : known.length ≤ 100000000) (hinv : ∀ i, LInv U (fsl known i)) (hU : U.length ≤ 900000) (hro : dA ⟨dh, kem⟩ gq (fsl known known.length) = some lf) (hlo : ∀ x, x ∈ lf → Ok x) (hll : lf.length ≤ 100000000) (ht : cw t 0 = true ∧ cx t ≤ 5000 ∧ Ok t) (hv : fZ w0 X known v) (hu : TmIs w0 X t u) : Calls Tryd.prog 40 (List.toArray [.bool dh, .bool kem, v, u]) w0 (Ret fun v w' => Gr w0 w' ∧ v = .bool (rb ⟨dh, kem⟩ lf t)) := by
 refine df [eqS (.bool dh), eqS (.bool kem), tkS known, tmS t] hX ⟨rfl, rfl, hv, hu, trivial⟩ Tryd.func40 rfl Tryd.ntmps40 rfl fun ac hS => ?_
 refine wp_seq ?_
 refine rx [e1 0 [(3, tmS t)] (nwS 0)] [0, 1, 2, 7, 8] (Bl [stB noR [], stB noR [(26, tmS t)]]) 1 [(0, eB dh), (1, eB kem), (2, tkS known), (7, nwS 0), (8, eqS vf)] ⟨⟨cO rfl rfl rfl rfl (bQ _).sized rfl, trivial⟩, trivial⟩ hS rfl fun ac g w hS => ?_
 refine wp_seq ?_
 refine ry mo hS [e0 0 [(7, nwS 0)] (tmS t), e0 1 [(9, tmS t)] (eqS vt), e0 8 [(11, eqS vt), (14, eB dh), (15, eB kem), (16, tkS known)] (tkS lf), e0 9 [(11, eqS vt), (7, nwS 0)] (tmS t), e0 10 [(11, eqS vt), (12, eB dh), (13, eB kem), (17, tkS lf), (18, tmS t)] (eB (rb ⟨dh, kem⟩ lf t))] [8] [(8, eB (rb ⟨dh, kem⟩ lf t))] ⟨⟨cc (k := 0) rfl rfl rfl rfl (by decide) u26 rfl bV (bQ _).sized, trivial⟩, ⟨b_ rfl fun ξ g w hB hH => a_ c22 rfl (n3 w hB.wf.lt ht.1 ht.2.1 (hH 9 _ rfl)), trivial⟩, ⟨b_ rfl fun ξ g w hB hH => a_ c76 rfl (oN w hB.wf.lt hk hkl hinv hU hro (hH 16 _ rfl)), trivial⟩, ⟨cc (k := 0) rfl rfl rfl rfl (by decide) u26 rfl bV (bQ _).sized, trivial⟩, ⟨b_ rfl fun ξ g w hB hH => a_ c75 rfl (jv hlo hll t _ _ _ w ht.2.2 hB.wf.lt (hH 17 _ rfl) (hH 18 _ rfl)), trivial⟩, trivial⟩ fun ac g w hS => ?_
 refine wp_ret ?_
 exact bv hS.f.frm (bw Tryd.results40 (RV.tmp hS.f.frm rfl)) ⟨hS.gr0, rfl⟩
end Go.Mi.Term
