/- Walks: package symbol. -/
import Derived.Test.YtoefhjabaanokaaDoorH40
import Derived.Test.YtoefhjabaanokaaDoorK1
set_option linter.unusedSimpArgs false
set_option linter.unusedVariables false
set_option linter.unnecessarySimpa false
namespace Go.Mi.Term
open Go.Mi Go.Proofs Go.RowKit
set_option maxRecDepth 100000 in
set_option maxHeartbeats 4000000 in
theorem pF {k n : Int} {ks : List Tm} (ih : ∀ x, x ∈ ks → ∀ (d : Nat) (X : List Nat) (u : Value) (w : World), cw x d = true → cx x ≤ 5000 → (∀ x, x ∈ X → x < w.heap.size) → TmIs w X x u → Calls Tryd.prog 49 (List.toArray [u, vI (d + 1 : Nat)]) w (Ret fun v' w' => Gr w w' ∧ v' = .tuple #[vI (cx x : Nat), .bool true])) {d : Nat} {X : List Nat} {u : Value} (w0 : World) (hX : ∀ x, x ∈ X → x < w0.heap.size) (hd : cw (.mk k n ks) d = true) (hn : cx (.mk k n ks) ≤ 5000) (hu : TmIs w0 X (.mk k n ks) u) : Calls Tryd.prog 49 (List.toArray [u, vI (d + 1 : Nat)]) w0 (Ret fun v w' => Gr w0 w' ∧ v = .tuple #[vI (cx (.mk k n ks) : Nat), .bool true]) := by
 obtain ⟨⟨o, e⟩, l, hd100, a, b, j⟩ := lW hd
 have hl8 := (dS (fI _ _ hd).1).2.2.2
 simp only [cx] at hn
 refine df [tmS (.mk k n ks), eI (d + 1 : Nat)] hX ⟨hu, rfl, trivial⟩ Tryd.func49 rfl Tryd.ntmps49 rfl fun ac hS => ?_
 refine wp_seq ?_
 refine rx [e1 0 [(0, tmS (.mk k n ks))] (nwS 0)] [1, 2, 4, 5] (Bl [stB noR [], stB noR [(26, tmS (.mk k n ks))]]) 1 [(1, eI (d + 1 : Nat)), (2, nwS 0), (4, eI 0), (5, eqS vf)] ⟨⟨cO rfl rfl rfl rfl (bQ _).sized rfl, trivial⟩, trivial⟩ hS rfl fun ac g w hS => ?_
 refine wp_seq ?_
 refine rz hS [e0 1 [(11, eI (d + 1 : Nat))] (eqS vt)] [1, 2, 4, 5, 6] [(1, eI (d + 1 : Nat)), (2, nwS 0), (4, eI 0), (5, eqS vf), (6, eqS vt)] ⟨⟨bS rfl rfl rfl (congrArg some (decide_eq_true (by omega))), trivial⟩, trivial⟩ fun ac g w hS => ?_
 refine wp_seq ?_
 refine wp_seq ?_
 refine rz hS [e0 0 [(2, nwS 0)] (nwO 0 0), e0 1 [(13, nwO 0 0)] (eI k)] [1, 2, 4, 5, 6, 14] [(1, eI (d + 1 : Nat)), (2, nwS 0), (4, eI 0), (5, eqS vf), (6, eqS vt), (14, eI k)] ⟨⟨bK (k := 0) rfl rfl rfl rfl (by decide) (by kernel_rfl), trivial⟩, ⟨fp (k := 0) rfl rfl rfl rfl, trivial⟩, trivial⟩ fun ac g w hS => ?_
 refine bz ?_
 refine eD (fun ac w => ∃  (g : Gh), SS [(1, eI (d + 1 : Nat)), (2, nwS 0), (6, eqS vt)] 107 (stB noR [(26, tmS (.mk k n ks))]) ⟨[], [], X, []⟩ w0 ac g w) ?_ ?_
 rotate_left
 ·rintro ac w ⟨g, hS⟩
  refine wp_seq ?_
  refine rz hS [] [1, 2, 6, 7] [(1, eI (d + 1 : Nat)), (2, nwS 0), (6, eqS vt), (7, eI 1)] trivial fun ac g w hS => ?_
  refine wp_seq ?_
  refine wp_seq ?_
  refine rz hS [] [1, 2, 6, 7, 8] [(1, eI (d + 1 : Nat)), (2, nwS 0), (6, eqS vt), (7, eI 1), (8, eI 0)] trivial fun ac g w hS => ?_
  refine bz ?_
  refine wp_block ?_
  refine cb (fun m ac w => ∃ (i : Nat) (g : Gh), m = ks.length - i ∧ (i ≤ ks.length) ∧ SS [(1, eI (d + 1 : Nat)), (2, nwS 0), (6, eqS vt), (7, eI (1 + ck (ks.take i) : Nat)), (8, eI i)] 107 (stB noR [(26, tmS (.mk k n ks))]) ⟨[], [], X, []⟩ w0 ac g w) _ ⟨0, _, rfl, Nat.zero_le _, hS.to ⟨rfl, rfl, rfl, rfl, rfl, trivial⟩⟩ ?_
  rintro _ ac w ⟨i, g, rfl, hi, hS⟩
  have ht0 := jD ks i
  refine wp_seq ?_
  refine wp_seq ?_
  by_cases hc : i < ks.length
  ·obtain ⟨x, hx⟩ : ∃ x, ks[i]? = some x := ⟨_, List.getElem?_eq_getElem hc⟩
   have c := List.mem_of_getElem? hx
   have hx5 := oZ c
   have h := nt hx
   have ht1 := jD ks (i + 1)
   refine rz hS [e0 1 [(2, nwS 0)] (nwO 0 2), e0 2 [(73, nwO 0 2)] (tkS ks), e0 3 [(74, tkS ks)] (eI ks.length), e0 4 [(72, eI i), (75, eI ks.length)] (eqS vt), e0 7 [(77, eqS vt), (78, eI (1 + ck (ks.take i) : Nat))] (eqS vt)] [1, 2, 6, 7, 8, 83] [(1, eI (d + 1 : Nat)), (2, nwS 0), (6, eqS vt), (7, eI (1 + ck (ks.take i) : Nat)), (8, eI i), (83, eqS vt)] ⟨⟨bK (k := 0) rfl rfl rfl rfl (by decide) (by kernel_rfl), trivial⟩, ⟨dw (k := 0) rfl rfl rfl rfl, trivial⟩, ⟨cC rfl rfl, trivial⟩, ⟨bS rfl rfl rfl (congrArg some (decide_eq_true (by omega))), trivial⟩, ⟨bS rfl rfl rfl (congrArg some (decide_eq_true (by omega))), trivial⟩, trivial⟩ fun ac g w hS => ?_
   refine wp_cond_true (hS.f.frm.eval rfl) ?_
   refine wp_skip ?_
   refine wp_seq ?_
   refine wp_block ?_
   refine wp_seq ?_
   refine rz hS [e0 0 [(2, nwS 0)] (nwO 0 2), e0 1 [(87, nwO 0 2)] (tkS ks), e0 3 [(88, tkS ks), (89, eI i)] (tpS x 0), e0 4 [(90, tpS x 0)] (tmS x), e0 6 [(92, eI (d + 1 : Nat))] (eI (d + 1 + 1 : Nat)), e0 7 [(91, tmS x), (93, eI (d + 1 + 1 : Nat))] (eqS (Value.tuple #[(vI (cx x : Nat)), vt]))] [1, 2, 6, 7, 8, 9, 10] [(1, eI (d + 1 : Nat)), (2, nwS 0), (6, eqS vt), (7, eI (1 + ck (ks.take i) : Nat)), (8, eI i), (9, eI (cx x : Nat)), (10, eqS vt)] ⟨⟨bK (k := 0) rfl rfl rfl rfl (by decide) (by kernel_rfl), trivial⟩, ⟨dw (k := 0) rfl rfl rfl rfl, trivial⟩, ⟨dM rfl rfl rfl hx, trivial⟩, ⟨eZ rfl rfl, trivial⟩, ⟨bL fun ξ g w hB hH => ⟨_, rfl, cy rfl rfl (bO (by omega) (by omega))⟩, trivial⟩, ⟨b_ rfl fun ξ g w hB hH => a_ c49 rfl (ih x c (d + 1) _ _ w (j x c) (by omega) hB.wf.lt (hH 91 _ rfl)), trivial⟩, trivial⟩ fun ac g w hS => ?_
   refine wp_seq ?_
   refine rz hS [e0 2 [(97, eI (1 + ck (ks.take i) : Nat)), (98, eI (cx x : Nat))] (eI (1 + ck (ks.take i) + cx x : Nat))] [1, 2, 6, 7, 8, 10] [(1, eI (d + 1 : Nat)), (2, nwS 0), (6, eqS vt), (7, eI (1 + ck (ks.take i) + cx x : Nat)), (8, eI i), (10, eqS vt)] ⟨⟨bL fun ξ g w hB hH => ⟨_, rfl, cy rfl rfl (bO (by omega) (by omega))⟩, trivial⟩, trivial⟩ fun ac g w hS => ?_
   refine rz hS [] [1, 2, 6, 7, 8] [(1, eI (d + 1 : Nat)), (2, nwS 0), (6, eqS vt), (7, eI (1 + ck (ks.take i) + cx x : Nat)), (8, eI i)] trivial fun ac g w hS => ?_
   refine bR ?_
   refine rz hS [e0 1 [(84, eI i)] (eI (((i : Nat) : Int) + 1))] [1, 2, 6, 7, 8] [(1, eI (d + 1 : Nat)), (2, nwS 0), (6, eqS vt), (7, eI (1 + ck (ks.take i) + cx x : Nat)), (8, eI (((i : Nat) : Int) + 1))] ⟨⟨bL fun ξ g w hB hH => ⟨_, rfl, cy rfl rfl (bO (by omega) (by omega))⟩, trivial⟩, trivial⟩ fun ac g w hS => ?_
   refine bz ?_
   refine ⟨_, ?_, i + 1, _, rfl, hc, by rw [h, ← Nat.add_assoc]; exact hS.to ⟨rfl, rfl, rfl, rfl, rfl, trivial⟩⟩
   omega
  ·obtain rfl : i = ks.length := by omega
   rw [List.take_length] at hS
   refine rz hS [e0 1 [(2, nwS 0)] (nwO 0 2), e0 2 [(73, nwO 0 2)] (tkS ks), e0 3 [(74, tkS ks)] (eI ks.length), e0 4 [(72, eI ks.length), (75, eI ks.length)] (eqS vf)] [1, 2, 6, 7, 8, 83] [(1, eI (d + 1 : Nat)), (2, nwS 0), (6, eqS vt), (7, eI (1 + ck ks : Nat)), (8, eI ks.length), (83, eqS vf)] ⟨⟨bK (k := 0) rfl rfl rfl rfl (by decide) (by kernel_rfl), trivial⟩, ⟨dw (k := 0) rfl rfl rfl rfl, trivial⟩, ⟨cC rfl rfl, trivial⟩, ⟨bS rfl rfl rfl (congrArg some (decide_eq_false (by omega))), trivial⟩, trivial⟩ fun ac g w hS => ?_
   refine wp_cond_false (hS.f.frm.eval rfl) ?_
   refine wp_exit ?_
   refine bG ?_
   refine bG ?_
   refine bZ ?_
   refine wp_seq ?_
   refine rz hS [e0 1 [(104, eI (1 + ck ks : Nat))] (eI (1 + ck ks : Nat))] [1, 2, 4, 5, 6, 7, 8] [(1, eI (d + 1 : Nat)), (2, nwS 0), (4, eI (1 + ck ks : Nat)), (5, eqS vt), (6, eqS vt), (7, eI (1 + ck ks : Nat)), (8, eI ks.length)] ⟨⟨bL fun ξ g w hB hH => ⟨_, rfl, tC rfl rfl (by split <;> omega)⟩, trivial⟩, trivial⟩ fun ac g w hS => ?_
   refine wp_ret ?_
   exact bv hS.f.frm (pI Tryd.results49 (RV.tmp hS.f.frm rfl) (RV.tmp hS.f.frm rfl)) ⟨hS.gr0, rfl⟩
 refine wp_block ?_
 refine wp_seq ?_
 rcases ny o e with rfl | rfl | rfl | rfl | rfl | rfl | rfl | rfl | rfl
 ·have a : 0 ≤ ks.length := a
  have b : ks.length ≤ 0 := b
  obtain ⟨hn0, hn1⟩ := l rfl
  refine rz hS [] [1, 2, 4, 5, 6, 14, 15] [(1, eI (d + 1 : Nat)), (2, nwS 0), (4, eI 0), (5, eqS vf), (6, eqS vt), (14, eI 1), (15, eqS vt)] trivial fun ac g w hS => ?_
  refine wp_cond_true (hS.f.frm.eval rfl) ?_
  refine rz hS [e0 2 [(18, eqS vt), (2, nwS 0)] (nwO 0 1), e0 3 [(18, eqS vt), (19, nwO 0 1)] (eI n), e0 4 [(18, eqS vt), (20, eI n)] (eqS vt), e0 7 [(23, eqS vt), (2, nwS 0)] (nwO 0 1), e0 8 [(23, eqS vt), (24, nwO 0 1)] (eI n), e0 9 [(23, eqS vt), (25, eI n)] (eqS vt), e0 12 [(28, eqS vt), (2, nwS 0)] (nwO 0 2), e0 13 [(28, eqS vt), (29, nwO 0 2)] (tkS ks), e0 14 [(28, eqS vt), (30, tkS ks)] (eI ks.length), e0 15 [(28, eqS vt), (31, eI ks.length)] (eqS vt)] [1, 2, 4, 5, 6] [(1, eI (d + 1 : Nat)), (2, nwS 0), (4, eI 0), (5, eqS vf), (6, eqS vt)] ⟨⟨bK (k := 0) rfl rfl rfl rfl (by decide) (by kernel_rfl), trivial⟩, ⟨oQ (k := 0) rfl rfl rfl rfl, trivial⟩, ⟨bS rfl rfl rfl (congrArg some (decide_eq_true (by omega))), trivial⟩, ⟨bK (k := 0) rfl rfl rfl rfl (by decide) (by kernel_rfl), trivial⟩, ⟨oQ (k := 0) rfl rfl rfl rfl, trivial⟩, ⟨bS rfl rfl rfl (congrArg some (decide_eq_true (by omega))), trivial⟩, ⟨bK (k := 0) rfl rfl rfl rfl (by decide) (by kernel_rfl), trivial⟩, ⟨dw (k := 0) rfl rfl rfl rfl, trivial⟩, ⟨cC rfl rfl, trivial⟩, ⟨bS rfl rfl rfl (congrArg some (decide_eq_true (by omega))), trivial⟩, trivial⟩ fun ac g w hS => ?_
  refine bR ?_
  refine bz ?_
  exact ⟨g, hS.to ⟨rfl, rfl, rfl, trivial⟩⟩
 ·have a : 1 ≤ ks.length := a
  have b : ks.length ≤ 1 := b
  refine rz hS [] [1, 2, 4, 5, 6, 14, 15] [(1, eI (d + 1 : Nat)), (2, nwS 0), (4, eI 0), (5, eqS vf), (6, eqS vt), (14, eI 2), (15, eqS vf)] trivial fun ac g w hS => ?_
  refine wp_cond_false (hS.f.frm.eval rfl) ?_
  refine wp_seq ?_
  refine rz hS [] [1, 2, 4, 5, 6, 14, 34] [(1, eI (d + 1 : Nat)), (2, nwS 0), (4, eI 0), (5, eqS vf), (6, eqS vt), (14, eI 2), (34, eqS vt)] trivial fun ac g w hS => ?_
  refine wp_cond_true (hS.f.frm.eval rfl) ?_
  refine rz hS [e0 2 [(37, eqS vt), (2, nwS 0)] (nwO 0 2), e0 3 [(37, eqS vt), (38, nwO 0 2)] (tkS ks), e0 4 [(37, eqS vt), (39, tkS ks)] (eI ks.length), e0 5 [(37, eqS vt), (40, eI ks.length)] (eqS vt)] [1, 2, 4, 5, 6] [(1, eI (d + 1 : Nat)), (2, nwS 0), (4, eI 0), (5, eqS vf), (6, eqS vt)] ⟨⟨bK (k := 0) rfl rfl rfl rfl (by decide) (by kernel_rfl), trivial⟩, ⟨dw (k := 0) rfl rfl rfl rfl, trivial⟩, ⟨cC rfl rfl, trivial⟩, ⟨bS rfl rfl rfl (congrArg some (decide_eq_true (by omega))), trivial⟩, trivial⟩ fun ac g w hS => ?_
  refine bR ?_
  refine bz ?_
  exact ⟨g, hS.to ⟨rfl, rfl, rfl, trivial⟩⟩
 ·have a : 2 ≤ ks.length := a
  have b : ks.length ≤ 2 := b
  refine rz hS [] [1, 2, 4, 5, 6, 14, 15] [(1, eI (d + 1 : Nat)), (2, nwS 0), (4, eI 0), (5, eqS vf), (6, eqS vt), (14, eI 3), (15, eqS vf)] trivial fun ac g w hS => ?_
  refine wp_cond_false (hS.f.frm.eval rfl) ?_
  refine wp_seq ?_
  refine rz hS [] [1, 2, 4, 5, 6, 14, 34] [(1, eI (d + 1 : Nat)), (2, nwS 0), (4, eI 0), (5, eqS vf), (6, eqS vt), (14, eI 3), (34, eqS vf)] trivial fun ac g w hS => ?_
  refine wp_cond_false (hS.f.frm.eval rfl) ?_
  refine wp_seq ?_
  refine rz hS [] [1, 2, 4, 5, 6, 14, 43] [(1, eI (d + 1 : Nat)), (2, nwS 0), (4, eI 0), (5, eqS vf), (6, eqS vt), (14, eI 3), (43, eqS vf)] trivial fun ac g w hS => ?_
  refine wp_cond_false (hS.f.frm.eval rfl) ?_
  refine wp_seq ?_
  refine wp_seq ?_
  refine rz hS [] [1, 2, 4, 5, 6, 14, 58] [(1, eI (d + 1 : Nat)), (2, nwS 0), (4, eI 0), (5, eqS vf), (6, eqS vt), (14, eI 3), (58, eqS vt)] trivial fun ac g w hS => ?_
  refine wp_cond_true (hS.f.frm.eval rfl) ?_
  refine wp_skip ?_
  refine wp_cond_true (hS.f.frm.eval rfl) ?_
  refine rz hS [e0 2 [(66, eqS vt), (2, nwS 0)] (nwO 0 2), e0 3 [(66, eqS vt), (67, nwO 0 2)] (tkS ks), e0 4 [(66, eqS vt), (68, tkS ks)] (eI ks.length), e0 5 [(66, eqS vt), (69, eI ks.length)] (eqS vt)] [1, 2, 4, 5, 6] [(1, eI (d + 1 : Nat)), (2, nwS 0), (4, eI 0), (5, eqS vf), (6, eqS vt)] ⟨⟨bK (k := 0) rfl rfl rfl rfl (by decide) (by kernel_rfl), trivial⟩, ⟨dw (k := 0) rfl rfl rfl rfl, trivial⟩, ⟨cC rfl rfl, trivial⟩, ⟨bS rfl rfl rfl (congrArg some (decide_eq_true (by omega))), trivial⟩, trivial⟩ fun ac g w hS => ?_
  refine bR ?_
  refine bz ?_
  exact ⟨g, hS.to ⟨rfl, rfl, rfl, trivial⟩⟩
 ·have a : 2 ≤ ks.length := a
  have b : ks.length ≤ 2 := b
  refine rz hS [] [1, 2, 4, 5, 6, 14, 15] [(1, eI (d + 1 : Nat)), (2, nwS 0), (4, eI 0), (5, eqS vf), (6, eqS vt), (14, eI 4), (15, eqS vf)] trivial fun ac g w hS => ?_
  refine wp_cond_false (hS.f.frm.eval rfl) ?_
  refine wp_seq ?_
  refine rz hS [] [1, 2, 4, 5, 6, 14, 34] [(1, eI (d + 1 : Nat)), (2, nwS 0), (4, eI 0), (5, eqS vf), (6, eqS vt), (14, eI 4), (34, eqS vf)] trivial fun ac g w hS => ?_
  refine wp_cond_false (hS.f.frm.eval rfl) ?_
  refine wp_seq ?_
  refine rz hS [] [1, 2, 4, 5, 6, 14, 43] [(1, eI (d + 1 : Nat)), (2, nwS 0), (4, eI 0), (5, eqS vf), (6, eqS vt), (14, eI 4), (43, eqS vf)] trivial fun ac g w hS => ?_
  refine wp_cond_false (hS.f.frm.eval rfl) ?_
  refine wp_seq ?_
  refine wp_seq ?_
  refine rz hS [] [1, 2, 4, 5, 6, 14, 58] [(1, eI (d + 1 : Nat)), (2, nwS 0), (4, eI 0), (5, eqS vf), (6, eqS vt), (14, eI 4), (58, eqS vf)] trivial fun ac g w hS => ?_
  refine wp_cond_false (hS.f.frm.eval rfl) ?_
  refine wp_seq ?_
  refine rz hS [] [1, 2, 4, 5, 6, 14, 58] [(1, eI (d + 1 : Nat)), (2, nwS 0), (4, eI 0), (5, eqS vf), (6, eqS vt), (14, eI 4), (58, eqS vt)] trivial fun ac g w hS => ?_
  refine wp_cond_true (hS.f.frm.eval rfl) ?_
  refine wp_skip ?_
  refine wp_cond_true (hS.f.frm.eval rfl) ?_
  refine rz hS [e0 2 [(66, eqS vt), (2, nwS 0)] (nwO 0 2), e0 3 [(66, eqS vt), (67, nwO 0 2)] (tkS ks), e0 4 [(66, eqS vt), (68, tkS ks)] (eI ks.length), e0 5 [(66, eqS vt), (69, eI ks.length)] (eqS vt)] [1, 2, 4, 5, 6] [(1, eI (d + 1 : Nat)), (2, nwS 0), (4, eI 0), (5, eqS vf), (6, eqS vt)] ⟨⟨bK (k := 0) rfl rfl rfl rfl (by decide) (by kernel_rfl), trivial⟩, ⟨dw (k := 0) rfl rfl rfl rfl, trivial⟩, ⟨cC rfl rfl, trivial⟩, ⟨bS rfl rfl rfl (congrArg some (decide_eq_true (by omega))), trivial⟩, trivial⟩ fun ac g w hS => ?_
  refine bR ?_
  refine bz ?_
  exact ⟨g, hS.to ⟨rfl, rfl, rfl, trivial⟩⟩
 ·have a : 2 ≤ ks.length := a
  have b : ks.length ≤ 2 := b
  refine rz hS [] [1, 2, 4, 5, 6, 14, 15] [(1, eI (d + 1 : Nat)), (2, nwS 0), (4, eI 0), (5, eqS vf), (6, eqS vt), (14, eI 5), (15, eqS vf)] trivial fun ac g w hS => ?_
  refine wp_cond_false (hS.f.frm.eval rfl) ?_
  refine wp_seq ?_
  refine rz hS [] [1, 2, 4, 5, 6, 14, 34] [(1, eI (d + 1 : Nat)), (2, nwS 0), (4, eI 0), (5, eqS vf), (6, eqS vt), (14, eI 5), (34, eqS vf)] trivial fun ac g w hS => ?_
  refine wp_cond_false (hS.f.frm.eval rfl) ?_
  refine wp_seq ?_
  refine rz hS [] [1, 2, 4, 5, 6, 14, 43] [(1, eI (d + 1 : Nat)), (2, nwS 0), (4, eI 0), (5, eqS vf), (6, eqS vt), (14, eI 5), (43, eqS vf)] trivial fun ac g w hS => ?_
  refine wp_cond_false (hS.f.frm.eval rfl) ?_
  refine wp_seq ?_
  refine wp_seq ?_
  refine rz hS [] [1, 2, 4, 5, 6, 14, 58] [(1, eI (d + 1 : Nat)), (2, nwS 0), (4, eI 0), (5, eqS vf), (6, eqS vt), (14, eI 5), (58, eqS vf)] trivial fun ac g w hS => ?_
  refine wp_cond_false (hS.f.frm.eval rfl) ?_
  refine wp_seq ?_
  refine rz hS [] [1, 2, 4, 5, 6, 14, 58] [(1, eI (d + 1 : Nat)), (2, nwS 0), (4, eI 0), (5, eqS vf), (6, eqS vt), (14, eI 5), (58, eqS vf)] trivial fun ac g w hS => ?_
  refine wp_cond_false (hS.f.frm.eval rfl) ?_
  refine wp_seq ?_
  refine rz hS [] [1, 2, 4, 5, 6, 14, 58] [(1, eI (d + 1 : Nat)), (2, nwS 0), (4, eI 0), (5, eqS vf), (6, eqS vt), (14, eI 5), (58, eqS vt)] trivial fun ac g w hS => ?_
  refine wp_cond_true (hS.f.frm.eval rfl) ?_
  refine wp_skip ?_
  refine wp_cond_true (hS.f.frm.eval rfl) ?_
  refine rz hS [e0 2 [(66, eqS vt), (2, nwS 0)] (nwO 0 2), e0 3 [(66, eqS vt), (67, nwO 0 2)] (tkS ks), e0 4 [(66, eqS vt), (68, tkS ks)] (eI ks.length), e0 5 [(66, eqS vt), (69, eI ks.length)] (eqS vt)] [1, 2, 4, 5, 6] [(1, eI (d + 1 : Nat)), (2, nwS 0), (4, eI 0), (5, eqS vf), (6, eqS vt)] ⟨⟨bK (k := 0) rfl rfl rfl rfl (by decide) (by kernel_rfl), trivial⟩, ⟨dw (k := 0) rfl rfl rfl rfl, trivial⟩, ⟨cC rfl rfl, trivial⟩, ⟨bS rfl rfl rfl (congrArg some (decide_eq_true (by omega))), trivial⟩, trivial⟩ fun ac g w hS => ?_
  refine bR ?_
  refine bz ?_
  exact ⟨g, hS.to ⟨rfl, rfl, rfl, trivial⟩⟩
 ·have a : 1 ≤ ks.length := a
  have b : ks.length ≤ 8 := b
  refine rz hS [] [1, 2, 4, 5, 6, 14, 15] [(1, eI (d + 1 : Nat)), (2, nwS 0), (4, eI 0), (5, eqS vf), (6, eqS vt), (14, eI 6), (15, eqS vf)] trivial fun ac g w hS => ?_
  refine wp_cond_false (hS.f.frm.eval rfl) ?_
  refine wp_seq ?_
  refine rz hS [] [1, 2, 4, 5, 6, 14, 34] [(1, eI (d + 1 : Nat)), (2, nwS 0), (4, eI 0), (5, eqS vf), (6, eqS vt), (14, eI 6), (34, eqS vf)] trivial fun ac g w hS => ?_
  refine wp_cond_false (hS.f.frm.eval rfl) ?_
  refine wp_seq ?_
  refine rz hS [] [1, 2, 4, 5, 6, 14, 43] [(1, eI (d + 1 : Nat)), (2, nwS 0), (4, eI 0), (5, eqS vf), (6, eqS vt), (14, eI 6), (43, eqS vt)] trivial fun ac g w hS => ?_
  refine wp_cond_true (hS.f.frm.eval rfl) ?_
  refine rz hS [e0 2 [(46, eqS vt), (2, nwS 0)] (nwO 0 2), e0 3 [(46, eqS vt), (47, nwO 0 2)] (tkS ks), e0 4 [(46, eqS vt), (48, tkS ks)] (eI ks.length), e0 5 [(46, eqS vt), (49, eI ks.length)] (eqS vt), e0 8 [(52, eqS vt), (2, nwS 0)] (nwO 0 2), e0 9 [(52, eqS vt), (53, nwO 0 2)] (tkS ks), e0 10 [(52, eqS vt), (54, tkS ks)] (eI ks.length), e0 11 [(52, eqS vt), (55, eI ks.length)] (eqS vt)] [1, 2, 4, 5, 6] [(1, eI (d + 1 : Nat)), (2, nwS 0), (4, eI 0), (5, eqS vf), (6, eqS vt)] ⟨⟨bK (k := 0) rfl rfl rfl rfl (by decide) (by kernel_rfl), trivial⟩, ⟨dw (k := 0) rfl rfl rfl rfl, trivial⟩, ⟨cC rfl rfl, trivial⟩, ⟨bS rfl rfl rfl (congrArg some (decide_eq_true (by omega))), trivial⟩, ⟨bK (k := 0) rfl rfl rfl rfl (by decide) (by kernel_rfl), trivial⟩, ⟨dw (k := 0) rfl rfl rfl rfl, trivial⟩, ⟨cC rfl rfl, trivial⟩, ⟨bS rfl rfl rfl (congrArg some (decide_eq_true (by omega))), trivial⟩, trivial⟩ fun ac g w hS => ?_
  refine bR ?_
  refine bz ?_
  exact ⟨g, hS.to ⟨rfl, rfl, rfl, trivial⟩⟩
 ·have a : 2 ≤ ks.length := a
  have b : ks.length ≤ 2 := b
  refine rz hS [] [1, 2, 4, 5, 6, 14, 15] [(1, eI (d + 1 : Nat)), (2, nwS 0), (4, eI 0), (5, eqS vf), (6, eqS vt), (14, eI 7), (15, eqS vf)] trivial fun ac g w hS => ?_
  refine wp_cond_false (hS.f.frm.eval rfl) ?_
  refine wp_seq ?_
  refine rz hS [] [1, 2, 4, 5, 6, 14, 34] [(1, eI (d + 1 : Nat)), (2, nwS 0), (4, eI 0), (5, eqS vf), (6, eqS vt), (14, eI 7), (34, eqS vf)] trivial fun ac g w hS => ?_
  refine wp_cond_false (hS.f.frm.eval rfl) ?_
  refine wp_seq ?_
  refine rz hS [] [1, 2, 4, 5, 6, 14, 43] [(1, eI (d + 1 : Nat)), (2, nwS 0), (4, eI 0), (5, eqS vf), (6, eqS vt), (14, eI 7), (43, eqS vf)] trivial fun ac g w hS => ?_
  refine wp_cond_false (hS.f.frm.eval rfl) ?_
  refine wp_seq ?_
  refine wp_seq ?_
  refine rz hS [] [1, 2, 4, 5, 6, 14, 58] [(1, eI (d + 1 : Nat)), (2, nwS 0), (4, eI 0), (5, eqS vf), (6, eqS vt), (14, eI 7), (58, eqS vf)] trivial fun ac g w hS => ?_
  refine wp_cond_false (hS.f.frm.eval rfl) ?_
  refine wp_seq ?_
  refine rz hS [] [1, 2, 4, 5, 6, 14, 58] [(1, eI (d + 1 : Nat)), (2, nwS 0), (4, eI 0), (5, eqS vf), (6, eqS vt), (14, eI 7), (58, eqS vf)] trivial fun ac g w hS => ?_
  refine wp_cond_false (hS.f.frm.eval rfl) ?_
  refine wp_seq ?_
  refine rz hS [] [1, 2, 4, 5, 6, 14, 58] [(1, eI (d + 1 : Nat)), (2, nwS 0), (4, eI 0), (5, eqS vf), (6, eqS vt), (14, eI 7), (58, eqS vf)] trivial fun ac g w hS => ?_
  refine wp_cond_false (hS.f.frm.eval rfl) ?_
  refine wp_seq ?_
  refine rz hS [] [1, 2, 4, 5, 6, 14, 58] [(1, eI (d + 1 : Nat)), (2, nwS 0), (4, eI 0), (5, eqS vf), (6, eqS vt), (14, eI 7), (58, eqS vt)] trivial fun ac g w hS => ?_
  refine wp_cond_true (hS.f.frm.eval rfl) ?_
  refine wp_skip ?_
  refine wp_cond_true (hS.f.frm.eval rfl) ?_
  refine rz hS [e0 2 [(66, eqS vt), (2, nwS 0)] (nwO 0 2), e0 3 [(66, eqS vt), (67, nwO 0 2)] (tkS ks), e0 4 [(66, eqS vt), (68, tkS ks)] (eI ks.length), e0 5 [(66, eqS vt), (69, eI ks.length)] (eqS vt)] [1, 2, 4, 5, 6] [(1, eI (d + 1 : Nat)), (2, nwS 0), (4, eI 0), (5, eqS vf), (6, eqS vt)] ⟨⟨bK (k := 0) rfl rfl rfl rfl (by decide) (by kernel_rfl), trivial⟩, ⟨dw (k := 0) rfl rfl rfl rfl, trivial⟩, ⟨cC rfl rfl, trivial⟩, ⟨bS rfl rfl rfl (congrArg some (decide_eq_true (by omega))), trivial⟩, trivial⟩ fun ac g w hS => ?_
  refine bR ?_
  refine bz ?_
  exact ⟨g, hS.to ⟨rfl, rfl, rfl, trivial⟩⟩
 ·have a : 2 ≤ ks.length := a
  have b : ks.length ≤ 2 := b
  refine rz hS [] [1, 2, 4, 5, 6, 14, 15] [(1, eI (d + 1 : Nat)), (2, nwS 0), (4, eI 0), (5, eqS vf), (6, eqS vt), (14, eI 8), (15, eqS vf)] trivial fun ac g w hS => ?_
  refine wp_cond_false (hS.f.frm.eval rfl) ?_
  refine wp_seq ?_
  refine rz hS [] [1, 2, 4, 5, 6, 14, 34] [(1, eI (d + 1 : Nat)), (2, nwS 0), (4, eI 0), (5, eqS vf), (6, eqS vt), (14, eI 8), (34, eqS vf)] trivial fun ac g w hS => ?_
  refine wp_cond_false (hS.f.frm.eval rfl) ?_
  refine wp_seq ?_
  refine rz hS [] [1, 2, 4, 5, 6, 14, 43] [(1, eI (d + 1 : Nat)), (2, nwS 0), (4, eI 0), (5, eqS vf), (6, eqS vt), (14, eI 8), (43, eqS vf)] trivial fun ac g w hS => ?_
  refine wp_cond_false (hS.f.frm.eval rfl) ?_
  refine wp_seq ?_
  refine wp_seq ?_
  refine rz hS [] [1, 2, 4, 5, 6, 14, 58] [(1, eI (d + 1 : Nat)), (2, nwS 0), (4, eI 0), (5, eqS vf), (6, eqS vt), (14, eI 8), (58, eqS vf)] trivial fun ac g w hS => ?_
  refine wp_cond_false (hS.f.frm.eval rfl) ?_
  refine wp_seq ?_
  refine rz hS [] [1, 2, 4, 5, 6, 14, 58] [(1, eI (d + 1 : Nat)), (2, nwS 0), (4, eI 0), (5, eqS vf), (6, eqS vt), (14, eI 8), (58, eqS vf)] trivial fun ac g w hS => ?_
  refine wp_cond_false (hS.f.frm.eval rfl) ?_
  refine wp_seq ?_
  refine rz hS [] [1, 2, 4, 5, 6, 14, 58] [(1, eI (d + 1 : Nat)), (2, nwS 0), (4, eI 0), (5, eqS vf), (6, eqS vt), (14, eI 8), (58, eqS vf)] trivial fun ac g w hS => ?_
  refine wp_cond_false (hS.f.frm.eval rfl) ?_
  refine wp_seq ?_
  refine rz hS [] [1, 2, 4, 5, 6, 14, 58] [(1, eI (d + 1 : Nat)), (2, nwS 0), (4, eI 0), (5, eqS vf), (6, eqS vt), (14, eI 8), (58, eqS vf)] trivial fun ac g w hS => ?_
  refine wp_cond_false (hS.f.frm.eval rfl) ?_
  refine wp_seq ?_
  refine rz hS [] [1, 2, 4, 5, 6, 14, 58] [(1, eI (d + 1 : Nat)), (2, nwS 0), (4, eI 0), (5, eqS vf), (6, eqS vt), (14, eI 8), (58, eqS vt)] trivial fun ac g w hS => ?_
  refine wp_cond_true (hS.f.frm.eval rfl) ?_
  refine wp_skip ?_
  refine wp_cond_true (hS.f.frm.eval rfl) ?_
  refine rz hS [e0 2 [(66, eqS vt), (2, nwS 0)] (nwO 0 2), e0 3 [(66, eqS vt), (67, nwO 0 2)] (tkS ks), e0 4 [(66, eqS vt), (68, tkS ks)] (eI ks.length), e0 5 [(66, eqS vt), (69, eI ks.length)] (eqS vt)] [1, 2, 4, 5, 6] [(1, eI (d + 1 : Nat)), (2, nwS 0), (4, eI 0), (5, eqS vf), (6, eqS vt)] ⟨⟨bK (k := 0) rfl rfl rfl rfl (by decide) (by kernel_rfl), trivial⟩, ⟨dw (k := 0) rfl rfl rfl rfl, trivial⟩, ⟨cC rfl rfl, trivial⟩, ⟨bS rfl rfl rfl (congrArg some (decide_eq_true (by omega))), trivial⟩, trivial⟩ fun ac g w hS => ?_
  refine bR ?_
  refine bz ?_
  exact ⟨g, hS.to ⟨rfl, rfl, rfl, trivial⟩⟩
 ·have a : 2 ≤ ks.length := a
  have b : ks.length ≤ 2 := b
  refine rz hS [] [1, 2, 4, 5, 6, 14, 15] [(1, eI (d + 1 : Nat)), (2, nwS 0), (4, eI 0), (5, eqS vf), (6, eqS vt), (14, eI 9), (15, eqS vf)] trivial fun ac g w hS => ?_
  refine wp_cond_false (hS.f.frm.eval rfl) ?_
  refine wp_seq ?_
  refine rz hS [] [1, 2, 4, 5, 6, 14, 34] [(1, eI (d + 1 : Nat)), (2, nwS 0), (4, eI 0), (5, eqS vf), (6, eqS vt), (14, eI 9), (34, eqS vf)] trivial fun ac g w hS => ?_
  refine wp_cond_false (hS.f.frm.eval rfl) ?_
  refine wp_seq ?_
  refine rz hS [] [1, 2, 4, 5, 6, 14, 43] [(1, eI (d + 1 : Nat)), (2, nwS 0), (4, eI 0), (5, eqS vf), (6, eqS vt), (14, eI 9), (43, eqS vf)] trivial fun ac g w hS => ?_
  refine wp_cond_false (hS.f.frm.eval rfl) ?_
  refine wp_seq ?_
  refine wp_seq ?_
  refine rz hS [] [1, 2, 4, 5, 6, 14, 58] [(1, eI (d + 1 : Nat)), (2, nwS 0), (4, eI 0), (5, eqS vf), (6, eqS vt), (14, eI 9), (58, eqS vf)] trivial fun ac g w hS => ?_
  refine wp_cond_false (hS.f.frm.eval rfl) ?_
  refine wp_seq ?_
  refine rz hS [] [1, 2, 4, 5, 6, 14, 58] [(1, eI (d + 1 : Nat)), (2, nwS 0), (4, eI 0), (5, eqS vf), (6, eqS vt), (14, eI 9), (58, eqS vf)] trivial fun ac g w hS => ?_
  refine wp_cond_false (hS.f.frm.eval rfl) ?_
  refine wp_seq ?_
  refine rz hS [] [1, 2, 4, 5, 6, 14, 58] [(1, eI (d + 1 : Nat)), (2, nwS 0), (4, eI 0), (5, eqS vf), (6, eqS vt), (14, eI 9), (58, eqS vf)] trivial fun ac g w hS => ?_
  refine wp_cond_false (hS.f.frm.eval rfl) ?_
  refine wp_seq ?_
  refine rz hS [] [1, 2, 4, 5, 6, 14, 58] [(1, eI (d + 1 : Nat)), (2, nwS 0), (4, eI 0), (5, eqS vf), (6, eqS vt), (14, eI 9), (58, eqS vf)] trivial fun ac g w hS => ?_
  refine wp_cond_false (hS.f.frm.eval rfl) ?_
  refine wp_seq ?_
  refine rz hS [] [1, 2, 4, 5, 6, 14, 58] [(1, eI (d + 1 : Nat)), (2, nwS 0), (4, eI 0), (5, eqS vf), (6, eqS vt), (14, eI 9), (58, eqS vf)] trivial fun ac g w hS => ?_
  refine wp_cond_false (hS.f.frm.eval rfl) ?_
  refine rz hS [] [1, 2, 4, 5, 6, 58] [(1, eI (d + 1 : Nat)), (2, nwS 0), (4, eI 0), (5, eqS vf), (6, eqS vt), (58, eqS vt)] trivial fun ac g w hS => ?_
  refine wp_cond_true (hS.f.frm.eval rfl) ?_
  refine rz hS [e0 2 [(66, eqS vt), (2, nwS 0)] (nwO 0 2), e0 3 [(66, eqS vt), (67, nwO 0 2)] (tkS ks), e0 4 [(66, eqS vt), (68, tkS ks)] (eI ks.length), e0 5 [(66, eqS vt), (69, eI ks.length)] (eqS vt)] [1, 2, 4, 5, 6] [(1, eI (d + 1 : Nat)), (2, nwS 0), (4, eI 0), (5, eqS vf), (6, eqS vt)] ⟨⟨bK (k := 0) rfl rfl rfl rfl (by decide) (by kernel_rfl), trivial⟩, ⟨dw (k := 0) rfl rfl rfl rfl, trivial⟩, ⟨cC rfl rfl, trivial⟩, ⟨bS rfl rfl rfl (congrArg some (decide_eq_true (by omega))), trivial⟩, trivial⟩ fun ac g w hS => ?_
  refine bR ?_
  refine bz ?_
  exact ⟨g, hS.to ⟨rfl, rfl, rfl, trivial⟩⟩
theorem tQ (t : Tm) : ∀ (d : Nat) (X : List Nat) (u : Value) (w : World), cw t d = true → cx t ≤ 5000 → (∀ x, x ∈ X → x < w.heap.size) → TmIs w X t u → Calls Tryd.prog 49 (List.toArray [u, vI (d + 1 : Nat)]) w (Ret fun v' w' => Gr w w' ∧ v' = .tuple #[vI (cx t : Nat), .bool true]) := by
 refine Tm.ind (p := fun t => ∀ (d : Nat) (X : List Nat) (u : Value) (w : World), cw t d = true → cx t ≤ 5000 → (∀ x, x ∈ X → x < w.heap.size) → TmIs w X t u → Calls Tryd.prog 49 (List.toArray [u, vI (d + 1 : Nat)]) w (Ret fun v' w' => Gr w w' ∧ v' = .tuple #[vI (cx t : Nat), .bool true])) ?_ t
 intro k n ks ih d X u w h1 h2 hX hu
 exact pF ih w hX h1 h2 hu
set_option maxRecDepth 100000 in
set_option maxHeartbeats 4000000 in
theorem n3 {X : List Nat} {t : Tm} {u : Value} (w0 : World) (hX : ∀ x, x ∈ X → x < w0.heap.size) (hd : cw t 0 = true) (hn : cx t ≤ 5000) (hu : TmIs w0 X t u) : Calls Tryd.prog 22 (List.toArray [u]) w0 (Ret fun v w' => Gr w0 w' ∧ v = .bool true) := by
 refine df [tmS t] hX ⟨hu, trivial⟩ Tryd.func22 rfl Tryd.ntmps22 rfl fun ac hS => ?_
 refine wp_seq ?_
 refine rx [e1 0 [(0, tmS t)] (nwS 0)] [1, 2] (Bl [stB noR [], stB noR [(26, tmS t)]]) 1 [(1, nwS 0), (2, eqS vf)] ⟨⟨cO rfl rfl rfl rfl (bQ _).sized rfl, trivial⟩, trivial⟩ hS rfl fun ac g w hS => ?_
 refine wp_seq ?_
 refine rz hS [e0 0 [(1, nwS 0)] (tmS t), e0 1 [(6, tmS t)] (eqS (Value.tuple #[(vI (cx t : Nat)), vt]))] [2, 3, 4] [(2, eqS vf), (3, eI (cx t : Nat)), (4, eqS vt)] ⟨⟨cc (k := 0) rfl rfl rfl rfl (by decide) u26 rfl bV (bQ _).sized, trivial⟩, ⟨b_ rfl fun ξ g w hB hH => a_ c49 rfl (tQ t 0 _ _ w hd hn hB.wf.lt (hH 6 _ rfl)), trivial⟩, trivial⟩ fun ac g w hS => ?_
 refine wp_seq ?_
 refine rz hS [e0 3 [(11, eqS vt), (12, eI (cx t : Nat))] (eqS vt)] [2] [(2, eqS vt)] ⟨⟨bS rfl rfl rfl (congrArg some (decide_eq_true (by omega))), trivial⟩, trivial⟩ fun ac g w hS => ?_
 refine wp_ret ?_
 exact bv hS.f.frm (bw Tryd.results22 (RV.tmp hS.f.frm rfl)) ⟨hS.gr0, rfl⟩
end Go.Mi.Term
