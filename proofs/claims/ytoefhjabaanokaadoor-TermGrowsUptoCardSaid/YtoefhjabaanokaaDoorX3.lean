/- Walks: what the laws' own functions return. -/
import Derived.Test.YtoefhjabaanokaaDoorX2
set_option linter.unusedSimpArgs false
set_option linter.unusedVariables false
set_option linter.unnecessarySimpa false
namespace Go.Mi.Term
open Go.Mi Go.Proofs Go.RowKit
set_option linter.unusedVariables false
section
variable {P : Program} {ops : Array Oper} {Q : Exit → Act → World → Prop} {a : Act} {w : World} {rest : List Oper} {n : Nat} {L : List (Nat × Value)}
/-- guarded by an operation that was not done -/
theorem wlgu {d : Nat} {op : Op} {ty : TypeId} {pos : String} {af : Array Edge} {j : Nat} {b : Bool} (hg : ((ops[j]?).bind (·.dst)).bind (lk L ·) = some undef) (hd : Nat.blt d n = true) (hF : Frm a n L)
    (k : ∀ a', Frm a' n ((d, undef) :: L) → wpList P ops Q rest a' w) : wpList P ops Q (⟨some d, op, ty, pos, af, some (j, b)⟩ :: rest) a w := by
  have hy : yielded ops a.tmps j = none := by
    unfold Go.yielded
    cases h1 : (ops[j]?).bind (·.dst) with
    | none => simp [h1] at hg
    | some q =>
      rw [h1] at hg
      simp only [Option.bind_some] at hg ⊢
      have h3 := hF.get q undef hg
      cases h4 : a.tmps[q]? with
      | none => rfl
      | some x =>
        simp [h4] at h3
        subst h3
        rfl
  unfold wpList
  rw [if_neg (by simp [Region.wanted, hy])]
  exact k _ (hF.put hd _)
end
section
variable {P : Program} {n : Nat} {L : List (Nat × Value)} {w : World} {ds : Option Nat} {ty : TypeId} {pos : String} {af : Array Edge} {gu : Option (Nat × Bool)}
/-- append of all of a list that is only read -/
theorem ok_appendS {s x : Operand} {t e : TypeId} {z : Value} {base m bytes n' k : Nat} {v lv : Value} {xs news : List Value} {X : List Nat} (ht : P.underlying t = some (.slice e)) (hi : (P.info? e).map (fun i => (i.size, i.bytes, i.zero)) = some (m, bytes, some z))
    (hzs : z.cells.size = m) (hm0 : 0 < m) (hs : ev L s = some v) (hx : ev L x = some lv) (hown : Own w base e m v n' xs) (hsl : SlA w X lv k news) (hl : news.length = k * m)
    (h1 : ∀ u ∈ news, u.oneCell' = true) (hby : (n' + k) * bytes ≤ 140737488355328) (h63 : n' + k ≤ maxLen) (hbase : base ≤ w.heap.size) :
    Ok1 P ⟨ds, .call ⟨.builtin .append, #[s, x], #[t, t]⟩, ty, pos, af, gu⟩ n L w fun v' w' => Own w' base e m v' (n' + k) (xs ++ news) ∧ Ch (oblk v) w w' ∧ (oblk v' = oblk v ∨ oblk v' = [w.heap.size]) := by
  rcases hsl with ⟨rfl | ⟨a2, cap, rfl⟩, rfl, rfl⟩ | ⟨b, o, cap, rfl, _, _, ha⟩
  · have hi' : (P.info? e).map (·.size) = some m := by
      obtain ⟨inf, h1, h2⟩ := Option.map_eq_some_iff.1 hi
      simp only [Prod.mk.injEq] at h2
      rw [h1]; simp [h2.1]
    exact (d_append0 ht hi' hs hx hown).mono fun v' w' ⟨e1, e2⟩ => by subst e1; subst e2; exact ⟨by simpa using hown, Ch.refl _ _, .inl rfl⟩
  · have hown' := hown
    rcases hown with ⟨hxl, ⟨rfl, rfl⟩ | ⟨g, cp, cur, rfl, hg, hgb, h3, h4, h5, h6⟩⟩
    · have hxs : xs = [] := List.eq_nil_of_length_eq_zero (by simpa using hxl)
      subst hxs
      have hi' : (P.info? e).map (·.size) = some m := by
        obtain ⟨inf, h1, h2⟩ := Option.map_eq_some_iff.1 hi
        simp only [Prod.mk.injEq] at h2
        rw [h1]; simp [h2.1]
      refine Ok1.mono (R := fun v' w' => v' = .slice none 0 0 ∧ w' = w) ?_ fun v' w' ⟨e1, e2⟩ => by subst e1; subst e2; exact ⟨by simpa using hown', Ch.refl _ _, .inl rfl⟩
      refine Det.of_run fun ac hF => ?_
      obtain ⟨inf, hi1, hz⟩ := Option.map_eq_some_iff.1 hi'
      have hr : (Builtin.append_ #[t, t] ty #[.slice none 0 0, .slice (some a2) 0 cap]).run P w = .ok (.slice none 0 0) w := by
        simp [Builtin.append_, run_underlying ht, sizeOf, typeInfo, hi1, Builtin.lenOf, Builtin.firstCells, loadCells, loadCellsFrom]
      simp [execOp, hF.eval hs, hF.eval hx, resolve, invoke, builtin, hr]
    · obtain ⟨inf, hi1, hz⟩ := Option.map_eq_some_iff.1 hi
      have hr := run_append_room_cells (P := P) w t ty e inf ht hi1 g 0 n' cp a2 0 cap [] (by simp) (by simp) (by simp) (by omega) (by simp) (by simp)
      have hd : Det P ⟨ds, .call ⟨.builtin .append, #[s, x], #[t, t]⟩, ty, pos, af, gu⟩ n L w (.slice (some ⟨g, 0, none⟩) n' cp) w := Det.of_run fun ac hF => by
        have hr2 : (Builtin.append_ #[t, t] ty #[.slice (some ⟨g, 0, none⟩) n' cp, .slice (some a2) 0 cap]).run P w = .ok (.slice (some ⟨g, 0, none⟩) n' cp) w := by simpa [World.setCells] using hr
        simp [execOp, hF.eval hs, hF.eval hx, resolve, invoke, builtin, hr2]
      exact hd.mono fun v' w' ⟨e1, e2⟩ => by subst e1; subst e2; exact ⟨by simpa using hown', Ch.refl _ _, .inl rfl⟩
  · exact ok_appendm ht hi hzs hm0 hs hx hown hl ha h1 hby h63 hbase
end
theorem sla_some {w : World} {ad : Option Addr} {n cap : Nat} {xs : List Value} (h : SlA w [] (.slice ad n cap) n xs) (hn : 0 < n) : ∃ b o, ad = some ⟨b, o, none⟩ ∧ At w b o xs := by
  rcases h with ⟨h1, h2, _⟩ | ⟨b, o, c, h1, _, _, ha⟩
  · omega
  · injection h1 with h1 _ _
    exact ⟨b, o, h1, ha⟩
theorem small_own {ks : List Tm} {t : Tm} {k nm : Int} {ad : Option Addr} {l cap n base : Nat} {lv : Value} {xs : List Value} (hn : n = ks.length) (hl63 : ks.length ≤ 9000000000000000000) (w0 : World) (hown : Own w0 base 26 3 lv n xs) (hks : IsTs w0 [] ks xs) (ht : IsT w0 [] t [.int .i64 k, .int .i64 nm, .slice ad l cap]) :
    Calls Tryd.prog 21 (List.toArray [lv, .agg #[.int .i64 k, .int .i64 nm, .slice ad l cap]]) w0 (Ret fun v w' => v = .bool (smallB ks t) ∧ Gr w0 w') := by
  subst hn
  rcases hown.at with ⟨rfl, h1, h2⟩ | ⟨b, c, rfl, _, ha⟩
  · have : ks = [] := List.eq_nil_of_length_eq_zero h1
    subst this
    exact small_calls (ad0 := none) hl63 w0 (fun h => absurd h (by simp)) hks ht
  · exact small_calls hl63 w0 (fun _ => ⟨b, 0, rfl, ha⟩) hks ht
theorem small_len {l : List Tm} {t : Tm} (h : smallB l t = true) : l.length ≤ 25 := by
  simp only [smallB, Bool.and_eq_true, decide_eq_true_eq] at h
  exact h.2
theorem knB (p : Prop) : ∃ b : Bool, (b = true ↔ p) := ⟨@decide p (Classical.propDecidable p), by simp⟩
section
variable {W : Wd} {ks ms : List Tm} {t : Tm} {k1 k2 k3 : Bool}
theorem grow_k2 (h1 : k1 = true ↔ may t = true ∧ Der W (Kn ks) (nrm t)) (h2 : k2 = true ↔ may t = true ∧ Der W (Kn (ks ++ ms)) (nrm t)) : (k1 || k2) = true ↔ may t = true ∧ Der W (Kn (ks ++ ms)) (nrm t) := by
  rw [Bool.or_eq_true, h1, h2]
  exact ⟨fun h => h.elim (fun h => ⟨h.1, grow_list h.2⟩) id, .inr⟩
theorem grow_k3 (h1 : k1 = true ↔ may t = true ∧ Der W (Kn ks) (nrm t)) (h3 : k3 = true ↔ may t = true ∧ Der ⟨true, true⟩ (Kn ks) (nrm t)) : (k1 || k3) = true ↔ may t = true ∧ Der ⟨true, true⟩ (Kn ks) (nrm t) := by
  rw [Bool.or_eq_true, h1, h3]
  exact ⟨fun h => h.elim (fun h => ⟨h.1, grow_wd h.2⟩) id, .inr⟩
theorem grow_in {u : Tm} (hu : u ∈ ks) : may u = true ↔ may u = true ∧ Der W (Kn ks) (nrm u) := ⟨fun h => ⟨h, .kn ⟨u, hu, h, rfl⟩⟩, fun h => h.1⟩
theorem grow_o {u : Tm} (hu : Nd u) (hd : Der W (Kn ks) u) : true = true ↔ may u = true ∧ Der W (Kn ks) (nrm u) := ⟨fun _ => ⟨hu.1, by rw [hu.2]; exact hd⟩, fun _ => rfl⟩
theorem grow_e {rl : List Tm} (he : ∀ u, Der W (Kn rl) u ↔ Der W (Kn ks) u) (h1 : k1 = true ↔ may t = true ∧ Der W (Kn ks) (nrm t)) : k1 = true ↔ may t = true ∧ Der W (Kn rl) (nrm t) := by rw [h1, he]
end

set_option maxRecDepth 100000 in
set_option maxHeartbeats 4000000 in
theorem grows_walk {dh kem : Bool} {ks ms : List Tm} {t : Tm} {kt nt : Int} {ad adm adt : Option Addr} {cap capm lt ct : Nat} {xs xm : List Value} (hkl : ks.length ≤ 1100000) (hml : ms.length ≤ 1100000) (w0 : World) (hw0 : T0 w0) (hsl0 : SlA w0 [] (.slice ad ks.length cap) ks.length xs) (hks : IsTs w0 [] ks xs) (hslm : SlA w0 [] (.slice adm ms.length capm) ms.length xm) (hms : IsTs w0 [] ms xm) (ht : IsT w0 [] t [.int .i64 kt, .int .i64 nt, .slice adt lt ct]) : Calls Tryd.prog 7 (List.toArray [.bool dh, .bool kem, .slice ad ks.length cap, .slice adm ms.length capm, .agg #[.int .i64 kt, .int .i64 nt, .slice adt lt ct]]) w0 (Ret fun v w' => v = .bool true ∧ Gr w0 w') := by
  refine calls_of Tryd.func7 rfl Tryd.ntmps7 rfl fun ac hF => ?_
  have hC : Ch [] w0 w0 := Ch.refl _ _
  have hF := hF.sub (L' := [(0, (Value.bool dh)), (1, (Value.bool kem)), (2, (Value.slice ad ks.length cap)), (3, (Value.slice adm ms.length capm)), (4, (Value.agg #[(Value.int .i64 kt), (Value.int .i64 nt), (Value.slice adt lt ct)]))]) ⟨rfl, rfl, rfl, rfl, rfl, trivial⟩
  refine wp_seq ?_
  refine wp_region_lit ?_
  refine wlR (ok_box rfl) rfl hF ?_
  rintro _ w ac ⟨b1, rfl, hnb_⟩ hF
  have hch_ : Ch [] _ w := hnb_.ch
  have lo_ := hnb_.lo hC.size
  have hC := hC.trans' hch_ (fun z hz => .inr (absurd hz (by simp)))
  have hib1 : b1 < w.heap.size := hnb_.lt
  have lob1 : w0.heap.size ≤ b1 := lo_
  have hb1 : w.heap[b1]? = some (.cells #[(Value.int .i64 kt), (Value.int .i64 nt), (Value.slice adt lt ct)] 26 (0, 0)) := hnb_.blk
  refine wl (d_assign rfl) rfl hF (fun ac hF => ?_)
  refine wl_nil ?_
  have hF := hF.sub (L' := [(0, (Value.bool dh)), (1, (Value.bool kem)), (2, (Value.slice ad ks.length cap)), (3, (Value.slice adm ms.length capm)), (4, (Value.agg #[(Value.int .i64 kt), (Value.int .i64 nt), (Value.slice adt lt ct)])), (9, (Value.pointer (some ⟨b1, 0, none⟩))), (10, (Value.bool false))]) ⟨rfl, rfl, rfl, rfl, rfl, rfl, rfl, trivial⟩
  refine then_n ?_
  refine wp_seq ?_
  refine wp_seq ?_
  obtain ⟨A1_0, hA1_0⟩ : ∃ A : (Nat → Value) → World → Prop, A = fun _ w => (Ch [] w0 w) ∧ (b1 < w.heap.size) ∧ (w0.heap.size ≤ b1) ∧ (w.heap[b1]? = some (.cells #[(Value.int .i64 kt), (Value.int .i64 nt), (Value.slice adt lt ct)] 26 (0, 0))) ∧ True := ⟨_, rfl⟩
  obtain ⟨A1_1, hA1_1⟩ : ∃ A : (Nat → Value) → World → Prop, A = fun H1 w => (Ch [] w0 w) ∧ (b1 < w.heap.size) ∧ (w0.heap.size ≤ b1) ∧ (w.heap[b1]? = some (.cells #[(Value.int .i64 kt), (Value.int .i64 nt), (Value.slice adt lt ct)] 26 (0, 0))) ∧ ((blk (H1 0)) < w.heap.size) ∧ (w0.heap.size ≤ (blk (H1 0))) ∧ (w.heap[(blk (H1 0))]? = some (.cells #[] 26 (0, 0))) ∧ (b1 < (blk (H1 0))) ∧ (H1 0 = (Value.slice (some ⟨(blk (H1 0)), 0, none⟩) 0 0)) ∧ True := ⟨_, rfl⟩
  obtain ⟨A1_2, hA1_2⟩ : ∃ A : (Nat → Value) → World → Prop, A = fun H1 w => (Ch [] w0 w) ∧ (b1 < w.heap.size) ∧ (w0.heap.size ≤ b1) ∧ (w.heap[b1]? = some (.cells #[(Value.int .i64 kt), (Value.int .i64 nt), (Value.slice adt lt ct)] 26 (0, 0))) ∧ (w0.heap.size ≤ (blk (H1 0))) ∧ (b1 < (blk (H1 0))) ∧ (H1 0 = (Value.slice (some ⟨(blk (H1 0)), 0, none⟩) 0 0)) ∧ (Own w w0.heap.size 26 3 (H1 2) ks.length xs) ∧ (b1 ∉ oblk (H1 2)) ∧ True := ⟨_, rfl⟩
  obtain ⟨A1_3, hA1_3⟩ : ∃ A : (Nat → Value) → World → Prop, A = fun H1 w => (Ch [] w0 w) ∧ (b1 < w.heap.size) ∧ (w0.heap.size ≤ b1) ∧ (w.heap[b1]? = some (.cells #[(Value.int .i64 kt), (Value.int .i64 nt), (Value.slice adt lt ct)] 26 (0, 0))) ∧ (w0.heap.size ≤ (blk (H1 0))) ∧ (b1 < (blk (H1 0))) ∧ (H1 0 = (Value.slice (some ⟨(blk (H1 0)), 0, none⟩) 0 0)) ∧ (Own w w0.heap.size 26 3 (H1 4) (ks.length + ms.length) (xs ++ xm)) ∧ (b1 ∉ oblk (H1 4)) ∧ True := ⟨_, rfl⟩
  obtain ⟨A1_4, hA1_4⟩ : ∃ A : (Nat → Value) → World → Prop, A = fun H1 w => (Ch [] w0 w) ∧ (b1 < w.heap.size) ∧ (w0.heap.size ≤ b1) ∧ (w.heap[b1]? = some (.cells #[(Value.int .i64 kt), (Value.int .i64 nt), (Value.slice adt lt ct)] 26 (0, 0))) ∧ (w0.heap.size ≤ (blk (H1 0))) ∧ (b1 < (blk (H1 0))) ∧ (H1 0 = (Value.slice (some ⟨(blk (H1 0)), 0, none⟩) 0 0)) ∧ (Own w w0.heap.size 26 3 (H1 4) (ks.length + ms.length) (xs ++ xm)) ∧ (b1 ∉ oblk (H1 4)) ∧ True := ⟨_, rfl⟩
  refine region_hist mo (fun p_ H_ w_ => (([A1_0, A1_1, A1_2, A1_3, A1_4] : List ((Nat → Value) → World → Prop)).getD p_ (fun _ _ => True)) H_ w_) [0, 2, 4, 6] (rows := [⟨[], [], [0], [0], fun H1 => H1 0, fun H1 K_ h_ => by simp only [h_ 0 (by simp)]⟩, hr_ [] [(2, (Value.slice ad ks.length cap))] [0, 1] (Value.slice ad ks.length cap), ⟨[(0, 16), (1, 17)], [], [1], [2], fun H1 => H1 2, fun H1 K_ h_ => by simp only [h_ 2 (by simp)]⟩, hr_ [] [(3, (Value.slice adm ms.length capm))] [0, 1, 2] (Value.slice adm ms.length capm), ⟨[(2, 18), (3, 19)], [], [2], [4], fun H1 => H1 4, fun H1 K_ h_ => by simp only [h_ 4 (by simp)]⟩, hr_ [] [(9, (Value.pointer (some ⟨b1, 0, none⟩)))] [0, 1, 2, 3] (Value.agg #[(Value.int .i64 kt), (Value.int .i64 nt), (Value.slice adt lt ct)]), hr_ [(4, 20), (5, 21)] [] [3] (Value.bool (smallB (ks ++ ms) t)), hr_ [(6, 22)] [] [4] (Value.bool (!(smallB (ks ++ ms) t)))]) (by kernel_rfl) hF (fun H_ => ?_) ?_ ?_
  · have hch_ := Ch.drew w
    have hfin_ : A1_0 H_ { w with drawn := w.drawn + 1 } := by rw [hA1_0]; exact ⟨hC.trans' hch_ (fun z hz => .inr (absurd hz (by simp))), Nat.lt_of_lt_of_le hib1 (hch_).size, lob1, Ch.blk0 hch_ hb1 (by first | assumption | (simp; done) | (simp <;> omega)), trivial⟩
    exact hfin_
  · refine ⟨?_, ?_, ?_, ?_, ?_, ?_, ?_, ?_, trivial⟩
    · refine ⟨trivial, fun ph_ hp_ H1 w hW => ?_⟩
      obtain rfl := memN_one hp_
      replace hW : A1_0 H1 w := hW
      rw [hA1_0] at hW
      obtain ⟨hC, hib1, lob1, hb1, _⟩ := hW
      refine Ok1.mono (ok_buildSlice0 Tryd.underlying24 sz26) ?_
      rintro _ w' ⟨b2, rfl, hnb_⟩
      have hch_ : Ch [] _ w' := hnb_.ch
      have lo_ := hnb_.lo hC.size
      have ne_b1_b2 := hnb_.gt hib1
      have hC := hC.trans' hch_ (fun z hz => .inr (absurd hz (by simp)))
      have hib1 := Nat.lt_of_lt_of_le hib1 (hch_).size
      have hb1 := Ch.blk0 hch_ hb1 (by first | assumption | (simp; done) | (simp <;> omega))
      have hib2 : b2 < w'.heap.size := hnb_.lt
      have lob2 : w0.heap.size ≤ b2 := lo_
      have hb2 : w'.heap[b2]? = some (.cells #[] 26 (0, 0)) := hnb_.blk
      have ne_b1_b2 : b1 < b2 := ne_b1_b2
      have hfin_ : A1_1 (updV H1 0 (Value.slice (some ⟨b2, 0, none⟩) 0 0)) w' := by rw [hA1_1]; exact ⟨hC, hib1, lob1, hb1, hib2, lob2, hb2, ne_b1_b2, rfl, trivial⟩
      exact fin_ rfl ⟨hfin_, rfl⟩
    · exact HOb.pure ⟨rfl, trivial⟩ rfl rfl (fun _ _ => d_move rfl)
    · refine ⟨trivial, fun ph_ hp_ H1 w hW => ?_⟩
      obtain rfl := memN_one hp_
      replace hW : A1_1 H1 w := hW
      rw [hA1_1] at hW
      obtain ⟨hC, hib1, lob1, hb1, hib2, lob2, hb2, ne_b1_b2, hv1_0, _⟩ := hW
      refine Ok1.sub (L' := [(16, (Value.slice (some ⟨(blk (H1 0)), 0, none⟩) 0 0)), (17, (Value.slice ad ks.length cap))]) ⟨congrArg some hv1_0, rfl, trivial⟩ (Ok1.mono (ok_append00S (m := 3) Tryd.underlying24 ii26 rfl (by decide) rfl rfl hb2 lob2 (SlA.mv hsl0 hC (by simp) (fun x hx => .inl hx)) (by have := IsTs.len hks; omega) (IsTs.cells1 hks) (by omega) (by unfold maxLen; omega) hC.size) ?_)
      rintro lv3 w' ⟨hown, hch0_, hob⟩
      have hch_ : Ch [] _ w' := hch0_
      have hob : oblk lv3 = [(blk (H1 0))] ∨ oblk lv3 = [_] := hob
      have hnxb1_ := nin_ob (lv := .slice (some ⟨(blk (H1 0)), 0, none⟩) 0 0) hob (by simp [oblk] <;> omega) hib1
      have hC := hC.trans' hch_ (fun z hz => .inr (absurd hz (by simp)))
      have hib1 := Nat.lt_of_lt_of_le hib1 (hch_).size
      have hb1 := Ch.blk0 hch_ hb1 (by first | assumption | (simp; done) | (simp <;> omega))
      have hnob1 : b1 ∉ oblk lv3 := hnxb1_
      have hfin_ : A1_2 (updV H1 2 lv3) w' := by rw [hA1_2]; exact ⟨hC, hib1, lob1, hb1, lob2, ne_b1_b2, hv1_0, hown, hnob1, trivial⟩
      exact fin_ rfl ⟨hfin_, rfl⟩
    · exact HOb.pure ⟨rfl, trivial⟩ rfl rfl (fun _ _ => d_move rfl)
    · refine ⟨trivial, fun ph_ hp_ H1 w hW => ?_⟩
      obtain rfl := memN_one hp_
      replace hW : A1_2 H1 w := hW
      rw [hA1_2] at hW
      obtain ⟨hC, hib1, lob1, hb1, lob2, ne_b1_b2, hv1_0, hown, hnob1, _⟩ := hW
      have hown0_ := hown
      refine Ok1.mono (ok_appendS (m := 3) Tryd.underlying24 ii26 rfl (by decide) rfl rfl hown (SlA.mv hslm hC (by simp) (fun x hx => .inl hx)) (by have := IsTs.len hms; omega) (IsTs.cells1 hms) (by omega) (by unfold maxLen; omega) hC.size) ?_
      rintro lv4 w' ⟨hown, hch0_, hob⟩
      have hch_ : Ch (oblk (H1 2)) _ w' := hch0_
      have hnxb1_ := nin_ob hob hnob1 hib1
      have hC := hC.trans' hch_ (fun z hz => .inr ((Own.lt hown0_ z hz).1))
      have hib1 := Nat.lt_of_lt_of_le hib1 (hch_).size
      have hb1 := Ch.blk0 hch_ hb1 (by first | assumption | (simp; done) | (simp <;> omega))
      have hnob1 : b1 ∉ oblk lv4 := hnxb1_
      have hfin_ : A1_3 (updV H1 4 lv4) w' := by rw [hA1_3]; exact ⟨hC, hib1, lob1, hb1, lob2, ne_b1_b2, hv1_0, hown, hnob1, trivial⟩
      exact fin_ rfl ⟨hfin_, rfl⟩
    · refine ⟨⟨rfl, trivial⟩, fun ph_ hp_ H1 w hW => ?_⟩
      rcases memN_or hp_ with rfl | hp_
      · have hW0 := hW
        replace hW : A1_0 H1 w := hW
        rw [hA1_0] at hW
        obtain ⟨hC, hib1, lob1, hb1, _⟩ := hW
        exact Det.ohc rfl hW0 (d_loadC Tryd.underlying26 rfl sz26 rfl ((At.of_blk hb1)) rfl)
      rcases memN_or hp_ with rfl | hp_
      · have hW0 := hW
        replace hW : A1_1 H1 w := hW
        rw [hA1_1] at hW
        obtain ⟨hC, hib1, lob1, hb1, hib2, lob2, hb2, ne_b1_b2, hv1_0, _⟩ := hW
        exact Det.ohc rfl hW0 (d_loadC Tryd.underlying26 rfl sz26 rfl ((At.of_blk hb1)) rfl)
      rcases memN_or hp_ with rfl | hp_
      · have hW0 := hW
        replace hW : A1_2 H1 w := hW
        rw [hA1_2] at hW
        obtain ⟨hC, hib1, lob1, hb1, lob2, ne_b1_b2, hv1_0, hown, hnob1, _⟩ := hW
        exact Det.ohc rfl hW0 (d_loadC Tryd.underlying26 rfl sz26 rfl ((At.of_blk hb1)) rfl)
      obtain rfl := memN_one hp_
      · have hW0 := hW
        replace hW : A1_3 H1 w := hW
        rw [hA1_3] at hW
        obtain ⟨hC, hib1, lob1, hb1, lob2, ne_b1_b2, hv1_0, hown, hnob1, _⟩ := hW
        exact Det.ohc rfl hW0 (d_loadC Tryd.underlying26 rfl sz26 rfl ((At.of_blk hb1)) rfl)
    · refine ⟨trivial, fun ph_ hp_ H1 w hW => ?_⟩
      obtain rfl := memN_one hp_
      replace hW : A1_3 H1 w := hW
      rw [hA1_3] at hW
      obtain ⟨hC, hib1, lob1, hb1, lob2, ne_b1_b2, hv1_0, hown, hnob1, _⟩ := hW
      refine Ok1.mono (ok_call c21 rfl (small_own (ks := ks ++ ms) (t := t) (by simp) (by simp; omega) _ hown ((IsTs.mv hC (by simp) (fun x hx => .inl hx) _ _ hks).app (IsTs.mv hC (by simp) (fun x hx => .inl hx) _ _ hms)) (IsT.mv hC (by simp) (fun x hx => .inl hx) _ _ ht))) ?_
      rintro _ w' ⟨rfl, hg_⟩
      have hch_ : Ch [] _ w' := Gr.ch hg_
      have hC := hC.trans' hch_ (fun z hz => .inr (absurd hz (by simp)))
      have hib1 := Nat.lt_of_lt_of_le hib1 (hch_).size
      have hb1 := Ch.blk0 hch_ hb1 (by first | assumption | (simp; done) | (simp <;> omega))
      have hown := Own.mv hown hch_ (fun b_ hb_ => by first | (simp; done) | (intro hm_; simp at hm_; subst hm_; contradiction))
      have hfin_ : A1_4 (updV H1 6 (Value.bool (smallB (ks ++ ms) t))) w' := by rw [hA1_4]; exact ⟨hC, hib1, lob1, hb1, lob2, ne_b1_b2, hv1_0, hown, hnob1, trivial⟩
      exact fin_ rfl ⟨hfin_, rfl⟩
    · exact HOb.pure trivial rfl rfl (fun _ _ => d_not rfl)
  · intro ac w H1 hW hF
    replace hW : A1_4 H1 w := hW
    rw [hA1_4] at hW
    obtain ⟨hC, hib1, lob1, hb1, lob2, ne_b1_b2, hv1_0, hown, hnob1, _⟩ := hW
    clear hA1_0 A1_0 hA1_1 A1_1 hA1_2 A1_2 hA1_3 A1_3 hA1_4 A1_4
    have hF := hF.sub (L' := [(0, (Value.bool dh)), (1, (Value.bool kem)), (2, (Value.slice ad ks.length cap)), (3, (Value.slice adm ms.length capm)), (4, (Value.agg #[(Value.int .i64 kt), (Value.int .i64 nt), (Value.slice adt lt ct)])), (9, (Value.pointer (some ⟨b1, 0, none⟩))), (10, (Value.bool false)), (23, (Value.bool (!(smallB (ks ++ ms) t))))]) ⟨rfl, rfl, rfl, rfl, rfl, rfl, rfl, rfl, trivial⟩
    refine then_n ?_
    refine wp_if hF rfl (fun h => ?_) (fun h => ?_)
    · have hsm := h
      clear h
      refine wp_seq ?_
      refine wp_region_lit ?_
      refine wlR (ok_call c15 rfl (awake_calls _ (hT0 _ _ (hC.below hw0.size (by simp)) hw0))) rfl hF ?_
      rintro _ w ac ⟨rfl, hg_⟩ hF
      have hch_ : Ch [] _ w := Gr.ch hg_
      have hC := hC.trans' hch_ (fun z hz => .inr (absurd hz (by simp)))
      have hib1 := Nat.lt_of_lt_of_le hib1 (hch_).size
      have hb1 := Ch.blk0 hch_ hb1 (by first | assumption | (simp; done) | (simp <;> omega))
      have hown := Own.mv hown hch_ (fun b_ hb_ => by first | (simp; done) | (intro hm_; simp at hm_; subst hm_; contradiction))
      refine wl (d_assign rfl) rfl hF (fun ac hF => ?_)
      refine wl_nil ?_
      have hF := hF.sub (L' := [(0, (Value.bool dh)), (1, (Value.bool kem)), (2, (Value.slice ad ks.length cap)), (3, (Value.slice adm ms.length capm)), (4, (Value.agg #[(Value.int .i64 kt), (Value.int .i64 nt), (Value.slice adt lt ct)])), (9, (Value.pointer (some ⟨b1, 0, none⟩))), (10, (Value.bool true)), (23, (Value.bool (!(smallB (ks ++ ms) t))))]) ⟨rfl, rfl, rfl, rfl, rfl, rfl, rfl, rfl, trivial⟩
      refine then_n ?_
      refine wp_ret ?_
      refine then_ret ?_
      refine body_ret hF (results1 Tryd.results7 (RV.tmp hF rfl)) ?_
      exact ⟨rfl, hC.gr⟩
    · have hsm := h
      clear h
      have hsm2 : smallB (ks ++ ms) t = true := by simpa using hsm
      have h25 := small_len hsm2
      rw [List.length_append] at h25
      refine wp_skip ?_
      refine then_n ?_
      refine wp_seq ?_
      refine wp_region_lit ?_
      refine wl (d_move rfl) rfl hF (fun ac hF => ?_)
      refine wl (d_move rfl) rfl hF (fun ac hF => ?_)
      refine wl (d_buildS (cells := #[(Value.bool dh), (Value.bool kem)]) Tryd.underlying31 z31 (fun w => pl31 w _ Tryd.underlying31) rfl (by simp [Instr.fill, Value.cells])) rfl hF (fun ac hF => ?_)
      refine wlR (ok_alloc z31) rfl hF ?_
      rintro _ w ac ⟨b5, rfl, hnb_⟩ hF
      have hch_ : Ch [] _ w := hnb_.ch
      have lo_ := hnb_.lo hC.size
      have ne_b1_b5 := hnb_.gt hib1
      have hnob5_ : b5 ∉ oblk (H1 4) := fun h_ => by have h1_ := (Own.lt hown _ h_).2; have h2_ := hnb_.num; omega
      have hC := hC.trans' hch_ (fun z hz => .inr (absurd hz (by simp)))
      have hib1 := Nat.lt_of_lt_of_le hib1 (hch_).size
      have hb1 := Ch.blk0 hch_ hb1 (by first | assumption | (simp; done) | (simp <;> omega))
      have hown := Own.mv hown hch_ (fun b_ hb_ => by first | (simp; done) | (intro hm_; simp at hm_; subst hm_; contradiction))
      have hib5 : b5 < w.heap.size := hnb_.lt
      have lob5 : w0.heap.size ≤ b5 := lo_
      have hb5 : w.heap[b5]? = some (.cells #[(Value.bool false), (Value.bool false)] 31 (0, 0)) := hnb_.blk
      have ne_b1_b5 : b1 < b5 := ne_b1_b5
      have hnob5 : b5 ∉ oblk (H1 4) := hnob5_
      refine wl0R (ok_storeA (c' := #[(Value.bool dh), (Value.bool kem)]) sz31 rfl rfl rfl (fun v hv => by simp at hv; rcases hv with rfl | rfl <;> rfl) hb5 rfl) hF ?_
      rintro w ac hu_ hF
      have hch_ : Ch [b5] _ w := hu_.ch
      have hC := hC.trans' hch_ (fun z hz => .inr ((by simp at hz; subst hz; assumption)))
      have hib1 := Nat.lt_of_lt_of_le hib1 (hch_).size
      have hb1 := Ch.blk0 hch_ hb1 (by first | assumption | (simp; done) | (simp <;> omega))
      have hown := Own.mv hown hch_ (fun b_ hb_ => by first | (simp; done) | (intro hm_; simp at hm_; subst hm_; contradiction))
      have hib5 := Nat.lt_of_lt_of_le hib5 (hch_).size
      have hb5 : w.heap[b5]? = some (.cells #[(Value.bool dh), (Value.bool kem)] 31 (0, 0)) := hu_.blk
      refine wl_nil ?_
      have hF := hF.sub (L' := [(0, (Value.bool dh)), (1, (Value.bool kem)), (2, (Value.slice ad ks.length cap)), (3, (Value.slice adm ms.length capm)), (4, (Value.agg #[(Value.int .i64 kt), (Value.int .i64 nt), (Value.slice adt lt ct)])), (9, (Value.pointer (some ⟨b1, 0, none⟩))), (10, (Value.bool false)), (11, (Value.pointer (some ⟨b5, 0, none⟩))), (23, (Value.bool (!(smallB (ks ++ ms) t))))]) ⟨rfl, rfl, rfl, rfl, rfl, rfl, rfl, rfl, rfl, trivial⟩
      refine then_n ?_
      refine wp_seq ?_
      refine wp_region_lit ?_
      refine wlR (ok_buildSlice0 Tryd.underlying24 sz26) rfl hF ?_
      rintro _ w ac ⟨b6, rfl, hnb_⟩ hF
      have hch_ : Ch [] _ w := hnb_.ch
      have lo_ := hnb_.lo hC.size
      have ne_b1_b6 := hnb_.gt hib1
      have ne_b5_b6 := hnb_.gt hib5
      have hnob6_ : b6 ∉ oblk (H1 4) := fun h_ => by have h1_ := (Own.lt hown _ h_).2; have h2_ := hnb_.num; omega
      have hC := hC.trans' hch_ (fun z hz => .inr (absurd hz (by simp)))
      have hib1 := Nat.lt_of_lt_of_le hib1 (hch_).size
      have hb1 := Ch.blk0 hch_ hb1 (by first | assumption | (simp; done) | (simp <;> omega))
      have hown := Own.mv hown hch_ (fun b_ hb_ => by first | (simp; done) | (intro hm_; simp at hm_; subst hm_; contradiction))
      have hib5 := Nat.lt_of_lt_of_le hib5 (hch_).size
      have hb5 := Ch.blk0 hch_ hb5 (by first | assumption | (simp; done) | (simp <;> omega))
      have hib6 : b6 < w.heap.size := hnb_.lt
      have lob6 : w0.heap.size ≤ b6 := lo_
      have hb6 : w.heap[b6]? = some (.cells #[] 26 (0, 0)) := hnb_.blk
      have ne_b1_b6 : b1 < b6 := ne_b1_b6
      have ne_b5_b6 : b5 < b6 := ne_b5_b6
      have hnob6 : b6 ∉ oblk (H1 4) := hnob6_
      refine wl (d_move rfl) rfl hF (fun ac hF => ?_)
      refine wlR (ok_append00S (m := 3) Tryd.underlying24 ii26 rfl (by decide) rfl rfl hb6 lob6 (SlA.mv hsl0 hC (by simp) (fun x hx => .inl hx)) (by have := IsTs.len hks; omega) (IsTs.cells1 hks) (by omega) (by unfold maxLen; omega) hC.size) rfl hF ?_
      rintro lv7 w ac ⟨hown, hch0_, hob⟩ hF
      have hch_ : Ch [] _ w := hch0_
      have hob : oblk lv7 = [b6] ∨ oblk lv7 = [_] := hob
      have hnxb5_ := nin_ob (lv := .slice (some ⟨b6, 0, none⟩) 0 0) hob (by simp [oblk] <;> omega) hib5
      have hnxb1_ := nin_ob (lv := .slice (some ⟨b6, 0, none⟩) 0 0) hob (by simp [oblk] <;> omega) hib1
      have hC := hC.trans' hch_ (fun z hz => .inr (absurd hz (by simp)))
      have hib1 := Nat.lt_of_lt_of_le hib1 (hch_).size
      have hb1 := Ch.blk0 hch_ hb1 (by first | assumption | (simp; done) | (simp <;> omega))
      have hib5 := Nat.lt_of_lt_of_le hib5 (hch_).size
      have hb5 := Ch.blk0 hch_ hb5 (by first | assumption | (simp; done) | (simp <;> omega))
      have hnob5 : b5 ∉ oblk lv7 := hnxb5_
      have hnob1 : b1 ∉ oblk lv7 := hnxb1_
      refine wl (d_move rfl) rfl hF (fun ac hF => ?_)
      have hown0_ := hown
      refine wlR (ok_appendS (m := 3) Tryd.underlying24 ii26 rfl (by decide) rfl rfl hown (SlA.mv hslm hC (by simp) (fun x hx => .inl hx)) (by have := IsTs.len hms; omega) (IsTs.cells1 hms) (by omega) (by unfold maxLen; omega) hC.size) rfl hF ?_
      rintro lv8 w ac ⟨hown, hch0_, hob⟩ hF
      have hch_ : Ch (oblk lv7) _ w := hch0_
      have hnxb5_ := nin_ob hob hnob5 hib5
      have hnxb1_ := nin_ob hob hnob1 hib1
      have hC := hC.trans' hch_ (fun z hz => .inr ((Own.lt hown0_ z hz).1))
      have hib1 := Nat.lt_of_lt_of_le hib1 (hch_).size
      have hb1 := Ch.blk0 hch_ hb1 (by first | assumption | (simp; done) | (simp <;> omega))
      have hib5 := Nat.lt_of_lt_of_le hib5 (hch_).size
      have hb5 := Ch.blk0 hch_ hb5 (by first | assumption | (simp; done) | (simp <;> omega))
      have hnob5 : b5 ∉ oblk lv8 := hnxb5_
      have hnob1 : b1 ∉ oblk lv8 := hnxb1_
      refine wl (d_assign rfl) rfl hF (fun ac hF => ?_)
      refine wl_nil ?_
      have hF := hF.sub (L' := [(0, (Value.bool dh)), (1, (Value.bool kem)), (2, (Value.slice ad ks.length cap)), (3, (Value.slice adm ms.length capm)), (4, (Value.agg #[(Value.int .i64 kt), (Value.int .i64 nt), (Value.slice adt lt ct)])), (9, (Value.pointer (some ⟨b1, 0, none⟩))), (10, (Value.bool false)), (11, (Value.pointer (some ⟨b5, 0, none⟩))), (12, lv8), (23, (Value.bool (!(smallB (ks ++ ms) t))))]) ⟨rfl, rfl, rfl, rfl, rfl, rfl, rfl, rfl, rfl, rfl, trivial⟩
      refine then_n ?_
      refine wp_seq ?_
      refine wp_seq ?_
      obtain ⟨k1, hk1⟩ := knB (may t = true ∧ Der ⟨dh, kem⟩ (Kn ks) (nrm t))
      obtain ⟨k2, hk2⟩ := knB (may t = true ∧ Der ⟨dh, kem⟩ (Kn (ks ++ ms)) (nrm t))
      obtain ⟨k3, hk3⟩ := knB (may t = true ∧ Der ⟨true, true⟩ (Kn ks) (nrm t))
      replace hk2 := grow_k2 hk1 hk2
      replace hk3 := grow_k3 hk1 hk3
      refine wp_join (fun ac w => Frm ac 99 [(2, (Value.slice ad ks.length cap)), (9, (Value.pointer (some ⟨b1, 0, none⟩))), (11, (Value.pointer (some ⟨b5, 0, none⟩))), (50, (Value.bool false))] ∧ (Ch [] w0 w) ∧ (b1 < w.heap.size) ∧ (w0.heap.size ≤ b1) ∧ (w.heap[b1]? = some (.cells #[(Value.int .i64 kt), (Value.int .i64 nt), (Value.slice adt lt ct)] 26 (0, 0))) ∧ (w0.heap.size ≤ (blk (H1 0))) ∧ (b1 < (blk (H1 0))) ∧ (H1 0 = (Value.slice (some ⟨(blk (H1 0)), 0, none⟩) 0 0)) ∧ (Own w w0.heap.size 26 3 lv8 (ks.length + ms.length) (xs ++ xm)) ∧ (b1 ∉ oblk lv8) ∧ (b5 < w.heap.size) ∧ (w0.heap.size ≤ b5) ∧ (w.heap[b5]? = some (.cells #[(Value.bool dh), (Value.bool kem)] 31 (0, 0))) ∧ (b1 < b5) ∧ (b5 ∉ oblk lv8) ∧ (w0.heap.size ≤ b6) ∧ (b1 < b6) ∧ (b5 < b6) ∧ True) ?_ ?_
      rotate_left
      · rintro ac w ⟨hF, ⟨hC, hib1, lob1, hb1, lob2, ne_b1_b2, hv1_0, hown, hnob1, hib5, lob5, hb5, ne_b1_b5, hnob5, lob6, ne_b1_b6, ne_b5_b6, _⟩⟩
        refine wp_cond_false (hF.eval rfl) ?_
        refine wp_skip ?_
        refine then_n ?_
        refine wp_seq ?_
        refine wp_seq ?_
        refine wp_region_lit ?_
        refine wl (d_assign rfl) rfl hF (fun ac hF => ?_)
        refine wl_nil ?_
        have hF := hF.sub (L' := [(2, (Value.slice ad ks.length cap)), (9, (Value.pointer (some ⟨b1, 0, none⟩))), (11, (Value.pointer (some ⟨b5, 0, none⟩))), (13, (Value.int .i64 0)), (50, (Value.bool false))]) ⟨rfl, rfl, rfl, rfl, rfl, trivial⟩
        refine then_n ?_
        refine wp_block ?_
        refine wp_loop_k (fun fu_ ac w => ∃ (i : Nat), fu_ = ks.length - i ∧ (i ≤ ks.length) ∧ Frm ac 99 [(2, (Value.slice ad ks.length cap)), (9, (Value.pointer (some ⟨b1, 0, none⟩))), (11, (Value.pointer (some ⟨b5, 0, none⟩))), (13, (Value.int .i64 (i : Int)))] ∧ (Ch [] w0 w) ∧ (b1 < w.heap.size) ∧ (w0.heap.size ≤ b1) ∧ (w.heap[b1]? = some (.cells #[(Value.int .i64 kt), (Value.int .i64 nt), (Value.slice adt lt ct)] 26 (0, 0))) ∧ (w0.heap.size ≤ (blk (H1 0))) ∧ (b1 < (blk (H1 0))) ∧ (H1 0 = (Value.slice (some ⟨(blk (H1 0)), 0, none⟩) 0 0)) ∧ (b5 < w.heap.size) ∧ (w0.heap.size ≤ b5) ∧ (w.heap[b5]? = some (.cells #[(Value.bool dh), (Value.bool kem)] 31 (0, 0))) ∧ (b1 < b5) ∧ (w0.heap.size ≤ b6) ∧ (b1 < b6) ∧ (b5 < b6) ∧ True) _ ⟨0, rfl, (by omega), hF.sub ⟨rfl, rfl, rfl, rfl, trivial⟩, ⟨hC, hib1, lob1, hb1, lob2, ne_b1_b2, hv1_0, hib5, lob5, hb5, ne_b1_b5, lob6, ne_b1_b6, ne_b5_b6, trivial⟩⟩ ?_
        rintro _ ac w ⟨i, rfl, hle, hF, ⟨hC, hib1, lob1, hb1, lob2, ne_b1_b2, hv1_0, hib5, lob5, hb5, ne_b1_b5, lob6, ne_b1_b6, ne_b5_b6, _⟩⟩
        refine wp_seq ?_
        refine wp_seq ?_
        refine wp_region_lit ?_
        refine wl (d_move rfl) rfl hF (fun ac hF => ?_)
        refine wl (d_move rfl) rfl hF (fun ac hF => ?_)
        refine wl (d_len_slice Tryd.underlying24 rfl) rfl hF (fun ac hF => ?_)
        refine wl (d_lss rfl rfl) rfl hF (fun ac hF => ?_)
        refine wl_nil ?_
        have hF := hF.sub (L' := [(2, (Value.slice ad ks.length cap)), (9, (Value.pointer (some ⟨b1, 0, none⟩))), (11, (Value.pointer (some ⟨b5, 0, none⟩))), (13, (Value.int .i64 (i : Int))), (54, (Value.bool (decide ((i : Int) < (ks.length : Int)))))]) ⟨rfl, rfl, rfl, rfl, rfl, trivial⟩
        refine then_n ?_
        refine wp_if hF rfl (fun h => ?_) (fun h => ?_)
        · have hlt := of_decide_eq_true h
          clear h
          obtain ⟨b0, o0, hae, hat0⟩ := sla_some hsl0 (by omega)
          obtain ⟨t1, hi⟩ : ∃ t, ks[i]? = some t := ⟨_, List.getElem?_eq_getElem (by omega)⟩
          have hmem : t1 ∈ ks := List.mem_of_getElem? hi
          obtain ⟨a1, ha1, hat1⟩ := hks.at hat0 i t1 hi
          obtain ⟨k1_, nm1, ad1, l1, cap1, rfl⟩ := ha1.form
          refine wp_skip ?_
          refine then_n ?_
          refine wp_seq ?_
          refine wp_block ?_
          refine wp_seq ?_
          obtain ⟨A2_0, hA2_0⟩ : ∃ A : (Nat → Value) → World → Prop, A = fun _ w => (Ch [] w0 w) ∧ (b1 < w.heap.size) ∧ (w0.heap.size ≤ b1) ∧ (w.heap[b1]? = some (.cells #[(Value.int .i64 kt), (Value.int .i64 nt), (Value.slice adt lt ct)] 26 (0, 0))) ∧ (w0.heap.size ≤ (blk (H1 0))) ∧ (b1 < (blk (H1 0))) ∧ (H1 0 = (Value.slice (some ⟨(blk (H1 0)), 0, none⟩) 0 0)) ∧ (b5 < w.heap.size) ∧ (w0.heap.size ≤ b5) ∧ (w.heap[b5]? = some (.cells #[(Value.bool dh), (Value.bool kem)] 31 (0, 0))) ∧ (b1 < b5) ∧ (w0.heap.size ≤ b6) ∧ (b1 < b6) ∧ (b5 < b6) ∧ True := ⟨_, rfl⟩
          obtain ⟨A2_1, hA2_1⟩ : ∃ A : (Nat → Value) → World → Prop, A = fun _ w => (Ch [] w0 w) ∧ (b1 < w.heap.size) ∧ (w0.heap.size ≤ b1) ∧ (w.heap[b1]? = some (.cells #[(Value.int .i64 kt), (Value.int .i64 nt), (Value.slice adt lt ct)] 26 (0, 0))) ∧ (w0.heap.size ≤ (blk (H1 0))) ∧ (b1 < (blk (H1 0))) ∧ (H1 0 = (Value.slice (some ⟨(blk (H1 0)), 0, none⟩) 0 0)) ∧ (b5 < w.heap.size) ∧ (w0.heap.size ≤ b5) ∧ (w.heap[b5]? = some (.cells #[(Value.bool dh), (Value.bool kem)] 31 (0, 0))) ∧ (b1 < b5) ∧ (w0.heap.size ≤ b6) ∧ (b1 < b6) ∧ (b5 < b6) ∧ True := ⟨_, rfl⟩
          obtain ⟨A2_2, hA2_2⟩ : ∃ A : (Nat → Value) → World → Prop, A = fun _ w => (Ch [] w0 w) ∧ (b1 < w.heap.size) ∧ (w0.heap.size ≤ b1) ∧ (w.heap[b1]? = some (.cells #[(Value.int .i64 kt), (Value.int .i64 nt), (Value.slice adt lt ct)] 26 (0, 0))) ∧ (w0.heap.size ≤ (blk (H1 0))) ∧ (b1 < (blk (H1 0))) ∧ (H1 0 = (Value.slice (some ⟨(blk (H1 0)), 0, none⟩) 0 0)) ∧ (b5 < w.heap.size) ∧ (w0.heap.size ≤ b5) ∧ (w.heap[b5]? = some (.cells #[(Value.bool dh), (Value.bool kem)] 31 (0, 0))) ∧ (b1 < b5) ∧ (w0.heap.size ≤ b6) ∧ (b1 < b6) ∧ (b5 < b6) ∧ True := ⟨_, rfl⟩
          refine region_hist mo (fun p_ H_ w_ => (([A2_0, A2_1, A2_2] : List ((Nat → Value) → World → Prop)).getD p_ (fun _ _ => True)) H_ w_) [6, 11] (rows := [hr_ [] [(11, (Value.pointer (some ⟨b5, 0, none⟩)))] [0] (Value.agg #[(Value.bool dh), (Value.bool kem)]), hr_ [] [(2, (Value.slice ad ks.length cap))] [0] (Value.slice ad ks.length cap), hr_ [] [(2, (Value.slice ad ks.length cap))] [0] (Value.slice ad ks.length cap), hr_ [] [(13, (Value.int .i64 (i : Int)))] [0] (Value.int .i64 (i : Int)), hr_ [(2, 59), (3, 60)] [] [0] (Value.pointer (some ⟨b0, o0 + i * 3, none⟩)), hr_ [(4, 61)] [] [0] (Value.agg #[(Value.int .i64 k1_), (Value.int .i64 nm1), (Value.slice ad1 l1 cap1)]), hr_ [(0, 57), (1, 58), (5, 62)] [] [0] (Value.bool (may t1)), hr_ [] [(2, (Value.slice ad ks.length cap))] [0, 1] (Value.slice ad ks.length cap), hr_ [] [(13, (Value.int .i64 (i : Int)))] [0, 1] (Value.int .i64 (i : Int)), hr_ [(7, 64), (8, 65)] [] [0, 1] (Value.pointer (some ⟨b0, o0 + i * 3, none⟩)), hr_ [(9, 66)] [] [0, 1] (Value.agg #[(Value.int .i64 k1_), (Value.int .i64 nm1), (Value.slice ad1 l1 cap1)]), hr_ [(10, 67)] [] [1] (Value.bool (may t1)), hr_ [(6, 63), (11, 68)] [] [2] (Value.bool false)]) (by kernel_rfl) hF (fun H_ => ?_) ?_ ?_
          · have hch_ := Ch.drew w
            have hfin_ : A2_0 H_ { w with drawn := w.drawn + 1 } := by rw [hA2_0]; exact ⟨hC.trans' hch_ (fun z hz => .inr (absurd hz (by simp))), Nat.lt_of_lt_of_le hib1 (hch_).size, lob1, Ch.blk0 hch_ hb1 (by first | assumption | (simp; done) | (simp <;> omega)), lob2, ne_b1_b2, hv1_0, Nat.lt_of_lt_of_le hib5 (hch_).size, lob5, Ch.blk0 hch_ hb5 (by first | assumption | (simp; done) | (simp <;> omega)), ne_b1_b5, lob6, ne_b1_b6, ne_b5_b6, trivial⟩
            exact hfin_
          · refine ⟨?_, ?_, ?_, ?_, ?_, ?_, ?_, ?_, ?_, ?_, ?_, ?_, ?_, trivial⟩
            · exact HOb.fact hA2_0 ⟨rfl, trivial⟩ rfl rfl rfl rfl (fun H2 w ⟨_, _, _, _, _, _, _, _, _, hb5, _⟩ => d_loadC Tryd.underlying31 rfl sz31 rfl ((At.of_blk hb5)) rfl)
            · exact HOb.pure ⟨rfl, trivial⟩ rfl rfl (fun _ _ => d_move rfl)
            · exact HOb.pure ⟨rfl, trivial⟩ rfl rfl (fun _ _ => d_move rfl)
            · exact HOb.pure ⟨rfl, trivial⟩ rfl rfl (fun _ _ => d_move rfl)
            · refine ⟨trivial, fun ph_ hp_ H2 w hW => ?_⟩
              obtain rfl := memN_one hp_
              have hW0 := hW
              replace hW : A2_0 H2 w := hW
              rw [hA2_0] at hW
              obtain ⟨hC, hib1, lob1, hb1, lob2, ne_b1_b2, hv1_0, hib5, lob5, hb5, ne_b1_b5, lob6, ne_b1_b6, ne_b5_b6, _⟩ := hW
              exact Det.ohc rfl hW0 (d_ixSmQ (b := b0) (o := o0) (j := i) (q := o0 + i * 3) Tryd.underlying24 sz26 (by rw [← hae]; rfl) rfl rfl (by omega) rfl)
            · exact HOb.fact hA2_0 trivial rfl rfl rfl rfl (fun H2 w ⟨hC, _⟩ => d_loadC Tryd.underlying26 rfl sz26 rfl (hat1.mv hC (by simp)) rfl)
            · refine ⟨trivial, fun ph_ hp_ H2 w hW => ?_⟩
              obtain rfl := memN_one hp_
              replace hW : A2_0 H2 w := hW
              rw [hA2_0] at hW
              obtain ⟨hC, hib1, lob1, hb1, lob2, ne_b1_b2, hv1_0, hib5, lob5, hb5, ne_b1_b5, lob6, ne_b1_b6, ne_b5_b6, _⟩ := hW
              refine Ok1.mono (ok_call c19 rfl (Knows_sla_is (W := ⟨dh, kem⟩) (known := ks) (t := t1) (grow_in hmem) _ (hT0 _ _ (hC.below hw0.size (by simp)) hw0) (by omega) rfl (SlA.mv hsl0 hC (by simp) (fun x hx => .inl hx)) (IsTs.mv hC (by simp) (fun x hx => .inl hx) _ _ hks) (IsT.mv hC (by simp) (fun x hx => .inl hx) _ _ ha1))) ?_
              rintro _ w' ⟨rfl, hg_⟩
              have hch_ : Ch [] _ w' := Gr.ch hg_
              have hC := hC.trans' hch_ (fun z hz => .inr (absurd hz (by simp)))
              have hib1 := Nat.lt_of_lt_of_le hib1 (hch_).size
              have hb1 := Ch.blk0 hch_ hb1 (by first | assumption | (simp; done) | (simp <;> omega))
              have hib5 := Nat.lt_of_lt_of_le hib5 (hch_).size
              have hb5 := Ch.blk0 hch_ hb5 (by first | assumption | (simp; done) | (simp <;> omega))
              have hfin_ : A2_1 (updV H2 6 (Value.bool (may t1))) w' := by rw [hA2_1]; exact ⟨hC, hib1, lob1, hb1, lob2, ne_b1_b2, hv1_0, hib5, lob5, hb5, ne_b1_b5, lob6, ne_b1_b6, ne_b5_b6, trivial⟩
              exact fin_ rfl ⟨hfin_, rfl⟩
            · exact HOb.pure ⟨rfl, trivial⟩ rfl rfl (fun _ _ => d_move rfl)
            · exact HOb.pure ⟨rfl, trivial⟩ rfl rfl (fun _ _ => d_move rfl)
            · refine ⟨trivial, fun ph_ hp_ H2 w hW => ?_⟩
              rcases memN_or hp_ with rfl | hp_
              · have hW0 := hW
                replace hW : A2_0 H2 w := hW
                rw [hA2_0] at hW
                obtain ⟨hC, hib1, lob1, hb1, lob2, ne_b1_b2, hv1_0, hib5, lob5, hb5, ne_b1_b5, lob6, ne_b1_b6, ne_b5_b6, _⟩ := hW
                exact Det.ohc rfl hW0 (d_ixSmQ (b := b0) (o := o0) (j := i) (q := o0 + i * 3) Tryd.underlying24 sz26 (by rw [← hae]; rfl) rfl rfl (by omega) rfl)
              obtain rfl := memN_one hp_
              · have hW0 := hW
                replace hW : A2_1 H2 w := hW
                rw [hA2_1] at hW
                obtain ⟨hC, hib1, lob1, hb1, lob2, ne_b1_b2, hv1_0, hib5, lob5, hb5, ne_b1_b5, lob6, ne_b1_b6, ne_b5_b6, _⟩ := hW
                exact Det.ohc rfl hW0 (d_ixSmQ (b := b0) (o := o0) (j := i) (q := o0 + i * 3) Tryd.underlying24 sz26 (by rw [← hae]; rfl) rfl rfl (by omega) rfl)
            · refine ⟨trivial, fun ph_ hp_ H2 w hW => ?_⟩
              rcases memN_or hp_ with rfl | hp_
              · have hW0 := hW
                replace hW : A2_0 H2 w := hW
                rw [hA2_0] at hW
                obtain ⟨hC, hib1, lob1, hb1, lob2, ne_b1_b2, hv1_0, hib5, lob5, hb5, ne_b1_b5, lob6, ne_b1_b6, ne_b5_b6, _⟩ := hW
                exact Det.ohc rfl hW0 (d_loadC Tryd.underlying26 rfl sz26 rfl (hat1.mv hC (by simp)) rfl)
              obtain rfl := memN_one hp_
              · have hW0 := hW
                replace hW : A2_1 H2 w := hW
                rw [hA2_1] at hW
                obtain ⟨hC, hib1, lob1, hb1, lob2, ne_b1_b2, hv1_0, hib5, lob5, hb5, ne_b1_b5, lob6, ne_b1_b6, ne_b5_b6, _⟩ := hW
                exact Det.ohc rfl hW0 (d_loadC Tryd.underlying26 rfl sz26 rfl (hat1.mv hC (by simp)) rfl)
            · refine ⟨trivial, fun ph_ hp_ H2 w hW => ?_⟩
              obtain rfl := memN_one hp_
              replace hW : A2_1 H2 w := hW
              rw [hA2_1] at hW
              obtain ⟨hC, hib1, lob1, hb1, lob2, ne_b1_b2, hv1_0, hib5, lob5, hb5, ne_b1_b5, lob6, ne_b1_b6, ne_b5_b6, _⟩ := hW
              refine Ok1.mono (ok_call c22 rfl (RMay_calls (t := t1) _ (IsT.mv hC (by simp) (fun x hx => .inl hx) _ _ ha1))) ?_
              rintro _ w' ⟨rfl, hg_⟩
              have hch_ : Ch [] _ w' := Gr.ch hg_
              have hC := hC.trans' hch_ (fun z hz => .inr (absurd hz (by simp)))
              have hib1 := Nat.lt_of_lt_of_le hib1 (hch_).size
              have hb1 := Ch.blk0 hch_ hb1 (by first | assumption | (simp; done) | (simp <;> omega))
              have hib5 := Nat.lt_of_lt_of_le hib5 (hch_).size
              have hb5 := Ch.blk0 hch_ hb5 (by first | assumption | (simp; done) | (simp <;> omega))
              have hfin_ : A2_2 (updV H2 11 (Value.bool (may t1))) w' := by rw [hA2_2]; exact ⟨hC, hib1, lob1, hb1, lob2, ne_b1_b2, hv1_0, hib5, lob5, hb5, ne_b1_b5, lob6, ne_b1_b6, ne_b5_b6, trivial⟩
              exact fin_ rfl ⟨hfin_, rfl⟩
            · exact HOb.pure trivial rfl rfl (fun _ _ => d_bool (c := false) (d_neqB Tryd.underlying4 rfl rfl) (by simp))
          · intro ac w H2 hW hF
            replace hW : A2_2 H2 w := hW
            rw [hA2_2] at hW
            obtain ⟨hC, hib1, lob1, hb1, lob2, ne_b1_b2, hv1_0, hib5, lob5, hb5, ne_b1_b5, lob6, ne_b1_b6, ne_b5_b6, _⟩ := hW
            clear hA2_0 A2_0 hA2_1 A2_1 hA2_2 A2_2
            have hF := hF.sub (L' := [(2, (Value.slice ad ks.length cap)), (9, (Value.pointer (some ⟨b1, 0, none⟩))), (11, (Value.pointer (some ⟨b5, 0, none⟩))), (13, (Value.int .i64 (i : Int))), (54, (Value.bool (decide ((i : Int) < (ks.length : Int))))), (69, (Value.bool false))]) ⟨rfl, rfl, rfl, rfl, rfl, rfl, trivial⟩
            refine then_n ?_
            refine wp_cond_false (hF.eval rfl) ?_
            refine wp_skip ?_
            refine block_n ?_
            refine then_n ?_
            refine wp_region_lit ?_
            refine wl (d_move rfl) rfl hF (fun ac hF => ?_)
            refine wl (d_add rfl rfl (wrap_i64 (by omega) (by omega))) rfl hF (fun ac hF => ?_)
            refine wl (d_assign rfl) rfl hF (fun ac hF => ?_)
            refine wl_nil ?_
            have hF := hF.sub (L' := [(2, (Value.slice ad ks.length cap)), (9, (Value.pointer (some ⟨b1, 0, none⟩))), (11, (Value.pointer (some ⟨b5, 0, none⟩))), (13, (Value.int .i64 ((i : Int) + 1))), (54, (Value.bool (decide ((i : Int) < (ks.length : Int))))), (69, (Value.bool false))]) ⟨rfl, rfl, rfl, rfl, rfl, rfl, trivial⟩
            refine then_n ?_
            refine ⟨_, ?_, i + 1, rfl, (by omega), hF.sub ⟨rfl, rfl, rfl, rfl, trivial⟩, ⟨hC, hib1, lob1, hb1, lob2, ne_b1_b2, hv1_0, hib5, lob5, hb5, ne_b1_b5, lob6, ne_b1_b6, ne_b5_b6, trivial⟩⟩
            omega
        · have hlt := of_decide_eq_false h
          clear h
          refine wp_exit ?_
          refine then_exit ?_
          refine then_exit ?_
          refine block_exit ?_
          refine then_n ?_
          refine wp_seq ?_
          obtain ⟨fo, go, r, hop, hN, hdr, heq⟩ := grow_opens ⟨dh, kem⟩ ks
          have hrl_ : r.l.length ≤ 1000000 := by have h1_ := opens_len hop; have h2_ := univ_len ks; omega
          refine wp_region_lit ?_
          refine wl (d_loadC Tryd.underlying31 rfl sz31 rfl ((At.of_blk hb5)) rfl) rfl hF (fun ac hF => ?_)
          refine wl (d_move rfl) rfl hF (fun ac hF => ?_)
          refine wlR (ok_call c23 rfl (Opens_calls hop (fun t ht => may_ok0 (hN t ht).1) (by omega) (by have h1_ := opens_len hop; have h2_ := univ_len ks; omega) _ (hT0 _ _ (hC.below hw0.size (by simp)) hw0) (sla_some (SlA.mv hsl0 hC (by simp) (fun x hx => .inl hx))) (IsTs.mv hC (by simp) (fun x hx => .inl hx) _ _ hks))) rfl hF ?_
          rintro lo w ac ⟨xo, hslo, hto, hg_⟩ hF
          have hch_ : Ch [] _ w := Gr.ch hg_
          have hC := hC.trans' hch_ (fun z hz => .inr (absurd hz (by simp)))
          have hib1 := Nat.lt_of_lt_of_le hib1 (hch_).size
          have hb1 := Ch.blk0 hch_ hb1 (by first | assumption | (simp; done) | (simp <;> omega))
          have hib5 := Nat.lt_of_lt_of_le hib5 (hch_).size
          have hb5 := Ch.blk0 hch_ hb5 (by first | assumption | (simp; done) | (simp <;> omega))
          refine wl (d_assign rfl) rfl hF (fun ac hF => ?_)
          refine wl_nil ?_
          have hF := hF.sub (L' := [(2, (Value.slice ad ks.length cap)), (9, (Value.pointer (some ⟨b1, 0, none⟩))), (11, (Value.pointer (some ⟨b5, 0, none⟩))), (13, (Value.int .i64 (i : Int))), (14, lo), (54, (Value.bool (decide ((i : Int) < (ks.length : Int)))))]) ⟨rfl, rfl, rfl, rfl, rfl, rfl, trivial⟩
          obtain ⟨ado, capo, rfl, _⟩ := hslo.form
          refine then_n ?_
          refine wp_seq ?_
          refine wp_seq ?_
          refine wp_region_lit ?_
          refine wl (d_assign rfl) rfl hF (fun ac hF => ?_)
          refine wl_nil ?_
          have hF := hF.sub (L' := [(2, (Value.slice ad ks.length cap)), (9, (Value.pointer (some ⟨b1, 0, none⟩))), (11, (Value.pointer (some ⟨b5, 0, none⟩))), (13, (Value.int .i64 (i : Int))), (14, (Value.slice ado r.l.length capo)), (15, (Value.int .i64 0)), (54, (Value.bool (decide ((i : Int) < (ks.length : Int)))))]) ⟨rfl, rfl, rfl, rfl, rfl, rfl, rfl, trivial⟩
          refine then_n ?_
          refine wp_block ?_
          refine wp_loop_k (fun fu_ ac w => ∃ (i : Nat), fu_ = r.l.length - i ∧ (i ≤ r.l.length) ∧ Frm ac 99 [(2, (Value.slice ad ks.length cap)), (9, (Value.pointer (some ⟨b1, 0, none⟩))), (11, (Value.pointer (some ⟨b5, 0, none⟩))), (14, (Value.slice ado r.l.length capo)), (15, (Value.int .i64 (i : Int)))] ∧ (Ch [] w0 w) ∧ (b1 < w.heap.size) ∧ (w0.heap.size ≤ b1) ∧ (w.heap[b1]? = some (.cells #[(Value.int .i64 kt), (Value.int .i64 nt), (Value.slice adt lt ct)] 26 (0, 0))) ∧ (w0.heap.size ≤ (blk (H1 0))) ∧ (b1 < (blk (H1 0))) ∧ (H1 0 = (Value.slice (some ⟨(blk (H1 0)), 0, none⟩) 0 0)) ∧ (b5 < w.heap.size) ∧ (w0.heap.size ≤ b5) ∧ (w.heap[b5]? = some (.cells #[(Value.bool dh), (Value.bool kem)] 31 (0, 0))) ∧ (b1 < b5) ∧ (w0.heap.size ≤ b6) ∧ (b1 < b6) ∧ (b5 < b6) ∧ (SlA w [] (.slice ado r.l.length capo) r.l.length xo) ∧ (IsTs w [] r.l xo) ∧ True) _ ⟨0, rfl, (by omega), hF.sub ⟨rfl, rfl, rfl, rfl, rfl, trivial⟩, ⟨hC, hib1, lob1, hb1, lob2, ne_b1_b2, hv1_0, hib5, lob5, hb5, ne_b1_b5, lob6, ne_b1_b6, ne_b5_b6, hslo, hto, trivial⟩⟩ ?_
          rintro _ ac w ⟨i, rfl, hle, hF, ⟨hC, hib1, lob1, hb1, lob2, ne_b1_b2, hv1_0, hib5, lob5, hb5, ne_b1_b5, lob6, ne_b1_b6, ne_b5_b6, hslo, hto, _⟩⟩
          refine wp_seq ?_
          refine wp_seq ?_
          refine wp_region_lit ?_
          refine wl (d_move rfl) rfl hF (fun ac hF => ?_)
          refine wl (d_move rfl) rfl hF (fun ac hF => ?_)
          refine wl (d_len_slice Tryd.underlying24 rfl) rfl hF (fun ac hF => ?_)
          refine wl (d_lss rfl rfl) rfl hF (fun ac hF => ?_)
          refine wl_nil ?_
          have hF := hF.sub (L' := [(2, (Value.slice ad ks.length cap)), (9, (Value.pointer (some ⟨b1, 0, none⟩))), (11, (Value.pointer (some ⟨b5, 0, none⟩))), (14, (Value.slice ado r.l.length capo)), (15, (Value.int .i64 (i : Int))), (76, (Value.bool (decide ((i : Int) < (r.l.length : Int)))))]) ⟨rfl, rfl, rfl, rfl, rfl, rfl, trivial⟩
          refine then_n ?_
          refine wp_if hF rfl (fun h => ?_) (fun h => ?_)
          · have hlt := of_decide_eq_true h
            clear h
            obtain ⟨b0, o0, hae, hat0⟩ := sla_some hslo (by omega)
            obtain ⟨t2, hi⟩ : ∃ t, r.l[i]? = some t := ⟨_, List.getElem?_eq_getElem (by omega)⟩
            have hm2 : t2 ∈ r.l := List.mem_of_getElem? hi
            obtain ⟨a2, hT2, hat2⟩ := hto.at hat0 i t2 hi
            obtain ⟨k2_, nm2, ad2, l2, cap2, rfl⟩ := hT2.form
            refine wp_skip ?_
            refine then_n ?_
            refine wp_seq ?_
            refine wp_block ?_
            refine wp_seq ?_
            obtain ⟨A3_0, hA3_0⟩ : ∃ A : (Nat → Value) → World → Prop, A = fun _ w => (Ch [] w0 w) ∧ (b1 < w.heap.size) ∧ (w0.heap.size ≤ b1) ∧ (w.heap[b1]? = some (.cells #[(Value.int .i64 kt), (Value.int .i64 nt), (Value.slice adt lt ct)] 26 (0, 0))) ∧ (w0.heap.size ≤ (blk (H1 0))) ∧ (b1 < (blk (H1 0))) ∧ (H1 0 = (Value.slice (some ⟨(blk (H1 0)), 0, none⟩) 0 0)) ∧ (b5 < w.heap.size) ∧ (w0.heap.size ≤ b5) ∧ (w.heap[b5]? = some (.cells #[(Value.bool dh), (Value.bool kem)] 31 (0, 0))) ∧ (b1 < b5) ∧ (w0.heap.size ≤ b6) ∧ (b1 < b6) ∧ (b5 < b6) ∧ (SlA w [] (.slice ado r.l.length capo) r.l.length xo) ∧ (IsTs w [] r.l xo) ∧ (At w b0 (o0 + i * 3) [(Value.int .i64 k2_), (Value.int .i64 nm2), (Value.slice ad2 l2 cap2)]) ∧ (IsT w [] t2 [(Value.int .i64 k2_), (Value.int .i64 nm2), (Value.slice ad2 l2 cap2)]) ∧ True := ⟨_, rfl⟩
            obtain ⟨A3_1, hA3_1⟩ : ∃ A : (Nat → Value) → World → Prop, A = fun _ w => (Ch [] w0 w) ∧ (b1 < w.heap.size) ∧ (w0.heap.size ≤ b1) ∧ (w.heap[b1]? = some (.cells #[(Value.int .i64 kt), (Value.int .i64 nt), (Value.slice adt lt ct)] 26 (0, 0))) ∧ (w0.heap.size ≤ (blk (H1 0))) ∧ (b1 < (blk (H1 0))) ∧ (H1 0 = (Value.slice (some ⟨(blk (H1 0)), 0, none⟩) 0 0)) ∧ (b5 < w.heap.size) ∧ (w0.heap.size ≤ b5) ∧ (w.heap[b5]? = some (.cells #[(Value.bool dh), (Value.bool kem)] 31 (0, 0))) ∧ (b1 < b5) ∧ (w0.heap.size ≤ b6) ∧ (b1 < b6) ∧ (b5 < b6) ∧ (SlA w [] (.slice ado r.l.length capo) r.l.length xo) ∧ (IsTs w [] r.l xo) ∧ (At w b0 (o0 + i * 3) [(Value.int .i64 k2_), (Value.int .i64 nm2), (Value.slice ad2 l2 cap2)]) ∧ (IsT w [] t2 [(Value.int .i64 k2_), (Value.int .i64 nm2), (Value.slice ad2 l2 cap2)]) ∧ True := ⟨_, rfl⟩
            refine region_hist mo (fun p_ H_ w_ => (([A3_0, A3_1] : List ((Nat → Value) → World → Prop)).getD p_ (fun _ _ => True)) H_ w_) [6] (rows := [hr_ [] [(11, (Value.pointer (some ⟨b5, 0, none⟩)))] [0] (Value.agg #[(Value.bool dh), (Value.bool kem)]), hr_ [] [(2, (Value.slice ad ks.length cap))] [0] (Value.slice ad ks.length cap), hr_ [] [(14, (Value.slice ado r.l.length capo))] [0] (Value.slice ado r.l.length capo), hr_ [] [(15, (Value.int .i64 (i : Int)))] [0] (Value.int .i64 (i : Int)), hr_ [(2, 81), (3, 82)] [] [0] (Value.pointer (some ⟨b0, o0 + i * 3, none⟩)), hr_ [(4, 83)] [] [0] (Value.agg #[(Value.int .i64 k2_), (Value.int .i64 nm2), (Value.slice ad2 l2 cap2)]), hr_ [(0, 79), (1, 80), (5, 84)] [] [0] (Value.bool true), hr_ [(6, 85)] [] [1] (Value.bool false)]) (by kernel_rfl) hF (fun H_ => ?_) ?_ ?_
            · have hch_ := Ch.drew w
              have hfin_ : A3_0 H_ { w with drawn := w.drawn + 1 } := by rw [hA3_0]; exact ⟨hC.trans' hch_ (fun z hz => .inr (absurd hz (by simp))), Nat.lt_of_lt_of_le hib1 (hch_).size, lob1, Ch.blk0 hch_ hb1 (by first | assumption | (simp; done) | (simp <;> omega)), lob2, ne_b1_b2, hv1_0, Nat.lt_of_lt_of_le hib5 (hch_).size, lob5, Ch.blk0 hch_ hb5 (by first | assumption | (simp; done) | (simp <;> omega)), ne_b1_b5, lob6, ne_b1_b6, ne_b5_b6, SlA.mv hslo hch_ (by simp) (fun x hx => .inl hx), IsTs.mv hch_ (by simp) (fun x hx => .inl hx) _ _ hto, hat2.mv hch_ (by simp), IsT.mv hch_ (by simp) (fun x hx => .inl hx) _ _ hT2, trivial⟩
              exact hfin_
            · refine ⟨?_, ?_, ?_, ?_, ?_, ?_, ?_, ?_, trivial⟩
              · exact HOb.fact hA3_0 ⟨rfl, trivial⟩ rfl rfl rfl rfl (fun H3 w ⟨_, _, _, _, _, _, _, _, _, hb5, _⟩ => d_loadC Tryd.underlying31 rfl sz31 rfl ((At.of_blk hb5)) rfl)
              · exact HOb.pure ⟨rfl, trivial⟩ rfl rfl (fun _ _ => d_move rfl)
              · exact HOb.pure ⟨rfl, trivial⟩ rfl rfl (fun _ _ => d_move rfl)
              · exact HOb.pure ⟨rfl, trivial⟩ rfl rfl (fun _ _ => d_move rfl)
              · refine ⟨trivial, fun ph_ hp_ H3 w hW => ?_⟩
                obtain rfl := memN_one hp_
                have hW0 := hW
                replace hW : A3_0 H3 w := hW
                rw [hA3_0] at hW
                obtain ⟨hC, hib1, lob1, hb1, lob2, ne_b1_b2, hv1_0, hib5, lob5, hb5, ne_b1_b5, lob6, ne_b1_b6, ne_b5_b6, hslo, hto, hat2, hT2, _⟩ := hW
                exact Det.ohc rfl hW0 (d_ixSmQ (b := b0) (o := o0) (j := i) (q := o0 + i * 3) Tryd.underlying24 sz26 (by rw [← hae]; rfl) rfl rfl (by omega) rfl)
              · exact HOb.fact hA3_0 trivial rfl rfl rfl rfl (fun H3 w ⟨_, _, _, _, _, _, _, _, _, _, _, _, _, _, _, _, hat2, _⟩ => d_loadC Tryd.underlying26 rfl sz26 rfl hat2 rfl)
              · refine ⟨trivial, fun ph_ hp_ H3 w hW => ?_⟩
                obtain rfl := memN_one hp_
                replace hW : A3_0 H3 w := hW
                rw [hA3_0] at hW
                obtain ⟨hC, hib1, lob1, hb1, lob2, ne_b1_b2, hv1_0, hib5, lob5, hb5, ne_b1_b5, lob6, ne_b1_b6, ne_b5_b6, hslo, hto, hat2, hT2, _⟩ := hW
                refine Ok1.mono (ok_call c19 rfl (Knows_sla_is (W := ⟨dh, kem⟩) (known := ks) (t := t2) (grow_o (hN t2 hm2) (hdr t2 hm2)) _ (hT0 _ _ (hC.below hw0.size (by simp)) hw0) (by omega) rfl (SlA.mv hsl0 hC (by simp) (fun x hx => .inl hx)) (IsTs.mv hC (by simp) (fun x hx => .inl hx) _ _ hks) hT2)) ?_
                rintro _ w' ⟨rfl, hg_⟩
                have hch_ : Ch [] _ w' := Gr.ch hg_
                have hC := hC.trans' hch_ (fun z hz => .inr (absurd hz (by simp)))
                have hib1 := Nat.lt_of_lt_of_le hib1 (hch_).size
                have hb1 := Ch.blk0 hch_ hb1 (by first | assumption | (simp; done) | (simp <;> omega))
                have hib5 := Nat.lt_of_lt_of_le hib5 (hch_).size
                have hb5 := Ch.blk0 hch_ hb5 (by first | assumption | (simp; done) | (simp <;> omega))
                have hslo : SlA w' [] (.slice ado r.l.length capo) r.l.length xo := SlA.mv hslo hch_ (by simp) (fun x hx => .inl hx)
                have hto : IsTs w' [] r.l xo := IsTs.mv hch_ (by simp) (fun x hx => .inl hx) _ _ hto
                have hat2 := hat2.mv hch_ (by simp)
                have hT2 : IsT w' [] t2 [(Value.int .i64 k2_), (Value.int .i64 nm2), (Value.slice ad2 l2 cap2)] := IsT.mv hch_ (by simp) (fun x hx => .inl hx) _ _ hT2
                have hfin_ : A3_1 (updV H3 6 (Value.bool true)) w' := by rw [hA3_1]; exact ⟨hC, hib1, lob1, hb1, lob2, ne_b1_b2, hv1_0, hib5, lob5, hb5, ne_b1_b5, lob6, ne_b1_b6, ne_b5_b6, hslo, hto, hat2, hT2, trivial⟩
                exact fin_ rfl ⟨hfin_, rfl⟩
              · exact HOb.pure trivial rfl rfl (fun _ _ => d_bool (c := false) (d_not (b := true) rfl) rfl)
            · intro ac w H3 hW hF
              replace hW : A3_1 H3 w := hW
              rw [hA3_1] at hW
              obtain ⟨hC, hib1, lob1, hb1, lob2, ne_b1_b2, hv1_0, hib5, lob5, hb5, ne_b1_b5, lob6, ne_b1_b6, ne_b5_b6, hslo, hto, hat2, hT2, _⟩ := hW
              clear hA3_0 A3_0 hA3_1 A3_1
              have hF := hF.sub (L' := [(2, (Value.slice ad ks.length cap)), (9, (Value.pointer (some ⟨b1, 0, none⟩))), (11, (Value.pointer (some ⟨b5, 0, none⟩))), (14, (Value.slice ado r.l.length capo)), (15, (Value.int .i64 (i : Int))), (76, (Value.bool (decide ((i : Int) < (r.l.length : Int))))), (86, (Value.bool false))]) ⟨rfl, rfl, rfl, rfl, rfl, rfl, rfl, trivial⟩
              refine then_n ?_
              refine wp_cond_false (hF.eval rfl) ?_
              refine wp_skip ?_
              refine block_n ?_
              refine then_n ?_
              refine wp_region_lit ?_
              refine wl (d_move rfl) rfl hF (fun ac hF => ?_)
              refine wl (d_add rfl rfl (wrap_i64 (by omega) (by omega))) rfl hF (fun ac hF => ?_)
              refine wl (d_assign rfl) rfl hF (fun ac hF => ?_)
              refine wl_nil ?_
              have hF := hF.sub (L' := [(2, (Value.slice ad ks.length cap)), (9, (Value.pointer (some ⟨b1, 0, none⟩))), (11, (Value.pointer (some ⟨b5, 0, none⟩))), (14, (Value.slice ado r.l.length capo)), (15, (Value.int .i64 ((i : Int) + 1))), (76, (Value.bool (decide ((i : Int) < (r.l.length : Int))))), (86, (Value.bool false))]) ⟨rfl, rfl, rfl, rfl, rfl, rfl, rfl, trivial⟩
              refine then_n ?_
              refine ⟨_, ?_, i + 1, rfl, (by omega), hF.sub ⟨rfl, rfl, rfl, rfl, rfl, trivial⟩, ⟨hC, hib1, lob1, hb1, lob2, ne_b1_b2, hv1_0, hib5, lob5, hb5, ne_b1_b5, lob6, ne_b1_b6, ne_b5_b6, hslo, hto, trivial⟩⟩
              omega
          · have hlt := of_decide_eq_false h
            clear h
            refine wp_exit ?_
            refine then_exit ?_
            refine then_exit ?_
            refine block_exit ?_
            refine then_n ?_
            refine wp_seq ?_
            obtain ⟨A4_0, hA4_0⟩ : ∃ A : (Nat → Value) → World → Prop, A = fun _ w => (Ch [] w0 w) ∧ (b1 < w.heap.size) ∧ (w0.heap.size ≤ b1) ∧ (w.heap[b1]? = some (.cells #[(Value.int .i64 kt), (Value.int .i64 nt), (Value.slice adt lt ct)] 26 (0, 0))) ∧ (w0.heap.size ≤ (blk (H1 0))) ∧ (b1 < (blk (H1 0))) ∧ (H1 0 = (Value.slice (some ⟨(blk (H1 0)), 0, none⟩) 0 0)) ∧ (b5 < w.heap.size) ∧ (w0.heap.size ≤ b5) ∧ (w.heap[b5]? = some (.cells #[(Value.bool dh), (Value.bool kem)] 31 (0, 0))) ∧ (b1 < b5) ∧ (w0.heap.size ≤ b6) ∧ (b1 < b6) ∧ (b5 < b6) ∧ (SlA w [] (.slice ado r.l.length capo) r.l.length xo) ∧ (IsTs w [] r.l xo) ∧ True := ⟨_, rfl⟩
            obtain ⟨A4_1, hA4_1⟩ : ∃ A : (Nat → Value) → World → Prop, A = fun _ w => (Ch [] w0 w) ∧ (b1 < w.heap.size) ∧ (w0.heap.size ≤ b1) ∧ (w.heap[b1]? = some (.cells #[(Value.int .i64 kt), (Value.int .i64 nt), (Value.slice adt lt ct)] 26 (0, 0))) ∧ (w0.heap.size ≤ (blk (H1 0))) ∧ (b1 < (blk (H1 0))) ∧ (H1 0 = (Value.slice (some ⟨(blk (H1 0)), 0, none⟩) 0 0)) ∧ (b5 < w.heap.size) ∧ (w0.heap.size ≤ b5) ∧ (w.heap[b5]? = some (.cells #[(Value.bool dh), (Value.bool kem)] 31 (0, 0))) ∧ (b1 < b5) ∧ (w0.heap.size ≤ b6) ∧ (b1 < b6) ∧ (b5 < b6) ∧ (SlA w [] (.slice ado r.l.length capo) r.l.length xo) ∧ (IsTs w [] r.l xo) ∧ True := ⟨_, rfl⟩
            obtain ⟨A4_2, hA4_2⟩ : ∃ A : (Nat → Value) → World → Prop, A = fun _ w => (Ch [] w0 w) ∧ (b1 < w.heap.size) ∧ (w0.heap.size ≤ b1) ∧ (w.heap[b1]? = some (.cells #[(Value.int .i64 kt), (Value.int .i64 nt), (Value.slice adt lt ct)] 26 (0, 0))) ∧ (w0.heap.size ≤ (blk (H1 0))) ∧ (b1 < (blk (H1 0))) ∧ (H1 0 = (Value.slice (some ⟨(blk (H1 0)), 0, none⟩) 0 0)) ∧ (b5 < w.heap.size) ∧ (w0.heap.size ≤ b5) ∧ (w.heap[b5]? = some (.cells #[(Value.bool dh), (Value.bool kem)] 31 (0, 0))) ∧ (b1 < b5) ∧ (w0.heap.size ≤ b6) ∧ (b1 < b6) ∧ (b5 < b6) ∧ (SlA w [] (.slice ado r.l.length capo) r.l.length xo) ∧ (IsTs w [] r.l xo) ∧ True := ⟨_, rfl⟩
            obtain ⟨A4_3, hA4_3⟩ : ∃ A : (Nat → Value) → World → Prop, A = fun _ w => (Ch [] w0 w) ∧ (b1 < w.heap.size) ∧ (w0.heap.size ≤ b1) ∧ (w.heap[b1]? = some (.cells #[(Value.int .i64 kt), (Value.int .i64 nt), (Value.slice adt lt ct)] 26 (0, 0))) ∧ (w0.heap.size ≤ (blk (H1 0))) ∧ (b1 < (blk (H1 0))) ∧ (H1 0 = (Value.slice (some ⟨(blk (H1 0)), 0, none⟩) 0 0)) ∧ (b5 < w.heap.size) ∧ (w0.heap.size ≤ b5) ∧ (w.heap[b5]? = some (.cells #[(Value.bool dh), (Value.bool kem)] 31 (0, 0))) ∧ (b1 < b5) ∧ (w0.heap.size ≤ b6) ∧ (b1 < b6) ∧ (b5 < b6) ∧ (SlA w [] (.slice ado r.l.length capo) r.l.length xo) ∧ (IsTs w [] r.l xo) ∧ True := ⟨_, rfl⟩
            refine region_hist mo (fun p_ H_ w_ => (([A4_0, A4_1, A4_2, A4_3] : List ((Nat → Value) → World → Prop)).getD p_ (fun _ _ => True)) H_ w_) [3, 7, 10] (rows := [hr_ [] [(11, (Value.pointer (some ⟨b5, 0, none⟩)))] [0] (Value.agg #[(Value.bool dh), (Value.bool kem)]), hr_ [] [(14, (Value.slice ado r.l.length capo))] [0] (Value.slice ado r.l.length capo), hr_ [] [(9, (Value.pointer (some ⟨b1, 0, none⟩)))] [0] (Value.agg #[(Value.int .i64 kt), (Value.int .i64 nt), (Value.slice adt lt ct)]), hr_ [(0, 87), (1, 88), (2, 89)] [] [0] (Value.bool k1), hr_ [] [(11, (Value.pointer (some ⟨b5, 0, none⟩)))] [0, 1] (Value.agg #[(Value.bool dh), (Value.bool kem)]), hr_ [] [(2, (Value.slice ad ks.length cap))] [0, 1] (Value.slice ad ks.length cap), hr_ [] [(9, (Value.pointer (some ⟨b1, 0, none⟩)))] [0, 1] (Value.agg #[(Value.int .i64 kt), (Value.int .i64 nt), (Value.slice adt lt ct)]), hr_ [(4, 91), (5, 92), (6, 93)] [] [1] (Value.bool k1), hr_ [(3, 90), (7, 94)] [] [2] (Value.bool true), hr_ [(8, 95)] [] [2] (Value.bool true), hr_ [(9, 96)] [] [2] (Value.bool true), hr_ [(9, 96), (10, 97)] [] [3] (Value.bool true), hr_ [(11, 98)] [] [3] (Value.bool true)]) (by kernel_rfl) hF (fun H_ => ?_) ?_ ?_
            · have hch_ := Ch.drew w
              have hfin_ : A4_0 H_ { w with drawn := w.drawn + 1 } := by rw [hA4_0]; exact ⟨hC.trans' hch_ (fun z hz => .inr (absurd hz (by simp))), Nat.lt_of_lt_of_le hib1 (hch_).size, lob1, Ch.blk0 hch_ hb1 (by first | assumption | (simp; done) | (simp <;> omega)), lob2, ne_b1_b2, hv1_0, Nat.lt_of_lt_of_le hib5 (hch_).size, lob5, Ch.blk0 hch_ hb5 (by first | assumption | (simp; done) | (simp <;> omega)), ne_b1_b5, lob6, ne_b1_b6, ne_b5_b6, SlA.mv hslo hch_ (by simp) (fun x hx => .inl hx), IsTs.mv hch_ (by simp) (fun x hx => .inl hx) _ _ hto, trivial⟩
              exact hfin_
            · refine ⟨?_, ?_, ?_, ?_, ?_, ?_, ?_, ?_, ?_, ?_, ?_, ?_, ?_, trivial⟩
              · exact HOb.fact hA4_0 ⟨rfl, trivial⟩ rfl rfl rfl rfl (fun H4 w ⟨_, _, _, _, _, _, _, _, _, hb5, _⟩ => d_loadC Tryd.underlying31 rfl sz31 rfl ((At.of_blk hb5)) rfl)
              · exact HOb.pure ⟨rfl, trivial⟩ rfl rfl (fun _ _ => d_move rfl)
              · exact HOb.fact hA4_0 ⟨rfl, trivial⟩ rfl rfl rfl rfl (fun H4 w ⟨_, _, _, hb1, _⟩ => d_loadC Tryd.underlying26 rfl sz26 rfl ((At.of_blk hb1)) rfl)
              · refine ⟨trivial, fun ph_ hp_ H4 w hW => ?_⟩
                obtain rfl := memN_one hp_
                replace hW : A4_0 H4 w := hW
                rw [hA4_0] at hW
                obtain ⟨hC, hib1, lob1, hb1, lob2, ne_b1_b2, hv1_0, hib5, lob5, hb5, ne_b1_b5, lob6, ne_b1_b6, ne_b5_b6, hslo, hto, _⟩ := hW
                refine Ok1.mono (ok_call c19 rfl (Knows_sla_is (W := ⟨dh, kem⟩) (known := r.l) (t := t) (grow_e heq hk1) _ (hT0 _ _ (hC.below hw0.size (by simp)) hw0) (by omega) rfl hslo hto (IsT.mv hC (by simp) (fun x hx => .inl hx) _ _ ht))) ?_
                rintro _ w' ⟨rfl, hg_⟩
                have hch_ : Ch [] _ w' := Gr.ch hg_
                have hC := hC.trans' hch_ (fun z hz => .inr (absurd hz (by simp)))
                have hib1 := Nat.lt_of_lt_of_le hib1 (hch_).size
                have hb1 := Ch.blk0 hch_ hb1 (by first | assumption | (simp; done) | (simp <;> omega))
                have hib5 := Nat.lt_of_lt_of_le hib5 (hch_).size
                have hb5 := Ch.blk0 hch_ hb5 (by first | assumption | (simp; done) | (simp <;> omega))
                have hslo : SlA w' [] (.slice ado r.l.length capo) r.l.length xo := SlA.mv hslo hch_ (by simp) (fun x hx => .inl hx)
                have hto : IsTs w' [] r.l xo := IsTs.mv hch_ (by simp) (fun x hx => .inl hx) _ _ hto
                have hfin_ : A4_1 (updV H4 3 (Value.bool k1)) w' := by rw [hA4_1]; exact ⟨hC, hib1, lob1, hb1, lob2, ne_b1_b2, hv1_0, hib5, lob5, hb5, ne_b1_b5, lob6, ne_b1_b6, ne_b5_b6, hslo, hto, trivial⟩
                exact fin_ rfl ⟨hfin_, rfl⟩
              · refine ⟨⟨rfl, trivial⟩, fun ph_ hp_ H4 w hW => ?_⟩
                rcases memN_or hp_ with rfl | hp_
                · have hW0 := hW
                  replace hW : A4_0 H4 w := hW
                  rw [hA4_0] at hW
                  obtain ⟨hC, hib1, lob1, hb1, lob2, ne_b1_b2, hv1_0, hib5, lob5, hb5, ne_b1_b5, lob6, ne_b1_b6, ne_b5_b6, hslo, hto, _⟩ := hW
                  exact Det.ohc rfl hW0 (d_loadC Tryd.underlying31 rfl sz31 rfl ((At.of_blk hb5)) rfl)
                obtain rfl := memN_one hp_
                · have hW0 := hW
                  replace hW : A4_1 H4 w := hW
                  rw [hA4_1] at hW
                  obtain ⟨hC, hib1, lob1, hb1, lob2, ne_b1_b2, hv1_0, hib5, lob5, hb5, ne_b1_b5, lob6, ne_b1_b6, ne_b5_b6, hslo, hto, _⟩ := hW
                  exact Det.ohc rfl hW0 (d_loadC Tryd.underlying31 rfl sz31 rfl ((At.of_blk hb5)) rfl)
              · exact HOb.pure ⟨rfl, trivial⟩ rfl rfl (fun _ _ => d_move rfl)
              · refine ⟨⟨rfl, trivial⟩, fun ph_ hp_ H4 w hW => ?_⟩
                rcases memN_or hp_ with rfl | hp_
                · have hW0 := hW
                  replace hW : A4_0 H4 w := hW
                  rw [hA4_0] at hW
                  obtain ⟨hC, hib1, lob1, hb1, lob2, ne_b1_b2, hv1_0, hib5, lob5, hb5, ne_b1_b5, lob6, ne_b1_b6, ne_b5_b6, hslo, hto, _⟩ := hW
                  exact Det.ohc rfl hW0 (d_loadC Tryd.underlying26 rfl sz26 rfl ((At.of_blk hb1)) rfl)
                obtain rfl := memN_one hp_
                · have hW0 := hW
                  replace hW : A4_1 H4 w := hW
                  rw [hA4_1] at hW
                  obtain ⟨hC, hib1, lob1, hb1, lob2, ne_b1_b2, hv1_0, hib5, lob5, hb5, ne_b1_b5, lob6, ne_b1_b6, ne_b5_b6, hslo, hto, _⟩ := hW
                  exact Det.ohc rfl hW0 (d_loadC Tryd.underlying26 rfl sz26 rfl ((At.of_blk hb1)) rfl)
              · refine ⟨trivial, fun ph_ hp_ H4 w hW => ?_⟩
                obtain rfl := memN_one hp_
                replace hW : A4_1 H4 w := hW
                rw [hA4_1] at hW
                obtain ⟨hC, hib1, lob1, hb1, lob2, ne_b1_b2, hv1_0, hib5, lob5, hb5, ne_b1_b5, lob6, ne_b1_b6, ne_b5_b6, hslo, hto, _⟩ := hW
                refine Ok1.mono (ok_call c19 rfl (Knows_sla_is (W := ⟨dh, kem⟩) (known := ks) (t := t) hk1 _ (hT0 _ _ (hC.below hw0.size (by simp)) hw0) (by omega) rfl (SlA.mv hsl0 hC (by simp) (fun x hx => .inl hx)) (IsTs.mv hC (by simp) (fun x hx => .inl hx) _ _ hks) (IsT.mv hC (by simp) (fun x hx => .inl hx) _ _ ht))) ?_
                rintro _ w' ⟨rfl, hg_⟩
                have hch_ : Ch [] _ w' := Gr.ch hg_
                have hC := hC.trans' hch_ (fun z hz => .inr (absurd hz (by simp)))
                have hib1 := Nat.lt_of_lt_of_le hib1 (hch_).size
                have hb1 := Ch.blk0 hch_ hb1 (by first | assumption | (simp; done) | (simp <;> omega))
                have hib5 := Nat.lt_of_lt_of_le hib5 (hch_).size
                have hb5 := Ch.blk0 hch_ hb5 (by first | assumption | (simp; done) | (simp <;> omega))
                have hslo : SlA w' [] (.slice ado r.l.length capo) r.l.length xo := SlA.mv hslo hch_ (by simp) (fun x hx => .inl hx)
                have hto : IsTs w' [] r.l xo := IsTs.mv hch_ (by simp) (fun x hx => .inl hx) _ _ hto
                have hfin_ : A4_2 (updV H4 7 (Value.bool k1)) w' := by rw [hA4_2]; exact ⟨hC, hib1, lob1, hb1, lob2, ne_b1_b2, hv1_0, hib5, lob5, hb5, ne_b1_b5, lob6, ne_b1_b6, ne_b5_b6, hslo, hto, trivial⟩
                exact fin_ rfl ⟨hfin_, rfl⟩
              · exact HOb.pure trivial rfl rfl (fun _ _ => d_bool (c := true) (d_eqlB Tryd.underlying4 rfl rfl) (by simp))
              · exact HOb.pure trivial rfl rfl (fun _ _ => d_move rfl)
              · refine ⟨trivial, fun ph_ hp_ H4 w hW => ?_⟩
                obtain rfl := memN_one hp_
                replace hW : A4_2 H4 w := hW
                rw [hA4_2] at hW
                obtain ⟨hC, hib1, lob1, hb1, lob2, ne_b1_b2, hv1_0, hib5, lob5, hb5, ne_b1_b5, lob6, ne_b1_b6, ne_b5_b6, hslo, hto, _⟩ := hW
                refine ⟨(some true), _, rfl, rfl, Ok1.mono (ok_call c15 rfl (awake_calls _ (hT0 _ _ (hC.below hw0.size (by simp)) hw0))) ?_⟩
                rintro _ w' ⟨rfl, hg_⟩
                have hch_ : Ch [] _ w' := Gr.ch hg_
                have hC := hC.trans' hch_ (fun z hz => .inr (absurd hz (by simp)))
                have hib1 := Nat.lt_of_lt_of_le hib1 (hch_).size
                have hb1 := Ch.blk0 hch_ hb1 (by first | assumption | (simp; done) | (simp <;> omega))
                have hib5 := Nat.lt_of_lt_of_le hib5 (hch_).size
                have hb5 := Ch.blk0 hch_ hb5 (by first | assumption | (simp; done) | (simp <;> omega))
                have hslo : SlA w' [] (.slice ado r.l.length capo) r.l.length xo := SlA.mv hslo hch_ (by simp) (fun x hx => .inl hx)
                have hto : IsTs w' [] r.l xo := IsTs.mv hch_ (by simp) (fun x hx => .inl hx) _ _ hto
                have hfin_ : A4_3 (updV H4 10 (Value.bool true)) w' := by rw [hA4_3]; exact ⟨hC, hib1, lob1, hb1, lob2, ne_b1_b2, hv1_0, hib5, lob5, hb5, ne_b1_b5, lob6, ne_b1_b6, ne_b5_b6, hslo, hto, trivial⟩
                exact fin_ rfl ⟨hfin_, rfl⟩
              · exact HOb.pure trivial rfl rfl (fun _ _ => d_pick (b := true) rfl rfl)
              · exact HOb.pure trivial rfl rfl (fun _ _ => d_assign rfl)
            · intro ac w H4 hW hF
              replace hW : A4_3 H4 w := hW
              rw [hA4_3] at hW
              obtain ⟨hC, hib1, lob1, hb1, lob2, ne_b1_b2, hv1_0, hib5, lob5, hb5, ne_b1_b5, lob6, ne_b1_b6, ne_b5_b6, hslo, hto, _⟩ := hW
              clear hA4_0 A4_0 hA4_1 A4_1 hA4_2 A4_2 hA4_3 A4_3
              have hF := hF.sub (L' := [(2, (Value.slice ad ks.length cap)), (9, (Value.pointer (some ⟨b1, 0, none⟩))), (10, (Value.bool true)), (11, (Value.pointer (some ⟨b5, 0, none⟩))), (14, (Value.slice ado r.l.length capo)), (15, (Value.int .i64 (i : Int))), (76, (Value.bool (decide ((i : Int) < (r.l.length : Int)))))]) ⟨rfl, rfl, rfl, rfl, rfl, rfl, rfl, trivial⟩
              refine then_n ?_
              refine wp_ret ?_
              refine body_ret hF (results1 Tryd.results7 (RV.tmp hF rfl)) ?_
              exact ⟨rfl, hC.gr⟩
      cases k1
      · skip
        refine wp_region_lit ?_
        refine wl (d_loadC Tryd.underlying31 rfl sz31 rfl ((At.of_blk hb5)) rfl) rfl hF (fun ac hF => ?_)
        refine wl (d_move rfl) rfl hF (fun ac hF => ?_)
        refine wl (d_loadC Tryd.underlying26 rfl sz26 rfl ((At.of_blk hb1)) rfl) rfl hF (fun ac hF => ?_)
        refine wlR (ok_call c19 rfl (Knows_sla_is (W := ⟨dh, kem⟩) (known := ks) (t := t) hk1 _ (hT0 _ _ (hC.below hw0.size (by simp)) hw0) (by omega) rfl (SlA.mv hsl0 hC (by simp) (fun x hx => .inl hx)) (IsTs.mv hC (by simp) (fun x hx => .inl hx) _ _ hks) (IsT.mv hC (by simp) (fun x hx => .inl hx) _ _ ht))) rfl hF ?_
        rintro _ w ac ⟨rfl, hg_⟩ hF
        have hch_ : Ch [] _ w := Gr.ch hg_
        have hC := hC.trans' hch_ (fun z hz => .inr (absurd hz (by simp)))
        have hib1 := Nat.lt_of_lt_of_le hib1 (hch_).size
        have hb1 := Ch.blk0 hch_ hb1 (by first | assumption | (simp; done) | (simp <;> omega))
        have hown := Own.mv hown hch_ (fun b_ hb_ => by first | (simp; done) | (intro hm_; simp at hm_; subst hm_; contradiction))
        have hib5 := Nat.lt_of_lt_of_le hib5 (hch_).size
        have hb5 := Ch.blk0 hch_ hb5 (by first | assumption | (simp; done) | (simp <;> omega))
        refine wl (d_move rfl) rfl hF (fun ac hF => ?_)
        refine wlgs (c := false) rfl rfl rfl hF (fun ac hF => ?_)
        refine wlgs (c := false) rfl rfl rfl hF (fun ac hF => ?_)
        refine wlgs (c := false) rfl rfl rfl hF (fun ac hF => ?_)
        refine wlgs (c := false) rfl rfl rfl hF (fun ac hF => ?_)
        refine wlgs (c := false) rfl rfl rfl hF (fun ac hF => ?_)
        refine wlgs (c := false) rfl rfl rfl hF (fun ac hF => ?_)
        refine wlgu rfl rfl hF (fun ac hF => ?_)
        refine wlgu rfl rfl hF (fun ac hF => ?_)
        refine wlgu rfl rfl hF (fun ac hF => ?_)
        refine wlgu rfl rfl hF (fun ac hF => ?_)
        refine wlgu rfl rfl hF (fun ac hF => ?_)
        refine wlgs (c := false) rfl rfl rfl hF (fun ac hF => ?_)
        refine wl (d_pick (b := false) rfl rfl) rfl hF (fun ac hF => ?_)
        refine wl_nil ?_
        have hF := hF.sub (L' := [(0, (Value.bool dh)), (1, (Value.bool kem)), (2, (Value.slice ad ks.length cap)), (3, (Value.slice adm ms.length capm)), (4, (Value.agg #[(Value.int .i64 kt), (Value.int .i64 nt), (Value.slice adt lt ct)])), (9, (Value.pointer (some ⟨b1, 0, none⟩))), (10, (Value.bool false)), (11, (Value.pointer (some ⟨b5, 0, none⟩))), (12, lv8), (23, (Value.bool (!(smallB (ks ++ ms) t)))), (50, (Value.bool false))]) ⟨rfl, rfl, rfl, rfl, rfl, rfl, rfl, rfl, rfl, rfl, rfl, trivial⟩
        refine then_n ?_
        exact ⟨hF.sub ⟨rfl, rfl, rfl, rfl, trivial⟩, ⟨hC, hib1, lob1, hb1, lob2, ne_b1_b2, hv1_0, hown, hnob1, hib5, lob5, hb5, ne_b1_b5, hnob5, lob6, ne_b1_b6, ne_b5_b6, trivial⟩⟩
      · skip
        refine wp_region_lit ?_
        refine wl (d_loadC Tryd.underlying31 rfl sz31 rfl ((At.of_blk hb5)) rfl) rfl hF (fun ac hF => ?_)
        refine wl (d_move rfl) rfl hF (fun ac hF => ?_)
        refine wl (d_loadC Tryd.underlying26 rfl sz26 rfl ((At.of_blk hb1)) rfl) rfl hF (fun ac hF => ?_)
        refine wlR (ok_call c19 rfl (Knows_sla_is (W := ⟨dh, kem⟩) (known := ks) (t := t) hk1 _ (hT0 _ _ (hC.below hw0.size (by simp)) hw0) (by omega) rfl (SlA.mv hsl0 hC (by simp) (fun x hx => .inl hx)) (IsTs.mv hC (by simp) (fun x hx => .inl hx) _ _ hks) (IsT.mv hC (by simp) (fun x hx => .inl hx) _ _ ht))) rfl hF ?_
        rintro _ w ac ⟨rfl, hg_⟩ hF
        have hch_ : Ch [] _ w := Gr.ch hg_
        have hC := hC.trans' hch_ (fun z hz => .inr (absurd hz (by simp)))
        have hib1 := Nat.lt_of_lt_of_le hib1 (hch_).size
        have hb1 := Ch.blk0 hch_ hb1 (by first | assumption | (simp; done) | (simp <;> omega))
        have hown := Own.mv hown hch_ (fun b_ hb_ => by first | (simp; done) | (intro hm_; simp at hm_; subst hm_; contradiction))
        have hib5 := Nat.lt_of_lt_of_le hib5 (hch_).size
        have hb5 := Ch.blk0 hch_ hb5 (by first | assumption | (simp; done) | (simp <;> omega))
        refine wl (d_move rfl) rfl hF (fun ac hF => ?_)
        refine wlg rfl (d_loadC Tryd.underlying31 rfl sz31 rfl ((At.of_blk hb5)) rfl) rfl hF (fun ac hF => ?_)
        refine wlg rfl (d_move rfl) rfl hF (fun ac hF => ?_)
        refine wlg rfl (d_loadC Tryd.underlying26 rfl sz26 rfl ((At.of_blk hb1)) rfl) rfl hF (fun ac hF => ?_)
        refine wlgR rfl (ok_call c19 rfl (Knows_own_is (W := ⟨dh, kem⟩) (known := ks ++ ms) (t := t) hk2 _ (hT0 _ _ (hC.below hw0.size (by simp)) hw0) (by simp; omega) (by rw [List.length_append]; exact hown) ((IsTs.mv hC (by simp) (fun x hx => .inl hx) _ _ hks).app (IsTs.mv hC (by simp) (fun x hx => .inl hx) _ _ hms)) (IsT.mv hC (by simp) (fun x hx => .inl hx) _ _ ht))) rfl hF ?_
        rintro _ w ac ⟨rfl, hg_⟩ hF
        have hch_ : Ch [] _ w := Gr.ch hg_
        have hC := hC.trans' hch_ (fun z hz => .inr (absurd hz (by simp)))
        have hib1 := Nat.lt_of_lt_of_le hib1 (hch_).size
        have hb1 := Ch.blk0 hch_ hb1 (by first | assumption | (simp; done) | (simp <;> omega))
        have hown := Own.mv hown hch_ (fun b_ hb_ => by first | (simp; done) | (intro hm_; simp at hm_; subst hm_; contradiction))
        have hib5 := Nat.lt_of_lt_of_le hib5 (hch_).size
        have hb5 := Ch.blk0 hch_ hb5 (by first | assumption | (simp; done) | (simp <;> omega))
        refine wlg rfl (d_bool (c := false) (d_not (b := true) rfl) rfl) rfl hF (fun ac hF => ?_)
        refine wlg rfl (d_move rfl) rfl hF (fun ac hF => ?_)
        refine wlg rfl (d_buildS (cells := #[(Value.bool true), (Value.bool true)]) Tryd.underlying31 z31 (fun w => pl31 w _ Tryd.underlying31) rfl (by simp [Instr.fill, Value.cells])) rfl hF (fun ac hF => ?_)
        refine wlg rfl (d_move rfl) rfl hF (fun ac hF => ?_)
        refine wlg rfl (d_loadC Tryd.underlying26 rfl sz26 rfl ((At.of_blk hb1)) rfl) rfl hF (fun ac hF => ?_)
        refine wlgR rfl (ok_call c19 rfl (Knows_sla_is (W := ⟨true, true⟩) (known := ks) (t := t) hk3 _ (hT0 _ _ (hC.below hw0.size (by simp)) hw0) (by omega) rfl (SlA.mv hsl0 hC (by simp) (fun x hx => .inl hx)) (IsTs.mv hC (by simp) (fun x hx => .inl hx) _ _ hks) (IsT.mv hC (by simp) (fun x hx => .inl hx) _ _ ht))) rfl hF ?_
        rintro _ w ac ⟨rfl, hg_⟩ hF
        have hch_ : Ch [] _ w := Gr.ch hg_
        have hC := hC.trans' hch_ (fun z hz => .inr (absurd hz (by simp)))
        have hib1 := Nat.lt_of_lt_of_le hib1 (hch_).size
        have hb1 := Ch.blk0 hch_ hb1 (by first | assumption | (simp; done) | (simp <;> omega))
        have hown := Own.mv hown hch_ (fun b_ hb_ => by first | (simp; done) | (intro hm_; simp at hm_; subst hm_; contradiction))
        have hib5 := Nat.lt_of_lt_of_le hib5 (hch_).size
        have hb5 := Ch.blk0 hch_ hb5 (by first | assumption | (simp; done) | (simp <;> omega))
        refine wlg rfl (d_bool (c := false) (d_not (b := true) rfl) rfl) rfl hF (fun ac hF => ?_)
        refine wlg rfl (d_pick (b := false) rfl rfl) rfl hF (fun ac hF => ?_)
        refine wl (d_pick (b := true) rfl rfl) rfl hF (fun ac hF => ?_)
        refine wl_nil ?_
        have hF := hF.sub (L' := [(0, (Value.bool dh)), (1, (Value.bool kem)), (2, (Value.slice ad ks.length cap)), (3, (Value.slice adm ms.length capm)), (4, (Value.agg #[(Value.int .i64 kt), (Value.int .i64 nt), (Value.slice adt lt ct)])), (9, (Value.pointer (some ⟨b1, 0, none⟩))), (10, (Value.bool false)), (11, (Value.pointer (some ⟨b5, 0, none⟩))), (12, lv8), (23, (Value.bool (!(smallB (ks ++ ms) t)))), (50, (Value.bool false))]) ⟨rfl, rfl, rfl, rfl, rfl, rfl, rfl, rfl, rfl, rfl, rfl, trivial⟩
        refine then_n ?_
        exact ⟨hF.sub ⟨rfl, rfl, rfl, rfl, trivial⟩, ⟨hC, hib1, lob1, hb1, lob2, ne_b1_b2, hv1_0, hown, hnob1, hib5, lob5, hb5, ne_b1_b5, hnob5, lob6, ne_b1_b6, ne_b5_b6, trivial⟩⟩
end Go.Mi.Term
