/- Walks: what the laws' own functions return. -/
import Derived.Test.YtoefhjabaanokaaDoorX1
import Derived.Test.YtoefhjabaanokaaDoorT8
import Derived.Test.YtoefhjabaanokaaDoorW16
import Derived.Test.YtoefhjabaanokaaDoorB8
set_option linter.unusedSimpArgs false
set_option linter.unusedVariables false
set_option linter.unnecessarySimpa false
namespace Go.Mi.Term
open Go.Mi Go.Proofs Go.RowKit
set_option linter.unusedVariables false
theorem fillTm2 {a b : Int} : Instr.fill ((#[(0, 1), (1, 1), (2, 1)] : Array (Nat × Nat))[·]?) (Value.agg #[.int .i64 0, .int .i64 0, .slice none 0 0]).cells [(0, .int .i64 a), (1, .int .i64 b)] = some #[.int .i64 a, .int .i64 b, .slice none 0 0] := by
  simp [Instr.fill, Value.cells]
def va : Value → Option Addr
  | .agg cs => match cs.toList with
    | [_, _, .slice a _ _] => a
    | _ => none
  | _ => none
def vl : Value → Nat
  | .agg cs => match cs.toList with
    | [_, _, .slice _ l _] => l
    | _ => 0
  | _ => 0
def vc : Value → Nat
  | .agg cs => match cs.toList with
    | [_, _, .slice _ _ c] => c
    | _ => 0
  | _ => 0
theorem Own.one {w : World} {base n m : Nat} {e : TypeId} {v : Value} {xs : List Value} (h : Own w base e m v n xs) : v.oneCell' = true := by
  rcases h.at with ⟨rfl, _⟩ | ⟨b, cap, rfl, _⟩ <;> rfl
theorem nterm_fin {w : World} {base : Nat} {lv : Value} {k nm : Int} {ks : List Tm} {xt : List Value} {X X' : List Nat} (h : Own w base 26 3 lv ks.length xt) (hts : IsTs w X' ks xt) (hs : ∀ x, x ∈ X → x ∈ X') (hX : ∀ x, x ∈ X → x ∉ oblk lv) :
    ∃ (ad : Option Addr) (l c : Nat), lv = .slice ad l c ∧ IsT w X (.mk k nm ks) [.int .i64 k, .int .i64 nm, .slice ad l c] := by
  have hts' := hts.sub hs
  rcases h.at with ⟨rfl, h1, h2⟩ | ⟨b, cap, rfl, hc, ha⟩
  · refine ⟨none, 0, 0, rfl, ?_⟩
    simp only [IsT]
    exact ⟨_, xt, rfl, .inl ⟨.inl rfl, h1, h2⟩, hts'⟩
  · have hb := h.lt b (by simp [oblk])
    refine ⟨_, _, _, rfl, ?_⟩
    simp only [IsT]
    exact ⟨_, xt, rfl, .inr ⟨b, 0, cap, rfl, fun hm => hX b hm (by simp [oblk]), hb.2, ha⟩, hts'⟩

set_option maxRecDepth 100000 in
set_option maxHeartbeats 4000000 in
theorem nterm_step {k nm : Int} {ks : List Tm} (h8 : ks.length ≤ 1000) (ih : ∀ t, t ∈ ks → ∀ (v : Value) (X : List Nat) (w : World), (∀ x, x ∈ X → x < w.heap.size) → IsN w [] t v → Calls Tryd.prog 85 (List.toArray [v]) w (Ret fun v' w' => ∃ (ad : Option Addr) (l c : Nat), v' = .agg #[.int .i64 t.kind, .int .i64 t.name, .slice ad l c] ∧ IsT w' X t [.int .i64 t.kind, .int .i64 t.name, .slice ad l c] ∧ Gr w w')) {X : List Nat} {bn : Nat} {ad : Option Addr} {cap : Nat} {tx : Tx} {xs : List Value} (w0 : World) (hX : ∀ x, x ∈ X → x < w0.heap.size) (hatn : At w0 bn 0 [.int .i64 k, .int .i64 nm, .slice ad ks.length cap, .string (bs tx)]) (hsl : 0 < ks.length → ∃ b o, ad = some ⟨b, o, none⟩ ∧ At w0 b o xs) (hks : IsNs w0 [] ks xs) : Calls Tryd.prog 85 (List.toArray [.pointer (some ⟨bn, 0, none⟩)]) w0 (Ret fun v' w' => ∃ (ad : Option Addr) (l c : Nat), v' = .agg #[.int .i64 k, .int .i64 nm, .slice ad l c] ∧ IsT w' X (.mk k nm ks) [.int .i64 k, .int .i64 nm, .slice ad l c] ∧ Gr w0 w') := by
  have hbnlt := At.lt hatn
  refine calls_of Tryd.func85 rfl Tryd.ntmps85 rfl fun ac hF => ?_
  have hC : Ch [] w0 w0 := Ch.refl _ _
  have hF := hF.sub (L' := [(0, (Value.pointer (some ⟨bn, 0, none⟩)))]) ⟨rfl, trivial⟩
  refine wp_seq ?_
  refine wp_region_lit ?_
  refine wlR (ok_alloc z26) rfl hF ?_
  rintro _ w ac ⟨b1, rfl, hnb_⟩ hF
  have hch_ : Ch [] _ w := hnb_.ch
  have lo_ := hnb_.lo hC.size
  have hC := hC.trans' hch_ (fun z hz => .inr (absurd hz (by simp)))
  have hatn := hatn.mv hch_ (by first | assumption | (simp; done) | (simp <;> omega))
  have hib1 : b1 < w.heap.size := hnb_.lt
  have lob1 : w0.heap.size ≤ b1 := lo_
  have hb1 : w.heap[b1]? = some (.cells #[(Value.int .i64 0), (Value.int .i64 0), (Value.slice none 0 0)] 26 (0, 0)) := hnb_.blk
  refine wl_nil ?_
  have hF := hF.sub (L' := [(0, (Value.pointer (some ⟨bn, 0, none⟩))), (2, (Value.pointer (some ⟨b1, 0, none⟩)))]) ⟨rfl, rfl, trivial⟩
  refine then_n ?_
  refine wp_seq ?_
  obtain ⟨A1_0, hA1_0⟩ : ∃ A : (Nat → Value) → World → Prop, A = fun _ w => (Ch [] w0 w) ∧ (At w bn 0 [(Value.int .i64 k), (Value.int .i64 nm), (Value.slice ad ks.length cap), (Value.string (bs tx))]) ∧ (b1 < w.heap.size) ∧ (w0.heap.size ≤ b1) ∧ (w.heap[b1]? = some (.cells #[(Value.int .i64 0), (Value.int .i64 0), (Value.slice none 0 0)] 26 (0, 0))) ∧ True := ⟨_, rfl⟩
  obtain ⟨A1_1, hA1_1⟩ : ∃ A : (Nat → Value) → World → Prop, A = fun H1 w => (Ch [] w0 w) ∧ (At w bn 0 [(Value.int .i64 k), (Value.int .i64 nm), (Value.slice ad ks.length cap), (Value.string (bs tx))]) ∧ (b1 < w.heap.size) ∧ (w0.heap.size ≤ b1) ∧ (w.heap[b1]? = some (.cells #[(Value.int .i64 0), (Value.int .i64 0), (Value.slice none 0 0)] 26 (0, 0))) ∧ ((blk (H1 9)) < w.heap.size) ∧ (w0.heap.size ≤ (blk (H1 9))) ∧ (w.heap[(blk (H1 9))]? = some (.cells #[(Value.int .i64 0), (Value.int .i64 0), (Value.slice none 0 0)] 26 (0, 0))) ∧ (b1 < (blk (H1 9))) ∧ (H1 9 = (Value.pointer (some ⟨(blk (H1 9)), 0, none⟩))) ∧ True := ⟨_, rfl⟩
  obtain ⟨A1_2, hA1_2⟩ : ∃ A : (Nat → Value) → World → Prop, A = fun H1 w => (Ch [] w0 w) ∧ (At w bn 0 [(Value.int .i64 k), (Value.int .i64 nm), (Value.slice ad ks.length cap), (Value.string (bs tx))]) ∧ (b1 < w.heap.size) ∧ (w0.heap.size ≤ b1) ∧ (w.heap[b1]? = some (.cells #[(Value.int .i64 0), (Value.int .i64 0), (Value.slice none 0 0)] 26 (0, 0))) ∧ ((blk (H1 9)) < w.heap.size) ∧ (w0.heap.size ≤ (blk (H1 9))) ∧ (w.heap[(blk (H1 9))]? = some (.cells #[(Value.int .i64 k), (Value.int .i64 nm), (Value.slice none 0 0)] 26 (0, 0))) ∧ (b1 < (blk (H1 9))) ∧ (H1 9 = (Value.pointer (some ⟨(blk (H1 9)), 0, none⟩))) ∧ True := ⟨_, rfl⟩
  refine region_hist mo (fun p_ H_ w_ => (([A1_0, A1_1, A1_2] : List ((Nat → Value) → World → Prop)).getD p_ (fun _ _ => True)) H_ w_) [9, 10] (rows := [hr_ [] [(0, (Value.pointer (some ⟨bn, 0, none⟩)))] [0, 1] (Value.pointer (some ⟨bn, 0, none⟩)), hr_ [(0, 6)] [] [0, 1] (Value.pointer (some ⟨bn, 0, none⟩)), hr_ [(1, 7)] [] [0, 1] (Value.pointer (some ⟨bn, 0, none⟩)), hr_ [(2, 8)] [] [0, 1] (Value.int .i64 k), hr_ [] [(0, (Value.pointer (some ⟨bn, 0, none⟩)))] [0, 1] (Value.pointer (some ⟨bn, 0, none⟩)), hr_ [(4, 10)] [] [0, 1] (Value.pointer (some ⟨bn, 0, none⟩)), hr_ [(5, 11)] [] [0, 1] (Value.pointer (some ⟨bn, 1, none⟩)), hr_ [(6, 12)] [] [0, 1] (Value.int .i64 nm), hr_ [(3, 9), (7, 13)] [] [0, 1] (Value.agg #[(Value.int .i64 k), (Value.int .i64 nm), (Value.slice none 0 0)]), ⟨[], [], [0], [9], fun H1 => H1 9, fun H1 K_ h_ => by simp only [h_ 9 (by simp)]⟩, ⟨[(9, 3), (8, 14)], [], [1], [10], fun H1 => H1 10, fun H1 K_ h_ => by simp only [h_ 10 (by simp)]⟩]) (by kernel_rfl) hF (fun H_ => ?_) ?_ ?_
  · have hch_ := Ch.drew w
    have hfin_ : A1_0 H_ { w with drawn := w.drawn + 1 } := by rw [hA1_0]; exact ⟨hC.trans' hch_ (fun z hz => .inr (absurd hz (by simp))), hatn.mv hch_ (by first | assumption | (simp; done) | (simp <;> omega)), Nat.lt_of_lt_of_le hib1 (hch_).size, lob1, Ch.blk0 hch_ hb1 (by first | assumption | (simp; done) | (simp <;> omega)), trivial⟩
    exact hfin_
  · refine ⟨?_, ?_, ?_, ?_, ?_, ?_, ?_, ?_, ?_, ?_, ?_, trivial⟩
    · exact HOb.pure ⟨rfl, trivial⟩ rfl rfl (fun _ _ => d_move rfl)
    · exact HOb.pure trivial rfl rfl (fun _ _ => d_nil rfl)
    · exact HOb.pure trivial rfl rfl (fun _ _ => d_fieldAddrQ Tryd.underlying112 (m := 0) sz3 rfl rfl rfl)
    · refine ⟨trivial, fun ph_ hp_ H1 w hW => ?_⟩
      rcases memN_or hp_ with rfl | hp_
      · have hW0 := hW
        replace hW : A1_0 H1 w := hW
        rw [hA1_0] at hW
        obtain ⟨hC, hatn, hib1, lob1, hb1, _⟩ := hW
        exact Det.ohc rfl hW0 (d_load1 Tryd.underlying3 rfl rfl (hatn 0 _ rfl))
      obtain rfl := memN_one hp_
      · have hW0 := hW
        replace hW : A1_1 H1 w := hW
        rw [hA1_1] at hW
        obtain ⟨hC, hatn, hib1, lob1, hb1, hib2, lob2, hb2, ne_b1_b2, hv1_9, _⟩ := hW
        exact Det.ohc rfl hW0 (d_load1 Tryd.underlying3 rfl rfl (hatn 0 _ rfl))
    · exact HOb.pure ⟨rfl, trivial⟩ rfl rfl (fun _ _ => d_move rfl)
    · exact HOb.pure trivial rfl rfl (fun _ _ => d_nil rfl)
    · exact HOb.pure trivial rfl rfl (fun _ _ => d_fieldAddrQ Tryd.underlying112 (m := 0) sz3 rfl rfl rfl)
    · refine ⟨trivial, fun ph_ hp_ H1 w hW => ?_⟩
      rcases memN_or hp_ with rfl | hp_
      · have hW0 := hW
        replace hW : A1_0 H1 w := hW
        rw [hA1_0] at hW
        obtain ⟨hC, hatn, hib1, lob1, hb1, _⟩ := hW
        exact Det.ohc rfl hW0 (d_load1 Tryd.underlying3 rfl rfl (hatn 1 _ rfl))
      obtain rfl := memN_one hp_
      · have hW0 := hW
        replace hW : A1_1 H1 w := hW
        rw [hA1_1] at hW
        obtain ⟨hC, hatn, hib1, lob1, hb1, hib2, lob2, hb2, ne_b1_b2, hv1_9, _⟩ := hW
        exact Det.ohc rfl hW0 (d_load1 Tryd.underlying3 rfl rfl (hatn 1 _ rfl))
    · exact HOb.pure trivial rfl rfl (fun _ _ => d_buildS (cells := #[(Value.int .i64 k), (Value.int .i64 nm), (Value.slice none 0 0)]) Tryd.underlying26 z26 (fun w => pl26 w _ Tryd.underlying26) rfl (by exact fillTm2))
    · refine ⟨trivial, fun ph_ hp_ H1 w hW => ?_⟩
      obtain rfl := memN_one hp_
      replace hW : A1_0 H1 w := hW
      rw [hA1_0] at hW
      obtain ⟨hC, hatn, hib1, lob1, hb1, _⟩ := hW
      refine Ok1.mono (ok_alloc z26) ?_
      rintro _ w' ⟨b2, rfl, hnb_⟩
      have hch_ : Ch [] _ w' := hnb_.ch
      have lo_ := hnb_.lo hC.size
      have ne_b1_b2 := hnb_.gt hib1
      have hC := hC.trans' hch_ (fun z hz => .inr (absurd hz (by simp)))
      have hatn := hatn.mv hch_ (by first | assumption | (simp; done) | (simp <;> omega))
      have hib1 := Nat.lt_of_lt_of_le hib1 (hch_).size
      have hb1 := Ch.blk0 hch_ hb1 (by first | assumption | (simp; done) | (simp <;> omega))
      have hib2 : b2 < w'.heap.size := hnb_.lt
      have lob2 : w0.heap.size ≤ b2 := lo_
      have hb2 : w'.heap[b2]? = some (.cells #[(Value.int .i64 0), (Value.int .i64 0), (Value.slice none 0 0)] 26 (0, 0)) := hnb_.blk
      have ne_b1_b2 : b1 < b2 := ne_b1_b2
      have hfin_ : A1_1 (updV H1 9 (Value.pointer (some ⟨b2, 0, none⟩))) w' := by rw [hA1_1]; exact ⟨hC, hatn, hib1, lob1, hb1, hib2, lob2, hb2, ne_b1_b2, rfl, trivial⟩
      exact fin_ rfl ⟨hfin_, rfl⟩
    · refine ⟨trivial, fun ph_ hp_ H1 w hW => ?_⟩
      obtain rfl := memN_one hp_
      replace hW : A1_1 H1 w := hW
      rw [hA1_1] at hW
      obtain ⟨hC, hatn, hib1, lob1, hb1, hib2, lob2, hb2, ne_b1_b2, hv1_9, _⟩ := hW
      refine Ok1.sub (L' := [(3, (Value.pointer (some ⟨(blk (H1 9)), 0, none⟩))), (14, (Value.agg #[(Value.int .i64 k), (Value.int .i64 nm), (Value.slice none 0 0)]))]) ⟨congrArg some hv1_9, rfl, trivial⟩ (Ok1.mono (ok_storeA (c' := #[(Value.int .i64 k), (Value.int .i64 nm), (Value.slice none 0 0)]) sz26 rfl rfl rfl (fun v hv => by simp at hv; rcases hv with rfl | rfl | rfl <;> rfl) hb2 rfl) ?_)
      rintro v_ w' hu_
      have hch_ : Ch [(blk (H1 9))] _ w' := hu_.ch
      have hC := hC.trans' hch_ (fun z hz => .inr ((by simp at hz; subst hz; assumption)))
      have hatn := hatn.mv hch_ (by first | assumption | (simp; done) | (simp <;> omega))
      have hib1 := Nat.lt_of_lt_of_le hib1 (hch_).size
      have hb1 := Ch.blk0 hch_ hb1 (by first | assumption | (simp; done) | (simp <;> omega))
      have hib2 := Nat.lt_of_lt_of_le hib2 (hch_).size
      have hb2 : w'.heap[(blk (H1 9))]? = some (.cells #[(Value.int .i64 k), (Value.int .i64 nm), (Value.slice none 0 0)] 26 (0, 0)) := hu_.blk
      have hfin_ : A1_2 (updV H1 10 v_) w' := by rw [hA1_2]; exact ⟨hC, hatn, hib1, lob1, hb1, hib2, lob2, hb2, ne_b1_b2, hv1_9, trivial⟩
      exact fin_ rfl ⟨hfin_, rfl⟩
  · intro ac w H1 hW hF
    replace hW : A1_2 H1 w := hW
    rw [hA1_2] at hW
    obtain ⟨hC, hatn, hib1, lob1, hb1, hib2, lob2, hb2, ne_b1_b2, hv1_9, _⟩ := hW
    clear hA1_0 A1_0 hA1_1 A1_1 hA1_2 A1_2
    have hF := hF.sub (L' := [(0, (Value.pointer (some ⟨bn, 0, none⟩))), (2, (Value.pointer (some ⟨b1, 0, none⟩))), (3, (Value.pointer (some ⟨(blk (H1 9)), 0, none⟩)))]) ⟨rfl, rfl, congrArg some hv1_9, trivial⟩
    clear hv1_9
    generalize (blk (H1 9)) = b2 at *
    refine then_n ?_
    refine wp_seq ?_
    refine wp_seq ?_
    refine wp_region_lit ?_
    refine wl (d_move rfl) rfl hF (fun ac hF => ?_)
    refine wl (d_nil rfl) rfl hF (fun ac hF => ?_)
    refine wl (d_fieldAddrQ Tryd.underlying112 (m := 0) sz110 rfl rfl rfl) rfl hF (fun ac hF => ?_)
    refine wl (d_load1 Tryd.underlying110 rfl rfl (hatn 2 _ rfl)) rfl hF (fun ac hF => ?_)
    refine wl (d_len_slice Tryd.underlying110 rfl) rfl hF (fun ac hF => ?_)
    refine wl (d_move rfl) rfl hF (fun ac hF => ?_)
    refine wl_nil ?_
    have hF := hF.sub (L' := [(0, (Value.pointer (some ⟨bn, 0, none⟩))), (2, (Value.pointer (some ⟨b1, 0, none⟩))), (3, (Value.pointer (some ⟨b2, 0, none⟩))), (18, (Value.slice ad ks.length cap)), (19, (Value.int .i64 (ks.length : Int))), (20, (Value.int .i64 0))]) ⟨rfl, rfl, rfl, rfl, rfl, rfl, trivial⟩
    refine then_n ?_
    refine wp_block ?_
    refine wp_loop_k (fun fu_ ac w => ∃ (i : Nat) (lv : Value) (xt : List Value), fu_ = ks.length - i ∧ (i ≤ ks.length) ∧ Frm ac 33 [(0, (Value.pointer (some ⟨bn, 0, none⟩))), (2, (Value.pointer (some ⟨b1, 0, none⟩))), (3, (Value.pointer (some ⟨b2, 0, none⟩))), (18, (Value.slice ad ks.length cap)), (19, (Value.int .i64 (ks.length : Int))), (20, (Value.int .i64 (i : Int)))] ∧ (Ch [] w0 w) ∧ (b1 < w.heap.size) ∧ (w0.heap.size ≤ b1) ∧ (w.heap[b1]? = some (.cells #[(Value.int .i64 0), (Value.int .i64 0), (Value.slice none 0 0)] 26 (0, 0))) ∧ (b2 < w.heap.size) ∧ (w0.heap.size ≤ b2) ∧ (w.heap[b2]? = some (.cells #[(Value.int .i64 k), (Value.int .i64 nm), lv] 26 (0, 0))) ∧ (b1 < b2) ∧ (Own w w0.heap.size 26 3 lv i xt) ∧ (IsTs w (b2 :: (oblk lv ++ (b1 :: X))) (ks.take i) xt) ∧ (b1 ∉ oblk lv) ∧ (b2 ∉ oblk lv) ∧ True) _ ⟨0, .slice none 0 0, [], rfl, (by omega), hF.sub ⟨rfl, rfl, rfl, rfl, rfl, rfl, trivial⟩, ⟨hC, hib1, lob1, hb1, hib2, lob2, hb2, ne_b1_b2, (Own.nil _ _ _ _), (by simp [IsTs]), (by simp [oblk]), (by simp [oblk]), trivial⟩⟩ ?_
    rintro _ ac w ⟨i, lv, xt, rfl, hle, hF, ⟨hC, hib1, lob1, hb1, hib2, lob2, hb2, ne_b1_b2, hown, hts, hnob1, hnob2, _⟩⟩
    refine wp_seq ?_
    refine wp_region_lit ?_
    refine wl (d_lss rfl rfl) rfl hF (fun ac hF => ?_)
    refine wl_nil ?_
    have hF := hF.sub (L' := [(0, (Value.pointer (some ⟨bn, 0, none⟩))), (2, (Value.pointer (some ⟨b1, 0, none⟩))), (3, (Value.pointer (some ⟨b2, 0, none⟩))), (18, (Value.slice ad ks.length cap)), (19, (Value.int .i64 (ks.length : Int))), (20, (Value.int .i64 (i : Int))), (21, (Value.bool (decide ((i : Int) < (ks.length : Int)))))]) ⟨rfl, rfl, rfl, rfl, rfl, rfl, rfl, trivial⟩
    refine then_n ?_
    refine wp_seq ?_
    refine wp_if hF rfl (fun h => ?_) (fun h => ?_)
    · have hlt := of_decide_eq_true h
      clear h
      obtain ⟨b0, o0, hae, hat0⟩ := hsl (by omega)
      obtain ⟨t1, hi⟩ : ∃ t, ks[i]? = some t := ⟨_, List.getElem?_eq_getElem (by omega)⟩
      have hmem : t1 ∈ ks := List.mem_of_getElem? hi
      obtain ⟨v1, hxi, hn1⟩ := hks.at i t1 hi
      refine wp_skip ?_
      refine then_n ?_
      refine wp_seq ?_
      refine wp_block ?_
      refine wp_seq ?_
      refine wp_region_lit ?_
      refine wl (d_ixSQ (b := b0) (o := o0) (j := i) (q := o0 + i) Tryd.underlying110 sz83 (by rw [← hae]; rfl) rfl rfl (by omega) rfl) rfl hF (fun ac hF => ?_)
      refine wl (d_load1 Tryd.underlying83 rfl rfl ((hat0.mv hC (by simp)) i _ hxi)) rfl hF (fun ac hF => ?_)
      refine wl (d_assign rfl) rfl hF (fun ac hF => ?_)
      refine wl_nil ?_
      have hF := hF.sub (L' := [(0, (Value.pointer (some ⟨bn, 0, none⟩))), (2, (Value.pointer (some ⟨b1, 0, none⟩))), (3, (Value.pointer (some ⟨b2, 0, none⟩))), (5, v1), (18, (Value.slice ad ks.length cap)), (19, (Value.int .i64 (ks.length : Int))), (20, (Value.int .i64 (i : Int))), (21, (Value.bool (decide ((i : Int) < (ks.length : Int)))))]) ⟨rfl, rfl, rfl, rfl, rfl, rfl, rfl, rfl, trivial⟩
      refine then_n ?_
      obtain ⟨A2_0, hA2_0⟩ : ∃ A : (Nat → Value) → World → Prop, A = fun _ w => (Ch [] w0 w) ∧ (b1 < w.heap.size) ∧ (w0.heap.size ≤ b1) ∧ (w.heap[b1]? = some (.cells #[(Value.int .i64 0), (Value.int .i64 0), (Value.slice none 0 0)] 26 (0, 0))) ∧ (b2 < w.heap.size) ∧ (w0.heap.size ≤ b2) ∧ (w.heap[b2]? = some (.cells #[(Value.int .i64 k), (Value.int .i64 nm), lv] 26 (0, 0))) ∧ (b1 < b2) ∧ (Own w w0.heap.size 26 3 lv i xt) ∧ (IsTs w (b2 :: (oblk lv ++ (b1 :: X))) (ks.take i) xt) ∧ (b1 ∉ oblk lv) ∧ (b2 ∉ oblk lv) ∧ True := ⟨_, rfl⟩
      obtain ⟨A2_1, hA2_1⟩ : ∃ A : (Nat → Value) → World → Prop, A = fun H2 w => (Ch [] w0 w) ∧ (b1 < w.heap.size) ∧ (w0.heap.size ≤ b1) ∧ (w.heap[b1]? = some (.cells #[(Value.int .i64 0), (Value.int .i64 0), (Value.slice none 0 0)] 26 (0, 0))) ∧ (b2 < w.heap.size) ∧ (w0.heap.size ≤ b2) ∧ (w.heap[b2]? = some (.cells #[(Value.int .i64 k), (Value.int .i64 nm), lv] 26 (0, 0))) ∧ (b1 < b2) ∧ (Own w w0.heap.size 26 3 lv i xt) ∧ (IsTs w (b2 :: (oblk lv ++ (b1 :: X))) (ks.take i) xt) ∧ (b1 ∉ oblk lv) ∧ (b2 ∉ oblk lv) ∧ (IsT w (b2 :: (oblk lv ++ (b1 :: X))) t1 [(Value.int .i64 t1.kind), (Value.int .i64 t1.name), (Value.slice (va (H2 3)) (vl (H2 3)) (vc (H2 3)))]) ∧ (H2 3 = (Value.agg #[(Value.int .i64 t1.kind), (Value.int .i64 t1.name), (Value.slice (va (H2 3)) (vl (H2 3)) (vc (H2 3)))])) ∧ True := ⟨_, rfl⟩
      obtain ⟨A2_2, hA2_2⟩ : ∃ A : (Nat → Value) → World → Prop, A = fun H2 w => (Ch [] w0 w) ∧ (b1 < w.heap.size) ∧ (w0.heap.size ≤ b1) ∧ (w.heap[b1]? = some (.cells #[(Value.int .i64 0), (Value.int .i64 0), (Value.slice none 0 0)] 26 (0, 0))) ∧ (b2 < w.heap.size) ∧ (w0.heap.size ≤ b2) ∧ (w.heap[b2]? = some (.cells #[(Value.int .i64 k), (Value.int .i64 nm), lv] 26 (0, 0))) ∧ (b1 < b2) ∧ (Own w w0.heap.size 26 3 lv i xt) ∧ (IsTs w (b2 :: (oblk lv ++ (b1 :: X))) (ks.take i) xt) ∧ (b1 ∉ oblk lv) ∧ (b2 ∉ oblk lv) ∧ (IsT w (b2 :: (oblk lv ++ (b1 :: X))) t1 [(Value.int .i64 t1.kind), (Value.int .i64 t1.name), (Value.slice (va (H2 3)) (vl (H2 3)) (vc (H2 3)))]) ∧ (H2 3 = (Value.agg #[(Value.int .i64 t1.kind), (Value.int .i64 t1.name), (Value.slice (va (H2 3)) (vl (H2 3)) (vc (H2 3)))])) ∧ ((blk (H2 4)) < w.heap.size) ∧ (w0.heap.size ≤ (blk (H2 4))) ∧ (At w (blk (H2 4)) 0 [(Value.int .i64 t1.kind), (Value.int .i64 t1.name), (Value.slice (va (H2 3)) (vl (H2 3)) (vc (H2 3)))]) ∧ (b1 < (blk (H2 4))) ∧ (b2 < (blk (H2 4))) ∧ (H2 4 = (Value.slice (some ⟨(blk (H2 4)), 0, none⟩) 1 1)) ∧ True := ⟨_, rfl⟩
      obtain ⟨A2_3, hA2_3⟩ : ∃ A : (Nat → Value) → World → Prop, A = fun H2 w => (Ch [] w0 w) ∧ (b1 < w.heap.size) ∧ (w0.heap.size ≤ b1) ∧ (w.heap[b1]? = some (.cells #[(Value.int .i64 0), (Value.int .i64 0), (Value.slice none 0 0)] 26 (0, 0))) ∧ (b2 < w.heap.size) ∧ (w0.heap.size ≤ b2) ∧ (w.heap[b2]? = some (.cells #[(Value.int .i64 k), (Value.int .i64 nm), lv] 26 (0, 0))) ∧ (b1 < b2) ∧ (Own w w0.heap.size 26 3 (H2 5) (i + 1) (xt ++ [(Value.int .i64 t1.kind), (Value.int .i64 t1.name), (Value.slice (va (H2 3)) (vl (H2 3)) (vc (H2 3)))])) ∧ (IsTs w (b2 :: (oblk (H2 5) ++ (b1 :: X))) (ks.take i ++ [t1]) (xt ++ [(Value.int .i64 t1.kind), (Value.int .i64 t1.name), (Value.slice (va (H2 3)) (vl (H2 3)) (vc (H2 3)))])) ∧ (b1 ∉ oblk (H2 5)) ∧ (b2 ∉ oblk (H2 5)) ∧ (H2 3 = (Value.agg #[(Value.int .i64 t1.kind), (Value.int .i64 t1.name), (Value.slice (va (H2 3)) (vl (H2 3)) (vc (H2 3)))])) ∧ (w0.heap.size ≤ (blk (H2 4))) ∧ (b1 < (blk (H2 4))) ∧ (b2 < (blk (H2 4))) ∧ (H2 4 = (Value.slice (some ⟨(blk (H2 4)), 0, none⟩) 1 1)) ∧ True := ⟨_, rfl⟩
      obtain ⟨A2_4, hA2_4⟩ : ∃ A : (Nat → Value) → World → Prop, A = fun H2 w => (Ch [] w0 w) ∧ (b1 < w.heap.size) ∧ (w0.heap.size ≤ b1) ∧ (w.heap[b1]? = some (.cells #[(Value.int .i64 0), (Value.int .i64 0), (Value.slice none 0 0)] 26 (0, 0))) ∧ (b2 < w.heap.size) ∧ (w0.heap.size ≤ b2) ∧ (w.heap[b2]? = some (.cells #[(Value.int .i64 k), (Value.int .i64 nm), (H2 5)] 26 (0, 0))) ∧ (b1 < b2) ∧ (Own w w0.heap.size 26 3 (H2 5) (i + 1) (xt ++ [(Value.int .i64 t1.kind), (Value.int .i64 t1.name), (Value.slice (va (H2 3)) (vl (H2 3)) (vc (H2 3)))])) ∧ (IsTs w (b2 :: (oblk (H2 5) ++ (b1 :: X))) (ks.take i ++ [t1]) (xt ++ [(Value.int .i64 t1.kind), (Value.int .i64 t1.name), (Value.slice (va (H2 3)) (vl (H2 3)) (vc (H2 3)))])) ∧ (b1 ∉ oblk (H2 5)) ∧ (b2 ∉ oblk (H2 5)) ∧ (H2 3 = (Value.agg #[(Value.int .i64 t1.kind), (Value.int .i64 t1.name), (Value.slice (va (H2 3)) (vl (H2 3)) (vc (H2 3)))])) ∧ (w0.heap.size ≤ (blk (H2 4))) ∧ (b1 < (blk (H2 4))) ∧ (b2 < (blk (H2 4))) ∧ (H2 4 = (Value.slice (some ⟨(blk (H2 4)), 0, none⟩) 1 1)) ∧ True := ⟨_, rfl⟩
      refine region_hist mo (fun p_ H_ w_ => (([A2_0, A2_1, A2_2, A2_3, A2_4] : List ((Nat → Value) → World → Prop)).getD p_ (fun _ _ => True)) H_ w_) [3, 4, 5, 7] (rows := [hr_ [] [(3, (Value.pointer (some ⟨b2, 0, none⟩)))] [0, 1, 2] (Value.pointer (some ⟨b2, 2, none⟩)), hr_ [(0, 24)] [] [0, 1, 2] lv, hr_ [] [(5, v1)] [0] v1, ⟨[(2, 26)], [], [0], [3], fun H2 => H2 3, fun H2 K_ h_ => by simp only [h_ 3 (by simp)]⟩, ⟨[(3, 27)], [], [1], [4], fun H2 => H2 4, fun H2 K_ h_ => by simp only [h_ 4 (by simp)]⟩, ⟨[(1, 25), (4, 28)], [], [2], [5], fun H2 => H2 5, fun H2 K_ h_ => by simp only [h_ 5 (by simp)]⟩, hr_ [] [(3, (Value.pointer (some ⟨b2, 0, none⟩)))] [3] (Value.pointer (some ⟨b2, 2, none⟩)), ⟨[(6, 30), (5, 29)], [], [3], [7], fun H2 => H2 7, fun H2 K_ h_ => by simp only [h_ 7 (by simp)]⟩]) (by kernel_rfl) hF (fun H_ => ?_) ?_ ?_
      · have hch_ := Ch.drew w
        have hfin_ : A2_0 H_ { w with drawn := w.drawn + 1 } := by rw [hA2_0]; exact ⟨hC.trans' hch_ (fun z hz => .inr (absurd hz (by simp))), Nat.lt_of_lt_of_le hib1 (hch_).size, lob1, Ch.blk0 hch_ hb1 (by first | assumption | (simp; done) | (simp <;> omega)), Nat.lt_of_lt_of_le hib2 (hch_).size, lob2, Ch.blk0 hch_ hb2 (by first | assumption | (simp; done) | (simp <;> omega)), ne_b1_b2, Own.mv hown hch_ (fun b_ hb_ => by first | (simp; done) | (intro hm_; simp at hm_; subst hm_; contradiction)), IsTs.mv hch_ (by intro y hy; first | (simp at hy; done) | (simp at hy; subst hy; simp; done) | (simp [hy]; done)) (fun x hx => .inl hx) _ _ hts, hnob1, hnob2, trivial⟩
        exact hfin_
      · refine ⟨?_, ?_, ?_, ?_, ?_, ?_, ?_, ?_, trivial⟩
        · exact HOb.pure ⟨rfl, trivial⟩ rfl rfl (fun _ _ => d_fieldAddrQ Tryd.underlying26 (m := 0) sz24 rfl rfl rfl)
        · refine ⟨trivial, fun ph_ hp_ H2 w hW => ?_⟩
          rcases memN_or hp_ with rfl | hp_
          · have hW0 := hW
            replace hW : A2_0 H2 w := hW
            rw [hA2_0] at hW
            obtain ⟨hC, hib1, lob1, hb1, hib2, lob2, hb2, ne_b1_b2, hown, hts, hnob1, hnob2, _⟩ := hW
            exact Det.ohc rfl hW0 (d_load1 Tryd.underlying24 rfl rfl ((At.of_blk hb2) 2 _ rfl))
          rcases memN_or hp_ with rfl | hp_
          · have hW0 := hW
            replace hW : A2_1 H2 w := hW
            rw [hA2_1] at hW
            obtain ⟨hC, hib1, lob1, hb1, hib2, lob2, hb2, ne_b1_b2, hown, hts, hnob1, hnob2, hT1, hv2_3, _⟩ := hW
            exact Det.ohc rfl hW0 (d_load1 Tryd.underlying24 rfl rfl ((At.of_blk hb2) 2 _ rfl))
          obtain rfl := memN_one hp_
          · have hW0 := hW
            replace hW : A2_2 H2 w := hW
            rw [hA2_2] at hW
            obtain ⟨hC, hib1, lob1, hb1, hib2, lob2, hb2, ne_b1_b2, hown, hts, hnob1, hnob2, hT1, hv2_3, hib6, lob6, hb6, ne_b1_b6, ne_b2_b6, hv2_4, _⟩ := hW
            exact Det.ohc rfl hW0 (d_load1 Tryd.underlying24 rfl rfl ((At.of_blk hb2) 2 _ rfl))
        · exact HOb.pure ⟨rfl, trivial⟩ rfl rfl (fun _ _ => d_move rfl)
        · refine ⟨trivial, fun ph_ hp_ H2 w hW => ?_⟩
          obtain rfl := memN_one hp_
          replace hW : A2_0 H2 w := hW
          rw [hA2_0] at hW
          obtain ⟨hC, hib1, lob1, hb1, hib2, lob2, hb2, ne_b1_b2, hown, hts, hnob1, hnob2, _⟩ := hW
          have hX_ : ∀ x, x ∈ (b2 :: (oblk lv ++ (b1 :: X))) → x < w.heap.size := by
            intro x hx
            simp only [List.mem_cons, List.mem_append] at hx
            rcases hx with rfl | hx | rfl | hx
            · assumption
            · exact (Own.lt hown x hx).2
            · assumption
            · exact Nat.lt_of_lt_of_le (hX x hx) hC.size
          refine Ok1.mono (ok_call c85 rfl (ih t1 hmem v1 (b2 :: (oblk lv ++ (b1 :: X))) _ hX_ (IsN.mv hC (by simp) (fun x hx => .inl hx) _ _ hn1))) ?_
          rintro _ w' ⟨ad3, l4, c5, rfl, hT1, hg_⟩
          have hch_ : Ch [] _ w' := Gr.ch hg_
          have hC := hC.trans' hch_ (fun z hz => .inr (absurd hz (by simp)))
          have hib1 := Nat.lt_of_lt_of_le hib1 (hch_).size
          have hb1 := Ch.blk0 hch_ hb1 (by first | assumption | (simp; done) | (simp <;> omega))
          have hib2 := Nat.lt_of_lt_of_le hib2 (hch_).size
          have hb2 := Ch.blk0 hch_ hb2 (by first | assumption | (simp; done) | (simp <;> omega))
          have hown := Own.mv hown hch_ (fun b_ hb_ => by first | (simp; done) | (intro hm_; simp at hm_; subst hm_; contradiction))
          have hts : IsTs w' (b2 :: (oblk lv ++ (b1 :: X))) (ks.take i) xt := IsTs.mv hch_ (by intro y hy; first | (simp at hy; done) | (simp at hy; subst hy; simp; done) | (simp [hy]; done)) (fun x hx => .inl hx) _ _ hts
          have hfin_ : A2_1 (updV H2 3 (Value.agg #[(Value.int .i64 t1.kind), (Value.int .i64 t1.name), (Value.slice ad3 l4 c5)])) w' := by rw [hA2_1]; exact ⟨hC, hib1, lob1, hb1, hib2, lob2, hb2, ne_b1_b2, hown, hts, hnob1, hnob2, hT1, rfl, trivial⟩
          exact fin_ rfl ⟨hfin_, rfl⟩
        · refine ⟨trivial, fun ph_ hp_ H2 w hW => ?_⟩
          obtain rfl := memN_one hp_
          replace hW : A2_1 H2 w := hW
          rw [hA2_1] at hW
          obtain ⟨hC, hib1, lob1, hb1, hib2, lob2, hb2, ne_b1_b2, hown, hts, hnob1, hnob2, hT1, hv2_3, _⟩ := hW
          refine Ok1.sub (L' := [(27, (Value.agg #[(Value.int .i64 t1.kind), (Value.int .i64 t1.name), (Value.slice (va (H2 3)) (vl (H2 3)) (vc (H2 3)))]))]) ⟨congrArg some hv2_3, trivial⟩ (Ok1.mono (ok_buildSlice (cells := #[(Value.int .i64 t1.kind), (Value.int .i64 t1.name), (Value.slice (va (H2 3)) (vl (H2 3)) (vc (H2 3)))]) Tryd.underlying24 zz26 rfl (by decide) (by decide) (by exact fillT1)) ?_)
          rintro _ w' ⟨b6, rfl, hnb_⟩
          have hch_ : Ch [] _ w' := hnb_.ch
          have lo_ := hnb_.lo hC.size
          have ne_b1_b6 := hnb_.gt hib1
          have ne_b2_b6 := hnb_.gt hib2
          have hC := hC.trans' hch_ (fun z hz => .inr (absurd hz (by simp)))
          have hib1 := Nat.lt_of_lt_of_le hib1 (hch_).size
          have hb1 := Ch.blk0 hch_ hb1 (by first | assumption | (simp; done) | (simp <;> omega))
          have hib2 := Nat.lt_of_lt_of_le hib2 (hch_).size
          have hb2 := Ch.blk0 hch_ hb2 (by first | assumption | (simp; done) | (simp <;> omega))
          have hown := Own.mv hown hch_ (fun b_ hb_ => by first | (simp; done) | (intro hm_; simp at hm_; subst hm_; contradiction))
          have hts : IsTs w' (b2 :: (oblk lv ++ (b1 :: X))) (ks.take i) xt := IsTs.mv hch_ (by intro y hy; first | (simp at hy; done) | (simp at hy; subst hy; simp; done) | (simp [hy]; done)) (fun x hx => .inl hx) _ _ hts
          have hT1 : IsT w' (b2 :: (oblk lv ++ (b1 :: X))) t1 [(Value.int .i64 t1.kind), (Value.int .i64 t1.name), (Value.slice (va (H2 3)) (vl (H2 3)) (vc (H2 3)))] := IsT.mv hch_ (by intro y hy; first | (simp at hy; done) | (simp at hy; subst hy; simp; done) | (simp [hy]; done)) (fun x hx => .inl hx) _ _ hT1
          have hib6 : b6 < w'.heap.size := hnb_.lt
          have lob6 : w0.heap.size ≤ b6 := lo_
          have hb6 : At w' b6 0 [(Value.int .i64 t1.kind), (Value.int .i64 t1.name), (Value.slice (va (H2 3)) (vl (H2 3)) (vc (H2 3)))] := hnb_.at
          have ne_b1_b6 : b1 < b6 := ne_b1_b6
          have ne_b2_b6 : b2 < b6 := ne_b2_b6
          have hfin_ : A2_2 (updV H2 4 (Value.slice (some ⟨b6, 0, none⟩) 1 1)) w' := by rw [hA2_2]; exact ⟨hC, hib1, lob1, hb1, hib2, lob2, hb2, ne_b1_b2, hown, hts, hnob1, hnob2, hT1, hv2_3, hib6, lob6, hb6, ne_b1_b6, ne_b2_b6, rfl, trivial⟩
          exact fin_ rfl ⟨hfin_, rfl⟩
        · refine ⟨trivial, fun ph_ hp_ H2 w hW => ?_⟩
          obtain rfl := memN_one hp_
          replace hW : A2_2 H2 w := hW
          rw [hA2_2] at hW
          obtain ⟨hC, hib1, lob1, hb1, hib2, lob2, hb2, ne_b1_b2, hown, hts, hnob1, hnob2, hT1, hv2_3, hib6, lob6, hb6, ne_b1_b6, ne_b2_b6, hv2_4, _⟩ := hW
          have hown0_ := hown
          refine Ok1.sub (L' := [(25, lv), (28, (Value.slice (some ⟨(blk (H2 4)), 0, none⟩) 1 1))]) ⟨rfl, congrArg some hv2_4, trivial⟩ (Ok1.mono (ok_appendm (m := 3) (k := 1) (b := (blk (H2 4))) (o := 0) (news := [(Value.int .i64 t1.kind), (Value.int .i64 t1.name), (Value.slice (va (H2 3)) (vl (H2 3)) (vc (H2 3)))]) Tryd.underlying24 ii26 rfl (by decide) rfl rfl hown rfl hb6 (IsT.cells1 hT1) (by omega) (by unfold maxLen; omega) hC.size) ?_)
          rintro lv7 w' ⟨hown, hch0_, hob⟩
          have hch_ : Ch (oblk lv) _ w' := hch0_
          have hxx_ : ∀ x, x ∈ (b2 :: (oblk lv7 ++ (b1 :: X))) → x ∈ (b2 :: (oblk lv ++ (b1 :: X))) ∨ _ ≤ x := fun x hx => by
            simp only [List.mem_cons, List.mem_append] at hx ⊢
            rcases hx with hx | hx | hx
            · exact .inl (.inl hx)
            · rcases hob with hob | hob
              · rw [hob] at hx; exact .inl (.inr (.inl hx))
              · rw [hob] at hx; simp at hx; exact .inr (Nat.le_of_eq hx.symm)
            · exact .inl (.inr (.inr hx))
          have hnxb1_ := nin_ob hob hnob1 hib1
          have hnxb2_ := nin_ob hob hnob2 hib2
          have hC := hC.trans' hch_ (fun z hz => .inr ((Own.lt hown0_ z hz).1))
          have hib1 := Nat.lt_of_lt_of_le hib1 (hch_).size
          have hb1 := Ch.blk0 hch_ hb1 (by first | assumption | (simp; done) | (simp <;> omega))
          have hib2 := Nat.lt_of_lt_of_le hib2 (hch_).size
          have hb2 := Ch.blk0 hch_ hb2 (by first | assumption | (simp; done) | (simp <;> omega))
          have hts : IsTs w' (b2 :: (oblk lv7 ++ (b1 :: X))) (ks.take i ++ [t1]) (xt ++ [(Value.int .i64 t1.kind), (Value.int .i64 t1.name), (Value.slice (va (H2 3)) (vl (H2 3)) (vc (H2 3)))]) := (IsTs.mv hch_ (fun y hy => by simp [hy]) hxx_ _ _ hts).app (IsTs.one (IsT.mv hch_ (fun y hy => by simp [hy]) hxx_ _ _ hT1))
          have hnob1 : b1 ∉ oblk lv7 := hnxb1_
          have hnob2 : b2 ∉ oblk lv7 := hnxb2_
          have hfin_ : A2_3 (updV H2 5 lv7) w' := by rw [hA2_3]; exact ⟨hC, hib1, lob1, hb1, hib2, lob2, hb2, ne_b1_b2, hown, hts, hnob1, hnob2, hv2_3, lob6, ne_b1_b6, ne_b2_b6, hv2_4, trivial⟩
          exact fin_ rfl ⟨hfin_, rfl⟩
        · exact HOb.pure ⟨rfl, trivial⟩ rfl rfl (fun _ _ => d_fieldAddrQ Tryd.underlying26 (m := 0) sz24 rfl rfl rfl)
        · refine ⟨trivial, fun ph_ hp_ H2 w hW => ?_⟩
          obtain rfl := memN_one hp_
          replace hW : A2_3 H2 w := hW
          rw [hA2_3] at hW
          obtain ⟨hC, hib1, lob1, hb1, hib2, lob2, hb2, ne_b1_b2, hown, hts, hnob1, hnob2, hv2_3, lob6, ne_b1_b6, ne_b2_b6, hv2_4, _⟩ := hW
          refine Ok1.mono (ok_store1 (v := (H2 5)) sz24 rfl rfl ((Own.one hown)) hb2 (Nat.le_of_ble_eq_true rfl)) ?_
          rintro v_ w' hu_
          have hch_ : Ch [b2] _ w' := hu_.ch
          have hC := hC.trans' hch_ (fun z hz => .inr ((by simp at hz; subst hz; assumption)))
          have hib1 := Nat.lt_of_lt_of_le hib1 (hch_).size
          have hb1 := Ch.blk0 hch_ hb1 (by first | assumption | (simp; done) | (simp <;> omega))
          have hib2 := Nat.lt_of_lt_of_le hib2 (hch_).size
          have hown := Own.mv hown hch_ (fun b_ hb_ => by first | (simp; done) | (intro hm_; simp at hm_; subst hm_; contradiction))
          have hts : IsTs w' (b2 :: (oblk (H2 5) ++ (b1 :: X))) (ks.take i ++ [t1]) (xt ++ [(Value.int .i64 t1.kind), (Value.int .i64 t1.name), (Value.slice (va (H2 3)) (vl (H2 3)) (vc (H2 3)))]) := IsTs.mv hch_ (by intro y hy; first | (simp at hy; done) | (simp at hy; subst hy; simp; done) | (simp [hy]; done)) (fun x hx => .inl hx) _ _ hts
          have hb2 : w'.heap[b2]? = some (.cells #[(Value.int .i64 k), (Value.int .i64 nm), (H2 5)] 26 (0, 0)) := hu_.blk
          have hfin_ : A2_4 (updV H2 7 v_) w' := by rw [hA2_4]; exact ⟨hC, hib1, lob1, hb1, hib2, lob2, hb2, ne_b1_b2, hown, hts, hnob1, hnob2, hv2_3, lob6, ne_b1_b6, ne_b2_b6, hv2_4, trivial⟩
          exact fin_ rfl ⟨hfin_, rfl⟩
      · intro ac w H2 hW hF
        replace hW : A2_4 H2 w := hW
        rw [hA2_4] at hW
        obtain ⟨hC, hib1, lob1, hb1, hib2, lob2, hb2, ne_b1_b2, hown, hts, hnob1, hnob2, hv2_3, lob6, ne_b1_b6, ne_b2_b6, hv2_4, _⟩ := hW
        clear hA2_0 A2_0 hA2_1 A2_1 hA2_2 A2_2 hA2_3 A2_3 hA2_4 A2_4
        have hF := hF.sub (L' := [(0, (Value.pointer (some ⟨bn, 0, none⟩))), (2, (Value.pointer (some ⟨b1, 0, none⟩))), (3, (Value.pointer (some ⟨b2, 0, none⟩))), (5, v1), (18, (Value.slice ad ks.length cap)), (19, (Value.int .i64 (ks.length : Int))), (20, (Value.int .i64 (i : Int))), (21, (Value.bool (decide ((i : Int) < (ks.length : Int)))))]) ⟨rfl, rfl, rfl, rfl, rfl, rfl, rfl, rfl, trivial⟩
        clear hv2_3
        clear hv2_4
        generalize (va (H2 3)) = ad3 at *
        generalize (vl (H2 3)) = l4 at *
        generalize (vc (H2 3)) = c5 at *
        generalize (blk (H2 4)) = b6 at *
        generalize (H2 5) = lv7 at *
        refine block_n ?_
        refine then_n ?_
        refine wp_region_lit ?_
        refine wl (d_add rfl rfl (wrap_i64 (by omega) (by omega))) rfl hF (fun ac hF => ?_)
        refine wl (d_move rfl) rfl hF (fun ac hF => ?_)
        refine wl_nil ?_
        have hF := hF.sub (L' := [(0, (Value.pointer (some ⟨bn, 0, none⟩))), (2, (Value.pointer (some ⟨b1, 0, none⟩))), (3, (Value.pointer (some ⟨b2, 0, none⟩))), (5, v1), (18, (Value.slice ad ks.length cap)), (19, (Value.int .i64 (ks.length : Int))), (20, (Value.int .i64 ((i : Int) + 1))), (21, (Value.bool (decide ((i : Int) < (ks.length : Int)))))]) ⟨rfl, rfl, rfl, rfl, rfl, rfl, rfl, rfl, trivial⟩
        refine then_n ?_
        refine ⟨_, ?_, i + 1, _, _, rfl, (by omega), hF.sub ⟨rfl, rfl, rfl, rfl, rfl, rfl, trivial⟩, ⟨hC, hib1, lob1, hb1, hib2, lob2, hb2, ne_b1_b2, hown, (by rw [List.take_add_one, hi]; exact hts), hnob1, hnob2, trivial⟩⟩
        omega
    · have hlt := of_decide_eq_false h
      clear h
      have hie : i = ks.length := by omega
      subst hie
      rw [List.take_length] at hts
      obtain ⟨adr, lr, cr, hlr, hTr⟩ := nterm_fin (X := b1 :: X) (k := k) (nm := nm) hown hts (fun x hx => by simp only [List.mem_cons, List.mem_append] at hx ⊢; exact .inr (.inr hx)) (fun x hx hm => by rcases List.mem_cons.1 hx with rfl | hx; exact hnob1 hm; have h1_ := (Own.lt hown x hm).1; have h2_ := hX x hx; omega)
      subst hlr
      refine wp_exit ?_
      refine then_exit ?_
      refine then_exit ?_
      refine block_exit ?_
      refine then_n ?_
      refine wp_seq ?_
      refine wp_region_lit ?_
      refine wl (d_loadC Tryd.underlying26 rfl sz26 rfl ((At.of_blk hb2)) rfl) rfl hF (fun ac hF => ?_)
      refine wl0R (ok_storeA (c' := #[(Value.int .i64 k), (Value.int .i64 nm), (Value.slice adr lr cr)]) sz26 rfl rfl rfl (fun v hv => by simp at hv; rcases hv with rfl | rfl | rfl <;> rfl) hb1 rfl) hF ?_
      rintro w ac hu_ hF
      have hch_ : Ch [b1] _ w := hu_.ch
      have hC := hC.trans' hch_ (fun z hz => .inr ((by simp at hz; subst hz; assumption)))
      have hib1 := Nat.lt_of_lt_of_le hib1 (hch_).size
      have hib2 := Nat.lt_of_lt_of_le hib2 (hch_).size
      have hb2 := Ch.blk0 hch_ hb2 (by first | assumption | (simp; done) | (simp <;> omega))
      have hTr : IsT w (b1 :: X) (.mk k nm ks) [(Value.int .i64 k), (Value.int .i64 nm), (Value.slice adr lr cr)] := IsT.mv hch_ (by intro y hy; first | (simp at hy; done) | (simp at hy; subst hy; simp; done) | (simp [hy]; done)) (fun x hx => .inl hx) _ _ hTr
      have hb1 : w.heap[b1]? = some (.cells #[(Value.int .i64 k), (Value.int .i64 nm), (Value.slice adr lr cr)] 26 (0, 0)) := hu_.blk
      refine wl_nil ?_
      have hF := hF.sub (L' := [(0, (Value.pointer (some ⟨bn, 0, none⟩))), (2, (Value.pointer (some ⟨b1, 0, none⟩))), (3, (Value.pointer (some ⟨b2, 0, none⟩))), (18, (Value.slice ad ks.length cap)), (19, (Value.int .i64 (ks.length : Int))), (20, (Value.int .i64 (ks.length : Int))), (21, (Value.bool (decide ((ks.length : Int) < (ks.length : Int)))))]) ⟨rfl, rfl, rfl, rfl, rfl, rfl, rfl, trivial⟩
      refine then_n ?_
      refine wp_ret ?_
      refine body_ret hF (results1 Tryd.results85 (RV.cellC Tryd.underlying26 rfl sz26 hF rfl (At.of_blk hb1) rfl)) ?_
      exact ⟨_, _, _, rfl, IsT.sub hTr (fun x hx => by simp [hx]), hC.gr⟩

theorem nterm_calls (t : Tm) : Ok t → ∀ (v : Value) (X : List Nat) (w : World), (∀ x, x ∈ X → x < w.heap.size) → IsN w [] t v → Calls Tryd.prog 85 (List.toArray [v]) w (Ret fun v' w' => ∃ (ad : Option Addr) (l c : Nat), v' = .agg #[.int .i64 t.kind, .int .i64 t.name, .slice ad l c] ∧ IsT w' X t [.int .i64 t.kind, .int .i64 t.name, .slice ad l c] ∧ Gr w w') := by
  refine Tm.ind (p := fun t => Ok t → ∀ (v : Value) (X : List Nat) (w : World), (∀ x, x ∈ X → x < w.heap.size) → IsN w [] t v → Calls Tryd.prog 85 (List.toArray [v]) w (Ret fun v' w' => ∃ (ad : Option Addr) (l c : Nat), v' = .agg #[.int .i64 t.kind, .int .i64 t.name, .slice ad l c] ∧ IsT w' X t [.int .i64 t.kind, .int .i64 t.name, .slice ad l c] ∧ Gr w w')) ?_ t
  intro k nm ks ih ho v X w hX hn
  simp only [IsN] at hn
  obtain ⟨b, sl, xs, rfl, _, hat, hsl, hks⟩ := hn
  obtain ⟨ad, cap, rfl, h3⟩ := hsl.form
  refine nterm_step (by have := (low_high ho).2.2.2; omega) (fun t ht => ih t ht (ho.kid ht)) w hX hat (fun h => ?_) hks
  obtain ⟨b', o', e, _, h4⟩ := h3 h
  exact ⟨b', o', e, h4⟩

set_option maxRecDepth 100000 in
set_option maxHeartbeats 4000000 in
theorem terms_calls {ks : List Tm} {br bm : Nat} {ad : Option Addr} {cap : Nat} {xs : List Value} (hok : ∀ t, t ∈ ks → Ok t) (hlen : ks.length ≤ 1000000) (w0 : World) (hbr : At w0 br 0 [(Value.slice ad ks.length cap), (Value.map (some bm))]) (hsl : 0 < ks.length → ∃ b o, ad = some ⟨b, o, none⟩ ∧ At w0 b o xs) (hks : IsNs w0 [] ks xs) : Calls Tryd.prog 50 (List.toArray [.pointer (some ⟨br, 0, none⟩)]) w0 (Ret fun v' w' => ∃ xt, SlA w' [] v' ks.length xt ∧ IsTs w' [] ks xt ∧ Gr w0 w') := by
  refine calls_of Tryd.func50 rfl Tryd.ntmps50 rfl fun ac hF => ?_
  have hC : Ch [] w0 w0 := Ch.refl _ _
  have hF := hF.sub (L' := [(0, (Value.pointer (some ⟨br, 0, none⟩)))]) ⟨rfl, trivial⟩
  refine wp_seq ?_
  refine wp_region_lit ?_
  refine wl (d_assign rfl) rfl hF (fun ac hF => ?_)
  refine wl_nil ?_
  have hF := hF.sub (L' := [(0, (Value.pointer (some ⟨br, 0, none⟩))), (2, (Value.slice none 0 0))]) ⟨rfl, rfl, trivial⟩
  refine then_n ?_
  refine wp_seq ?_
  refine wp_seq ?_
  refine wp_region_lit ?_
  refine wl (d_move rfl) rfl hF (fun ac hF => ?_)
  refine wl (d_nil rfl) rfl hF (fun ac hF => ?_)
  refine wl (d_fieldAddrQ Tryd.underlying118 (m := 0) sz110 rfl rfl rfl) rfl hF (fun ac hF => ?_)
  refine wl (d_load1 Tryd.underlying110 rfl rfl (hbr 0 _ rfl)) rfl hF (fun ac hF => ?_)
  refine wl (d_len_slice Tryd.underlying110 rfl) rfl hF (fun ac hF => ?_)
  refine wl (d_move rfl) rfl hF (fun ac hF => ?_)
  refine wl_nil ?_
  have hF := hF.sub (L' := [(0, (Value.pointer (some ⟨br, 0, none⟩))), (2, (Value.slice none 0 0)), (8, (Value.slice ad ks.length cap)), (9, (Value.int .i64 (ks.length : Int))), (10, (Value.int .i64 0))]) ⟨rfl, rfl, rfl, rfl, rfl, trivial⟩
  refine then_n ?_
  refine wp_block ?_
  refine wp_loop_k (fun fu_ ac w => ∃ (i : Nat) (lv : Value) (xt : List Value), fu_ = ks.length - i ∧ (i ≤ ks.length) ∧ Frm ac 21 [(2, lv), (8, (Value.slice ad ks.length cap)), (9, (Value.int .i64 (ks.length : Int))), (10, (Value.int .i64 (i : Int)))] ∧ (Ch [] w0 w) ∧ (Own w w0.heap.size 26 3 lv i xt) ∧ (IsTs w (oblk lv) (ks.take i) xt) ∧ True) _ ⟨0, .slice none 0 0, [], rfl, (by omega), hF.sub ⟨rfl, rfl, rfl, rfl, trivial⟩, ⟨hC, (Own.nil _ _ _ _), (by simp [IsTs]), trivial⟩⟩ ?_
  rintro _ ac w ⟨i, lv, xt, rfl, hle, hF, ⟨hC, hown, hts, _⟩⟩
  refine wp_seq ?_
  refine wp_region_lit ?_
  refine wl (d_lss rfl rfl) rfl hF (fun ac hF => ?_)
  refine wl_nil ?_
  have hF := hF.sub (L' := [(2, lv), (8, (Value.slice ad ks.length cap)), (9, (Value.int .i64 (ks.length : Int))), (10, (Value.int .i64 (i : Int))), (11, (Value.bool (decide ((i : Int) < (ks.length : Int)))))]) ⟨rfl, rfl, rfl, rfl, rfl, trivial⟩
  refine then_n ?_
  refine wp_seq ?_
  refine wp_if hF rfl (fun h => ?_) (fun h => ?_)
  · have hlt := of_decide_eq_true h
    clear h
    obtain ⟨b0, o0, hae, hat0⟩ := hsl (by omega)
    obtain ⟨t1, hi⟩ : ∃ t, ks[i]? = some t := ⟨_, List.getElem?_eq_getElem (by omega)⟩
    have hmem : t1 ∈ ks := List.mem_of_getElem? hi
    obtain ⟨v1, hxi, hn1⟩ := hks.at i t1 hi
    refine wp_skip ?_
    refine then_n ?_
    refine wp_seq ?_
    refine wp_block ?_
    refine wp_seq ?_
    refine wp_region_lit ?_
    refine wl (d_ixSQ (b := b0) (o := o0) (j := i) (q := o0 + i) Tryd.underlying110 sz83 (by rw [← hae]; rfl) rfl rfl (by omega) rfl) rfl hF (fun ac hF => ?_)
    refine wl (d_load1 Tryd.underlying83 rfl rfl ((hat0.mv hC (by simp)) i _ hxi)) rfl hF (fun ac hF => ?_)
    refine wl (d_assign rfl) rfl hF (fun ac hF => ?_)
    refine wl_nil ?_
    have hF := hF.sub (L' := [(2, lv), (4, v1), (8, (Value.slice ad ks.length cap)), (9, (Value.int .i64 (ks.length : Int))), (10, (Value.int .i64 (i : Int))), (11, (Value.bool (decide ((i : Int) < (ks.length : Int)))))]) ⟨rfl, rfl, rfl, rfl, rfl, rfl, trivial⟩
    refine then_n ?_
    refine wp_region_lit ?_
    refine wl (d_move rfl) rfl hF (fun ac hF => ?_)
    refine wl (d_move rfl) rfl hF (fun ac hF => ?_)
    refine wlR (ok_call c85 rfl (nterm_calls t1 (hok t1 hmem) v1 (oblk lv) _ (fun x hx => (Own.lt hown x hx).2) (IsN.mv hC (by simp) (fun x hx => .inl hx) _ _ hn1))) rfl hF ?_
    rintro _ w ac ⟨ad1, l2, c3, rfl, hT1, hg_⟩ hF
    have hch_ : Ch [] _ w := Gr.ch hg_
    have hC := hC.trans' hch_ (fun z hz => .inr (absurd hz (by simp)))
    have hown := Own.mv hown hch_ (fun b_ hb_ => by first | (simp; done) | (intro hm_; simp at hm_; subst hm_; contradiction))
    have hts : IsTs w (oblk lv) (ks.take i) xt := IsTs.mv hch_ (by intro y hy; first | (simp at hy; done) | (simp at hy; subst hy; simp; done) | (simp [hy]; done)) (fun x hx => .inl hx) _ _ hts
    refine wlR (ok_buildSlice (cells := #[(Value.int .i64 t1.kind), (Value.int .i64 t1.name), (Value.slice ad1 l2 c3)]) Tryd.underlying24 zz26 rfl (by decide) (by decide) (by exact fillT1)) rfl hF ?_
    rintro _ w ac ⟨b4, rfl, hnb_⟩ hF
    have hch_ : Ch [] _ w := hnb_.ch
    have lo_ := hnb_.lo hC.size
    have hC := hC.trans' hch_ (fun z hz => .inr (absurd hz (by simp)))
    have hown := Own.mv hown hch_ (fun b_ hb_ => by first | (simp; done) | (intro hm_; simp at hm_; subst hm_; contradiction))
    have hts : IsTs w (oblk lv) (ks.take i) xt := IsTs.mv hch_ (by intro y hy; first | (simp at hy; done) | (simp at hy; subst hy; simp; done) | (simp [hy]; done)) (fun x hx => .inl hx) _ _ hts
    have hT1 : IsT w (oblk lv) t1 [(Value.int .i64 t1.kind), (Value.int .i64 t1.name), (Value.slice ad1 l2 c3)] := IsT.mv hch_ (by intro y hy; first | (simp at hy; done) | (simp at hy; subst hy; simp; done) | (simp [hy]; done)) (fun x hx => .inl hx) _ _ hT1
    have hib4 : b4 < w.heap.size := hnb_.lt
    have lob4 : w0.heap.size ≤ b4 := lo_
    have hb4 : At w b4 0 [(Value.int .i64 t1.kind), (Value.int .i64 t1.name), (Value.slice ad1 l2 c3)] := hnb_.at
    have hown0_ := hown
    refine wlR (ok_appendm (m := 3) (k := 1) (b := b4) (o := 0) (news := [(Value.int .i64 t1.kind), (Value.int .i64 t1.name), (Value.slice ad1 l2 c3)]) Tryd.underlying24 ii26 rfl (by decide) rfl rfl hown rfl hb4 (IsT.cells1 hT1) (by omega) (by unfold maxLen; omega) hC.size) rfl hF ?_
    rintro lv5 w ac ⟨hown, hch0_, hob⟩ hF
    have hch_ : Ch (oblk lv) _ w := hch0_
    have hxx_ : ∀ x, x ∈ oblk lv5 → x ∈ oblk lv ∨ _ ≤ x := fun x hx => by
      rcases hob with hob | hob
      · rw [hob] at hx; exact .inl hx
      · rw [hob] at hx; simp at hx; exact .inr (Nat.le_of_eq hx.symm)
    have hC := hC.trans' hch_ (fun z hz => .inr ((Own.lt hown0_ z hz).1))
    have hts : IsTs w (oblk lv5) (ks.take i ++ [t1]) (xt ++ [(Value.int .i64 t1.kind), (Value.int .i64 t1.name), (Value.slice ad1 l2 c3)]) := (IsTs.mv hch_ (fun y hy => by simp [hy]) hxx_ _ _ hts).app (IsTs.one (IsT.mv hch_ (fun y hy => by simp [hy]) hxx_ _ _ hT1))
    refine wl (d_assign rfl) rfl hF (fun ac hF => ?_)
    refine wl_nil ?_
    have hF := hF.sub (L' := [(2, lv5), (4, v1), (8, (Value.slice ad ks.length cap)), (9, (Value.int .i64 (ks.length : Int))), (10, (Value.int .i64 (i : Int))), (11, (Value.bool (decide ((i : Int) < (ks.length : Int)))))]) ⟨rfl, rfl, rfl, rfl, rfl, rfl, trivial⟩
    refine block_n ?_
    refine then_n ?_
    refine wp_region_lit ?_
    refine wl (d_add rfl rfl (wrap_i64 (by omega) (by omega))) rfl hF (fun ac hF => ?_)
    refine wl (d_move rfl) rfl hF (fun ac hF => ?_)
    refine wl_nil ?_
    have hF := hF.sub (L' := [(2, lv5), (4, v1), (8, (Value.slice ad ks.length cap)), (9, (Value.int .i64 (ks.length : Int))), (10, (Value.int .i64 ((i : Int) + 1))), (11, (Value.bool (decide ((i : Int) < (ks.length : Int)))))]) ⟨rfl, rfl, rfl, rfl, rfl, rfl, trivial⟩
    refine then_n ?_
    refine ⟨_, ?_, i + 1, _, _, rfl, (by omega), hF.sub ⟨rfl, rfl, rfl, rfl, trivial⟩, ⟨hC, hown, (by rw [List.take_add_one, hi]; exact hts), trivial⟩⟩
    omega
  · have hlt := of_decide_eq_false h
    clear h
    have hie : i = ks.length := by omega
    subst hie
    rw [List.take_length] at hts
    have hres : SlA w [] lv ks.length xt := sla_own hown (by simp)
    have hts2 := hts.sub (X' := []) (by simp)
    refine wp_exit ?_
    refine then_exit ?_
    refine then_exit ?_
    refine block_exit ?_
    refine then_n ?_
    refine wp_seq ?_
    refine wp_region_lit ?_
    refine wl (d_move rfl) rfl hF (fun ac hF => ?_)
    refine wl (d_assign rfl) rfl hF (fun ac hF => ?_)
    refine wl_nil ?_
    have hF := hF.sub (L' := [(2, lv), (8, (Value.slice ad ks.length cap)), (9, (Value.int .i64 (ks.length : Int))), (10, (Value.int .i64 (ks.length : Int))), (11, (Value.bool (decide ((ks.length : Int) < (ks.length : Int)))))]) ⟨rfl, rfl, rfl, rfl, rfl, trivial⟩
    refine then_n ?_
    refine wp_ret ?_
    refine body_ret hF (results1 Tryd.results50 (RV.tmp hF rfl)) ?_
    exact ⟨_, hres, hts2, hC.gr⟩

set_option maxRecDepth 100000 in
set_option maxHeartbeats 4000000 in
theorem Opens_calls {wd wk : Bool} {f g : Nat} {known : List Tm} {r : Rw} {ad : Option Addr} {cap : Nat} {xs : List Value} (hopens : opens ⟨wd, wk⟩ f g known = some r) (hokr : ∀ t, t ∈ r.l → Ok t) (hkl : known.length ≤ 1000000) (hrl2 : r.l.length ≤ 1000000) (w0 : World) (hw0 : T0 w0) (hsl : 0 < known.length → ∃ b o, ad = some ⟨b, o, none⟩ ∧ At w0 b o xs) (hks : IsTs w0 [] known xs) : Calls Tryd.prog 23 (List.toArray [.agg #[.bool wd, .bool wk], .slice ad known.length cap]) w0 (Ret fun v' w' => ∃ xt, SlA w' [] v' r.l.length xt ∧ IsTs w' [] r.l xt ∧ Gr w0 w') := by
  refine calls_of Tryd.func23 rfl Tryd.ntmps23 rfl fun ac hF => ?_
  have hC : Ch [] w0 w0 := Ch.refl _ _
  have hF := hF.sub (L' := [(0, (Value.agg #[(Value.bool wd), (Value.bool wk)])), (1, (Value.slice ad known.length cap))]) ⟨rfl, rfl, trivial⟩
  refine wp_seq ?_
  refine wp_region_lit ?_
  refine wlR (ok_box rfl) rfl hF ?_
  rintro _ w ac ⟨b1, rfl, hnb_⟩ hF
  have hch_ : Ch [] _ w := hnb_.ch
  have lo_ := hnb_.lo hC.size
  have hC := hC.trans' hch_ (fun z hz => .inr (absurd hz (by simp)))
  have hib1 : b1 < w.heap.size := hnb_.lt
  have lob1 : w0.heap.size ≤ b1 := lo_
  have hb1 : At w b1 0 [(Value.bool wd), (Value.bool wk)] := hnb_.at
  refine wl (d_assign rfl) rfl hF (fun ac hF => ?_)
  refine wl_nil ?_
  have hF := hF.sub (L' := [(0, (Value.agg #[(Value.bool wd), (Value.bool wk)])), (1, (Value.slice ad known.length cap)), (2, (Value.pointer (some ⟨b1, 0, none⟩))), (4, (Value.slice none 0 0))]) ⟨rfl, rfl, rfl, rfl, trivial⟩
  refine then_n ?_
  refine wp_seq ?_
  refine wp_region_lit ?_
  refine wl (d_loadC Tryd.underlying31 rfl sz31 rfl (hb1) rfl) rfl hF (fun ac hF => ?_)
  refine wl (d_move rfl) rfl hF (fun ac hF => ?_)
  refine wlR (ok_call c44 rfl (opens_calls (W := ⟨wd, wk⟩) hT0 joinOk cloneOk hopens _ (hC.below hw0.size (by simp) |> fun h => Nat.le_trans hw0.size hC.size) (hT0 _ _ (hC.below hw0.size (by simp)) hw0) (by omega) (by omega) (fun t _ hm => may_wr itAll hm) (first_fit _ _ (by simp [AllFit])) (fun h => by obtain ⟨b, o, e, h4⟩ := hsl h; exact ⟨b, o, e, by simp, h4.mv hC (by simp)⟩) (IsTs.mv hC (by simp) (fun x hx => .inl hx) _ _ hks))) rfl hF ?_
  rintro _ w ac ⟨br, bm, lvr, rfl, hrw, hl1_, hl2_, hg_⟩ hF
  have hch_ : Ch [] _ w := Gr.ch hg_
  have hC := hC.trans' hch_ (fun z hz => .inr (absurd hz (by simp)))
  have hib1 := Nat.lt_of_lt_of_le hib1 (hch_).size
  have hb1 := hb1.mv hch_ (by first | assumption | (simp; done) | (simp <;> omega))
  obtain ⟨hst_, _, ⟨xsr, howr, hksr⟩, _, _, _⟩ := hrw
  obtain ⟨adr, capr, rfl, hsl2⟩ : ∃ (ad : Option Addr) (cap : Nat), lvr = .slice ad r.l.length cap ∧ (0 < r.l.length → ∃ b o, ad = some ⟨b, o, none⟩ ∧ At w b o xsr) := by
    rcases howr.at with ⟨rfl, h1, h2⟩ | ⟨b, cap, rfl, h1, h2⟩
    · exact ⟨none, 0, by rw [h1], fun h => by omega⟩
    · exact ⟨_, cap, rfl, fun _ => ⟨b, 0, rfl, h2⟩⟩
  have hks2 : IsNs w [] r.l xsr := IsNs.mv (Ch.refl [] w) (by simp) (fun x hx => by simp at hx) _ _ hksr
  have hbr := At.of_blk hst_
  refine wlR (ok_call c50 rfl (terms_calls (ks := r.l) hokr hrl2 _ hbr hsl2 hks2)) rfl hF ?_
  rintro lo w ac ⟨xt, hres, hts, hg_⟩ hF
  have hch_ : Ch [] _ w := Gr.ch hg_
  have hC := hC.trans' hch_ (fun z hz => .inr (absurd hz (by simp)))
  have hib1 := Nat.lt_of_lt_of_le hib1 (hch_).size
  have hb1 := hb1.mv hch_ (by first | assumption | (simp; done) | (simp <;> omega))
  refine wl (d_assign rfl) rfl hF (fun ac hF => ?_)
  refine wl_nil ?_
  have hF := hF.sub (L' := [(0, (Value.agg #[(Value.bool wd), (Value.bool wk)])), (1, (Value.slice ad known.length cap)), (2, (Value.pointer (some ⟨b1, 0, none⟩))), (4, lo)]) ⟨rfl, rfl, rfl, rfl, trivial⟩
  refine then_n ?_
  refine wp_ret ?_
  refine body_ret hF (results1 Tryd.results23 (RV.tmp hF rfl)) ?_
  exact ⟨_, hres, hts, hC.gr⟩

set_option maxRecDepth 100000 in
set_option maxHeartbeats 4000000 in
theorem RMay_calls {t : Tm} {k nm : Int} {ad : Option Addr} {l cap : Nat} (w0 : World) (ht : IsT w0 [] t [.int .i64 k, .int .i64 nm, .slice ad l cap]) : Calls Tryd.prog 22 (List.toArray [.agg #[.int .i64 k, .int .i64 nm, .slice ad l cap]]) w0 (Ret fun v w' => v = .bool (may t) ∧ Gr w0 w') := by
  refine calls_of Tryd.func22 rfl Tryd.ntmps22 rfl fun ac hF => ?_
  have hC : Ch [] w0 w0 := Ch.refl _ _
  have hF := hF.sub (L' := [(0, (Value.agg #[(Value.int .i64 k), (Value.int .i64 nm), (Value.slice ad l cap)]))]) ⟨rfl, trivial⟩
  refine wp_seq ?_
  refine wp_region_lit ?_
  refine wlR (ok_box rfl) rfl hF ?_
  rintro _ w ac ⟨b1, rfl, hnb_⟩ hF
  have hch_ : Ch [] _ w := hnb_.ch
  have lo_ := hnb_.lo hC.size
  have hC := hC.trans' hch_ (fun z hz => .inr (absurd hz (by simp)))
  have hib1 : b1 < w.heap.size := hnb_.lt
  have lob1 : w0.heap.size ≤ b1 := lo_
  have hb1 : At w b1 0 [(Value.int .i64 k), (Value.int .i64 nm), (Value.slice ad l cap)] := hnb_.at
  refine wl (d_assign rfl) rfl hF (fun ac hF => ?_)
  refine wl_nil ?_
  have hF := hF.sub (L' := [(0, (Value.agg #[(Value.int .i64 k), (Value.int .i64 nm), (Value.slice ad l cap)])), (1, (Value.pointer (some ⟨b1, 0, none⟩))), (2, (Value.bool false))]) ⟨rfl, rfl, rfl, trivial⟩
  refine then_n ?_
  refine wp_seq ?_
  refine wp_region_lit ?_
  refine wl (d_loadC Tryd.underlying26 rfl sz26 rfl (hb1) rfl) rfl hF (fun ac hF => ?_)
  refine wlR (ok_call c49 rfl (rsize_calls t _ 1 _ (IsT.mv hC (by simp) (fun x hx => .inl hx) _ _ ht) (by omega))) rfl hF ?_
  rintro _ w ac ⟨mz, okz, rfl, hrz, hg_⟩ hF
  have hch_ : Ch [] _ w := Gr.ch hg_
  have hC := hC.trans' hch_ (fun z hz => .inr (absurd hz (by simp)))
  have hib1 := Nat.lt_of_lt_of_le hib1 (hch_).size
  have hb1 := hb1.mv hch_ (by first | assumption | (simp; done) | (simp <;> omega))
  refine wl (d_move rfl) rfl hF (fun ac hF => ?_)
  refine wl (d_extract (v := (Value.int .i64 (mz : Int))) rfl rfl) rfl hF (fun ac hF => ?_)
  refine wl (d_extract (v := (Value.bool okz)) rfl rfl) rfl hF (fun ac hF => ?_)
  refine wl (d_assign rfl) rfl hF (fun ac hF => ?_)
  refine wl (d_assign rfl) rfl hF (fun ac hF => ?_)
  refine wl_nil ?_
  have hF := hF.sub (L' := [(0, (Value.agg #[(Value.int .i64 k), (Value.int .i64 nm), (Value.slice ad l cap)])), (1, (Value.pointer (some ⟨b1, 0, none⟩))), (2, (Value.bool false)), (3, (Value.int .i64 (mz : Int))), (4, (Value.bool okz))]) ⟨rfl, rfl, rfl, rfl, rfl, trivial⟩
  refine then_n ?_
  refine wp_seq ?_
  refine wp_region_lit ?_
  refine wl (d_move rfl) rfl hF (fun ac hF => ?_)
  cases okz
  · skip
    refine wl (d_move rfl) rfl hF (fun ac hF => ?_)
    refine wlgs (c := false) rfl rfl rfl hF (fun ac hF => ?_)
    refine wlgs (c := false) rfl rfl rfl hF (fun ac hF => ?_)
    refine wl (d_pick (b := false) rfl rfl) rfl hF (fun ac hF => ?_)
    refine wl (d_assign rfl) rfl hF (fun ac hF => ?_)
    refine wl_nil ?_
    have hF := hF.sub (L' := [(0, (Value.agg #[(Value.int .i64 k), (Value.int .i64 nm), (Value.slice ad l cap)])), (1, (Value.pointer (some ⟨b1, 0, none⟩))), (2, (Value.bool false)), (3, (Value.int .i64 (mz : Int))), (4, (Value.bool false))]) ⟨rfl, rfl, rfl, rfl, rfl, trivial⟩
    refine then_n ?_
    refine wp_ret ?_
    refine body_ret hF (results1 Tryd.results22 (RV.tmp hF rfl)) ?_
    exact ⟨by rw [← rmay hrz]; first | rfl | exact congrArg Value.bool (by rw [Bool.true_and]; exact decide_eq_decide.2 (by omega)), hC.gr⟩
  · skip
    refine wl (d_move rfl) rfl hF (fun ac hF => ?_)
    refine wlg rfl (d_move rfl) rfl hF (fun ac hF => ?_)
    refine wlg rfl (d_leq rfl rfl) rfl hF (fun ac hF => ?_)
    refine wl (d_pick (b := true) rfl rfl) rfl hF (fun ac hF => ?_)
    refine wl (d_assign rfl) rfl hF (fun ac hF => ?_)
    refine wl_nil ?_
    have hF := hF.sub (L' := [(0, (Value.agg #[(Value.int .i64 k), (Value.int .i64 nm), (Value.slice ad l cap)])), (1, (Value.pointer (some ⟨b1, 0, none⟩))), (2, (Value.bool (decide ((mz : Int) ≤ 5000)))), (3, (Value.int .i64 (mz : Int))), (4, (Value.bool true))]) ⟨rfl, rfl, rfl, rfl, rfl, trivial⟩
    refine then_n ?_
    refine wp_ret ?_
    refine body_ret hF (results1 Tryd.results22 (RV.tmp hF rfl)) ?_
    exact ⟨by rw [← rmay hrz]; first | rfl | exact congrArg Value.bool (by rw [Bool.true_and]; exact decide_eq_decide.2 (by omega)), hC.gr⟩
end Go.Mi.Term
