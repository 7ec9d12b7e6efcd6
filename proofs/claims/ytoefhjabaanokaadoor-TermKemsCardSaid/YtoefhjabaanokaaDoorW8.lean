/- Walks: what functions of term return. -/
import Derived.Test.YtoefhjabaanokaaDoorTf
import Derived.Test.YtoefhjabaanokaaDoorW7
namespace Go.Mi.Term
open Go.Mi Go.Proofs Go.RowKit
theorem IsN.mk2 {w : World} {X : List Nat} {b : Nat} {k n : Int} {ks : List Tm} {sl : Value} {ps : List Value} {t : TypeId} {f : Nat × Nat} (hb : b ∉ X) (hat : w.heap[b]? = some (.cells #[.int .i64 k, .int .i64 n, sl, .string (bs (txt (.mk k n ks)))] t f))
    (hsl : SlA w X sl ks.length ps) (hns : IsNs w X ks ps) : IsN w X (.mk k n ks) (.pointer (some ⟨b, 0, none⟩)) := by
  simp only [IsN]
  exact ⟨b, sl, ps, rfl, hb, At.of_blk hat, hsl, hns⟩

set_option maxRecDepth 100000 in
theorem made_calls {T0 : World → Prop} {nb : Nat} (hT : ∀ w w', Below nb w w' → T0 w → T0 w') (hjoin : JoinOk) {k : Int} {ks : List Tm} (hw : WrK T0 k 0 ks) {X : List Nat} {ad : Option Addr} {cap : Nat} {ps : List Value} (w0 : World) (hnb : nb ≤ w0.heap.size) (hw0 : T0 w0) (hX : ∀ x, x ∈ X → x < w0.heap.size)
    (hsl : SlA w0 X (.slice ad ks.length cap) ks.length ps) (hns : IsNs w0 X ks ps) : Calls Tryd.prog 96 (List.toArray [.int .i64 k, .slice ad ks.length cap]) w0 (Ret fun v w' => IsN w' X (.mk k 0 ks) v ∧ Gr w0 w') := by
  have hsl2 : 0 < ks.length → ∃ b o, ad = some ⟨b, o, none⟩ ∧ b ∉ X ∧ At w0 b o ps := by
    obtain ⟨ad2, cap2, he, h⟩ := hsl.form
    cases he
    exact h
  refine calls_of Tryd.func96 rfl Tryd.ntmps96 rfl fun a hF => ?_
  have hM := Mem.start w0
  have hF := hF.sub (L' := [(0, (Value.int .i64 k)), (1, (Value.slice ad ks.length cap))]) ⟨rfl, rfl, trivial⟩
  refine wp_seq ?_
  refine wp_region_lit ?_
  refine wl (d_assign rfl) rfl hF (fun a hF => ?_)
  refine wl_nil ?_
  have hF := hF.sub (L' := [(0, (Value.int .i64 k)), (1, (Value.slice ad ks.length cap)), (4, (Value.pointer none))]) ⟨rfl, rfl, rfl, trivial⟩
  refine then_n ?_
  refine wp_seq ?_
  refine wp_region_lit ?_
  refine wl (d_move rfl) rfl hF (fun a hF => ?_)
  refine wl (d_move rfl) rfl hF (fun a hF => ?_)
  refine wl (d_move rfl) rfl hF (fun a hF => ?_)
  refine wl (d_move rfl) rfl hF (fun a hF => ?_)
  refine wlR (ok_call c83 rfl (written_calls hT hjoin hw _ (Nat.le_trans hnb hM.below.size) (hT _ _ (hM.below.mono hnb) hw0) (fun h => by obtain ⟨b, o, h1, h2, h3⟩ := hsl2 h; exact ⟨b, o, h1, h2, h3.mv (Gr.ch hM.below) (by simp)⟩) (IsNs.mv (Gr.ch hM.below) (by simp) (fun x hx => .inl hx) _ _ hns))) rfl hF ?_
  rintro _ w a ⟨rfl, hg⟩ hF
  have hM := hM.call hg
  refine wl (d_buildS (cells := #[(Value.int .i64 k), (Value.int .i64 0), (Value.slice ad ks.length cap), (Value.string (bs (txt (.mk k 0 ks))))]) Tryd.underlying112 z112 (fun w => pl112 w _ Tryd.underlying112) rfl (fill4 rfl rfl rfl rfl)) rfl hF (fun a hF => ?_)
  refine wlR (ok_box rfl) rfl hF ?_
  rintro _ w a ⟨b1, rfl, hnb_⟩ hF
  have hM : Mem w0 w [(b1, #[(Value.int .i64 k), (Value.int .i64 0), (Value.slice ad ks.length cap), (Value.string (bs (txt (.mk k 0 ks))))], 112)] := hM.alloc hnb_
  refine wl (d_assign rfl) rfl hF (fun a hF => ?_)
  refine wl_nil ?_
  have hF := hF.sub (L' := [(0, (Value.int .i64 k)), (1, (Value.slice ad ks.length cap)), (4, (Value.pointer (some ⟨b1, 0, none⟩)))]) ⟨rfl, rfl, rfl, trivial⟩
  refine then_n ?_
  refine wp_ret ?_
  refine body_ret hF (results1 Tryd.results96 (RV.tmp hF rfl)) ?_
  have hnX : ∀ x, x ∈ X → ¬ w0.heap.size ≤ x := fun x hx => by have := hX x hx; omega
  exact ⟨IsN.mk2 (fun hx => hnX _ hx (hM.new _ (List.mem_cons_self ..))) (hM.at 0 rfl) (hsl.mv (Gr.ch hM.below) (by simp) (fun x hx => .inl hx)) (IsNs.mv (Gr.ch hM.below) (by simp) (fun x hx => .inl hx) _ _ hns), hM.below⟩

theorem MapIs.lt {w : World} {b : Nat} {m : Told} (h : MapIs w b m) : b < w.heap.size := by
  obtain ⟨es, c, h1, _⟩ := h
  rcases Nat.lt_or_ge b w.heap.size with h' | h'
  · exact h'
  · rw [Array.getElem?_eq_none h'] at h1; cases h1
theorem pl116 (w : World) : ∀ fs, Tryd.prog.underlying 116 = some (.struct fs) → (fs.mapM fun f => (do pure (f.offset, ← sizeOf f.type) : Sem (Nat × Nat))).run Tryd.prog w = .ok #[(0, 2), (2, 1), (3, 1)] w := by
  intro fs h
  rw [Tryd.underlying116] at h
  cases h
  obtain ⟨i1, h1, e1⟩ := Option.map_eq_some_iff.1 sz31
  obtain ⟨i2, h2, e2⟩ := Option.map_eq_some_iff.1 sz80
  obtain ⟨i3, h3, e3⟩ := Option.map_eq_some_iff.1 sz114
  simp [sizeOf, typeInfo, h1, h2, h3, e1, e2, e3]
theorem fillB {z0 z1 z2 z3 a b : Value} {c : Option Addr} {d : Option Nat} : Instr.fill ((#[(0, 2), (2, 1), (3, 1)] : Array (Nat × Nat))[·]?) #[z0, z1, z2, z3] [(0, .agg #[a, b]), (1, .pointer c), (2, .map d)] = some #[a, b, .pointer c, .map d] := by
  simp [Instr.fill, Value.cells]

set_option maxRecDepth 100000 in
theorem ready_calls {dh kem : Bool} {br : Nat} (w0 : World) : Calls Tryd.prog 43 (List.toArray [.agg #[.bool dh, .bool kem], .pointer (some ⟨br, 0, none⟩)]) w0 (Ret fun v w' => (∃ bb bt, v = .pointer (some ⟨bb, 0, none⟩) ∧ w'.heap[bb]? = some (.cells #[.bool dh, .bool kem, .pointer (some ⟨br, 0, none⟩), .map (some bt)] 116 (0, 0)) ∧ MapIs w' bt [] ∧ w0.heap.size ≤ bb ∧ w0.heap.size ≤ bt ∧ bb ≠ bt) ∧ Gr w0 w') := by
  refine calls_of Tryd.func43 rfl Tryd.ntmps43 rfl fun a hF => ?_
  have hM := Mem.start w0
  have hF := hF.sub (L' := [(0, (Value.agg (#[(Value.bool dh), (Value.bool kem)]))), (1, (Value.pointer (some ⟨br, 0, none⟩)))]) ⟨rfl, rfl, trivial⟩
  refine wp_seq ?_
  refine wp_region_lit ?_
  refine wlR (ok_box rfl) rfl hF ?_
  rintro _ w a ⟨b1, rfl, hnb_⟩ hF
  have hM : Mem w0 w [(b1, #[(Value.bool dh), (Value.bool kem)], 31)] := hM.alloc hnb_
  refine wl (d_assign rfl) rfl hF (fun a hF => ?_)
  refine wl_nil ?_
  have hF := hF.sub (L' := [(0, (Value.agg (#[(Value.bool dh), (Value.bool kem)]))), (1, (Value.pointer (some ⟨br, 0, none⟩))), (2, (Value.pointer (some ⟨b1, 0, none⟩))), (4, (Value.pointer none))]) ⟨rfl, rfl, rfl, rfl, trivial⟩
  refine then_n ?_
  refine wp_seq ?_
  refine wp_region_lit ?_
  refine wl (d_loadA Tryd.underlying31 rfl sz31 rfl (hM.at 0 rfl) rfl) rfl hF (fun a hF => ?_)
  refine wl (d_move rfl) rfl hF (fun a hF => ?_)
  refine wlR ok_makeMap rfl hF ?_
  rintro _ w a ⟨bt, rfl, hbt, hmap, hch⟩ hF
  have hMs := hM.below.size
  have hM := Mem_chg hM hch (by simp)
  have hmaplt := hmap.lt
  refine wl (d_buildS (cells := #[(Value.bool dh), (Value.bool kem), (Value.pointer (some ⟨br, 0, none⟩)), (Value.map (some bt))]) Tryd.underlying116 z116 (fun w => pl116 w _ Tryd.underlying116) rfl fillB) rfl hF (fun a hF => ?_)
  refine wlR (ok_box rfl) rfl hF ?_
  rintro _ w a ⟨b2, rfl, hnb_⟩ hF
  have hM : Mem w0 w [(b1, #[(Value.bool dh), (Value.bool kem)], 31), (b2, #[(Value.bool dh), (Value.bool kem), (Value.pointer (some ⟨br, 0, none⟩)), (Value.map (some bt))], 116)] := hM.alloc hnb_
  have hne := hnb_.num
  have hmap := hmap.mv hnb_.ch (by simp)
  refine wl (d_assign rfl) rfl hF (fun a hF => ?_)
  refine wl_nil ?_
  have hF := hF.sub (L' := [(0, (Value.agg (#[(Value.bool dh), (Value.bool kem)]))), (1, (Value.pointer (some ⟨br, 0, none⟩))), (2, (Value.pointer (some ⟨b1, 0, none⟩))), (4, (Value.pointer (some ⟨b2, 0, none⟩)))]) ⟨rfl, rfl, rfl, rfl, trivial⟩
  refine then_n ?_
  refine wp_ret ?_
  refine body_ret hF (results1 Tryd.results43 (RV.tmp hF rfl)) ?_
  refine ⟨⟨_, bt, rfl, hM.at 1 rfl, hmap, hM.new _ (List.mem_cons_of_mem _ (List.mem_cons_self ..)), by omega, by have := hch.size; have := hmaplt; omega⟩, hM.below⟩

set_option maxRecDepth 100000 in
theorem pub_calls {T0 : World → Prop} {nb : Nat} (hT : ∀ w w', Below nb w w' → T0 w → T0 w') (hjoin : JoinOk) {k nm : Int} {ks : List Tm} {t1 : Tm} {X : List Nat} {bc bn bk b1s o1s cap2 i : Nat} {ads : Option Addr} {tx : Tx} {xs : List Value} (hw : WrK T0 2 0 [t1]) (w0 : World) (hnb : nb ≤ w0.heap.size) (hw0 : T0 w0) (hX : ∀ x, x ∈ X → x < w0.heap.size)
    (hcap : w0.cell? ⟨bc, 0, none⟩ = some (.pointer (some ⟨bn, 0, none⟩))) (hatn : At w0 bn 0 [.int .i64 k, .int .i64 nm, .slice ads ks.length cap2, .string (bs tx)]) (hae : ads = some ⟨b1s, o1s, none⟩) (hats : At w0 b1s o1s xs) (hi : i < ks.length) (hxi : xs[i]? = some (.pointer (some ⟨bk, 0, none⟩))) (hnk : IsN w0 X t1 (.pointer (some ⟨bk, 0, none⟩))) :
    Calls Tryd.prog 95 (List.toArray [.int .i64 i, .pointer (some ⟨bc, 0, none⟩)]) w0 (Ret fun v w' => IsN w' X (pubOf t1) v ∧ Gr w0 w') := by
  refine calls_of Tryd.func95 rfl Tryd.ntmps95 rfl fun a hF => ?_
  have hM := Mem.start w0
  have hF := hF.sub (L' := [(0, (Value.int .i64 (i : Int))), (1, (Value.pointer (some ⟨bc, 0, none⟩)))]) ⟨rfl, rfl, trivial⟩
  refine wp_seq ?_
  refine wp_region_lit ?_
  refine wl (d_assign rfl) rfl hF (fun a hF => ?_)
  refine wl_nil ?_
  have hF := hF.sub (L' := [(0, (Value.int .i64 (i : Int))), (1, (Value.pointer (some ⟨bc, 0, none⟩))), (3, (Value.pointer none))]) ⟨rfl, rfl, rfl, trivial⟩
  refine then_n ?_
  refine wp_seq ?_
  refine wp_region_lit ?_
  refine wl (d_load1 Tryd.underlying83 rfl rfl hcap) rfl hF (fun a hF => ?_)
  refine wl (d_nil rfl) rfl hF (fun a hF => ?_)
  refine wl (d_fieldAddrQ Tryd.underlying112 (m := 0) sz110 rfl rfl rfl) rfl hF (fun a hF => ?_)
  refine wl (d_load1 Tryd.underlying110 rfl rfl (hatn 2 _ rfl)) rfl hF (fun a hF => ?_)
  refine wl (d_move rfl) rfl hF (fun a hF => ?_)
  refine wl (d_ixS (b := b1s) (o := o1s) (j := i) Tryd.underlying110 sz83 (by rw [← hae]; rfl) rfl rfl hi) rfl hF (fun a hF => ?_)
  refine wl (d_load1 Tryd.underlying83 rfl rfl (hats i _ hxi)) rfl hF (fun a hF => ?_)
  refine wlR (ok_buildSlice (cells := #[(Value.pointer (some ⟨bk, 0, none⟩))]) Tryd.underlying110 zz83 rfl (by decide) (by decide) (by kernel_rfl)) rfl hF ?_
  rintro _ w a ⟨b1, rfl, hnb_⟩ hF
  have hM : Mem w0 w [(b1, #[(Value.pointer (some ⟨bk, 0, none⟩))], 83)] := hM.alloc hnb_
  have hsla : SlA w X (.slice (some ⟨b1, 0, none⟩) [t1].length 1) [t1].length [Value.pointer (some ⟨bk, 0, none⟩)] := .inr ⟨b1, 0, 1, rfl, fun hx => by have h1_ := hX _ hx; have h2_ := hnb_.num; omega, hM.lt (List.mem_cons_self ..), At.of_blk (hM.at 0 rfl)⟩
  refine wlR (ok_call c96 rfl (made_calls (k := 2) (ks := [t1]) (X := X) hT hjoin hw _ (Nat.le_trans hnb hM.below.size) (hT _ _ (hM.below.mono hnb) hw0) (fun x hx => Nat.lt_of_lt_of_le (hX x hx) hM.below.size) hsla (IsNs.one (IsN.mv hnb_.ch (by simp) (fun x hx => .inl hx) _ _ hnk)))) rfl hF ?_
  rintro pv w a ⟨hpv, hg⟩ hF
  have hM := hM.call hg
  refine wl (d_assign rfl) rfl hF (fun a hF => ?_)
  refine wl_nil ?_
  have hF := hF.sub (L' := [(0, (Value.int .i64 (i : Int))), (1, (Value.pointer (some ⟨bc, 0, none⟩))), (3, pv)]) ⟨rfl, rfl, rfl, trivial⟩
  refine then_n ?_
  refine wp_ret ?_
  refine body_ret hF (results1 Tryd.results95 (RV.tmp hF rfl)) ?_
  exact ⟨hpv, hM.below⟩
end Go.Mi.Term
