/- Rows and builders in a walk. -/
import Derived.Test.YtoefhjabaanokaaDoorW15
import Derived.Test.YtoefhjabaanokaaDoorT3
namespace Go.Mi.Term
open Go.Mi Go.Proofs Go.RowKit
theorem RwIs.mvx {w w' : World} {base : Nat} {X X' Y : List Nat} {br bm : Nat} {lv : Value} {r : Rw} (h : RwIs w base X br bm lv r) (k : Ch Y w w') (hy : ∀ y, y ∈ Y → y ∈ X) (h1 : br ∉ Y) (h2 : bm ∉ Y) (h3 : ∀ y, y ∈ oblk lv → y ∉ Y) (hx : ∀ x, x ∈ X' → x ∈ X ∨ w.heap.size ≤ x) : RwIs w' base X' br bm lv r := by
  obtain ⟨xs, h4, h5⟩ := h.own
  refine ⟨k.blk0 h.st h1, h.met.mv k h2, ⟨xs, h4.mv k h3, IsNs.mv k (fun y hm => List.mem_append_right _ (hy y hm)) (fun x hm => ?_) _ _ h5⟩, h.nr, h.nm, h.ne⟩
  rcases List.mem_append.1 hm with hm | hm
  · exact .inl (List.mem_append_left _ hm)
  · rcases hx x hm with hx | hx
    · exact .inl (List.mem_append_right _ hx)
    · exact .inr hx
theorem RwIs.lo {w : World} {base : Nat} {X : List Nat} {br bm : Nat} {lv : Value} {r : Rw} (h : RwIs w base X br bm lv r) : ∀ y, y ∈ oblk lv → base ≤ y ∧ y < w.heap.size := by
  obtain ⟨xs, h4, _⟩ := h.own
  exact h4.lt
theorem OpTo.ns {w w' : World} {base : Nat} {X : List Nat} {br bm bt : Nat} {lv lv' : Value} {r r' : Rw} {m' : Told} (h : OpTo w w' base X br bm bt lv r r' lv' m') (hr : br ∈ X) (hm : bm ∈ X) (ht : bt ∈ X) {ts : List Tm} {xs : List Value} (hn : IsNs w (oblk lv ++ X) ts xs) : IsNs w' (oblk lv' ++ X) ts xs := by
  refine IsNs.mv h.2.2.1 (fun y hy => ?_) (fun x hx => ?_) _ _ hn
  · simp only [List.mem_cons, List.mem_append] at hy ⊢
    rcases hy with rfl | rfl | rfl | hy
    · exact .inr ht
    · exact .inr hr
    · exact .inr hm
    · exact .inl hy
  · simp only [List.mem_append] at hx ⊢
    rcases hx with hx | hx
    · rcases h.2.2.2.1 with h3 | h3
      · rw [h3] at hx; exact .inl (.inl hx)
      · exact .inr (h3 x hx)
    · exact .inl (.inr hx)
theorem nin_op {w w' : World} {base : Nat} {X : List Nat} {br bm bt b : Nat} {lv lv' : Value} {r r' : Rw} {m' : Told} (h : OpTo w w' base X br bm bt lv r r' lv' m') (hb : b < w.heap.size) (hn : b ∉ br :: bm :: oblk lv) : b ∉ br :: bm :: oblk lv' := by
  intro hm
  simp only [List.mem_cons] at hm hn
  rcases hm with hm | hm | hm
  · exact hn (.inl hm)
  · exact hn (.inr (.inl hm))
  · rcases h.2.2.2.1 with h3 | h3
    · rw [h3] at hm; exact hn (.inr (.inr hm))
    · have := h3 b hm; omega
theorem At_ltl {w : World} {b o : Nat} {vs : List Value} (h : At w b o vs) (hv : 0 < vs.length) : b < w.heap.size := by
  cases vs with
  | nil => simp at hv
  | cons v vs => exact h.lt
theorem Bd.lt {w : World} {W : Wd} {met : Told} {bb bt br bm : Nat} {rl : Value} (h : Bd w W met bb bt br bm rl) : bb < w.heap.size ∧ br < w.heap.size ∧ bm < w.heap.size := ⟨At_ltl h.1 (by simp), At_ltl h.2.1 (by simp), h.2.2.1.lt⟩
/-- maps.Clone -/
def CloneOk : Prop := ∀ (b : Nat) (es : Array MapEntry) (clock : Nat) (w : World), w.heap[b]? = some (.map es clock) → Calls Tryd.prog 80 (List.toArray [.map (some b)]) w (fun e w' => e = .returned (.map (some w.heap.size)) ∧ w' = w.alloc (.map es clock))
theorem clone_calls (hc : CloneOk) {b : Nat} {m : Told} (w : World) (h : MapIs w b m) : Calls Tryd.prog 80 (List.toArray [.map (some b)]) w (Ret fun v w' => ∃ b', v = .map (some b') ∧ b' = w.heap.size ∧ b' < w'.heap.size ∧ MapIs w' b' m ∧ Ch [] w w') := by
  obtain ⟨es, clock, h1, h2⟩ := h
  refine (hc b es clock w h1).mono fun e w' ⟨he, hw⟩ => ?_
  subst hw
  refine ⟨_, he, _, rfl, rfl, ?_, ⟨es, clock, ?_, h2⟩, Gr.ch ((Below.refl w.heap.size w).alloc (Nat.le_refl _) _)⟩
  · show w.heap.size < (w.heap.push _).size
    simp
  · show (w.heap.push _)[w.heap.size]? = _
    simp
/-- a builder that is new: nothing is told yet -/
structure RdIs (w : World) (lo : Nat) (W : Wd) (br bb bt : Nat) : Prop where
  at' : At w bb 0 [.bool W.dh, .bool W.kem, .pointer (some ⟨br, 0, none⟩), .map (some bt)]
  told : MapIs w bt []
  lb : lo ≤ bb
  lt : lo ≤ bt
  ne : bb ≠ bt
theorem RdIs.mv {w w' : World} {lo : Nat} {W : Wd} {br bb bt : Nat} (h : RdIs w lo W br bb bt) (k : Ch [] w w') : RdIs w' lo W br bb bt := ⟨h.at'.mv k (by simp), h.told.mv k (by simp), h.lb, h.lt, h.ne⟩
theorem ready_calls' {W : Wd} {br : Nat} (w0 : World) : Calls Tryd.prog 43 (List.toArray [.agg #[.bool W.dh, .bool W.kem], .pointer (some ⟨br, 0, none⟩)]) w0 (Ret fun v w' => ∃ bb, v = .pointer (some ⟨bb, 0, none⟩) ∧ (∃ bt, RdIs w' w0.heap.size W br bb bt) ∧ Ch [] w0 w') := by
  refine (ready_calls w0).mono fun e w' ⟨v, he, ⟨bb, bt, h1, h2, h3, h4, h5, h6⟩, hg⟩ => ⟨v, he, bb, h1, ⟨bt, At.of_blk h2, h3, h4, h5, h6⟩, Gr.ch hg⟩
section
variable {P : Program} {n : Nat} {L : List (Nat × Value)} {w : World} {ds : Option Nat} {ty : TypeId} {pos : String} {af : Array Edge} {gu : Option (Nat × Bool)}
theorem d_lenOwn {x : Operand} {t e e' : TypeId} {base m k : Nat} {v : Value} {xs : List Value} (ht : P.underlying t = some (.slice e')) (hx : ev L x = some v) (hown : Own w base e m v k xs) : Det P ⟨ds, .call ⟨.builtin .len, #[x], #[t]⟩, ty, pos, af, gu⟩ n L w (.int .i64 k) w := by
  rcases hown.at with ⟨rfl, rfl, _⟩ | ⟨b, cap, rfl, _, _⟩
  · exact d_len_slice ht hx
  · exact d_len_slice ht hx
/-- all of a slice, cut at its own length -/
theorem d_sliceOwn {x h : Operand} {t e : TypeId} {base m k q : Nat} {v : Value} {xs : List Value} (ht : P.underlying t = some (.slice e)) (hs : (P.info? e).map (·.size) = some q) (hx : ev L x = some v) (hh : ev L h = some (.int .i64 k)) (hown : Own w base e m v k xs) : Det P ⟨ds, .slice t x none (some h) none, ty, pos, af, gu⟩ n L w v w :=
  Det.of_run fun a hF => by
    obtain ⟨inf, hi, hz⟩ := Option.map_eq_some_iff.1 hs
    rcases hown.at with ⟨rfl, rfl, _⟩ | ⟨b, cap, rfl, hc, _⟩
    · simp [execOp, hF.eval hx, hF.eval hh, Instr.sliceAt, Instr.slice, run_underlying' ht, Instr.sliceBounds, Instr.sliceBound, asIntOf, sizeOf, typeInfo, hi]
    · have h1 : (0 : Int) ≤ k ∧ (k : Int) ≤ cap := by omega
      have h2 : ¬ cap < k := by omega
      simp [execOp, hF.eval hx, hF.eval hh, Instr.sliceAt, Instr.slice, run_underlying' ht, Instr.sliceBounds, Instr.sliceBound, asIntOf, sizeOf, typeInfo, hi, h1, h2, hz, add_none]
end
theorem Own.form {w : World} {base m n : Nat} {e : TypeId} {v : Value} {xs : List Value} (h : Own w base e m v n xs) (hn : 0 < n) : ∃ b cap, v = .slice (some ⟨b, 0, none⟩) n cap ∧ At w b 0 xs ∧ b ∈ oblk v := by
  rcases h.at with ⟨_, rfl, _⟩ | ⟨b, cap, rfl, _, ha⟩
  · omega
  · exact ⟨b, cap, rfl, ha, by simp [oblk]⟩
end Go.Mi.Term
