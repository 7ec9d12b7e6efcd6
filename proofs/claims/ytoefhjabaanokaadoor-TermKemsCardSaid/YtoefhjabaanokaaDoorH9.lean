/- What building wants and gives. -/
import Derived.Test.YtoefhjabaanokaaDoorH8
import Derived.Test.YtoefhjabaanokaaDoorW8
import Derived.Test.YtoefhjabaanokaaDoorT2
namespace Go.Mi.Term
open Go.Mi Go.Proofs Go.RowKit
theorem wrk_pub {T0 : World → Prop} {t : Tm} (h : tlen t ≤ 1099511600000) : WrK T0 2 0 [t] := by
  refine ⟨by omega, by omega, fun _ => by simp, by omega, ?_⟩
  simp only [List.map_cons, List.map_nil, List.sum_cons, List.sum_nil, List.length_cons, List.length_nil]
  unfold tlen at h
  omega
theorem wrk_two {T0 : World → Prop} {k : Int} {a b : Tm} (hk : 3 ≤ k ∧ k ≤ 9) (h : tlen a + tlen b ≤ 1099511600000) : WrK T0 k 0 [a, b] := by
  refine ⟨by omega, by omega, fun _ => by simp, fun _ => by simp, ?_⟩
  simp only [List.map_cons, List.map_nil, List.sum_cons, List.sum_nil, List.length_cons, List.length_nil]
  unfold tlen at h
  omega
theorem fill2 {z a b : Value} (ha : a.cells = #[a]) (hb : b.cells = #[b]) : Instr.fill (fun i => some (i * 1, 1)) ((Array.range (2 * 1)).map (z.cells[· % z.cells.size]!)) [(0, a), (1, b)] = some #[a, b] := by
  simp [Instr.fill, ha, hb]
  apply Array.ext'
  simp [Array.toList_setIfInBounds, Array.toList_map, Array.toList_range, List.range_succ]
/-- a builder on the heap -/
def Bd (w : World) (W : Wd) (met : Told) (bb bt br bm : Nat) (rl : Value) : Prop :=
  At w bb 0 [.bool W.dh, .bool W.kem, .pointer (some ⟨br, 0, none⟩), .map (some bt)] ∧ At w br 0 [rl, .map (some bm)] ∧ MapIs w bm met ∧ bb ≠ bt ∧ br ≠ bt ∧ bm ≠ bt
theorem Bd.mv {w w' : World} {W : Wd} {met : Told} {bb bt br bm : Nat} {rl : Value} {Y : List Nat} (h : Bd w W met bb bt br bm rl) (k : Ch Y w w') (h1 : bb ∉ Y) (h2 : br ∉ Y) (h3 : bm ∉ Y) : Bd w' W met bb bt br bm rl :=
  ⟨h.1.mv k h1, h.2.1.mv k h2, h.2.2.1.mv k h3, h.2.2.2⟩
/-- what building a list returns -/
def BuildsOk (T0 : World → Prop) (nb : Nat) (W : Wd) (met : Told) (f : Nat) : Prop :=
  ∀ (l : List Tm) (m m' : Told) (r : Bool) (bb bt br bm : Nat) (rl : Value) (ad : Option Addr) (cap : Nat) (xs : List Value) (w : World), l.length ≤ 1000 → bl W met f l m = some (r, m') → (∀ t, t ∈ l → Fit t) → nb ≤ w.heap.size → nb ≤ bt → T0 w → Bd w W met bb bt br bm rl → MapIs w bt m →
    SlA w [bt] (.slice ad l.length cap) l.length xs → IsNs w [bt] l xs → Calls Tryd.prog 45 (List.toArray [.pointer (some ⟨bb, 0, none⟩), .slice ad l.length cap]) w (Ret fun v w' => v = .bool r ∧ MapIs w' bt m' ∧ Ch [bt] w w')
def MakesOk (T0 : World → Prop) (nb : Nat) (W : Wd) (met : Told) (f : Nat) : Prop :=
  ∀ (t : Tm) (m m' : Told) (r : Bool) (bb bt br bm bn : Nat) (rl : Value) (w : World), anyOf W met f (ways W t) m = some (r, m') → Fit t → nb ≤ w.heap.size → nb ≤ bt → T0 w → Bd w W met bb bt br bm rl → MapIs w bt m → IsN w [bt] t (.pointer (some ⟨bn, 0, none⟩)) →
    Calls Tryd.prog 82 (List.toArray [.pointer (some ⟨bb, 0, none⟩), .pointer (some ⟨bn, 0, none⟩)]) w (Ret fun v w' => v = .bool r ∧ MapIs w' bt m' ∧ Ch [bt] w w')
theorem IsNs.two {w : World} {X : List Nat} {a b : Tm} {xs : List Value} (h : IsNs w X [a, b] xs) : ∃ va vb, xs = [va, vb] ∧ IsN w X a va ∧ IsN w X b vb := by
  simp only [IsNs] at h
  obtain ⟨va, _, rfl, ha, vb, _, rfl, hb, rfl⟩ := h
  exact ⟨va, vb, rfl, ha, hb⟩
theorem IsNs.of_two {w : World} {X : List Nat} {a b : Tm} {va vb : Value} (ha : IsN w X a va) (hb : IsN w X b vb) : IsNs w X [a, b] [va, vb] := by
  simp only [IsNs]
  exact ⟨va, [vb], rfl, ha, vb, [], rfl, hb, rfl⟩
theorem IsN.open {w : World} {X : List Nat} {k n : Int} {ks : List Tm} {bn : Nat} (h : IsN w X (.mk k n ks) (.pointer (some ⟨bn, 0, none⟩))) : ∃ sl xs, bn ∉ X ∧ At w bn 0 [.int .i64 k, .int .i64 n, sl, .string (bs (txt (.mk k n ks)))] ∧ SlA w X sl ks.length xs ∧ IsNs w X ks xs := by
  simp only [IsN] at h
  obtain ⟨b, sl, xs, h1, h2, h3, h4, h5⟩ := h
  cases h1
  exact ⟨sl, xs, h2, h3, h4, h5⟩
theorem IsN.ptr {w : World} {X : List Nat} {t : Tm} {v : Value} (h : IsN w X t v) : ∃ b, v = .pointer (some ⟨b, 0, none⟩) ∧ b ∉ X ∧ IsN w X t (.pointer (some ⟨b, 0, none⟩)) := by
  obtain ⟨b, k, n, sl, rfl, hb, _⟩ := h.form
  exact ⟨b, rfl, hb, h⟩
theorem SlA.some {w : World} {X : List Nat} {v : Value} {n : Nat} {xs : List Value} (h : SlA w X v n xs) (hn : 0 < n) : ∃ b o cap, v = .slice (some ⟨b, o, none⟩) n cap ∧ b ∉ X ∧ b < w.heap.size ∧ At w b o xs := by
  rcases h with ⟨_, rfl, _⟩ | h
  · omega
  · exact h
theorem ok_callw {P : Program} {w : World} {n : Nat} {L : List (Nat × Value)} {ds : Option Tmp} {ty : TypeId} {pos : String} {af : Array Edge} {gu : Option (Nat × Bool)} {x : Operand} {f : FuncId} {first captured : Array Value} : True := trivial
section
variable {P : Program} {n : Nat} {L : List (Nat × Value)} {w : World} {ds : Option Nat} {ty : TypeId} {pos : String} {af : Array Edge} {gu : Option (Nat × Bool)}
theorem d_makeFunc {fn : Fn} {fs xs : Array Operand} {us vs : List Value} (hf : evs L fs.toList = some us) (hx : evs L xs.toList = some vs) : Det P ⟨ds, .makeFunc fn fs xs, ty, pos, af, gu⟩ n L w (.func fn us.toArray vs.toArray) w :=
  Det.of_run fun a hF => by
    have h1 : xs.map a.eval = vs.toArray := by rw [← hF.evals hx, ← List.map_toArray]
    have h2 : fs.map a.eval = us.toArray := by rw [← hF.evals hf, ← List.map_toArray]
    simp [execOp, Instr.makeFunc, h1, h2]
end
end Go.Mi.Term
