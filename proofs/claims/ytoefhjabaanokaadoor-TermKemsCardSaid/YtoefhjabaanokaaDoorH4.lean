/- Strings, slices that are written out, structures that are built, maps that are made. -/
import Derived.Test.YtoefhjabaanokaaDoorH3
namespace Go.Mi.Term
open Go.Mi Go.RowKit
section
variable {P : Program} {n : Nat} {L : List (Nat × Value)} {w : World} {ds : Option Nat} {ty : TypeId} {pos : String} {af : Array Edge} {gu : Option (Nat × Bool)}
def evp (L : List (Nat × Value)) : List (Nat × Operand) → Option (List (Nat × Value))
  | [] => some []
  | (i, x) :: r => match ev L x, evp L r with
    | some v, some vs => some ((i, v) :: vs)
    | _, _ => none
theorem evp_eval {a : Act} (h : Frm a n L) : ∀ {xs : List (Nat × Operand)} {vs : List (Nat × Value)}, evp L xs = some vs → xs.map (fun p => (p.1, a.eval p.2)) = vs
  | [], vs, hx => by simpa [evp] using hx
  | (i, x) :: r, vs, hx => by
    simp only [evp] at hx
    split at hx
    · rename_i v us h1 h2
      simp only [Option.some.injEq] at hx
      subst hx
      simp [h.eval h1, evp_eval h h2]
    · simp at hx
/-- a slice that is written out -/
theorem ok_buildSlice {t e : TypeId} {len m : Nat} {parts : Array (Nat × Operand)} {ps : List (Nat × Value)} {z : Value} {cells : Array Value} (hT : P.underlying t = some (.slice e)) (hs : (P.info? e).map (fun i => (i.size, i.zero)) = some (m, some z)) (hp : evp L parts.toList = some ps)
    (h0 : len * m ≠ 0) (h1 : len * m ≤ 16777216) (hf : Instr.fill (fun i => some (i * m, m)) ((Array.range (len * m)).map (z.cells[· % z.cells.size]!)) ps = some cells) :
    Ok1 P ⟨ds, .buildSlice t len parts, ty, pos, af, gu⟩ n L w fun v' w' => ∃ b, v' = .slice (some ⟨b, 0, none⟩) len len ∧ NewB w w' b cells e := by
  obtain ⟨inf, hi, hz⟩ := Option.map_eq_some_iff.1 hs
  simp only [Prod.mk.injEq] at hz
  obtain ⟨hz1, hz2⟩ := hz
  have hd : Det P ⟨ds, .buildSlice t len parts, ty, pos, af, gu⟩ n L w (.slice (some ⟨w.heap.size, 0, none⟩) len len) (w.alloc (.cells cells e)) := Det.of_run fun a hF => by
    have he : (parts.map fun p => (p.1, a.eval p.2)).toList = ps := by rw [Array.toList_map]; exact evp_eval hF hp
    have h1' : ¬ len * m > 2 ^ 24 := by omega
    simp only [execOp, Instr.buildSlice, Sem.run_bind, run_underlying' hT, Result.andThen_ok, sizeOf, typeInfo, zeroValue]
    simp [hi, hz1, hz2, h1', h0]
    simp only [Array.toList_map] at he
    rw [he, hf]
    simp [newRow]
  exact hd.mono fun v' w' ⟨h1, h2⟩ => ⟨_, h1, rfl, h2⟩

theorem d_addS {x y : Operand} {t t' : TypeId} {s u : Tx} (hx : ev L x = some (.string (bs s))) (hy : ev L y = some (.string (bs u))) (hl : s.length + u.length ≤ 9223372036854775807) : Det P ⟨ds, .binOp .add t x y t', ty, pos, af, gu⟩ n L w (.string (bs (s ++ u))) w :=
  Det.of_run fun a hF => by
    have h1 : ¬ (((bs s).size + (bs u).size : Nat) : Int) > IntKind.i64.max := by
      simp only [bs, ByteArray.size, List.size_toArray, IntKind.max, IntKind.bits, IntKind.signed]
      simp
      omega
    have h2 : bs s ++ bs u = bs (s ++ u) := by
      apply ByteArray.ext
      simp [bs, ByteArray.data_append]
    simp only [execOp, hF.eval hx, hF.eval hy, eqGuard, binOp, Op.stringOp, Sem.run_bind]
    rw [if_neg h1, h2]
    simp
theorem less_eq : ∀ x y : Tx, Op.bytesLess x y = lessTx x y
  | _, [] => by simp [Op.bytesLess, lessTx]
  | [], _ :: _ => rfl
  | a :: x, b :: y => by simp only [Op.bytesLess, lessTx, less_eq x y]
theorem d_lssS {x y : Operand} {t t' : TypeId} {s u : Tx} (hx : ev L x = some (.string (bs s))) (hy : ev L y = some (.string (bs u))) : Det P ⟨ds, .binOp .lss t x y t', ty, pos, af, gu⟩ n L w (.bool (lessTx s u)) w :=
  Det.of_run fun a hF => by
    simp [execOp, hF.eval hx, hF.eval hy, eqGuard, binOp, Op.stringOp, bs, less_eq]
theorem d_eqlS {x y : Operand} {t t' : TypeId} {s u : Tx} (hx : ev L x = some (.string (bs s))) (hy : ev L y = some (.string (bs u))) : Det P ⟨ds, .binOp .eql t x y t', ty, pos, af, gu⟩ n L w (.bool (decide (s = u))) w :=
  Det.of_run fun a hF => by
    simp [execOp, hF.eval hx, hF.eval hy, eqGuard, binOp, Op.stringOp, bs]
    by_cases h : s = u <;> simp [h]
/-- a map that is made -/
theorem ok_makeMap {t : TypeId} : Ok1 P ⟨ds, .makeMap t none, ty, pos, af, gu⟩ n L w fun v' w' => ∃ b, v' = .map (some b) ∧ b = w.heap.size ∧ MapIs w' b [] ∧ Ch [] w w' := by
  have hd : Det P ⟨ds, .makeMap t none, ty, pos, af, gu⟩ n L w (.map (some w.heap.size)) (w.alloc (.map #[] 0)) := Det.of_run fun a hF => by
    have hr : (Instr.makeMap t none).run P w = .ok (.map (some w.heap.size)) (w.alloc (.map #[] 0)) := rfl
    simp [execOp, hr]
  refine hd.mono fun v' w' ⟨h1, h2⟩ => ?_
  subst h2
  refine ⟨_, h1, rfl, ⟨#[], 0, ?_, rfl⟩, Gr.ch ((Below.refl w.heap.size w).alloc (Nat.le_refl _) _)⟩
  show (w.heap.push _)[w.heap.size]? = _
  simp
end
end Go.Mi.Term
