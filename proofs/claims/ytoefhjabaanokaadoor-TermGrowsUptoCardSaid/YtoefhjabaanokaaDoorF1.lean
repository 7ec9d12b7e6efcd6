/- Rows of cells that a statement hands over, at plain addresses. General lemmas. -/
import Derived.Test.YtoefhjabaanokaaDoorB8
import Derived.Deep.Grids
set_option linter.unusedSimpArgs false
set_option linter.unusedVariables false
set_option linter.unnecessarySimpa false
namespace Go.Mi
theorem plain_cell {w : World} {x : Addr} {v : Value} (h : w.cell? x = some v) : x = ⟨x.block, x.off, none⟩ := by
  obtain ⟨b, o, s⟩ := x
  cases s with
  | none => rfl
  | some s =>
    unfold World.cell? at h
    simp at h
    split at h <;> simp at h
theorem row_plain {w : World} {x : Addr} {len cap : Nat} {f : Nat → Value} (h : ∀ i, i < cap → w.cell? (x.add i) = some (f i)) (hl : len ≤ cap) :
    0 < len → some x = some ⟨x.block, x.off, none⟩ ∧ ∀ j, j < len → w.cell? ⟨x.block, x.off + j, none⟩ = some (f j) := by
  intro h0
  have e0 := h 0 (by omega)
  have hx : x.add 0 = x := by simp [Addr.add]
  rw [hx] at e0
  have hp := plain_cell e0
  refine ⟨by rw [← hp], fun j hj => ?_⟩
  have := h j (by omega)
  rw [hp, add_none] at this
  exact this
end Go.Mi
