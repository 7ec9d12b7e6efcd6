/- From the rows of numbers that a statement hands over to what the walks ask. -/
import Derived.Test.YthnkcocemlcpgaaA8
import GoSem.Claim
namespace Go.Mi
abbrev RowOr (k : IntKind) (w : World) (a : Option Addr) (len cap : Nat) (zs : List Int) : Prop :=
  (a = none ∧ len = 0 ∧ cap = 0 ∧ zs = []) ∨
  ∃ x, a = some x ∧ len ≤ cap ∧ cap ≤ maxLen ∧ zs.length = cap ∧ (∀ i, i < zs.length → w.cell? (x.add i) = some (.int k (zs.getD i 0))) ∧ ∀ n ∈ zs, (Lit.int k n).wf = true
theorem sl_row {k : IntKind} {w : World} {a : Option Addr} {len cap : Nat} {zs : List Int} (h : RowOr k w a len cap zs) : Sl w a len k fun j => zs.getD j 0 := by
  rcases h with ⟨_, rfl, _⟩ | ⟨x, rfl, h1, _, h3, h4, _⟩
  · exact ⟨.inl rfl⟩
  · by_cases h0 : len = 0
    · exact ⟨.inl h0⟩
    · obtain ⟨b, o, s⟩ := x
      have hc := h4 0 (by omega)
      have hs : s = none := by
        cases s with
        | none => rfl
        | some s =>
          unfold World.cell? Addr.add at hc
          simp only [if_true, Option.isSome_some] at hc
          split at hc <;> simp at hc
      subst hs
      refine ⟨.inr ⟨b, o, rfl, fun j hj => ?_⟩⟩
      rw [← add_none]
      exact h4 j (by omega)
theorem sl_len {k : IntKind} {w : World} {a : Option Addr} {len cap : Nat} {zs : List Int} (h : RowOr k w a len cap zs) : len ≤ 9223372036854775807 := by
  rcases h with ⟨_, rfl, _⟩ | ⟨x, rfl, h1, h2, _⟩
  · omega
  · unfold maxLen at h2; omega
theorem sl_mem {k : IntKind} {w : World} {a : Option Addr} {len cap : Nat} {zs : List Int} (h : RowOr k w a len cap zs) : ∀ j, j < len → (Lit.int k (zs.getD j 0)).wf = true := by
  rcases h with ⟨_, rfl, _⟩ | ⟨x, rfl, h1, _, h3, _, h5⟩
  · intro j hj; omega
  · intro j hj
    have : j < zs.length := by omega
    rw [List.getD_eq_getElem?_getD, List.getElem?_eq_getElem this]
    exact h5 _ (List.getElem_mem _)
theorem sl_u16 {w : World} {a : Option Addr} {len cap : Nat} {zs : List Int} (h : RowOr .u16 w a len cap zs) : ∀ j, j < len → 0 ≤ zs.getD j 0 ∧ zs.getD j 0 < 65536 := by
  intro j hj
  have := sl_mem h j hj
  simp [Lit.wf, IntKind.min, IntKind.max, IntKind.bits, IntKind.signed] at this
  simp
  omega
theorem sl_u8 {w : World} {a : Option Addr} {len cap : Nat} {zs : List Int} (h : RowOr .u8 w a len cap zs) : ∀ j, j < len → 0 ≤ zs.getD j 0 ∧ zs.getD j 0 < 256 := by
  intro j hj
  have := sl_mem h j hj
  simp [Lit.wf, IntKind.min, IntKind.max, IntKind.bits, IntKind.signed] at this
  simp
  omega
end Go.Mi
