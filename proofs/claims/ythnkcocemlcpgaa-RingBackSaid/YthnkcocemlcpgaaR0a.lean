/- What the laws of ring use besides. -/
import Derived.Test.YthnkcocemlcpgaaR0e
import Derived.Test.YthnkcocemlcpgaaR4
import Derived.Test.YthnkcocemlcpgaaA8
namespace Go.Mi.Ring
open Go.Mi Go.Proofs
theorem poly_any {ad : Option Addr} {n cp : Nat} {X : Nat → Int} (hn : n ≤ 256) {w0 : World} (hs : Sl w0 ad n .u16 X) (hx : ∀ j, j < n → 0 ≤ X j ∧ X j < 65536) :
    Calls Try.prog 10 (List.toArray [.slice ad n cp]) w0 (Ret fun v w' => v = .tuple #[.agg (cl .u16 256 (pl n X)), .agg (cl .u16 256 (pl n X))] ∧ Gr w0 w') := by
  by_cases h0 : n = 0
  · subst h0
    exact poly0_calls ad cp X w0
  · rcases hs.h with h | ⟨b, o, rfl, h⟩
    · exact absurd h h0
    · exact poly_calls (by omega) hn h hx
theorem pl_u {n : Nat} {X : Nat → Int} (hx : ∀ j, j < n → 0 ≤ X j ∧ X j < 65536) : U16 (pl n X) := by
  intro i hi
  unfold pl
  split
  · omega
  · split
    · exact hx i (by assumption)
    · omega
theorem is_self (F : Nat → Int) (w0 : World) : Calls Try.prog 13 (List.toArray [.agg (cl .u16 256 F), .agg (cl .u16 256 F)]) w0 (Ret fun v w' => v = .bool true ∧ Gr w0 w') := by
  have h := is_calls F F w0
  rw [sIs_of (fun _ _ => rfl)] at h
  exact h
theorem is_true {F G : Nat → Int} (e : ∀ i, i < 256 → F i = G i) (w0 : World) : Calls Try.prog 13 (List.toArray [.agg (cl .u16 256 F), .agg (cl .u16 256 G)]) w0 (Ret fun v w' => v = .bool true ∧ Gr w0 w') := by
  have h := is_calls F G w0
  rw [sIs_of e] at h
  exact h
def e0 : Nat → Int := upd (fun _ => 0) 0 1
theorem e0_u : U16 e0 := by
  intro i _
  simp only [e0, upd]
  split <;> omega
theorem e0_enc0 : enc 1 e0 0 = 1 := by decide +kernel
theorem e0_enc1 : enc 1 e0 1 = 0 := by decide +kernel
theorem e0_ntt0 : sNTT e0 0 = 1 := by decide +kernel
theorem e0_ntt1 : sNTT e0 1 = 0 := by decide +kernel
end Go.Mi.Ring
