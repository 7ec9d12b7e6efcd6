/- What the library's contracts give. -/
import Derived.Test.YtoefhjabaanokaaDoorH6
import Derived.Test.YtoefhjabaanokaaDoorShelf
namespace Go.Mi.Term
open Go.Mi Go.Proofs Go.RowKit
theorem map_bs (l : List Tx) : (l.map bs).map (fun b => b.data.toList) = l := by
  rw [List.map_map]
  have : ((fun b : ByteArray => b.data.toList) ∘ bs) = id := by funext x; simp [bs]
  rw [this, List.map_id]
theorem joinOk : JoinOk := by
  intro lv g c l w hlv hg hc hat hlen
  subst hlv
  have hl47 : l.length ≤ 140737488355328 := by
    cases l with
    | nil => simp
    | cons x r =>
      have h1 := Lib.join_length x r [44]
      simp only [List.length_cons, List.length_nil] at h1 ⊢
      omega
  have h := Tryd.strings_Join g 0 c (l.map bs) (bs [44]) w (fun j x hj => hat j _ (by rw [List.getElem?_map] at hj ⊢; cases hl : l[j]? with
    | none => rw [hl] at hj; simp at hj
    | some y => rw [hl] at hj; simp at hj; subst hj; rfl)) hg (by rw [List.length_map]; exact hl47) (by rw [List.length_map]; exact hc) (by rw [map_bs]; simp only [bs]; omega)
  rw [List.length_map, map_bs] at h
  exact h.mono fun e w' ⟨he, hb⟩ => ⟨_, he, rfl, hb⟩
theorem itOk_small {n : Nat} (h : n < 100) : ItOk (fun _ => True) n := by
  refine ⟨fun w _ => ?_, ?_⟩
  · exact (Tryd.strconv_Itoa_small n h w).mono fun e w' ⟨he, hw⟩ => ⟨_, he, by rw [Lib.itoa_nonneg]; rfl, hw ▸ Below.refl _ _⟩
  · have : ∀ n : Nat, n < 100 → (Lib.itoa (n : Int)).length ≤ 1000 := by decide +kernel
    exact this n h
end Go.Mi.Term
