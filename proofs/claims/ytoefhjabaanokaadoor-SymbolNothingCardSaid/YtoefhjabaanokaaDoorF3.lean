/- Acts that a statement hands over, as they lie on the heap. General lemmas. -/
import Derived.Test.YtoefhjabaanokaaDoorF1
import Derived.Test.YtoefhjabaanokaaDoorH35
import Derived.ChangeArms
set_option linter.unusedSimpArgs false
set_option linter.unusedVariables false
set_option linter.unnecessarySimpa false
namespace Go.Mi.Term
open Go.Mi Go.Proofs Go.RowKit
section
variable {H : Type} {enc : TypeId × Value → H} {w : World} {base : Nat} {held : Bool}
theorem acLen {α : Type} {l : List α} (h : l.length = 3) : ∃ a b c, l = [a, b, c] := by
 match l, h with
 | [a, b, c], _ => exact ⟨a, b, c, rfl⟩
theorem open_ac {fuel : Nat} {cs : List Value} {x : DataW H × List MemPlace} (h : DataW.trod enc Tryd.prog w base (fun _ => true) held fuel 52 cs = some x) : ∃ a : Ac, cs = acv a := by
 obtain ⟨xs, n, rfl, _, hl, hxl, hf⟩ := DataW.trod_struct Tryd.underlying52 h
 have hc : Tryd.prog.cellsOf 52 = 3 := by kernel_rfl
 have hc3 : Tryd.prog.cellsOf 3 = 1 := by kernel_rfl
 have hc4 : Tryd.prog.cellsOf 4 = 1 := by kernel_rfl
 rw [hc] at hl
 obtain ⟨a, b, c, rfl⟩ := acLen hl
 have f0 : DataW.trod enc Tryd.prog w base (fun _ => true) held n 3 (([a, b, c].drop 0).take (Tryd.prog.cellsOf 3)) = xs[0]? := hf 0 _ rfl
 have f1 : DataW.trod enc Tryd.prog w base (fun _ => true) held n 3 (([a, b, c].drop 1).take (Tryd.prog.cellsOf 3)) = xs[1]? := hf 1 _ rfl
 have f2 : DataW.trod enc Tryd.prog w base (fun _ => true) held n 4 (([a, b, c].drop 2).take (Tryd.prog.cellsOf 4)) = xs[2]? := hf 2 _ rfl
 have hxl : xs.length = 3 := hxl
 rw [List.getElem?_eq_getElem (by omega)] at f0 f1 f2
 simp only [hc3, hc4, List.drop_zero, List.drop_succ_cons, List.take_succ_cons, List.take_zero] at f0 f1 f2
 obtain ⟨k, hk, _, _⟩ := DataW.trod_int Tryd.underlying3 f0
 obtain ⟨u, hu, _, _⟩ := DataW.trod_int Tryd.underlying3 f1
 obtain ⟨q, hq, _⟩ := DataW.trod_bool Tryd.underlying4 f2
 cases hk
 cases hu
 cases hq
 exact ⟨⟨k, u, q⟩, rfl⟩
end
end Go.Mi.Term
