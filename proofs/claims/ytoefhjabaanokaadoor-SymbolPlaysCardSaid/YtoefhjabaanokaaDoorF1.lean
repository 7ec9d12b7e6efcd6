/- Rows of cells that a statement hands over, at plain addresses. General lemmas. -/
import Derived.Test.YtoefhjabaanokaaDoorB8
import Derived.Deep.Grids
set_option linter.unusedSimpArgs false
set_option linter.unusedVariables false
set_option linter.unnecessarySimpa false
namespace Go.Mi
theorem ol {w:World} {x:Addr} {v:Value} (h:w.cell? x=some v):x=⟨x.block,x.off,none⟩:=by
 obtain⟨b,o,s⟩:=x;cases s with
 |none=>rfl
 |some s=>
  unfold World.cell? at h;simp at h;split at h<;>simp at h
end Go.Mi
