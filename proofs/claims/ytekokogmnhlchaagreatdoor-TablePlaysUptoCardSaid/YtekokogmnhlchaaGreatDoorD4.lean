import Derived.Test.YtekokogmnhlchaaGreatDoorD2
set_option linter.unusedSimpArgs false
set_option linter.unusedVariables false
set_option linter.unusedSectionVars false
namespace Go.Proofs.YtekokogmnhlchaaGreatDoor
open Go.RowKit
def stepC (D : List Tb) (o : OpV) : List Tb := if o.k = 1 then creD D o.s else if o.k = 2 then insD D o.tb o.row else if o.k = 3 then updD D o.tb o.row else if o.k = 4 then delD D o.tb o.key else D
theorem runStep_eq (D : List Tb) (o : OpV) : runStep D o = stepC D (cut4 o) := rfl
end Go.Proofs.YtekokogmnhlchaaGreatDoor
