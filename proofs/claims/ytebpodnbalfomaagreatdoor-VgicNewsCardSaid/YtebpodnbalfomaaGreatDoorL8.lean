import Derived.Test.YtebpodnbalfomaaGreatDoorL7
namespace Go.Proofs.YtebpodnbalfomaaGreatDoor.Sl
open Go Go.RowKit
set_option linter.unusedVariables false
set_option linter.unusedSimpArgs false
section
variable {P : Program} {β : Base} {cx : Cx} {rnd : Option (Nat × Loop)} {N : Nat} {env : Env} {L : List Atom} {T : TT}
end
end Go.Proofs.YtebpodnbalfomaaGreatDoor.Sl

