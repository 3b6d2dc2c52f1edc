/-
  The package-level variables that are known: none.
-/
import Derived.Test.YtlogcpcdkhmjoaaDoorAv
namespace Go.Proofs.YtlogcpcdkhmjoaaDoor.AL
open Go

def globs : List (Nat × Nat × (Nat → AV)) := []

end Go.Proofs.YtlogcpcdkhmjoaaDoor.AL
