/-
  Which package-level variables are known, and what they hold: left open.
-/
import Derived.Test.YtlogcpcdkhmjoaaDoorAv
namespace Go.Proofs.YtlogcpcdkhmjoaaDoor.AL
open Go

class Globs where
  l : List (Nat × (Array Value → Prop))

end Go.Proofs.YtlogcpcdkhmjoaaDoor.AL
