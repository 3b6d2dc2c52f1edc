/-
  Which package-level variables are known, and what they hold: left open.
-/
import Derived.Test.YtmohncaoimeneaaDoorAv
namespace Go.Proofs.YtmohncaoimeneaaDoor.AL
open Go

class Globs where
  l : List (Nat × (Array Value → Prop))

end Go.Proofs.YtmohncaoimeneaaDoor.AL
