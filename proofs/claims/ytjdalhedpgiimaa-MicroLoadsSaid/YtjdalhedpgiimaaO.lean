/-
  What comes in, opened. Conditions: none.
-/
import Derived.Test.YtjdalhedpgiimaaT
namespace Go.Proofs.Ytjdalhedpgiimaa
open Go Go.RowKit Go.Proofs.Ytjdalhedpgiimaa.Gx Go.ChangeShapes Go.WideShapes Go.ChangeAt

end Go.Proofs.Ytjdalhedpgiimaa
