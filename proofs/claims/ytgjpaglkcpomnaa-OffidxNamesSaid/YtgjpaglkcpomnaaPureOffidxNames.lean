/- OffidxNames: the call answers true: the numbers of the errors and of an entry's size are those that the document tells. Conditions: none. -/
import Derived.Test.YtgjpaglkcpomnaaPOffidxNamesx1
namespace Go.Proofs.Ytgjpaglkcpomnaa.Pure
open Go.RowKit Go.Proofs.Ytgjpaglkcpomnaa.POffidxNames Go.Proofs.YtgjpaglkcpomnaaW.PrintWords Go.Proofs.YtgjpaglkcpomnaaW.PrintLast

theorem OffidxNames : gantrylaw10_OffidxNames.Pure := by
  rfl

end Go.Proofs.Ytgjpaglkcpomnaa.Pure
