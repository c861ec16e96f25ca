/- DiskNames: the call answers true: the numbers of the errors and the limits are those that the document tells. Conditions: none. -/
import Derived.Test.YtheohhnenjmacaaPDiskNamesx1
namespace Go.Proofs.Ytheohhnenjmacaa.Pure
open Go.RowKit Go.Proofs.Ytheohhnenjmacaa.PDiskNames Go.Proofs.YtheohhnenjmacaaW.PrintWords Go.Proofs.YtheohhnenjmacaaW.PrintLast

theorem DiskNames : gantrylaw07_DiskNames.Pure := by
  rfl

end Go.Proofs.Ytheohhnenjmacaa.Pure
