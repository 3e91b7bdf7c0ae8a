import Derived.Test.YtdmfanikejcgjaaRD1
namespace Go.Am
open Go Go.RowKit Go.Proofs
theorem rd4 : allR 31 4 rdAt = true := by kernel_rfl
theorem rd5 : allR 35 3 rdAt = true := by kernel_rfl
theorem rd6 : allR 38 3 rdAt = true := by kernel_rfl
end Go.Am
