import Derived.Test.YtdmfanikejcgjaaYRD
namespace Go.Am
open Go Go.RowKit Go.Proofs
/-- The law at a number. -/
noncomputable def rdAt (m : Nat) : Bool := isT (F3 100 (CLV 100 1) (.int .i64 (.ofNat m)) h00)
theorem rd1 : allR 1 20 rdAt = true := by kernel_rfl
theorem rd2 : allR 21 6 rdAt = true := by kernel_rfl
theorem rd3 : allR 27 4 rdAt = true := by kernel_rfl
end Go.Am
