import Derived.Test.YtdmfanikejcgjaaYCH
namespace Go.Am
open Go Go.RowKit Go.Proofs
/-- The law at three numbers; the third one is told plus one. -/
noncomputable def chOne (a b f : Nat) : Bool := isT (F9 100 (CLV 100 1) (.int .i64 (.ofNat a)) (.int .i64 (.ofNat b)) (.int .i64 (Int.sub (.ofNat f) 1)) h00)
/-- All third numbers. -/
noncomputable def chTwo (a b : Nat) : Bool := allR 0 (.succ (Nat.add a b)) (chOne a b)
theorem ch0 : allR 0 8 (chTwo 0) = true := by kernel_rfl
theorem ch1 : allR 0 7 (chTwo 1) = true := by kernel_rfl
theorem ch2 : allR 0 6 (chTwo 2) = true := by kernel_rfl
end Go.Am
