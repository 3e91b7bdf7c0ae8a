import Derived.Test.YtdmfanikejcgjaaCH1
namespace Go.Am
open Go Go.RowKit Go.Proofs
theorem ch3 : allR 0 5 (chTwo 3) = true := by kernel_rfl
theorem ch4 : allR 0 4 (chTwo 4) = true := by kernel_rfl
theorem ch5 : allR 0 3 (chTwo 5) = true := by kernel_rfl
theorem ch6 : allR 0 2 (chTwo 6) = true := by kernel_rfl
theorem ch7 : allR 0 1 (chTwo 7) = true := by kernel_rfl
end Go.Am
