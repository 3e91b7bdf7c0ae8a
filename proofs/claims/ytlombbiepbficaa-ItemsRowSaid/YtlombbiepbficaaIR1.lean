import Derived.Test.YtlombbiepbficaaYI
set_option maxRecDepth 100000
namespace Go.Am
open Go Go.RowKit Go.Proofs
abbrev NN : Nat := 9223372036854775808
theorem ir_alive : pcall (F4 NN (CLV NN 3) h00.fzn) = some (.bool true) := by kernel_rfl
theorem ir_all : allR 0 9 (fun m => isT (F3 NN (CLV NN 3) (vN m) h00)) = true := by kernel_rfl
end Go.Am
