import Derived.Test.YtlombbiepbficaaIR1
import Derived.Test.YtlombbiepbficaaZX
set_option linter.unusedSimpArgs false
namespace Go.Am
open Go Go.RowKit Go.Proofs
theorem law (a : Int) : ∃ k, F3 NN (CLV NN 3) (.int .i64 a) h00 = some (.bool true, k) := by
  by_cases h1 : a < 0
  · refine ⟨h00, ?_⟩
    unfold F3
    rw [ir_alive]
    simp [h1]
  by_cases h2 : 8 < a
  · refine ⟨h00, ?_⟩
    unfold F3
    rw [ir_alive]
    simp [h1, h2]
  obtain ⟨m, rfl⟩ : ∃ m : Nat, a = (m : Int) := ⟨a.toNat, by omega⟩
  exact isT_ok (allR_ok ir_all m (Nat.zero_le _) (by omega))
end Go.Am
