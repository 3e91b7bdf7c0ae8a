import Derived.Test.YtdmfanikejcgjaaRD2
import Derived.Test.YtdmfanikejcgjaaX9
namespace Go.Am
open Go Go.RowKit Go.Proofs
theorem rd_alive : pcall (F10 100 (CLV 100 1) h00.fzn) = some (.bool true) := by kernel_rfl
theorem law (a : Int) : ∃ k, F3 100 (CLV 100 1) (.int .i64 a) h00 = some (.bool true, k) := by
  by_cases h1 : a < 1
  · refine ⟨h00, ?_⟩
    unfold F3
    rw [rd_alive]
    simp [h1]
  by_cases h2 : 40 < a
  · refine ⟨h00, ?_⟩
    unfold F3
    rw [rd_alive]
    simp [h1, h2]
  obtain ⟨m, rfl⟩ : ∃ m : Nat, a = .ofNat m := ⟨a.toNat, by simp; omega⟩
  have h1 : 1 ≤ m := by simp at h1; omega
  have h2 : m ≤ 40 := by simp at h2; omega
  refine isT_ok (show rdAt m = true from ?_)
  by_cases h3 : m < 21; · exact allR_ok rd1 m h1 (by omega)
  by_cases h4 : m < 27; · exact allR_ok rd2 m (by omega) (by omega)
  by_cases h5 : m < 31; · exact allR_ok rd3 m (by omega) (by omega)
  by_cases h6 : m < 35; · exact allR_ok rd4 m (by omega) (by omega)
  by_cases h7 : m < 38; · exact allR_ok rd5 m (by omega) (by omega)
  exact allR_ok rd6 m (by omega) (by omega)
end Go.Am
