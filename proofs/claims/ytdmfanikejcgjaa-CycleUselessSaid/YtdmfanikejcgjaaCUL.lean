import Derived.Test.YtdmfanikejcgjaaW12
set_option linter.unusedSimpArgs false
set_option linter.unusedVariables false
namespace Go.Am
open Go Go.RowKit Go.Proofs
instance okH00 : OkH h00 := ⟨Nat.le_refl _, rfl⟩
abbrev NN : Nat := 4611686018427387904
theorem cu_alive : pcall (F21 NN (CLV NN 1) h00.fzn) = some (.bool true) := by kernel_rfl
theorem law (a b : Int) (e : Bool) : ∃ k, F8 NN (CLV NN 1) (.int .i64 a) (.int .i64 b) (.bool e) h00 = some (.bool true, k) := by
  by_cases h1 : a < 2
  · refine ⟨h00, ?_⟩
    unfold F8
    rw [cu_alive]
    simp [h1]
  by_cases h2 : 20 < a
  · refine ⟨h00, ?_⟩
    unfold F8
    rw [cu_alive]
    simp [h1, h2]
  by_cases h3 : b < 1
  · refine ⟨h00, ?_⟩
    unfold F8
    rw [cu_alive]
    simp [h1, h2, h3]
  by_cases h4 : a ≤ b
  · refine ⟨h00, ?_⟩
    unfold F8
    rw [cu_alive]
    simp [h1, h2, h3, h4]
  obtain ⟨N, rfl⟩ : ∃ m : Nat, a = (m : Int) := ⟨a.toNat, by omega⟩
  obtain ⟨w, rfl⟩ : ∃ m : Nat, b = (m : Int) := ⟨b.toNat, by omega⟩
  have key : Ret (F8_11 NN (CLV NN 1) (.int .i64 N) (.int .i64 w) (.bool e) h00) fun v _ => v = .bool true := by
    show Ret (F8_11 NN (CLs NN CNo) _ _ _ _) _
    unfold F8_11
    simp only [vN_eq]
    refine Ret.vb ab27 ?_
    refine Ret.salloc (St.start _) z27 fun h2 b2 s2 => ?_
    refine Ret.sstA s2 (i := 0) rfl rfl (Nat.le_refl _) rfl fun h3 s3 => ?_
    exact loop8 (h0 := h00) (ex := []) (rvv := nils) (by decide) (by omega) (by omega) (by omega) (by omega) N 0 NN h3 (by omega) (by show N < 4611686018427387904; omega) (.inl ⟨rfl, rfl, s3⟩)
  obtain ⟨v, k, hk, rfl⟩ := key
  refine ⟨k, ?_⟩
  unfold F8
  rw [cu_alive]
  simp [h1, h2, h3, h4]
  exact hk
end Go.Am
