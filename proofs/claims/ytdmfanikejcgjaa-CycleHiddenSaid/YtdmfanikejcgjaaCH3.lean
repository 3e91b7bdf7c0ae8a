import Derived.Test.YtdmfanikejcgjaaCH2
import Derived.Test.YtdmfanikejcgjaaX9
namespace Go.Am
open Go Go.RowKit Go.Proofs
theorem ch_alive : pcall (F21 100 (CLV 100 1) h00.fzn) = some (.bool true) := by kernel_rfl
theorem wf_i64 {a : Int} (h : (Lit.int .i64 a).wf = true) : -9223372036854775808 ≤ a ∧ a < 9223372036854775808 := by
  simp [Lit.wf, IntKind.min, IntKind.max, IntKind.signed, IntKind.bits] at h
  omega
theorem wrap_big {x : Int} (h0 : 9223372036854775808 ≤ x) (h1 : x < 18446744073709551616) : IntKind.i64.wrap x = x - 18446744073709551616 := by
  simp only [IntKind.wrap, IntKind.signed, IntKind.bits]
  simp
  omega
theorem law (a b f : Int) (wa : (Lit.int .i64 a).wf = true) (wb : (Lit.int .i64 b).wf = true) (wf : (Lit.int .i64 f).wf = true) : ∃ k, F9 100 (CLV 100 1) (.int .i64 a) (.int .i64 b) (.int .i64 f) h00 = some (.bool true, k) := by
  have wa := wf_i64 wa
  have wb := wf_i64 wb
  have wf := wf_i64 wf
  by_cases h1 : a < 0
  · refine ⟨h00, ?_⟩
    unfold F9
    rw [ch_alive]
    simp [h1]
  by_cases h2 : b < 0
  · refine ⟨h00, ?_⟩
    unfold F9
    rw [ch_alive]
    simp [h1, h2]
  by_cases h3 : f < -1
  · refine ⟨h00, ?_⟩
    unfold F9
    rw [ch_alive]
    by_cases h4 : 7 < IntKind.i64.wrap (a + b)
    · simp [h1, h2, h4]
    · simp [h1, h2, h4, h3]
  by_cases h4 : 7 < a + b
  · refine ⟨h00, ?_⟩
    unfold F9
    rw [ch_alive]
    by_cases h5 : a + b < 9223372036854775808
    · have : IntKind.i64.wrap (a + b) = a + b := wrap_in (by omega) h5
      simp [h1, h2, this, h4]
    · have : IntKind.i64.wrap (a + b) = a + b - 18446744073709551616 := wrap_big (by omega) (by omega)
      have h6 : ¬ 7 < a + b - 18446744073709551616 := by omega
      have h7 : a + b - 18446744073709551616 ≤ f := by omega
      simp [h1, h2, this, h6, h3, h7]
  have hw : IntKind.i64.wrap (a + b) = a + b := wrap_in (by omega) (by omega)
  by_cases h5 : a + b ≤ f
  · refine ⟨h00, ?_⟩
    unfold F9
    rw [ch_alive]
    simp [h1, h2, hw, h4, h3, h5]
  obtain ⟨x, rfl⟩ : ∃ m : Nat, a = .ofNat m := ⟨a.toNat, by simp; omega⟩
  obtain ⟨y, rfl⟩ : ∃ m : Nat, b = .ofNat m := ⟨b.toNat, by simp; omega⟩
  obtain ⟨z, rfl⟩ : ∃ m : Nat, f = Int.sub (.ofNat m) 1 := ⟨(f + 1).toNat, by show f = ((f + 1).toNat : Int) - 1; omega⟩
  have h4 : x + y ≤ 7 := by simp at h4; omega
  have h5 : z < x + y + 1 := by
    have : ¬ (Int.ofNat x + Int.ofNat y ≤ (z : Int) - 1) := h5
    simp at this; omega
  refine isT_ok (show chOne x y z = true from ?_)
  have key : ∀ (n m : Nat), allR 0 m (chTwo n) = true → n + m = 8 → x = n → chOne x y z = true := by
    rintro n m hn hy rfl
    have h6 : chTwo x y = true := allR_ok hn y (Nat.zero_le _) (by omega)
    exact allR_ok h6 z (Nat.zero_le _) (by show z < 0 + Nat.succ (x + y); omega)
  have hx : x = 0 ∨ x = 1 ∨ x = 2 ∨ x = 3 ∨ x = 4 ∨ x = 5 ∨ x = 6 ∨ x = 7 := by omega
  rcases hx with e | e | e | e | e | e | e | e
  · exact key 0 8 ch0 rfl e
  · exact key 1 7 ch1 rfl e
  · exact key 2 6 ch2 rfl e
  · exact key 3 5 ch3 rfl e
  · exact key 4 4 ch4 rfl e
  · exact key 5 3 ch5 rfl e
  · exact key 6 2 ch6 rfl e
  · exact key 7 1 ch7 rfl e
end Go.Am
