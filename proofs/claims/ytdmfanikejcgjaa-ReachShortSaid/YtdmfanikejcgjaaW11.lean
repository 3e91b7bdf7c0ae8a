import Derived.Test.YtdmfanikejcgjaaW10
set_option linter.unusedSimpArgs false
set_option linter.unusedVariables false
namespace Go.Am
open Go Go.RowKit Go.Proofs

/-! ### the grammars of CycleUseless -/
def u1 (w : Nat) (e : Bool) (j : Nat) : Bool := !decide (j = w) || !e
def u2 (w : Nat) (e : Bool) (j : Nat) : Bool := decide (0 < j) && (!decide (j = w) || e)
def rulesU (w : Nat) (e : Bool) : Nat → List Rl
  | 0 => []
  | j + 1 => (rulesU w e j ++ if u1 w e j = true then [⟨(j : Int), [-1], 0⟩] else []) ++ if u2 w e j = true then [⟨0, [(j : Int), -1], 0⟩] else []
abbrev gU (w : Nat) (e : Bool) (N : Nat) : Gr := ⟨N, 1, 0, rulesU w e N, [], [], []⟩
theorem rulesU_len (w : Nat) (e : Bool) : ∀ j, (rulesU w e j).length ≤ 2 * j
  | 0 => Nat.le_refl _
  | j + 1 => by
    have := rulesU_len w e j
    unfold rulesU
    rw [List.length_append, List.length_append]
    split <;> split <;> simp <;> omega
theorem mem_rulesU {w : Nat} {e : Bool} {r : Rl} : ∀ {N : Nat}, r ∈ rulesU w e N ↔ ∃ j, j < N ∧ ((r = ⟨(j : Int), [-1], 0⟩ ∧ u1 w e j = true) ∨ (r = ⟨0, [(j : Int), -1], 0⟩ ∧ u2 w e j = true))
  | 0 => by simp [rulesU]
  | N + 1 => by
    unfold rulesU
    rw [List.mem_append, List.mem_append, mem_rulesU]
    constructor
    · rintro ((⟨j, hj, h⟩ | h) | h)
      · exact ⟨j, by omega, h⟩
      · split at h
        · rename_i hc; simp at h; exact ⟨N, by omega, .inl ⟨h, hc⟩⟩
        · simp at h
      · split at h
        · rename_i hc; simp at h; exact ⟨N, by omega, .inr ⟨h, hc⟩⟩
        · simp at h
    · rintro ⟨j, hj, h⟩
      by_cases e : j = N
      · subst e
        rcases h with ⟨h, hc⟩ | ⟨h, hc⟩
        · left; right; rw [if_pos hc]; simp [h]
        · right; rw [if_pos hc]; simp [h]
      · exact .inl (.inl ⟨j, by omega, h⟩)
theorem gU_rule {w : Nat} {e : Bool} {N : Nat} (h1 : 1 ≤ N) (h2 : N ≤ 20) {r : Rl} (hr : r ∈ rulesU w e N) : ruleEr (gU w e N) r = 0 := by
  obtain ⟨j, hj, ⟨rfl, _⟩ | ⟨rfl, _⟩⟩ := mem_rulesU.1 hr
  · have a1 : isName (N : Int) (j : Int) = true := isName_iff.2 ⟨by omega, by omega⟩
    have a3 : isKind 1 (-1) = true := by decide
    simp [ruleEr, a1, isSym, a3]
  · have a1 : isName (N : Int) (j : Int) = true := isName_iff.2 ⟨by omega, by omega⟩
    have a2 : isName (N : Int) 0 = true := isName_iff.2 ⟨by omega, by omega⟩
    have a3 : isKind 1 (-1) = true := by decide
    simp [ruleEr, a1, a2, isSym, a3]
theorem gU_good {w : Nat} {e : Bool} {N : Nat} (h1 : 1 ≤ N) (h2 : N ≤ 20) : goodB (gU w e N) = true := by
  have hl := rulesU_len w e N
  have a2 : isName (N : Int) 0 = true := isName_iff.2 ⟨by omega, by omega⟩
  have hw : wholeE (gU w e N) = 0 := by
    unfold wholeE
    rw [if_neg (by simp; omega)]
    simp [a2, classesB]
  have hf : (rulesU w e N).findIdx? (fun r => decide (ruleEr (gU w e N) r ≠ 0)) = none := by
    rw [List.findIdx?_eq_none_iff]
    intro r hr
    simp [gU_rule h1 h2 hr]
  unfold goodB formE
  rw [if_neg (by simp [hw]), hf]
  simp
theorem gU_in {w : Nat} {e : Bool} {N : Nat} (h1 : 1 ≤ N) (h2 : N ≤ 20) : GIn (gU w e N) := by
  have hl := rulesU_len w e N
  have hr : ∀ r ∈ rulesU w e N, inR r.left ∧ inR r.dyn ∧ (∀ s ∈ r.right, inR s) ∧ r.right.length < 9223372036854775808 := by
    intro r hr
    obtain ⟨j, hj, ⟨rfl, _⟩ | ⟨rfl, _⟩⟩ := mem_rulesU.1 hr
    · refine ⟨⟨by show _ ≤ (j : Int); omega, by show (j : Int) < _; omega⟩, by simp [inR], fun s hs => ?_, by simp⟩
      simp at hs; subst hs; simp [inR]
    · refine ⟨by simp [inR], by simp [inR], fun s hs => ?_, by simp⟩
      simp at hs
      rcases hs with rfl | rfl
      · unfold inR; omega
      · simp [inR]
  exact ⟨by simp only [inR]; omega, by simp [inR], by simp [inR], by show (rulesU w e N).length < _; omega, by simp, by simp, by simp, fun r h => (hr r h).1, fun r h => (hr r h).2.1, fun r h => (hr r h).2.2.1, fun r h => (hr r h).2.2.2, fun f h => by simp at h⟩

/-! ### what runs round by round -/
theorem fold_false {g : Gr} : ∀ {rs : List Rl} {out : List Int} {b : Bool}, (rs.foldl (stepS g) (out, b)).2 = false →
    b = false ∧ (rs.foldl (stepS g) (out, b)).1 = out ∧ ∀ r ∈ rs, ¬ (longF g out 0 r.right ≠ -1 ∧ (out.getD r.left.toNat 0 = -1 ∨ longF g out 0 r.right < out.getD r.left.toNat 0))
  | [], out, b, h => ⟨h, rfl, by simp⟩
  | r :: rs, out, b, h => by
    rw [List.foldl_cons] at h ⊢
    by_cases hc : longF g out 0 r.right ≠ -1 ∧ (out.getD r.left.toNat 0 = -1 ∨ longF g out 0 r.right < out.getD r.left.toNat 0)
    · have e : stepS g (out, b) r = (out.set r.left.toNat (longF g out 0 r.right), true) := by simp only [stepS]; rw [if_pos hc]
      rw [e] at h
      have := (fold_false h).1
      cases this
    · have e : stepS g (out, b) r = (out, b) := by simp only [stepS]; rw [if_neg hc]
      rw [e] at h ⊢
      obtain ⟨h1, h2, h3⟩ := fold_false h
      refine ⟨h1, h2, fun q hq => ?_⟩
      rcases List.mem_cons.1 hq with rfl | hq
      · exact hc
      · exact h3 q hq
theorem Runs.fix {g : Gr} {out res : List Int} (h : Runs g out res) : ∀ r ∈ g.rules, ¬ (longF g res 0 r.right ≠ -1 ∧ (res.getD r.left.toNat 0 = -1 ∨ longF g res 0 r.right < res.getD r.left.toNat 0)) := by
  induction h with
  | @stop out h =>
    obtain ⟨_, h2, h3⟩ := fold_false (b := false) h
    have e : (roundS g out).1 = out := h2
    rw [e]; exact h3
  | more _ _ ih => exact ih
theorem fold_keep {g : Gr} {w : Nat} : ∀ {rs : List Rl} {out : List Int} {b : Bool}, (∀ r ∈ rs, r.left.toNat ≠ w) → (rs.foldl (stepS g) (out, b)).1[w]? = out[w]?
  | [], out, b, h => rfl
  | r :: rs, out, b, h => by
    rw [List.foldl_cons]
    have hr := h r (.head _)
    have ht : ∀ q ∈ rs, q.left.toNat ≠ w := fun q hq => h q (.tail _ hq)
    by_cases hc : longF g out 0 r.right ≠ -1 ∧ (out.getD r.left.toNat 0 = -1 ∨ longF g out 0 r.right < out.getD r.left.toNat 0)
    · have e : stepS g (out, b) r = (out.set r.left.toNat (longF g out 0 r.right), true) := by simp only [stepS]; rw [if_pos hc]
      rw [e, fold_keep ht, List.getElem?_set_ne hr]
    · have e : stepS g (out, b) r = (out, b) := by simp only [stepS]; rw [if_neg hc]
      rw [e, fold_keep ht]
theorem Runs.keep {g : Gr} {out res : List Int} {w : Nat} (h : Runs g out res) (hw : ∀ r ∈ g.rules, r.left.toNat ≠ w) : res[w]? = out[w]? := by
  induction h with
  | stop _ => exact fold_keep hw
  | more _ _ ih => rw [ih]; exact fold_keep hw

theorem gU_reach {w : Nat} {e : Bool} {N i : Nat} (hi : i < N) (hN : N ≤ 20) (hw : i ≠ w) : Reach (gU w e N) i := by
  by_cases h0 : i = 0
  · subst h0; exact .start
  · refine .step (r := ⟨0, [(i : Int), -1], 0⟩) (mem_rulesU.2 ⟨i, hi, .inr ⟨rfl, by simp [u2, hw]; omega⟩⟩) .start (.head _) (isName_iff.2 ⟨by omega, by show (i : Int) < N; omega⟩)
theorem gU_noreach {w N : Nat} (hw : 1 ≤ w) : ¬ Reach (gU w false N) w := by
  have key : ∀ s, Reach (gU w false N) s → s ≠ w := by
    intro s hs
    cases hs with
    | start => show (0 : Int) ≠ w; omega
    | step hr _ hm hn =>
      obtain ⟨j, hj, ⟨rfl, _⟩ | ⟨rfl, hu⟩⟩ := mem_rulesU.1 hr
      · simp at hm; subst hm; omega
      · simp at hm
        rcases hm with rfl | rfl
        · simp [u2] at hu; omega
        · omega
  exact fun h => key _ h rfl
theorem gU_prod {w : Nat} {e : Bool} {N i : Nat} (hi : i < N) (hw : i ≠ w) {res : List Int} (h : Runs (gU w e N) (none1 (gU w e N)) res) : res[i]? ≠ some (-1) := by
  intro hc
  have := h.fix ⟨(i : Int), [-1], 0⟩ (mem_rulesU.2 ⟨i, hi, .inl ⟨rfl, by simp [u1, hw]⟩⟩)
  have e1 : isName (gU w e N).names (-1) = false := by simp [isName]
  have e2 : longF (gU w e N) res 0 [-1] = 1 := by simp [longF, e1]
  rw [e2] at this
  exact this ⟨by decide, .inl (by simpa using getD_of hc)⟩
theorem gU_noprod {w N : Nat} (hw : 1 ≤ w) (hN : w < N) {res : List Int} (h : Runs (gU w true N) (none1 (gU w true N)) res) : res[w]? = some (-1) := by
  rw [h.keep (w := w)]
  · show (List.replicate _ _)[w]? = _
    rw [List.getElem?_replicate, if_pos (by show w < ((N : Int)).toNat; omega)]
  · intro r hr
    obtain ⟨j, hj, ⟨rfl, hu⟩ | ⟨rfl, hu⟩⟩ := mem_rulesU.1 hr
    · simp [u1] at hu
      show ((j : Int)).toNat ≠ w
      omega
    · show ((0 : Int)).toNat ≠ w
      simp; omega
end Go.Am
