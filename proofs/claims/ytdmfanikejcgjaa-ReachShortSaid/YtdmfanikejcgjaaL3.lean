import Derived.Test.YtdmfanikejcgjaaW11
set_option linter.unusedSimpArgs false
set_option linter.unusedVariables false
namespace Go.Am
open Go Go.Proofs

/-! ### the lengths that are told are those of rules -/
/-- No length is greater than ahead. -/
def Sink (o' o : List Int) : Prop := ∀ i : Nat, o.getD i 0 ≠ -1 → o'.getD i 0 ≠ -1 ∧ o'.getD i 0 ≤ o.getD i 0
theorem longF_sink {g : Gr} {o' o : List Int} (hs : Sink o' o) : ∀ (l : List Int) (n' n : Int), n' ≤ n → longF g o n l ≠ -1 → longF g o' n' l ≠ -1 ∨ longF g o' n' l < 0 → longF g o' n' l ≤ longF g o n l
  | [], n', n, h, _, _ => by simp only [longF]; split <;> split <;> omega
  | s :: l, n', n, h, h1, h2 => by
    simp only [longF] at h1 h2 ⊢
    split
    · rename_i hn
      rw [if_pos hn] at h1 h2
      by_cases ho : o.getD s.toNat 0 = -1
      · rw [if_pos ho] at h1; exact absurd rfl h1
      · obtain ⟨a, b⟩ := hs s.toNat ho
        rw [if_neg ho] at h1 ⊢
        rw [if_neg a] at h2 ⊢
        exact longF_sink hs l _ _ (by omega) h1 h2
    · rename_i hn
      rw [if_neg hn] at h1 h2
      exact longF_sink hs l _ _ (by omega) h1 h2
theorem longF_some {g : Gr} {o' o : List Int} (hs : Sink o' o) (ht : ∀ i : Nat, -1 ≤ o'.getD i 0) (ht2 : ∀ i : Nat, -1 ≤ o.getD i 0) : ∀ (l : List Int) (n' n : Int), 0 ≤ n' → 0 ≤ n → longF g o n l ≠ -1 → longF g o' n' l ≠ -1
  | [], n', n, h', h, _ => by simp only [longF]; split <;> omega
  | s :: l, n', n, h', h, h1 => by
    simp only [longF] at h1 ⊢
    split
    · rename_i hn
      rw [if_pos hn] at h1
      by_cases ho : o.getD s.toNat 0 = -1
      · rw [if_pos ho] at h1; exact absurd rfl h1
      · obtain ⟨a, b⟩ := hs s.toNat ho
        have := ht s.toNat
        have := ht2 s.toNat
        rw [if_neg ho] at h1
        rw [if_neg a]
        exact longF_some hs ht ht2 l _ _ (by omega) (by omega) h1
    · rename_i hn
      rw [if_neg hn] at h1
      exact longF_some hs ht ht2 l _ _ (by omega) (by omega) h1
/-- Each length is no less than that of some rule. -/
def Met (g : Gr) (o : List Int) : Prop := ∀ a : Nat, a < o.length → o.getD a 0 ≠ -1 → ∃ r ∈ g.rules, r.left.toNat = a ∧ longF g o 0 r.right ≠ -1 ∧ longF g o 0 r.right ≤ o.getD a 0
theorem getD_set {l : List Int} {i j : Nat} {x : Int} (h : i < l.length) : (l.set i x).getD j 0 = if i = j then x else l.getD j 0 := by
  simp only [List.getD, List.getElem?_set]
  split
  · rfl
  · rfl
theorem getD_ge {g : Gr} {o : List Int} (ht : TabS g o) (i : Nat) : -1 ≤ o.getD i 0 := by
  by_cases hlt : i < o.length
  · have : o.getD i 0 ∈ o := by
      simp [List.getD, List.getElem?_eq_getElem hlt]
    exact (ht.lo _ this).1
  · have : o.getD i 0 = 0 := by simp [List.getD, List.getElem?_eq_none (Nat.le_of_not_lt hlt)]
    omega
theorem Met.step {g : Gr} {o : List Int} {b : Bool} {r : Rl} (m : Met g o) (ht : TabS g o) (hr : r ∈ g.rules) (hl : r.left.toNat < o.length) (hx : 0 ≤ longF g o 0 r.right ∨ longF g o 0 r.right = -1) (hy : longF g o 0 r.right ≤ 1000000000) :
    Met g (stepS g (o, b) r).1 ∧ TabS g (stepS g (o, b) r).1 := by
  by_cases hc : longF g o 0 r.right ≠ -1 ∧ (o.getD r.left.toNat 0 = -1 ∨ longF g o 0 r.right < o.getD r.left.toNat 0)
  · have e : stepS g (o, b) r = (o.set r.left.toNat (longF g o 0 r.right), true) := by simp only [stepS]; rw [if_pos hc]
    rw [e]
    have ht' : TabS g (o.set r.left.toNat (longF g o 0 r.right)) := by
      refine ⟨by simp [ht.len], fun x hx' => ?_⟩
      rcases List.mem_or_eq_of_mem_set hx' with h | h
      · exact ht.lo x h
      · omega
    have hs : Sink (o.set r.left.toNat (longF g o 0 r.right)) o := by
      intro i hi
      rw [getD_set hl]
      split
      · rename_i e; subst e
        rcases hc.2 with h | h
        · exact absurd h hi
        · exact ⟨hc.1, by omega⟩
      · exact ⟨hi, Int.le_refl _⟩
    refine ⟨fun a ha hne => ?_, ht'⟩
    have ge' := getD_ge ht'
    have ge := getD_ge ht
    have key : ∀ q : Rl, longF g o 0 q.right ≠ -1 → longF g (o.set r.left.toNat (longF g o 0 r.right)) 0 q.right ≠ -1 ∧ longF g (o.set r.left.toNat (longF g o 0 r.right)) 0 q.right ≤ longF g o 0 q.right := by
      intro q hq
      have h1 := longF_some (g := g) hs ge' ge q.right 0 0 (by omega) (by omega) hq
      exact ⟨h1, longF_sink hs q.right 0 0 (by omega) hq (.inl h1)⟩
    by_cases e2 : r.left.toNat = a
    · obtain ⟨k1, k2⟩ := key r hc.1
      refine ⟨r, hr, e2, k1, ?_⟩
      rw [getD_set hl, if_pos e2]; exact k2
    · rw [getD_set hl, if_neg e2] at hne
      obtain ⟨q, hq, hql, h1, h2⟩ := m a (by simpa using ha) hne
      obtain ⟨k1, k2⟩ := key q h1
      refine ⟨q, hq, hql, k1, ?_⟩
      rw [getD_set hl, if_neg e2]
      exact Int.le_trans k2 h2
  · have e : stepS g (o, b) r = (o, b) := by simp only [stepS]; rw [if_neg hc]
    rw [e]; exact ⟨m, ht⟩
theorem Met.fold {g : Gr} (hgood : goodB g = true) : ∀ {rs : List Rl} {o : List Int} {b : Bool}, (∀ r ∈ rs, r ∈ g.rules) → Met g o → TabS g o → Met g (rs.foldl (stepS g) (o, b)).1 ∧ TabS g (rs.foldl (stepS g) (o, b)).1
  | [], o, b, _, m, ht => ⟨m, ht⟩
  | r :: rs, o, b, hrs, m, ht => by
    rw [List.foldl_cons]
    have hr := hrs r (.head _)
    have hnm := isName_iff.1 (goodB_rule hgood hr).1
    have hlen := ht.len
    have hrange := longF_range ht (fun s hs => by have := isName_iff.1 hs; omega) r.right 0 (by omega)
    obtain ⟨m1, t1⟩ := m.step (b := b) ht hr (by omega) (by omega) (by omega)
    have e : stepS g (o, b) r = ((stepS g (o, b) r).1, (stepS g (o, b) r).2) := rfl
    rw [e]
    exact Met.fold hgood (fun q hq => hrs q (.tail _ hq)) m1 t1
theorem Runs.met {g : Gr} (hgood : goodB g = true) {o res : List Int} (h : Runs g o res) (m : Met g o) (ht : TabS g o) : Met g res ∧ TabS g res := by
  induction h with
  | stop _ => exact Met.fold hgood (fun _ h => h) m ht
  | more _ _ ih =>
    obtain ⟨m1, t1⟩ := Met.fold hgood (b := false) (fun _ h => h) m ht
    exact ih m1 t1
/-- Each length that is told is that of some rule. -/
theorem Runs.just {g : Gr} (hgood : goodB g = true) {res : List Int} (h : Runs g (none1 g) res) {a : Nat} (ha : a < g.names.toNat) (hne : res.getD a 0 ≠ -1) : ∃ r ∈ g.rules, r.left.toNat = a ∧ longF g res 0 r.right = res.getD a 0 := by
  have ht : TabS g (none1 g) := ⟨by simp, fun x hx => by have := List.eq_of_mem_replicate hx; omega⟩
  have m0 : Met g (none1 g) := by
    intro a ha hne
    exfalso; apply hne
    have : a < g.names.toNat := by simpa using ha
    simp [List.getD, List.getElem?_replicate, this]
  obtain ⟨m, t⟩ := h.met hgood m0 ht
  obtain ⟨r, hr, hl, h1, h2⟩ := m a (by rw [t.len]; exact ha) hne
  have := h.fix r hr
  rw [hl] at this
  exact ⟨r, hr, hl, by omega⟩
end Go.Am
