import Derived.Test.YtdmfanikejcgjaaW3
set_option linter.unusedVariables false
set_option linter.unusedSimpArgs false
namespace Go.Am
open Go Go.Proofs

theorem isName_iff {nm s : Int} : isName nm s = true ↔ 0 ≤ s ∧ s < nm := by simp [isName]

/-- Which names are come to. -/
inductive Reach (g : Gr) : Int → Prop
  | start : Reach g g.start
  | step {r : Rl} {s : Int} : r ∈ g.rules → Reach g r.left → s ∈ r.right → isName g.names s = true → Reach g s

def marked (out : List Bool) (s : Int) : Prop := out[s.toNat]? = some true

structure QOk (g : Gr) (N : Nat) (out : List Bool) (l : List Int) : Prop where
  len : out.length = g.names.toNat
  cnt : N + l.length = out.count true
  mem : ∀ s ∈ l, isName g.names s = true ∧ marked out s
  sound : ∀ s, isName g.names s = true → marked out s → Reach g s
  start : marked out g.start
  closed : ∀ s, isName g.names s = true → marked out s → s ∈ l ∨ ∀ r ∈ g.rules, r.left = s → ∀ x ∈ r.right, isName g.names x = true → marked out x

theorem count_set : ∀ (out : List Bool) (i : Nat), out[i]? = some false → (out.set i true).count true = out.count true + 1
  | [], i, h => by simp at h
  | a :: out, 0, h => by simp at h; subst h; simp
  | a :: out, i + 1, h => by
    have := count_set out i (by simpa using h)
    simp only [List.set_cons_succ, List.count_cons, this]; omega

theorem marked_set {out : List Bool} {s x : Int} (h : marked out x) : marked (out.set s.toNat true) x := by
  unfold marked at h ⊢
  have hlt := (List.getElem?_eq_some_iff.1 h).1
  by_cases e : s.toNat = x.toNat
  · rw [e, List.getElem?_set_self hlt]
  · rw [List.getElem?_set_ne e]; exact h

theorem marked_set_self {out : List Bool} {s : Int} (h : s.toNat < out.length) : marked (out.set s.toNat true) s := by
  unfold marked; rw [List.getElem?_set_self h]

theorem QOk.mark {g : Gr} {N : Nat} {out : List Bool} {l : List Int} (q : QOk g N out l) {s : Int} (hs : isName g.names s = true) (hr : Reach g s) (ho : out[s.toNat]? = some false) : QOk g N (out.set s.toNat true) (l ++ [s]) := by
  have hlt := (List.getElem?_eq_some_iff.1 ho).1
  have hback : ∀ x, isName g.names x = true → marked (out.set s.toNat true) x → x = s ∨ marked out x := by
    intro x hx hm
    by_cases e : s.toNat = x.toNat
    · left; have := (isName_iff.1 hx).1; have := (isName_iff.1 hs).1; omega
    · right; unfold marked at hm ⊢; rwa [List.getElem?_set_ne e] at hm
  refine ⟨by simp [q.len], by rw [List.length_append, count_set _ _ ho, ← q.cnt]; simp; omega, ?_, ?_, marked_set q.start, ?_⟩
  · intro x hx
    rcases List.mem_append.1 hx with hx | hx
    · exact ⟨(q.mem x hx).1, marked_set (q.mem x hx).2⟩
    · simp at hx; subst hx; exact ⟨hs, marked_set_self hlt⟩
  · intro x hx hm
    rcases hback x hx hm with rfl | hm
    · exact hr
    · exact q.sound x hx hm
  · intro x hx hm
    rcases hback x hx hm with rfl | hm
    · left; simp
    · rcases q.closed x hx hm with h | h
      · left; simp [h]
      · right; intro r hr' he y hy hn; exact marked_set (h r hr' he y hy hn)

theorem QOk.pop {g : Gr} {N : Nat} {out : List Bool} {x : Int} {l : List Int} (q : QOk g N out (x :: l)) (hc : ∀ r ∈ g.rules, r.left = x → ∀ y ∈ r.right, isName g.names y = true → marked out y) : QOk g (N + 1) out l := by
  refine ⟨q.len, by have := q.cnt; simp at this; omega, fun s hs => q.mem s (by simp [hs]), q.sound, q.start, fun s hs hm => ?_⟩
  rcases q.closed s hs hm with h | h
  · rcases List.mem_cons.1 h with rfl | h
    · right; exact hc
    · left; exact h
  · right; exact h

theorem QOk.bound {g : Gr} {N : Nat} {out : List Bool} {l : List Int} (q : QOk g N out l) : N + l.length ≤ g.names.toNat := by
  rw [q.cnt, ← q.len]; exact List.count_le_length

theorem nextDone {g : Gr} {i : Nat} {x : Int} {out : List Bool} {r : Rl} (hd : ∀ (k : Nat) (r : Rl), k < i → g.rules[k]? = some r → r.left = x → ∀ (y : Int), y ∈ r.right → isName g.names y = true → marked out y)
    (hr : g.rules[i]? = some r) (hx : r.left = x → ∀ y ∈ r.right, isName g.names y = true → marked out y) : ∀ (k : Nat) (r : Rl), k < i + 1 → g.rules[k]? = some r → r.left = x → ∀ (y : Int), y ∈ r.right → isName g.names y = true → marked out y := by
  intro k r' hk hr'
  by_cases e : k = i
  · subst e; rw [hr] at hr'; cases hr'; exact hx
  · exact hd k r' (by omega) hr'

theorem nextDone2 {g : Gr} {j : Nat} {l : List Int} {out : List Bool} {s : Int} (hd : ∀ (k : Nat) (y : Int), k < j → l[k]? = some y → isName g.names y = true → marked out y)
    (hs : l[j]? = some s) (hx : isName g.names s = true → marked out s) : ∀ (k : Nat) (y : Int), k < j + 1 → l[k]? = some y → isName g.names y = true → marked out y := by
  intro k y hk hy
  by_cases e : k = j
  · subst e; rw [hs] at hy; cases hy; exact hx
  · exact hd k y (by omega) hy

theorem allDone2 {g : Gr} {j : Nat} {l : List Int} {out : List Bool} (hd : ∀ (k : Nat) (y : Int), k < j → l[k]? = some y → isName g.names y = true → marked out y)
    (hj : l.length ≤ j) : ∀ y ∈ l, isName g.names y = true → marked out y := by
  intro y hy
  obtain ⟨k, hk⟩ := List.getElem?_of_mem hy
  have := (List.getElem?_eq_some_iff.1 hk).1
  exact hd k y (by omega) hk

theorem allDone {g : Gr} {i : Nat} {x : Int} {out : List Bool} (hd : ∀ (k : Nat) (r : Rl), k < i → g.rules[k]? = some r → r.left = x → ∀ (y : Int), y ∈ r.right → isName g.names y = true → marked out y)
    (hi : g.rules.length ≤ i) : ∀ r ∈ g.rules, r.left = x → ∀ y ∈ r.right, isName g.names y = true → marked out y := by
  intro r hr
  obtain ⟨k, hk⟩ := List.getElem?_of_mem hr
  have := (List.getElem?_eq_some_iff.1 hk).1
  exact hd k r (by omega) hk

theorem goodB_whole {g : Gr} (h : goodB g = true) : 1 ≤ g.names ∧ g.names ≤ 40 ∧ 0 ≤ g.kinds ∧ g.kinds ≤ 40 ∧ g.rules.length ≤ 60 ∧ g.forbid.length ≤ 200 ∧ isName g.names g.start = true := by
  unfold goodB formE at h
  have hw : wholeE g = 0 := by
    by_cases hw : wholeE g = 0
    · exact hw
    · rw [if_pos hw] at h; simp at h; exact absurd h hw
  unfold wholeE at hw
  split at hw
  · simp at hw
  · split at hw
    · simp at hw
    · rename_i h1 h2
      simp at h2
      refine ⟨by omega, by omega, by omega, by omega, by omega, by omega, h2⟩

theorem goodB_rule {g : Gr} (h : goodB g = true) {r : Rl} (hr : r ∈ g.rules) : isName g.names r.left = true ∧ (∀ s ∈ r.right, isSym g.names g.kinds s = true) ∧ r.right.length ≤ 8 := by
  unfold goodB formE at h
  have hw : wholeE g = 0 := by
    by_cases hw : wholeE g = 0
    · exact hw
    · rw [if_pos hw] at h; simp at h; exact absurd h hw
  rw [if_neg (by simp [hw])] at h
  cases hf : g.rules.findIdx? (fun r => decide (ruleEr g r ≠ 0)) with
  | some i =>
    rw [hf] at h
    obtain ⟨hi, hp, _⟩ := List.findIdx?_eq_some_iff_getElem.1 hf
    simp [List.getElem?_eq_getElem hi] at h hp
    exact absurd h hp
  | none =>
    rw [List.findIdx?_eq_none_iff] at hf
    have h0 : ruleEr g r = 0 := by simpa using hf r hr
    unfold ruleEr at h0
    split at h0
    · simp at h0
    · split at h0
      · simp at h0
      · rename_i h1 h2
        simp at h1
        exact ⟨h1.1, h1.2, by omega⟩
theorem QOk.all {g : Gr} {N : Nat} {out : List Bool} (q : QOk g N out []) (hg : goodB g = true) {s : Int} (hs : isName g.names s = true) (hr : Reach g s) : marked out s := by
  have key : ∀ s, Reach g s → (isName g.names s = true → marked out s) := by
    intro s hr
    induction hr with
    | start => intro _; exact q.start
    | @step r s hr1 hr2 hr3 hr4 ih =>
      intro _
      have hl := (goodB_rule hg hr1).1
      rcases q.closed _ hl (ih hl) with h | h
      · simp at h
      · exact h r hr1 rfl s hr3 hr4
  exact key s hr hs


def longF (g : Gr) (out : List Int) : Int → List Int → Int
  | n, [] => if 1000000000 < n then 1000000000 else n
  | n, s :: rest => if isName g.names s = true then (if out.getD s.toNat 0 = -1 then -1 else longF g out (n + out.getD s.toNat 0) rest) else longF g out (n + 1) rest

/-- A table of lengths. -/
structure TabS (g : Gr) (out : List Int) : Prop where
  len : out.length = g.names.toNat
  lo : ∀ x ∈ out, -1 ≤ x ∧ x ≤ 1000000000
theorem drop_at {α : Type} {l : List α} {i : Nat} {x : α} (h : l[i]? = some x) : l.drop i = x :: l.drop (i + 1) := by
  have hlt := (List.getElem?_eq_some_iff.1 h).1
  rw [List.drop_eq_getElem_cons hlt, (List.getElem?_eq_some_iff.1 h).2]
theorem longF_range {g : Gr} {out : List Int} (ht : TabS g out) (hg : ∀ s, isName g.names s = true → s.toNat < out.length) : ∀ (l : List Int) (n : Int), 0 ≤ n → longF g out n l = -1 ∨ (0 ≤ longF g out n l ∧ longF g out n l ≤ 1000000000)
  | [], n, h => by
    right
    simp only [longF]
    split <;> omega
  | s :: l, n, h => by
    simp only [longF]
    split
    · rename_i hs
      split
      · left; rfl
      · rename_i hne
        have hlt := hg s hs
        have hmem : out.getD s.toNat 0 ∈ out := by
          have e : out.getD s.toNat 0 = out[s.toNat] := by simp [List.getD, List.getElem?_eq_getElem hlt]
          rw [e]; exact List.getElem_mem hlt
        have := ht.lo _ hmem
        exact longF_range ht hg l _ (by omega)
    · exact longF_range ht hg l _ (by omega)

/-- One rule's step. -/
def stepS (g : Gr) (st : List Int × Bool) (r : Rl) : List Int × Bool :=
  let n := longF g st.1 0 r.right
  if n ≠ -1 ∧ (st.1.getD r.left.toNat 0 = -1 ∨ n < st.1.getD r.left.toNat 0) then (st.1.set r.left.toNat n, true) else st

def roundS (g : Gr) (out : List Int) : List Int × Bool := g.rules.foldl (stepS g) (out, false)

/-- Round by round, until nothing is turned. -/
inductive Runs (g : Gr) : List Int → List Int → Prop
  | stop {out : List Int} : (roundS g out).2 = false → Runs g out (roundS g out).1
  | more {out res : List Int} : (roundS g out).2 = true → Runs g (roundS g out).1 res → Runs g out res

theorem Runs.det {g : Gr} {out a b : List Int} (ha : Runs g out a) : Runs g out b → a = b := by
  induction ha with
  | stop h => intro hb; cases hb with
    | stop _ => rfl
    | more h2 _ => rw [h] at h2; cases h2
  | more h _ ih => intro hb; cases hb with
    | stop h2 => rw [h] at h2; cases h2
    | more _ h3 => exact ih h3

/-- What is left to do. -/
def pot : List Int → Nat
  | [] => 0
  | x :: l => (if x = -1 then 1000000001 else x.toNat) + pot l

theorem pot_set : ∀ (out : List Int) (i : Nat) (n : Int), i < out.length → 0 ≤ n → n ≤ 1000000000 → (out.getD i 0 = -1 ∨ n < out.getD i 0) → pot (out.set i n) < pot out
  | [], i, n, h, _, _, _ => by simp at h
  | x :: l, 0, n, h, h0, h1, h2 => by
    simp only [List.set_cons_zero, pot, List.getD_cons_zero] at h2 ⊢
    rw [if_neg (by omega)]
    split <;> omega
  | x :: l, i + 1, n, h, h0, h1, h2 => by
    have := pot_set l i n (by simpa using h) h0 h1 (by simpa using h2)
    simp only [List.set_cons_succ, pot]
    omega

structure MidS (g : Gr) (out0 : List Int) (i : Nat) (out : List Int) (more : Bool) : Prop where
  eq : (out, more) = (g.rules.take i).foldl (stepS g) (out0, false)
  tab : TabS g out
  same : more = false → out = out0
  less : more = true → pot out < pot out0

theorem MidS.start {g : Gr} {out : List Int} (ht : TabS g out) : MidS g out 0 out false := ⟨rfl, ht, fun _ => rfl, fun h => (by cases h)⟩

theorem MidS.end {g : Gr} {out0 out : List Int} {i : Nat} {more : Bool} (m : MidS g out0 i out more) (hi : g.rules.length ≤ i) : roundS g out0 = (out, more) := by
  have := m.eq
  rw [List.take_of_length_le hi] at this
  exact this.symm

theorem take_next {α : Type} {l : List α} {i : Nat} {x : α} (h : l[i]? = some x) : l.take (i + 1) = l.take i ++ [x] := by
  rw [List.take_add_one, h]; rfl

/-- A rule that turns something. -/
theorem MidS.turn {g : Gr} {out0 out : List Int} {i : Nat} {more : Bool} (m : MidS g out0 i out more) {r : Rl} (hr : g.rules[i]? = some r) (hl : r.left.toNat < out.length) {n : Int} (hn : n = longF g out 0 r.right) (h0 : 0 ≤ n) (h1 : n ≤ 1000000000)
    (hc : out.getD r.left.toNat 0 = -1 ∨ n < out.getD r.left.toNat 0) : MidS g out0 (i + 1) (out.set r.left.toNat n) true := by
  have hp := pot_set out _ n hl h0 h1 hc
  refine ⟨?_, ⟨by simp [m.tab.len], fun x hx => ?_⟩, fun h => (by cases h), fun _ => ?_⟩
  · rw [take_next hr, List.foldl_append, ← m.eq]
    simp only [List.foldl_cons, List.foldl_nil, stepS, ← hn]
    rw [if_pos ⟨by omega, hc⟩]
  · rcases List.mem_or_eq_of_mem_set hx with h | h
    · exact m.tab.lo x h
    · omega
  · cases more with
    | true => have := m.less rfl; omega
    | false => rw [m.same rfl] at hp ⊢; exact hp

/-- A rule that turns nothing. -/
theorem MidS.keep {g : Gr} {out0 out : List Int} {i : Nat} {more : Bool} (m : MidS g out0 i out more) {r : Rl} (hr : g.rules[i]? = some r)
    (hc : ¬ (longF g out 0 r.right ≠ -1 ∧ (out.getD r.left.toNat 0 = -1 ∨ longF g out 0 r.right < out.getD r.left.toNat 0))) : MidS g out0 (i + 1) out more := by
  refine ⟨?_, m.tab, m.same, m.less⟩
  rw [take_next hr, List.foldl_append, ← m.eq]
  simp only [List.foldl_cons, List.foldl_nil, stepS]
  rw [if_neg hc]

/-- What is known ahead of a round. -/
def FinS (g : Gr) (more : Bool) (out res : List Int) : Prop := if more = true then Runs g out res else res = out

theorem FinS.next {g : Gr} {out0 out : List Int} {more : Bool} (h : roundS g out0 = (out, more)) {res : List Int} (hf : FinS g more out res) : Runs g out0 res := by
  cases more with
  | true =>
    have h2 : Runs g out res := hf
    exact .more (by rw [h]) (by rw [h]; exact h2)
  | false =>
    have h2 : res = out := hf
    rw [h2]
    have := Runs.stop (g := g) (out := out0) (by rw [h])
    rw [h] at this; exact this
end Go.Am
