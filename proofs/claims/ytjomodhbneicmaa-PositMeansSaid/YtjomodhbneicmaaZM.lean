import Derived.Test.YtjomodhbneicmaaZT
import Derived.Test.YtjomodhbneicmaaZQ
set_option linter.unusedSimpArgs false
set_option linter.unusedVariables false
namespace Go.Am
open Go Go.RowKit Go.Proofs
/-! ### what places take -/
abbrev Mt := Nat → Nat → Prop
def Pt.run (p : Pt) (M : Mt) : Nat → List Nat → Prop
  | i, [] => p.lst i = true
  | i, c :: cs => ∃ j, p.fol i j = true ∧ M j c ∧ p.run M j cs
def Pt.acc (p : Pt) (M : Mt) : List Nat → Prop
  | [] => p.null = true
  | c :: cs => ∃ i, p.fst i = true ∧ M i c ∧ p.run M i cs
section
variable {a q : Pt} {b : Nat} {M : Mt}
theorem alt_run1 (ha : a.In b) (hq : q.In a.cnt) : ∀ (w : List Nat) (i : Nat), i < a.cnt → ((a.alt q).run M i w ↔ a.run M i w)
  | [], i, hi => by
    show (a.lst i || q.lst i) = true ↔ a.lst i = true
    rw [Bool.or_eq_true]
    exact ⟨fun h => h.elim id fun h => by have := hq.lst i h; omega, .inl⟩
  | c :: cs, i, hi => by
    constructor
    · rintro ⟨j, h1, h2, h3⟩
      have h1 : (a.fol i j || q.fol i j) = true := h1
      rw [Bool.or_eq_true] at h1
      rcases h1 with h1 | h1
      · exact ⟨j, h1, h2, (alt_run1 ha hq cs j (ha.fol i j h1).2.2).1 h3⟩
      · have := hq.fol i j h1; omega
    · rintro ⟨j, h1, h2, h3⟩
      exact ⟨j, by show (a.fol i j || q.fol i j) = true; rw [h1]; rfl, h2, (alt_run1 ha hq cs j (ha.fol i j h1).2.2).2 h3⟩
theorem alt_run2 (ha : a.In b) (hq : q.In a.cnt) : ∀ (w : List Nat) (i : Nat), a.cnt ≤ i → ((a.alt q).run M i w ↔ q.run M i w)
  | [], i, hi => by
    show (a.lst i || q.lst i) = true ↔ q.lst i = true
    rw [Bool.or_eq_true]
    exact ⟨fun h => h.elim (fun h => by have := ha.lst i h; omega) id, .inr⟩
  | c :: cs, i, hi => by
    constructor
    · rintro ⟨j, h1, h2, h3⟩
      have h1 : (a.fol i j || q.fol i j) = true := h1
      rw [Bool.or_eq_true] at h1
      rcases h1 with h1 | h1
      · have := ha.fol i j h1; omega
      · exact ⟨j, h1, h2, (alt_run2 ha hq cs j (hq.fol i j h1).2.1).1 h3⟩
    · rintro ⟨j, h1, h2, h3⟩
      exact ⟨j, by show (a.fol i j || q.fol i j) = true; rw [h1]; simp, h2, (alt_run2 ha hq cs j (hq.fol i j h1).2.1).2 h3⟩
theorem alt_acc (ha : a.In b) (hq : q.In a.cnt) (w : List Nat) : (a.alt q).acc M w ↔ a.acc M w ∨ q.acc M w := by
  cases w with
  | nil => show (a.null || q.null) = true ↔ a.null = true ∨ q.null = true; rw [Bool.or_eq_true]
  | cons c cs =>
    constructor
    · rintro ⟨j, h1, h2, h3⟩
      have h1 : (a.fst j || q.fst j) = true := h1
      rw [Bool.or_eq_true] at h1
      rcases h1 with h1 | h1
      · exact .inl ⟨j, h1, h2, (alt_run1 ha hq cs j (ha.fst j h1).2).1 h3⟩
      · exact .inr ⟨j, h1, h2, (alt_run2 ha hq cs j (hq.fst j h1).1).1 h3⟩
    · rintro (⟨j, h1, h2, h3⟩ | ⟨j, h1, h2, h3⟩)
      · exact ⟨j, by show (a.fst j || q.fst j) = true; rw [h1]; rfl, h2, (alt_run1 ha hq cs j (ha.fst j h1).2).2 h3⟩
      · exact ⟨j, by show (a.fst j || q.fst j) = true; rw [h1]; simp, h2, (alt_run2 ha hq cs j (hq.fst j h1).1).2 h3⟩
theorem cat_run2 (ha : a.In b) (hq : q.In a.cnt) : ∀ (w : List Nat) (i : Nat), a.cnt ≤ i → ((a.cat q).run M i w ↔ q.run M i w)
  | [], i, hi => by
    show (q.lst i || (q.null && a.lst i)) = true ↔ q.lst i = true
    rw [Bool.or_eq_true, Bool.and_eq_true]
    exact ⟨fun h => h.elim id (fun h => by have := ha.lst i h.2; omega), .inl⟩
  | c :: cs, i, hi => by
    constructor
    · rintro ⟨j, h1, h2, h3⟩
      have h1 : ((a.fol i j || q.fol i j) || (a.lst i && q.fst j)) = true := h1
      rw [Bool.or_eq_true, Bool.or_eq_true, Bool.and_eq_true] at h1
      rcases h1 with (h1 | h1) | h1
      · have := ha.fol i j h1; omega
      · exact ⟨j, h1, h2, (cat_run2 ha hq cs j (hq.fol i j h1).2.1).1 h3⟩
      · have := ha.lst i h1.1; omega
    · rintro ⟨j, h1, h2, h3⟩
      exact ⟨j, by show ((a.fol i j || q.fol i j) || (a.lst i && q.fst j)) = true; rw [h1]; simp, h2, (cat_run2 ha hq cs j (hq.fol i j h1).2.1).2 h3⟩
theorem cat_run1 (ha : a.In b) (hq : q.In a.cnt) : ∀ (w : List Nat) (i : Nat), i < a.cnt → ((a.cat q).run M i w ↔ ∃ u v, w = u ++ v ∧ a.run M i u ∧ q.acc M v)
  | [], i, hi => by
    show (q.lst i || (q.null && a.lst i)) = true ↔ _
    rw [Bool.or_eq_true, Bool.and_eq_true]
    constructor
    · rintro (h | h)
      · have := hq.lst i h; omega
      · exact ⟨[], [], rfl, h.2, h.1⟩
    · rintro ⟨u, v, e, h1, h2⟩
      obtain ⟨rfl, rfl⟩ := List.append_eq_nil_iff.1 e.symm
      exact .inr ⟨h2, h1⟩
  | c :: cs, i, hi => by
    constructor
    · rintro ⟨j, h1, h2, h3⟩
      have h1 : ((a.fol i j || q.fol i j) || (a.lst i && q.fst j)) = true := h1
      rw [Bool.or_eq_true, Bool.or_eq_true, Bool.and_eq_true] at h1
      rcases h1 with (h1 | h1) | h1
      · obtain ⟨u, v, rfl, h4, h5⟩ := (cat_run1 ha hq cs j (ha.fol i j h1).2.2).1 h3
        exact ⟨c :: u, v, rfl, ⟨j, h1, h2, h4⟩, h5⟩
      · have := hq.fol i j h1; omega
      · exact ⟨[], c :: cs, rfl, h1.1, j, h1.2, h2, (cat_run2 ha hq cs j (hq.fst j h1.2).1).1 h3⟩
    · rintro ⟨u, v, e, h1, h2⟩
      cases u with
      | nil =>
        have e : c :: cs = v := e
        subst e
        obtain ⟨j, h3, h4, h5⟩ := h2
        have h1 : a.lst i = true := h1
        exact ⟨j, by show ((a.fol i j || q.fol i j) || (a.lst i && q.fst j)) = true; rw [h1, h3]; simp, h4, (cat_run2 ha hq cs j (hq.fst j h3).1).2 h5⟩
      | cons d u =>
        obtain ⟨rfl, rfl⟩ := List.cons.inj e
        obtain ⟨j, h3, h4, h5⟩ := h1
        exact ⟨j, by show ((a.fol i j || q.fol i j) || (a.lst i && q.fst j)) = true; rw [h3]; simp, h4, (cat_run1 ha hq _ j (ha.fol i j h3).2.2).2 ⟨u, v, rfl, h5, h2⟩⟩
theorem cat_acc (ha : a.In b) (hq : q.In a.cnt) (w : List Nat) : (a.cat q).acc M w ↔ ∃ u v, w = u ++ v ∧ a.acc M u ∧ q.acc M v := by
  cases w with
  | nil =>
    show (a.null && q.null) = true ↔ _
    rw [Bool.and_eq_true]
    constructor
    · exact fun h => ⟨[], [], rfl, h.1, h.2⟩
    · rintro ⟨u, v, e, h1, h2⟩
      obtain ⟨rfl, rfl⟩ := List.append_eq_nil_iff.1 e.symm
      exact ⟨h1, h2⟩
  | cons c cs =>
    constructor
    · rintro ⟨j, h1, h2, h3⟩
      have h1 : (a.fst j || (a.null && q.fst j)) = true := h1
      rw [Bool.or_eq_true, Bool.and_eq_true] at h1
      rcases h1 with h1 | h1
      · obtain ⟨u, v, rfl, h4, h5⟩ := (cat_run1 ha hq cs j (ha.fst j h1).2).1 h3
        exact ⟨c :: u, v, rfl, ⟨j, h1, h2, h4⟩, h5⟩
      · exact ⟨[], c :: cs, rfl, h1.1, j, h1.2, h2, (cat_run2 ha hq cs j (hq.fst j h1.2).1).1 h3⟩
    · rintro ⟨u, v, e, h1, h2⟩
      cases u with
      | nil =>
        have e : c :: cs = v := e
        subst e
        obtain ⟨j, h3, h4, h5⟩ := h2
        have h1 : a.null = true := h1
        exact ⟨j, by show (a.fst j || (a.null && q.fst j)) = true; rw [h1, h3]; simp, h4, (cat_run2 ha hq cs j (hq.fst j h3).1).2 h5⟩
      | cons d u =>
        obtain ⟨rfl, rfl⟩ := List.cons.inj e
        obtain ⟨j, h3, h4, h5⟩ := h1
        exact ⟨j, by show (a.fst j || (a.null && q.fst j)) = true; rw [h3]; rfl, h4, (cat_run1 ha hq _ j (ha.fst j h3).2).2 ⟨u, v, rfl, h5, h2⟩⟩
theorem rep_run {op : Int} (ho : op ≠ 6) : ∀ (w : List Nat) (i : Nat), ((a.rep op).run M i w ↔ ∃ u v, w = u ++ v ∧ a.run M i u ∧ (v = [] ∨ v ≠ [] ∧ (a.rep op).acc M v))
  | [], i => by
    show a.lst i = true ↔ _
    constructor
    · exact fun h => ⟨[], [], rfl, h, .inl rfl⟩
    · rintro ⟨u, v, e, h1, h2⟩
      obtain ⟨rfl, rfl⟩ := List.append_eq_nil_iff.1 e.symm
      exact h1
  | c :: cs, i => by
    have hf : ∀ j, (a.rep op).fol i j = true ↔ a.fol i j = true ∨ (a.lst i = true ∧ a.fst j = true) := by
      intro j
      show (a.fol i j || (decide (op ≠ 6) && (a.lst i && a.fst j))) = true ↔ _
      rw [Bool.or_eq_true, Bool.and_eq_true, Bool.and_eq_true]
      simp [ho]
    constructor
    · rintro ⟨j, h1, h2, h3⟩
      rcases (hf j).1 h1 with h1 | h1
      · obtain ⟨u, v, rfl, h4, h5⟩ := (rep_run ho cs j).1 h3
        exact ⟨c :: u, v, rfl, ⟨j, h1, h2, h4⟩, h5⟩
      · exact ⟨[], c :: cs, rfl, h1.1, .inr ⟨by simp, j, h1.2, h2, h3⟩⟩
    · rintro ⟨u, v, e, h1, h2⟩
      cases u with
      | nil =>
        have e : c :: cs = v := e
        subst e
        rcases h2 with h2 | ⟨_, j, h3, h4, h5⟩
        · cases h2
        · exact ⟨j, (hf j).2 (.inr ⟨h1, h3⟩), h4, h5⟩
      | cons d u =>
        obtain ⟨rfl, rfl⟩ := List.cons.inj e
        obtain ⟨j, h3, h4, h5⟩ := h1
        exact ⟨j, (hf j).2 (.inl h3), h4, (rep_run ho _ j).2 ⟨u, v, rfl, h5, h2⟩⟩
theorem rep_acc {op : Int} (ho : op ≠ 6) {w : List Nat} (hw : w ≠ []) : (a.rep op).acc M w ↔ ∃ u v, w = u ++ v ∧ u ≠ [] ∧ a.acc M u ∧ (v = [] ∨ v ≠ [] ∧ (a.rep op).acc M v) := by
  cases w with
  | nil => exact absurd rfl hw
  | cons c cs =>
    constructor
    · rintro ⟨j, h1, h2, h3⟩
      obtain ⟨u, v, rfl, h4, h5⟩ := (rep_run ho cs j).1 h3
      exact ⟨c :: u, v, rfl, by simp, ⟨j, h1, h2, h4⟩, h5⟩
    · rintro ⟨u, v, e, hu, h1, h2⟩
      cases u with
      | nil => exact absurd rfl hu
      | cons d u =>
        obtain ⟨rfl, rfl⟩ := List.cons.inj e
        obtain ⟨j, h3, h4, h5⟩ := h1
        exact ⟨j, h3, h4, (rep_run ho _ j).2 ⟨u, v, rfl, h5, h2⟩⟩
theorem rep_same : ∀ {w : List Nat}, w ≠ [] → ((a.rep 5).acc M w ↔ (a.rep 4).acc M w) := by
  have key : ∀ (w : List Nat) (i : Nat), (a.rep 5).run M i w ↔ (a.rep 4).run M i w := by
    intro w
    induction w with
    | nil => exact fun i => Iff.rfl
    | cons c cs ih => exact fun i => ⟨fun ⟨j, h1, h2, h3⟩ => ⟨j, h1, h2, (ih j).1 h3⟩, fun ⟨j, h1, h2, h3⟩ => ⟨j, h1, h2, (ih j).2 h3⟩⟩
  intro w hw
  cases w with
  | nil => exact absurd rfl hw
  | cons c cs => exact ⟨fun ⟨j, h1, h2, h3⟩ => ⟨j, h1, h2, (key cs j).1 h3⟩, fun ⟨j, h1, h2, h3⟩ => ⟨j, h1, h2, (key cs j).2 h3⟩⟩
theorem opt_acc {w : List Nat} : (a.rep 6).acc M w ↔ w = [] ∨ a.acc M w := by
  have key : ∀ (w : List Nat) (i : Nat), (a.rep 6).run M i w ↔ a.run M i w := by
    intro w
    induction w with
    | nil => exact fun i => Iff.rfl
    | cons c cs ih =>
      intro i
      have hf : ∀ j, (a.rep 6).fol i j = a.fol i j := fun j => by show (a.fol i j || (decide ((6 : Int) ≠ 6) && (a.lst i && a.fst j))) = _; simp
      exact ⟨fun ⟨j, h1, h2, h3⟩ => ⟨j, by rw [← hf]; exact h1, h2, (ih j).1 h3⟩, fun ⟨j, h1, h2, h3⟩ => ⟨j, by rw [hf]; exact h1, h2, (ih j).2 h3⟩⟩
  cases w with
  | nil => exact ⟨fun _ => .inl rfl, fun _ => rfl⟩
  | cons c cs =>
    constructor
    · exact fun ⟨j, h1, h2, h3⟩ => .inr ⟨j, h1, h2, (key cs j).1 h3⟩
    · rintro (h | ⟨j, h1, h2, h3⟩)
      · cases h
      · exact ⟨j, h1, h2, (key cs j).2 h3⟩
theorem unit_acc {w : List Nat} : (Pt.unit b).acc M w ↔ w = [] := by
  cases w with
  | nil => exact ⟨fun _ => rfl, fun _ => rfl⟩
  | cons c cs => exact ⟨(fun ⟨_, h, _⟩ => by cases h), (fun h => by cases h)⟩
theorem zero_acc {w : List Nat} : ¬ (Pt.zero b).acc M w := by
  cases w with
  | nil => exact fun h => by cases h
  | cons c cs => exact fun ⟨_, h, _⟩ => by cases h
theorem one_acc {w : List Nat} : (Pt.one b).acc M w ↔ ∃ c, w = [c] ∧ M b c := by
  cases w with
  | nil => exact ⟨(fun h => by cases h), (fun ⟨_, h, _⟩ => by cases h)⟩
  | cons c cs =>
    constructor
    · rintro ⟨i, h1, h2, h3⟩
      have e : i = b := of_decide_eq_true h1
      subst e
      cases cs with
      | nil => exact ⟨c, rfl, h2⟩
      | cons d ds => obtain ⟨j, h4, _⟩ := h3; cases h4
    · rintro ⟨d, e, h⟩
      obtain ⟨rfl, rfl⟩ := List.cons.inj e
      exact ⟨b, by show decide (b = b) = true; simp, h, by show decide (b = b) = true; simp⟩
end
/-! ### what a pattern takes, by what it is made of -/
def tkF : Nat → Re → List Nat → Prop
  | 0, _, _ => False
  | f + 1, .mk op s ks, w =>
    if op = 1 then ∃ c, w = [c] ∧ hasB s c = true
    else if op = 3 then ∃ k ∈ ks, tkF f k w
    else if op = 2 then match ks with
      | [] => False
      | [k] => tkF f k w
      | k :: ks' => ∃ u v, w = u ++ v ∧ tkF f k u ∧ tkF f (.mk 2 zs4 ks') v
    else match ks with
      | [] => w = []
      | k :: _ =>
        if op = 6 then w = [] ∨ tkF f k w
        else if w = [] then op = 4 ∨ tkF f k w
        else ∃ u v, w = u ++ v ∧ u ≠ [] ∧ tkF f k u ∧ (v = [] ∨ tkF f (.mk 4 zs4 ks) v)
theorem evCat_acc {M : Mt} : ∀ (ks : List Re) (a : Pt) (b : Nat) (w : List Nat), a.In b → ((evCat ks a).acc M w ↔ ∃ u v, w = u ++ v ∧ a.acc M u ∧ (evCat ks (Pt.unit a.cnt)).acc M v)
  | [], a, b, w, ha => by
    show a.acc M w ↔ _
    constructor
    · exact fun h => ⟨w, [], by simp, h, rfl⟩
    · rintro ⟨u, v, rfl, h1, h2⟩
      have : v = [] := unit_acc.1 h2
      subst this; simpa using h1
  | k :: ks, a, b, w, ha => by
    have hk := Re.inn k a.cnt
    have hin := ha.cat hk
    have hu : (Pt.unit a.cnt).In a.cnt := .unit _
    have e1 : evCat (k :: ks) a = evCat ks (a.cat (k.ev a.cnt)) := rfl
    have e2 : evCat (k :: ks) (Pt.unit a.cnt) = evCat ks ((Pt.unit a.cnt).cat (k.ev a.cnt)) := rfl
    rw [e1, evCat_acc ks _ b w hin]
    constructor
    · rintro ⟨u, v, rfl, h1, h2⟩
      obtain ⟨u1, u2, rfl, h3, h4⟩ := (cat_acc ha hk u).1 h1
      refine ⟨u1, u2 ++ v, by simp, h3, ?_⟩
      rw [e2, evCat_acc ks _ a.cnt _ (hu.cat hk)]
      exact ⟨u2, v, rfl, (cat_acc hu hk u2).2 ⟨[], u2, rfl, rfl, h4⟩, h2⟩
    · rintro ⟨u, v, rfl, h1, h2⟩
      rw [e2, evCat_acc ks _ a.cnt _ (hu.cat hk)] at h2
      obtain ⟨v1, v2, rfl, h3, h4⟩ := h2
      obtain ⟨n, v1', rfl, h5, h6⟩ := (cat_acc hu hk v1).1 h3
      have : n = [] := unit_acc.1 h5
      subst this
      exact ⟨u ++ v1', v2, by simp, (cat_acc ha hk _).2 ⟨u, v1', rfl, h1, h6⟩, h4⟩
theorem evAlt_acc {M : Mt} {F : Re → List Nat → Prop} {w : List Nat} : ∀ (ks : List Re) (a : Pt) (b : Nat), a.In b → (∀ (i : Nat) k, ks[i]? = some k → ((k.ev (a.cnt + (reSets (ks.take i)).length)).acc M w ↔ F k w)) → ((evAlt ks a).acc M w ↔ a.acc M w ∨ ∃ k ∈ ks, F k w)
  | [], a, b, ha, _ => by
    show a.acc M w ↔ _
    simp
  | k :: ks, a, b, ha, hF => by
    have hk := Re.inn k a.cnt
    have h0 := hF 0 k rfl
    have e0 : a.cnt + (reSets ((k :: ks).take 0)).length = a.cnt := by simp [reSets]
    rw [e0] at h0
    have e1 : evAlt (k :: ks) a = evAlt ks (a.alt (k.ev a.cnt)) := rfl
    rw [e1, evAlt_acc ks _ b (ha.alt hk) (F := F) (fun i x hx => ?_), alt_acc ha hk, h0]
    · simp [or_assoc]
    · have := hF (i + 1) x hx
      have e : (a.alt (k.ev a.cnt)).cnt + (reSets (ks.take i)).length = a.cnt + (reSets ((k :: ks).take (i + 1))).length := by
        show (k.ev a.cnt).cnt + _ = _
        rw [Re.cnt, List.take_succ_cons, reSets, List.length_append]; omega
      rw [e]; exact this
end Go.Am

set_option linter.unusedSimpArgs false
set_option linter.unusedVariables false
namespace Go.Am
open Go Go.RowKit Go.Proofs
def Cw (op : Int) (ks : List Re) : Prop := ((op = 0 ∨ op = 1) ∧ ks = []) ∨ (op = 2 ∧ 1 ≤ ks.length) ∨ (op = 3 ∧ 2 ≤ ks.length) ∨ ((4 ≤ op ∧ op ≤ 6) ∧ ks.length = 1)
def Re.wg : Re → Prop
  | .mk op _ ks => wfL ks ∧ Cw op ks
theorem Re.wf.wg {x : Re} (h : x.wf) : x.wg := by
  cases x with
  | mk op s ks =>
    unfold Re.wf at h
    refine ⟨h.1, ?_⟩
    rcases h.2 with h | ⟨h | h, h2⟩ | h
    · exact .inl h
    · exact .inr (.inl ⟨h, by omega⟩)
    · exact .inr (.inr (.inl ⟨h, h2⟩))
    · exact .inr (.inr (.inr h))
theorem wfL_mem : ∀ {ks : List Re} {k : Re}, wfL ks → k ∈ ks → k.wf
  | x :: ks, k, h, hm => by
    unfold wfL at h
    rcases List.mem_cons.1 hm with rfl | hm
    · exact h.1
    · exact wfL_mem h.2 hm
def Mo (M : Mt) (b : Nat) (l : List (List Int)) : Prop := ∀ (j : Nat) s, l[j]? = some s → ∀ c, M (b + j) c ↔ hasB s c = true
theorem Mo.left {M : Mt} {b : Nat} {l r : List (List Int)} (h : Mo M b (l ++ r)) : Mo M b l := fun j s hs => h j s (by rw [List.getElem?_append_left (List.getElem?_eq_some_iff.1 hs).1]; exact hs)
theorem Mo.right {M : Mt} {b : Nat} {l r : List (List Int)} (h : Mo M b (l ++ r)) : Mo M (b + l.length) r := fun j s hs c => by
  have := h (l.length + j) s (by rw [List.getElem?_append_right (by omega), Nat.add_sub_cancel_left]; exact hs) c
  rwa [← Nat.add_assoc] at this
theorem Mo.at {M : Mt} {b : Nat} : ∀ {ks : List Re} {i : Nat} {k : Re}, Mo M b (reSets ks) → ks[i]? = some k → Mo M (b + (reSets (ks.take i)).length) k.sets
  | x :: ks, 0, k, h, hi => by
    simp at hi; subst hi
    rw [reSets] at h
    have := h.left
    simpa [reSets] using this
  | x :: ks, i + 1, k, h, hi => by
    rw [reSets] at h
    have := Mo.at h.right (by simpa using hi)
    rw [List.take_succ_cons, reSets, List.length_append, ← Nat.add_assoc]; exact this
theorem ev_cat2 {s : List Int} {ks : List Re} {b : Nat} : (Re.mk 2 s ks).ev b = evCat ks (Pt.unit b) := by
  unfold Re.ev
  rw [if_neg (by decide), if_pos rfl]
theorem sets_cat2 {s : List Int} {ks : List Re} : (Re.mk 2 s ks).sets = reSets ks := by
  unfold Re.sets
  rw [if_neg (by decide), if_pos (.inl rfl)]
theorem ev_rep {op : Int} (h : 4 ≤ op ∧ op ≤ 6) {s : List Int} {k : Re} {b : Nat} : (Re.mk op s [k]).ev b = (k.ev b).rep op := by
  rw [Re.ev, if_neg (by omega), if_neg (by omega), if_neg (by omega), if_pos h, evOne]
theorem sets_rep {op : Int} (h : 4 ≤ op ∧ op ≤ 6) {s : List Int} {k : Re} : (Re.mk op s [k]).sets = k.sets := by
  rw [Re.sets, if_neg (by omega), if_neg (by omega), if_pos h, reSet1]
theorem sizeL_one {k : Re} : sizeL [k] = k.size := by simp [sizeL]
theorem tk_acc {M : Mt} : ∀ (f : Nat) (x : Re) (w : List Nat) (b : Nat), x.wg → x.size + w.length ≤ f → Mo M b x.sets → (tkF f x w ↔ (x.ev b).acc M w)
  | 0, x, w, b, _, hf, _ => by have := x.size_pos; omega
  | f + 1, .mk op s ks, w, b, hw, hf, hM => by
    obtain ⟨hk, hc⟩ := hw
    have hsz : (Re.mk op s ks).size = sizeL ks + 1 := by unfold Re.size; rfl
    rw [hsz] at hf
    rcases hc with ⟨ho | ho, rfl⟩ | ⟨rfl, h1⟩ | ⟨rfl, h2⟩ | ⟨ho, h1⟩
    · subst ho
      have e : (Re.mk 0 s []).ev b = Pt.unit b := by unfold Re.ev; rfl
      rw [e, unit_acc]
      unfold tkF
      rfl
    · subst ho
      have e : (Re.mk 1 s []).ev b = Pt.one b := by unfold Re.ev; rfl
      rw [e, one_acc]
      unfold tkF
      rw [if_pos rfl]
      have hm : ∀ c, M b c ↔ hasB s c = true := fun c => hM 0 s (by unfold Re.sets; rfl) c
      simp only [hm]
    · -- a row
      rw [ev_cat2]
      rw [sets_cat2] at hM
      match ks, h1, hk, hf, hM with
      | [k], _, hk, hf, hM =>
        have hkk := wfL_mem hk (.head _)
        rw [sizeL_one] at hf
        have e1 : evCat [k] (Pt.unit b) = (Pt.unit b).cat (k.ev b) := rfl
        have hM' : Mo M b k.sets := by have := hM; simpa [reSets] using this
        have ih := tk_acc f k w b hkk.wg (by omega) hM'
        have e2 : tkF (f + 1) (.mk 2 s [k]) w ↔ tkF f k w := by
          rw [tkF, if_neg (by decide), if_neg (by decide), if_pos rfl]
        rw [e1, e2, cat_acc (.unit b) (Re.inn k b), ih]
        constructor
        · exact fun h => ⟨[], w, rfl, rfl, h⟩
        · rintro ⟨u, v, rfl, h3, h4⟩
          have : u = [] := unit_acc.1 h3
          subst this; exact h4
      | k :: k2 :: ks', _, hk, hf, hM =>
        have hkk := wfL_mem hk (.head _)
        have hf' : k.size + sizeL (k2 :: ks') + 1 + w.length ≤ f + 1 := by
          have : sizeL (k :: k2 :: ks') = k.size + sizeL (k2 :: ks') := by rw [sizeL]
          omega
        have e1 : evCat (k :: k2 :: ks') (Pt.unit b) = evCat (k2 :: ks') ((Pt.unit b).cat (k.ev b)) := rfl
        have e2 : tkF (f + 1) (.mk 2 s (k :: k2 :: ks')) w ↔ ∃ u v, w = u ++ v ∧ tkF f k u ∧ tkF f (.mk 2 zs4 (k2 :: ks')) v := by
          rw [tkF, if_neg (by decide), if_neg (by decide), if_pos rfl]
          simp
        have hk0 := Re.inn k b
        have hu : (Pt.unit b).In b := .unit b
        have hM : Mo M b (k.sets ++ reSets (k2 :: ks')) := hM
        have hM2 : Mo M (b + k.sets.length) (Re.mk 2 zs4 (k2 :: ks')).sets := by rw [sets_cat2]; exact hM.right
        have hwg : (Re.mk 2 zs4 (k2 :: ks')).wg := ⟨by unfold wfL at hk; exact hk.2, .inr (.inl ⟨rfl, by simp⟩)⟩
        have hs2 : (Re.mk 2 zs4 (k2 :: ks')).size = sizeL (k2 :: ks') + 1 := by unfold Re.size; rfl
        have hkp := k.size_pos
        rw [e1, e2, evCat_acc _ _ b w (hu.cat hk0)]
        have ec : ((Pt.unit b).cat (k.ev b)).cnt = b + k.sets.length := Re.cnt k b
        rw [ec]
        have step : ∀ u v, w = u ++ v → ((tkF f k u ∧ tkF f (.mk 2 zs4 (k2 :: ks')) v) ↔ (((Pt.unit b).cat (k.ev b)).acc M u ∧ (evCat (k2 :: ks') (Pt.unit (b + k.sets.length))).acc M v)) := by
          intro u v e
          have hl : w.length = u.length + v.length := by rw [e, List.length_append]
          rw [tk_acc f k u b hkk.wg (by omega) hM.left, tk_acc f _ v (b + k.sets.length) hwg (by omega) hM2, ev_cat2, cat_acc hu hk0]
          refine and_congr_left fun _ => ?_
          constructor
          · exact fun h => ⟨[], u, rfl, rfl, h⟩
          · rintro ⟨a, c, rfl, h3, h4⟩
            have : a = [] := unit_acc.1 h3
            subst this; exact h4
        exact ⟨fun ⟨u, v, e, h⟩ => ⟨u, v, e, (step u v e).1 h⟩, fun ⟨u, v, e, h⟩ => ⟨u, v, e, (step u v e).2 h⟩⟩
    · -- one of some
      have e : (Re.mk 3 s ks).ev b = evAlt ks (Pt.zero b) := by
        unfold Re.ev
        rw [if_neg (by decide), if_neg (by decide), if_pos rfl, if_neg]
        cases ks with
        | nil => simp at h2
        | cons _ _ => simp
      have es : (Re.mk 3 s ks).sets = reSets ks := by
        unfold Re.sets
        rw [if_neg (by decide), if_pos (.inr rfl)]
      rw [es] at hM
      have e2 : tkF (f + 1) (.mk 3 s ks) w ↔ ∃ k ∈ ks, tkF f k w := by
        conv => lhs; unfold tkF
        rw [if_neg (by decide), if_pos rfl]
      rw [e, e2, evAlt_acc ks _ b (.zero b) (F := tkF f) fun i k hi => ?_]
      · exact ⟨.inr, fun h => h.elim (fun h => absurd h zero_acc) id⟩
      · have hm := List.mem_of_getElem? hi
        have := sizeL_mem hm
        exact (tk_acc f k w _ (wfL_mem hk hm).wg (by omega) (hM.at hi)).symm
    · match ks, h1, hk, hf, hM with
      | [k], _, hk, hf, hM =>
        have hkk := wfL_mem hk (.head _)
        rw [sizeL_one] at hf
        rw [ev_rep ho]
        rw [sets_rep ho] at hM
        have ihk : ∀ u : List Nat, u.length ≤ w.length → (tkF f k u ↔ (k.ev b).acc M u) := fun u hu => tk_acc f k u b hkk.wg (by omega) hM
        by_cases h6 : op = 6
        · subst h6
          have e2 : tkF (f + 1) (.mk 6 s [k]) w ↔ w = [] ∨ tkF f k w := by
            rw [tkF, if_neg (by decide), if_neg (by decide), if_neg (by decide)]
            simp only [if_true]
          rw [e2, opt_acc, ihk w (Nat.le_refl _)]
        · have e2 : tkF (f + 1) (.mk op s [k]) w ↔ if w = [] then op = 4 ∨ tkF f k w else ∃ u v, w = u ++ v ∧ u ≠ [] ∧ tkF f k u ∧ (v = [] ∨ tkF f (.mk 4 zs4 [k]) v) := by
            rw [tkF, if_neg (by omega), if_neg (by omega), if_neg (by omega)]
            simp only [h6, if_false]
          rw [e2]
          by_cases hw0 : w = []
          · subst hw0
            rw [if_pos rfl, ihk [] (Nat.le_refl _)]
            show op = 4 ∨ (k.ev b).null = true ↔ (if op = 5 then (k.ev b).null else true) = true
            by_cases h5 : op = 5
            · subst h5; simp
            · have : op = 4 := by omega
              subst this; simp
          · rw [if_neg hw0, rep_acc h6 hw0]
            have step : ∀ u v, w = u ++ v → u ≠ [] → ((tkF f k u ∧ (v = [] ∨ tkF f (.mk 4 zs4 [k]) v)) ↔ ((k.ev b).acc M u ∧ (v = [] ∨ v ≠ [] ∧ ((k.ev b).rep op).acc M v))) := by
              intro u v e hu
              have hl : w.length = u.length + v.length := by rw [e, List.length_append]
              have hup : 0 < u.length := List.length_pos_iff.2 hu
              rw [ihk u (by omega)]
              refine and_congr_right fun _ => ?_
              by_cases hv : v = []
              · simp [hv]
              · have hs2 : (Re.mk 4 zs4 [k]).size = k.size + 1 := by rw [Re.size, sizeL_one]
                have ih := tk_acc f (.mk 4 zs4 [k]) v b ⟨hk, .inr (.inr (.inr ⟨⟨by omega, by omega⟩, rfl⟩))⟩ (by omega) (by rw [sets_rep ⟨by omega, by omega⟩]; exact hM)
                rw [ev_rep ⟨by omega, by omega⟩] at ih
                simp only [hv, false_or, ne_eq, not_false_eq_true, true_and]
                rw [ih]
                by_cases h5 : op = 5
                · subst h5; exact (rep_same hv).symm
                · have : op = 4 := by omega
                  subst this; rfl
            exact ⟨fun ⟨u, v, e, hu, h⟩ => ⟨u, v, e, hu, (step u v e hu).1 h⟩, fun ⟨u, v, e, hu, h⟩ => ⟨u, v, e, hu, (step u v e hu).2 h⟩⟩
/-! ### the places that were told -/
theorem mem_last {x : Re} {i : Nat} : i ∈ (poOf x).last ↔ (x.ev 0).lst i = true := by
  show i ∈ srt x.sets.length (x.ev 0).lst ↔ _
  rw [mem_srt]
  have hin := Re.inn x 0
  exact ⟨fun h => h.2, fun h => ⟨by have := (hin.lst i h).2; rw [Re.cnt] at this; omega, h⟩⟩
theorem mem_first {x : Re} {i : Nat} : i ∈ (poOf x).first ↔ (x.ev 0).fst i = true := by
  show i ∈ srt x.sets.length (x.ev 0).fst ↔ _
  rw [mem_srt]
  have hin := Re.inn x 0
  exact ⟨fun h => h.2, fun h => ⟨by have := (hin.fst i h).2; rw [Re.cnt] at this; omega, h⟩⟩
theorem mem_follow {x : Re} {i j : Nat} : j ∈ (poOf x).follow.getD i [] ↔ (x.ev 0).fol i j = true := by
  have hin := Re.inn x 0
  have hg : (poOf x).follow.getD i [] = if i < x.sets.length then srt x.sets.length ((x.ev 0).fol i) else [] := by
    show ((List.range x.sets.length).map fun i => srt x.sets.length ((x.ev 0).fol i)).getD i [] = _
    rw [List.getD_eq_getElem?_getD, List.getElem?_map]
    split
    · rename_i h; rw [List.getElem?_range h]; rfl
    · rename_i h; rw [List.getElem?_eq_none (by simp; omega)]; rfl
  rw [hg]
  constructor
  · intro h
    split at h
    · exact (mem_srt.1 h).2
    · cases h
  · intro h
    have h2 := hin.fol i j h
    rw [Re.cnt] at h2
    rw [if_pos (by omega)]
    exact mem_srt.2 ⟨by omega, h⟩
def MtP (po : Po) : Mt := fun i c => takesB po c i = true
theorem now_run {x : Re} : ∀ (cs : List Nat) (X : Nat → Prop), (∃ y, nowP (poOf x) X cs y ∧ y ∈ (poOf x).last) ↔ ∃ i, X i ∧ (x.ev 0).run (MtP (poOf x)) i cs
  | [], X => by simp only [nowP, Pt.run, mem_last]
  | c :: cs, X => by
    unfold nowP
    rw [now_run cs]
    constructor
    · rintro ⟨i, ⟨⟨y, h1, h2⟩, h3⟩, h4⟩
      exact ⟨y, h1, i, mem_follow.1 h2, h3, h4⟩
    · rintro ⟨y, h1, i, h2, h3, h4⟩
      exact ⟨i, ⟨⟨y, h1, mem_follow.2 h2⟩, h3⟩, h4⟩
theorem takesP_acc {x : Re} (bs : List Nat) : takesP (poOf x) bs ↔ (x.ev 0).acc (MtP (poOf x)) bs := by
  cases bs with
  | nil => exact Iff.rfl
  | cons c cs =>
    show (∃ y, nowP (poOf x) (fun i => i ∈ (poOf x).first ∧ takesB (poOf x) c i = true) cs y ∧ y ∈ (poOf x).last) ↔ _
    rw [now_run]
    constructor
    · rintro ⟨i, ⟨h1, h2⟩, h3⟩; exact ⟨i, mem_first.1 h1, h2, h3⟩
    · rintro ⟨i, h1, h2, h3⟩; exact ⟨i, ⟨mem_first.2 h1, h2⟩, h3⟩
theorem takes_same {x : Re} {f : Nat} {bs : List Nat} (hw : x.wf) (hf : x.size + bs.length ≤ f) : tkF f x bs ↔ takesP (poOf x) bs := by
  rw [takesP_acc]
  refine tk_acc f x bs 0 hw.wg hf fun j s hs c => ?_
  unfold MtP takesB
  have hj := (List.getElem?_eq_some_iff.1 hs).1
  have hg : (poOf x).sets.getD j [] = s := by
    show x.sets.getD j [] = s
    rw [List.getD_eq_getElem?_getD, hs]; rfl
  rw [Nat.zero_add, hg]
  have : decide (j < (poOf x).sets.length) = true := decide_eq_true hj
  rw [this, Bool.true_and]
end Go.Am

set_option linter.unusedSimpArgs false
set_option linter.unusedVariables false
namespace Go.Am
open Go Go.RowKit Go.Proofs
def Bo (P : Prop) (v : Value) : Prop := ∃ bb : Bool, v = .bool bb ∧ (bb = true ↔ P)
def BC (V : Vw) (v : Value) (bs : List Nat) : Prop := (bs = [] ∧ ∃ a c, v = .slice a 0 c ∧ CapOk 0 c ∧ okA a = true) ∨ ∃ b o c cs, v = .slice (some ⟨b, o, none⟩) bs.length c ∧ CapOk bs.length c ∧ V b = some cs ∧ o + bs.length ≤ cs.length ∧ ∀ (i : Nat) x, bs[i]? = some x → cs[o + i]? = some (.int .u8 (x : Nat))
theorem BC.len {V : Vw} {v : Value} {bs : List Nat} (r : BC V v bs) : xLenS v = some (.int .i64 (bs.length : Nat)) := by
  rcases r with ⟨rfl, a, c, rfl, _⟩ | ⟨b, o, c, cs, rfl, _⟩ <;> simp
theorem BC.cut {V : Vw} {bs : List Nat} {v : Value} (r : BC V v bs) {lo hi : Option Value} {x y : Nat} (hr : ∀ c, bs.length ≤ c → boundN hi bs.length c = some y) (hl : boundN lo 0 y = some x) (h1 : x ≤ y) (h2 : y ≤ bs.length) :
    ∃ v', acut Try.prog 39 v lo hi none = some v' ∧ BC V v' ((bs.take y).drop x) := by
  obtain ⟨inf, hu, hi', hsz⟩ := u39
  have hlen : ((bs.take y).drop x).length = y - x := by simp; omega
  rcases r with ⟨rfl, a, c, rfl, hc, ha⟩ | ⟨b, o, c, cs, rfl, hc, hb, hle, hk⟩
  · have hy : y = 0 := by simpa using h2
    subst hy
    have hx : x = 0 := by omega
    subst hx
    match a, ha with
    | none, _ => exact ⟨_, acut_nil hu hi' hc (hr c hc.1) hl (Nat.le_refl _) (Nat.zero_le _), .inl ⟨by simp, _, _, rfl, by simpa using hc, rfl⟩⟩
    | some ⟨b, o, none⟩, _ => exact ⟨_, acut_at hu hi' hc (hr c hc.1) hl (Nat.le_refl _) (Nat.zero_le _), .inl ⟨by simp, _, _, rfl, by simpa using hc, rfl⟩⟩
  · refine ⟨_, acut_at hu hi' hc (hr c hc.1) hl h1 h2, ?_⟩
    have hc' := hc.cut h1 h2
    by_cases hxy : x = y
    · subst hxy
      refine .inl ⟨?_, _, _, by rw [Nat.sub_self], by simpa using hc', rfl⟩
      exact List.eq_nil_of_length_eq_zero (by rw [hlen]; omega)
    · have hcx : c ≠ x := by have := hc.1; omega
      refine .inr ⟨b, o + x * inf.size, c - x, cs, by rw [if_neg hcx, hlen], by rw [hlen]; exact hc', hb, by rw [hlen, hsz]; omega, fun i z hz => ?_⟩
      rw [List.getElem?_drop, List.getElem?_take] at hz
      split at hz
      · have := hk (x + i) z hz
        rw [hsz, Nat.mul_one, Nat.add_assoc]; exact this
      · cases hz
theorem BC.cutL {V : Vw} {bs : List Nat} {v : Value} (r : BC V v bs) {i : Nat} (hi : i ≤ bs.length) : ∃ v', acut Try.prog 39 v none (some (.int .i64 (i : Nat))) none = some v' ∧ BC V v' (bs.take i) := by
  obtain ⟨v', h1, h2⟩ := r.cut (lo := none) (hi := some (.int .i64 (i : Nat))) (x := 0) (y := i) (fun c hc => bd_i (by omega) (by omega)) rfl (Nat.zero_le _) hi
  exact ⟨v', h1, h2⟩
theorem BC.cutR {V : Vw} {bs : List Nat} {v : Value} (r : BC V v bs) {i : Nat} (hi : i ≤ bs.length) : ∃ v', acut Try.prog 39 v (some (.int .i64 (i : Nat))) none none = some v' ∧ BC V v' (bs.drop i) := by
  obtain ⟨v', h1, h2⟩ := r.cut (lo := some (.int .i64 (i : Nat))) (hi := none) (x := i) (y := bs.length) (fun c hc => rfl) (bd_i (by omega) (by omega)) hi (Nat.le_refl _)
  rw [List.take_length] at h2
  exact ⟨v', h1, h2⟩
theorem BC.at0 {V : Vw} {v : Value} {c : Nat} {cs : List Nat} (r : BC V v (c :: cs)) : ∃ b o l, xIdxS 1 v (.int .i64 ((0 : Nat) : Int)) = some (.pointer (some ⟨b, o, none⟩)) ∧ V b = some l ∧ l[o]? = some (.int .u8 (c : Nat)) := by
  rcases r with ⟨h, _⟩ | ⟨b, o, c', l, rfl, h1, h2, h3, h4⟩
  · cases h
  · have := xIdxS_at (sz := 1) (b := b) (o := o) (n := (c :: cs).length) (c := c') (k := .i64) (i := ((0 : Nat) : Int)) (by omega) (by simp)
    refine ⟨b, o, l, by simpa using this, h2, ?_⟩
    simpa using h4 0 c rfl
theorem ab57k {a : Int} {v : Value} (hv : v.oneCell' = true) : abuild Try.prog 57 [(0, .int .i64 a), (2, v)] = some (.agg ⟨[.int .i64 a, .int .u64 0, .int .u64 0, .int .u64 0, .int .u64 0, v]⟩) := by
  cases v <;> first | (simp [Value.oneCell'] at hv; done) | kernel_rfl
theorem ReE.field {V : Vw} {op : Int} {s : List Int} {ks : List Re} {es : List Value} (h : ReE V (.mk op s ks) es) : ∃ kv, es[0]? = some (.int .i64 op) ∧ es[5]? = some kv ∧ (es.drop 1).take 4 = u64s s ∧ s.length = 4 ∧ es.length = 6 ∧ KidsV V ks kv := by
  have hl := h.len
  obtain ⟨kv, rfl, hs, hk⟩ := ReE_mk.1 h
  refine ⟨kv, rfl, ?_, ?_, hs, hl, hk⟩
  · rw [List.getElem?_cons_succ, List.getElem?_append_right (by simp [u64s, hs])]
    simp [u64s, hs]
  · rw [List.drop_succ_cons, List.drop_zero]
    have : (u64s s).length = 4 := by simp [u64s, hs]
    rw [List.take_append_of_le_length (by omega), List.take_of_length_le (by omega)]
section
variable {n : Nat} {cl : CL} {h h0 : PH} {S : Vw} {m : OM} {rows : Rws} {f : Nat}
def Ih32 (cl : CL) (f : Nat) : Prop := ∀ (x : Re) (w : List Nat) (z : Nat), x.wg → x.size + w.length ≤ f → f ≤ z → z < 1000 → ∀ (h : PH) [OkH h] (S : Vw), Vw.le S h.cells → ∀ es bv, ReE S x es → BC S bv w → (∀ c ∈ w, c < 256) → ∃ bb : Bool, pcall (cl 32 [.agg ⟨es⟩, bv, .int .i64 (z : Nat)] h) = some (.bool bb) ∧ (bb = true ↔ tkF f x w)
theorem loop32a (hn : 4611686018427387904 ≤ n) (ih : Ih32 cl f) {x1 z : Nat} {es : List Value} {kv bv : Value} {ks : List Re} {w : List Nat} (st : Sl h0 h S OM.emp [(x1, .row .own 1 es)]) (he5 : es[5]? = some kv) (hk : KidsV S ks kv) (hw : wfL ks) (hsz : sizeL ks + w.length ≤ f) (hz : f < z) (hz1 : z < 1000) (hb : BC S bv w) (h256 : ∀ c ∈ w, c < 256) :
    ∀ (k q i : Nat), ks.length - i ≤ k → k < q → i ≤ ks.length → (∀ x ∈ ks.take i, ¬ tkF f x w) → Ret (lp q (F32_4 n cl) [bv, .int .i64 (z : Nat), pt x1, .int .i64 (i : Nat)] h) fun v _ => Bo (∃ x ∈ ks, tkF f x w) v := by
  have l5 : xLd (.pointer (some ⟨x1, 5, none⟩)) h = some kv := st.ld (.head _) he5
  have hkl := sizeL_len ks
  intro k
  induction k with
  | zero =>
    intro q i h1 h2 h3 h4
    obtain ⟨q, rfl⟩ : ∃ r, q = r + 1 := ⟨q - 1, by omega⟩
    rw [lp_succ]
    have d : decide (((i : Nat) : Int) < ((ks.length : Nat) : Int)) = false := by simp; omega
    simp only [F32_4, F32_3, ucons_cons, xFld_p, Nat.zero_add, l5, vb_some, hk.len, xLt_i, d, bite_f]
    rw [List.take_of_length_le (by omega)] at h4
    exact Ret.of ⟨false, rfl, (fun h => by cases h), fun ⟨x, hx, ht⟩ => absurd ht (h4 x hx)⟩
  | succ k ihk =>
    intro q i h1 h2 h3 h4
    by_cases hi : i < ks.length
    · obtain ⟨q, rfl⟩ : ∃ r, q = r + 1 := ⟨q - 1, by omega⟩
      rw [lp_succ]
      generalize hL : lp q (F32_4 n cl) = LL
      have d : decide (((i : Nat) : Int) < ((ks.length : Nat) : Int)) = true := by simp; omega
      have hx := List.getElem?_eq_getElem hi
      have hm := List.getElem_mem hi
      have htk : ks.take (i + 1) = ks.take i ++ [ks[i]] := by rw [List.take_add_one, hx]; rfl
      generalize ks[i] = x at hx hm htk
      obtain ⟨b, o, cs, es', e1, e2, e3, e4, e5⟩ := hk.at hx
      have la := st.ldSA e2 e3 e4
      have hs := sizeL_mem hm
      have := st.ok
      obtain ⟨bb, p1, p2⟩ := ih x w (z - 1) (wfL_mem hw hm).wg (by omega) (by omega) (by omega) h.fzn S (fun b cs e => st.leS b cs e) es' bv e5 hb h256
      have hz' : IntKind.i64.wrap (((z : Nat) : Int) - ((1 : Nat) : Int)) = ((z - 1 : Nat) : Int) := wrapS (by omega) (by omega)
      simp only [F32_4, F32_3, ucons_cons, xFld_p, Nat.zero_add, l5, vb_some, hk.len, xLt_i, d, bite_t, F32_2, e1, la, vN_eq, xSub_i, hz', p1]
      cases bb with
      | true =>
        simp only [bite_t]
        exact Ret.of ⟨true, rfl, (fun _ => ⟨x, hm, p2.1 rfl⟩), fun _ => rfl⟩
      | false =>
        simp only [bite_f, F32_1, vN_eq, xAdd_i, wrapN (show i < 4611686018427387904 by have := x.size_pos; omega), vb_some]
        rw [← hL]
        refine ihk q (i + 1) (by omega) (by omega) (by omega) fun y hy => ?_
        rw [htk] at hy
        rcases List.mem_append.1 hy with hy | hy
        · exact h4 y hy
        · have e : y = x := by simpa using hy
          subst e
          exact fun ht => by cases p2.2 ht
    · exact ihk q i (by omega) (by omega) h3 h4
theorem loop32c (hn : 4611686018427387904 ≤ n) (ih : Ih32 cl f) {x1 z : Nat} {es : List Value} {kv bv : Value} {k : Re} {ks : List Re} {w : List Nat} (st : Sl h0 h S OM.emp [(x1, .row .own 1 es)]) (he5 : es[5]? = some kv) (hk : KidsV S (k :: ks) kv) (hw : wfL (k :: ks)) (hks : 1 ≤ ks.length) (hsz : sizeL (k :: ks) + w.length ≤ f) (hz : f < z) (hz1 : z < 1000) (hb : BC S bv w) (h256 : ∀ c ∈ w, c < 256) :
    ∀ (d q i : Nat), w.length + 1 - i ≤ d → d < q → i ≤ w.length + 1 → (∀ j, j < i → ¬ (tkF f k (w.take j) ∧ tkF f (.mk 2 zs4 ks) (w.drop j))) → Ret (lp q (F32_9 n cl) [bv, .int .i64 (z : Nat), pt x1, .int .i64 (i : Nat)] h) fun v _ => Bo (∃ u v, w = u ++ v ∧ tkF f k u ∧ tkF f (.mk 2 zs4 ks) v) v := by
  have l5 : xLd (.pointer (some ⟨x1, 5, none⟩)) h = some kv := st.ld (.head _) he5
  have hlen := hb.len
  have hkk : k.wf := wfL_mem hw (.head _)
  have hsz0 : sizeL (k :: ks) = k.size + sizeL ks := by rw [sizeL]
  have hkp := k.size_pos
  have hz' : IntKind.i64.wrap (((z : Nat) : Int) - ((1 : Nat) : Int)) = ((z - 1 : Nat) : Int) := wrapS (by omega) (by omega)
  have hwg : (Re.mk 2 zs4 ks).wg := ⟨by unfold wfL at hw; exact hw.2, .inr (.inl ⟨rfl, hks⟩)⟩
  have hs2 : (Re.mk 2 zs4 ks).size = sizeL ks + 1 := by unfold Re.size; rfl
  intro d
  induction d with
  | zero =>
    intro q i h1 h2 h3 h4
    obtain ⟨q, rfl⟩ : ∃ r, q = r + 1 := ⟨q - 1, by omega⟩
    rw [lp_succ]
    have d : decide (((i : Nat) : Int) ≤ ((w.length : Nat) : Int)) = false := by simp; omega
    simp only [F32_9, F32_8, ucons_cons, hlen, vb_some, xLe_i, d, bite_f]
    refine Ret.of ⟨false, rfl, (fun h => by cases h), fun ⟨u, v, e, t1, t2⟩ => ?_⟩
    have hl : w.length = u.length + v.length := by rw [e, List.length_append]
    exact absurd ⟨by rw [e, List.take_left]; exact t1, by rw [e, List.drop_left]; exact t2⟩ (h4 u.length (by omega))
  | succ d ihd =>
    intro q i h1 h2 h3 h4
    by_cases hi : i ≤ w.length
    · obtain ⟨q, rfl⟩ : ∃ r, q = r + 1 := ⟨q - 1, by omega⟩
      rw [lp_succ]
      generalize hL : lp q (F32_9 n cl) = LL
      have d : decide (((i : Nat) : Int) ≤ ((w.length : Nat) : Int)) = true := by simp; omega
      obtain ⟨vl, c1, c2⟩ := hb.cutL hi
      obtain ⟨vr, c3, c4⟩ := hb.cutR hi
      obtain ⟨b, o, cs, es', e1, e2, e3, e4, e5⟩ := hk.at (i := 0) (x := k) rfl
      have la := st.ldSA e2 e3 e4
      obtain ⟨kv', g1, g2⟩ := hk.cut (lo := some (.int .i64 ((1 : Nat) : Int))) (hi := none) (x := 1) (y := (k :: ks).length) (fun c hc => rfl) (bd_i (by omega) (by simp only [List.length_cons]; omega)) (by simp) (Nat.le_refl _)
      rw [List.take_length, List.drop_succ_cons, List.drop_zero] at g2
      have := st.ok
      have hlt : (w.take i).length = i := by rw [List.length_take]; omega
      have hld : (w.drop i).length = w.length - i := List.length_drop
      obtain ⟨b1, p1, p2⟩ := ih k (w.take i) (z - 1) hkk.wg (by omega) (by omega) (by omega) h.fzn S (fun b cs e => st.leS b cs e) es' vl e5 c2 (fun c hc => h256 c (List.mem_of_mem_take hc))
      obtain ⟨b2, p3, p4⟩ := ih (.mk 2 zs4 ks) (w.drop i) (z - 1) hwg (by omega) (by omega) (by omega) h.fzn S (fun b cs e => st.leS b cs e) _ vr (ReE_mk.2 ⟨kv', rfl, rfl, g2⟩) c4 (fun c hc => h256 c (List.mem_of_mem_drop hc))
      have p3 : pcall (cl 32 [.agg ⟨[.int .i64 ((2 : Nat) : Int), .int .u64 0, .int .u64 0, .int .u64 0, .int .u64 0, kv']⟩, vr, .int .i64 ((z - 1 : Nat) : Int)] h.fzn) = some (.bool b2) := p3
      have next : ¬ (tkF f k (w.take i) ∧ tkF f (.mk 2 zs4 ks) (w.drop i)) → Ret (F32_6 n cl (.int .i64 (i : Nat)) LL bv (.int .i64 (z : Nat)) (pt x1) h) fun v _ => Bo (∃ u v, w = u ++ v ∧ tkF f k u ∧ tkF f (.mk 2 zs4 ks) v) v := by
        intro hnot
        simp only [F32_6, vN_eq, xAdd_i, wrapN (show i < 4611686018427387904 by omega), vb_some]
        rw [← hL]
        refine ihd q (i + 1) (by omega) (by omega) (by omega) fun j hj => ?_
        by_cases e : j = i
        · subst e; exact hnot
        · exact h4 j (by omega)
      simp only [F32_9, F32_8, ucons_cons, hlen, vb_some, xLe_i, d, bite_t, F32_7, xFld_p, Nat.zero_add, c1, vN_eq, xSub_i, hz', l5, e1, la, p1]
      cases b1 with
      | true =>
        simp only [isB_t, gd_true, vb_some, c3, xSub_i, hz', l5, g1, ab57k g2.one, p3, xPick_t]
        cases b2 with
        | true =>
          simp only [bite_t]
          exact Ret.of ⟨true, rfl, (fun _ => ⟨w.take i, w.drop i, (List.take_append_drop _ _).symm, p2.1 rfl, p4.1 rfl⟩), fun _ => rfl⟩
        | false =>
          simp only [bite_f]
          exact next fun ⟨_, t2⟩ => by cases p4.2 t2
      | false =>
        simp only [isB_t, gd_false, vb_some, xPick_f, bite_f]
        exact next fun ⟨t1, _⟩ => by cases p2.2 t1
    · exact ihd q i (by omega) (by omega) h3 h4
theorem loop32s (hn : 4611686018427387904 ≤ n) (ih : Ih32 cl f) {x1 z : Nat} {es : List Value} {kv bv : Value} {k : Re} {w : List Nat} (st : Sl h0 h S OM.emp [(x1, .row .own 1 es)]) (he5 : es[5]? = some kv) (hk : KidsV S [k] kv) (hw : k.wf) (hsz : k.size + w.length ≤ f) (hz : f < z) (hz1 : z < 1000) (hb : BC S bv w) (h256 : ∀ c ∈ w, c < 256) :
    ∀ (d q i : Nat), w.length + 1 - i ≤ d → d < q → 1 ≤ i → i ≤ w.length + 1 → (∀ j, 1 ≤ j → j < i → ¬ (tkF f k (w.take j) ∧ (w.drop j = [] ∨ tkF f (.mk 4 zs4 [k]) (w.drop j)))) → Ret (lp q (F32_16 n cl) [bv, .int .i64 (z : Nat), pt x1, .int .i64 (i : Nat)] h) fun v _ => Bo (∃ u v, w = u ++ v ∧ u ≠ [] ∧ tkF f k u ∧ (v = [] ∨ tkF f (.mk 4 zs4 [k]) v)) v := by
  have l5 : xLd (.pointer (some ⟨x1, 5, none⟩)) h = some kv := st.ld (.head _) he5
  have hlen := hb.len
  have hkp := k.size_pos
  have hz' : IntKind.i64.wrap (((z : Nat) : Int) - ((1 : Nat) : Int)) = ((z - 1 : Nat) : Int) := wrapS (by omega) (by omega)
  have hwg : (Re.mk 4 zs4 [k]).wg := ⟨by unfold wfL; exact ⟨hw, by unfold wfL; trivial⟩, .inr (.inr (.inr ⟨⟨by omega, by omega⟩, rfl⟩))⟩
  have hs2 : (Re.mk 4 zs4 [k]).size = k.size + 1 := by rw [Re.size, sizeL_one]
  intro d
  induction d with
  | zero =>
    intro q i h1 h2 h30 h3 h4
    obtain ⟨q, rfl⟩ : ∃ r, q = r + 1 := ⟨q - 1, by omega⟩
    rw [lp_succ]
    have d : decide (((i : Nat) : Int) ≤ ((w.length : Nat) : Int)) = false := by simp; omega
    simp only [F32_16, F32_15, ucons_cons, hlen, vb_some, xLe_i, d, bite_f]
    refine Ret.of ⟨false, rfl, (fun h => by cases h), fun ⟨u, v, e, hu, t1, t2⟩ => ?_⟩
    have hl : w.length = u.length + v.length := by rw [e, List.length_append]
    exact absurd ⟨by rw [e, List.take_left]; exact t1, by rw [e, List.drop_left]; exact t2⟩ (h4 u.length (List.length_pos_iff.2 hu) (by omega))
  | succ d ihd =>
    intro q i h1 h2 h30 h3 h4
    by_cases hi : i ≤ w.length
    · obtain ⟨q, rfl⟩ : ∃ r, q = r + 1 := ⟨q - 1, by omega⟩
      rw [lp_succ]
      generalize hL : lp q (F32_16 n cl) = LL
      have d : decide (((i : Nat) : Int) ≤ ((w.length : Nat) : Int)) = true := by simp; omega
      obtain ⟨vl, c1, c2⟩ := hb.cutL hi
      obtain ⟨vr, c3, c4⟩ := hb.cutR hi
      obtain ⟨b, o, cs, es', e1, e2, e3, e4, e5⟩ := hk.at (i := 0) (x := k) rfl
      have la := st.ldSA e2 e3 e4
      have := st.ok
      have hlt : (w.take i).length = i := by rw [List.length_take]; omega
      have hld : (w.drop i).length = w.length - i := List.length_drop
      obtain ⟨b1, p1, p2⟩ := ih k (w.take i) (z - 1) hw.wg (by omega) (by omega) (by omega) h.fzn S (fun b cs e => st.leS b cs e) es' vl e5 c2 (fun c hc => h256 c (List.mem_of_mem_take hc))
      obtain ⟨b2, p3, p4⟩ := ih (.mk 4 zs4 [k]) (w.drop i) (z - 1) hwg (by omega) (by omega) (by omega) h.fzn S (fun b cs e => st.leS b cs e) _ vr (ReE_mk.2 ⟨kv, rfl, rfl, hk⟩) c4 (fun c hc => h256 c (List.mem_of_mem_drop hc))
      have p3 : pcall (cl 32 [.agg ⟨[.int .i64 ((4 : Nat) : Int), .int .u64 0, .int .u64 0, .int .u64 0, .int .u64 0, kv]⟩, vr, .int .i64 ((z - 1 : Nat) : Int)] h.fzn) = some (.bool b2) := p3
      have next : ¬ (tkF f k (w.take i) ∧ (w.drop i = [] ∨ tkF f (.mk 4 zs4 [k]) (w.drop i))) → Ret (F32_13 n cl (.int .i64 (i : Nat)) LL bv (.int .i64 (z : Nat)) (pt x1) h) fun v _ => Bo (∃ u v, w = u ++ v ∧ u ≠ [] ∧ tkF f k u ∧ (v = [] ∨ tkF f (.mk 4 zs4 [k]) v)) v := by
        intro hnot
        simp only [F32_13, vN_eq, xAdd_i, wrapN (show i < 4611686018427387904 by omega), vb_some]
        rw [← hL]
        refine ihd q (i + 1) (by omega) (by omega) (by omega) (by omega) fun j hj0 hj => ?_
        by_cases e : j = i
        · subst e; exact hnot
        · exact h4 j hj0 (by omega)
      have hne : w.take i ≠ [] := fun e => by rw [e] at hlt; simp at hlt; omega
      simp only [F32_16, F32_15, ucons_cons, hlen, vb_some, xLe_i, d, bite_t, F32_14, xFld_p, Nat.zero_add, c1, vN_eq, xSub_i, hz', l5, e1, la, p1]
      cases b1 with
      | true =>
        simp only [isB_t, gd_true, vb_some, hlen, xEq_i]
        by_cases hil : i = w.length
        · have d2 : decide (((i : Nat) : Int) = ((w.length : Nat) : Int)) = true := by simp; omega
          simp only [d2, vb_some, isB_f, Bool.not_true, gd_false, xPick_t, gd_true, bite_t]
          have hdn : w.drop i = [] := List.drop_of_length_le (by omega)
          exact Ret.of ⟨true, rfl, (fun _ => ⟨w.take i, w.drop i, (List.take_append_drop _ _).symm, hne, p2.1 rfl, .inl hdn⟩), fun _ => rfl⟩
        · have d2 : decide (((i : Nat) : Int) = ((w.length : Nat) : Int)) = false := by simp; omega
          have hdn : w.drop i ≠ [] := fun e => by rw [e] at hld; simp at hld; omega
          simp only [d2, vb_some, isB_f, Bool.not_false, gd_true, c3, xSub_i, hz', l5, ab57k hk.one, p3, xPick_t, xPick_f]
          cases b2 with
          | true =>
            simp only [bite_t]
            exact Ret.of ⟨true, rfl, (fun _ => ⟨w.take i, w.drop i, (List.take_append_drop _ _).symm, hne, p2.1 rfl, .inr (p4.1 rfl)⟩), fun _ => rfl⟩
          | false =>
            simp only [bite_f]
            exact next fun ⟨_, t2⟩ => t2.elim hdn fun t2 => by cases p4.2 t2
      | false =>
        simp only [isB_t, gd_false, vb_some, isB_u, xPick_f, bite_f]
        exact next fun ⟨t1, _⟩ => by cases p2.2 t1
    · exact ihd q i (by omega) (by omega) h30 h3 h4
end
end Go.Am

set_option linter.unusedSimpArgs false
set_option linter.unusedVariables false
namespace Go.Am
open Go Go.RowKit Go.Proofs
theorem CLV32 {n d : Nat} {u v w : Value} {h : PH} : CLV n (d + 1) 32 [u, v, w] h = F32 n (CLV n d) u v w h := rfl
section
variable {n : Nat} {h h0 : PH} {S : Vw}
theorem c32 (hn : 4611686018427387904 ≤ n) : ∀ (f D : Nat), f ≤ D → Ih32 (CLV n D) f
  | 0, D, hD => fun x w z hw hf => by have := x.size_pos; omega
  | f + 1, 0, hD => by omega
  | f + 1, D + 1, hD => by
    intro x w z hw hf hz hz1 h _ S hS es bv he hb h256
    have ih := c32 hn f D (by omega)
    obtain ⟨op, s, ks⟩ := x
    obtain ⟨hk0, hc⟩ := hw
    have hsz : (Re.mk op s ks).size = sizeL ks + 1 := by rw [Re.size]
    rw [hsz] at hf
    obtain ⟨kv, he0, he5, hes, hs4, hel, hk⟩ := he.field
    have hlen := hb.len
    have key : Ret (F32 n (CLV n D) (.agg ⟨es⟩) bv (.int .i64 (z : Nat)) h) fun v _ => Bo (tkF (f + 1) (.mk op s ks) w) v := by
      unfold F32
      refine Ret.lbox (Sl.start h hS) fun h1 x1 st => ?_
      have st : Sl h h1 S OM.emp [(x1, .row .own 1 es)] := st
      have l0 : xLd (.pointer (some ⟨x1, 0, none⟩)) h1 = some (.int .i64 op) := st.ld (.head _) he0
      have l5 : xLd (.pointer (some ⟨x1, 5, none⟩)) h1 = some kv := st.ld (.head _) he5
      have d0 : decide (((z : Nat) : Int) < ((0 : Nat) : Int)) = false := by simp
      have := st.ok
      have hz' : IntKind.i64.wrap (((z : Nat) : Int) - ((1 : Nat) : Int)) = ((z - 1 : Nat) : Int) := wrapS (by omega) (by omega)
      simp only [vN_eq, xLt_i, vb_some, d0, bite_f, F32_25, xFld_p, Nat.zero_add, l0, xEq_i]
      rcases hc with ⟨ho | ho, hks⟩ | ⟨ho, hc1⟩ | ⟨ho, h2⟩ | ⟨ho, hc1⟩
      · -- nothing
        subst ho; subst hks
        have e : tkF (f + 1) (.mk 0 s []) w ↔ w = [] := by rw [tkF]; simp
        have d1 : decide ((0 : Int) = ((1 : Nat) : Int)) = false := by decide
        have d2 : decide ((0 : Int) = ((2 : Nat) : Int)) = false := by decide
        have d3 : decide ((0 : Int) = ((3 : Nat) : Int)) = false := by decide
        have d4 : decide ((0 : Int) = ((4 : Nat) : Int)) = false := by decide
        have d5 : decide ((0 : Int) = ((5 : Nat) : Int)) = false := by decide
        have d6 : decide ((0 : Int) = ((6 : Nat) : Int)) = false := by decide
        simp only [d1, d2, d3, d4, d5, d6, bite_f, F32_24, F32_23, F32_22, F32_21, F32_20, F32_19, F32_18, vN_eq, xEq_i, vb_some, jn_eq, ucons_cons, hlen]
        refine Ret.of ⟨_, rfl, ?_⟩
        rw [e]
        simp
      · -- a set
        subst ho; subst hks
        have e : tkF (f + 1) (.mk 1 s []) w ↔ ∃ c, w = [c] ∧ hasB s c = true := by rw [tkF, if_pos rfl]
        have d1 : decide ((1 : Int) = ((1 : Nat) : Int)) = true := by decide
        simp only [d1, bite_t, F32_0, hlen, vN_eq, xEq_i, vb_some]
        have la : xLdA 4 (.pointer (some ⟨x1, 1, none⟩)) h1 = some (.agg ⟨u64s s⟩) := st.ldA (.head _) hes (by rw [hel]; decide)
        match w, hb, h256 with
        | [], _, _ =>
          have dl : decide ((([] : List Nat).length : Int) = ((1 : Nat) : Int)) = false := by decide
          simp only [dl, isB_t, gd_false, vb_some, xPick_f]
          refine Ret.of ⟨false, rfl, ?_⟩
          rw [e]; simp
        | [c], hb, h256 =>
          have dl : decide ((([c] : List Nat).length : Int) = ((1 : Nat) : Int)) = true := by simp
          obtain ⟨b, o, l, e1, e2, e3⟩ := hb.at0
          have lc := st.ldS e2 e3
          have hp := c44 (n := n) (cl := CLV n D) (h := h1.fzn) hs4 (h256 c (.head _))
          simp only [dl, isB_t, gd_true, vb_some, xFld_p, Nat.zero_add, e1, la, lc, hp, xPick_t]
          refine Ret.of ⟨_, rfl, ?_⟩
          rw [e]; simp
        | c :: d :: r, _, _ =>
          have dl : decide (((c :: d :: r).length : Int) = ((1 : Nat) : Int)) = false := by simp; omega
          simp only [dl, isB_t, gd_false, vb_some, xPick_f]
          refine Ret.of ⟨false, rfl, ?_⟩
          rw [e]; simp
      · -- a row
        subst ho
        have d1 : decide ((2 : Int) = ((1 : Nat) : Int)) = false := by decide
        have d2 : decide ((2 : Int) = ((2 : Nat) : Int)) = true := by decide
        have d3 : decide ((2 : Int) = ((3 : Nat) : Int)) = false := by decide
        simp only [d1, d2, d3, bite_f, bite_t, F32_24, F32_23, F32_10, vN_eq, xEq_i, vb_some, xFld_p, Nat.zero_add, l5, hk.len]
        match ks, hc1, hk0, hf, hk with
        | [k], _, hk0, hf, hk =>
          have dl : decide ((([k] : List Re).length : Int) = ((1 : Nat) : Int)) = true := by simp
          have hkk := wfL_mem hk0 (.head _)
          rw [sizeL_one] at hf
          obtain ⟨b, o, cs, es', e1, e2, e3, e4, e5⟩ := hk.at (i := 0) (x := k) rfl
          have la := st.ldSA e2 e3 e4
          obtain ⟨b1, p1, p2⟩ := ih k w (z - 1) hkk.wg (by omega) (by omega) (by omega) h1.fzn S (fun b cs e => st.leS b cs e) es' bv e5 hb h256
          simp only [dl, bite_t, F32_5, xFld_p, Nat.zero_add, l5, vb_some, vN_eq, e1, la, xSub_i, hz', p1]
          refine Ret.of ⟨b1, rfl, ?_⟩
          rw [p2, tkF, if_neg (by decide), if_neg (by decide), if_pos rfl]
        | k :: k2 :: ks', _, hk0, hf, hk =>
          have dl : decide (((k :: k2 :: ks').length : Int) = ((1 : Nat) : Int)) = false := by simp; omega
          have e : tkF (f + 1) (.mk 2 s (k :: k2 :: ks')) w ↔ ∃ u v, w = u ++ v ∧ tkF f k u ∧ tkF f (.mk 2 zs4 (k2 :: ks')) v := by
            rw [tkF, if_neg (by decide), if_neg (by decide), if_pos rfl]
            simp
          simp only [dl, bite_f]
          rw [e]
          exact loop32c hn ih st he5 hk hk0 (by simp) (by omega) (by omega) hz1 hb h256 (w.length + 1) n 0 (by omega) (by omega) (by omega) (fun j hj => by omega)
      · -- one of some
        subst ho
        have d1 : decide ((3 : Int) = ((1 : Nat) : Int)) = false := by decide
        have d3 : decide ((3 : Int) = ((3 : Nat) : Int)) = true := by decide
        have e : tkF (f + 1) (.mk 3 s ks) w ↔ ∃ k ∈ ks, tkF f k w := by
          conv => lhs; unfold tkF
          rw [if_neg (by decide), if_pos rfl]
        simp only [d1, d3, bite_f, bite_t, F32_24, vN_eq, xEq_i, vb_some]
        rw [e]
        have hkl := sizeL_len ks
        exact loop32a hn ih st he5 hk hk0 (by omega) (by omega) hz1 hb h256 ks.length n 0 (by omega) (by omega) (by omega) (by simp)
      · match ks, hc1, hk0, hf, hk with
        | [k], _, hk0, hf, hk =>
          have hkk := wfL_mem hk0 (.head _)
          rw [sizeL_one] at hf
          obtain ⟨b, o, cs, es', e1, e2, e3, e4, e5⟩ := hk.at (i := 0) (x := k) rfl
          have la := st.ldSA e2 e3 e4
          obtain ⟨b1, p1, p2⟩ := ih k w (z - 1) hkk.wg (by omega) (by omega) (by omega) h1.fzn S (fun b cs e => st.leS b cs e) es' bv e5 hb h256
          have d1 : decide (op = ((1 : Nat) : Int)) = false := by simp; omega
          have d2 : decide (op = ((2 : Nat) : Int)) = false := by simp; omega
          have d3 : decide (op = ((3 : Nat) : Int)) = false := by simp; omega
          by_cases h6 : op = 6
          · subst h6
            have d6 : decide ((6 : Int) = ((6 : Nat) : Int)) = true := by decide
            have e : tkF (f + 1) (.mk 6 s [k]) w ↔ w = [] ∨ tkF f k w := by
              rw [tkF, if_neg (by decide), if_neg (by decide), if_neg (by decide)]
              simp only [if_true]
            simp only [d1, d2, d3, d6, bite_f, bite_t, F32_24, F32_23, F32_22, F32_11, hlen, vN_eq, xEq_i, vb_some]
            by_cases hw0 : w = []
            · have dl : decide ((w.length : Int) = ((0 : Nat) : Int)) = true := by simp [hw0]
              simp only [dl, isB_f, Bool.not_true, gd_false, vb_some, xPick_t]
              exact Ret.of ⟨true, rfl, (fun _ => e.2 (.inl hw0)), fun _ => rfl⟩
            · have dl : decide ((w.length : Int) = ((0 : Nat) : Int)) = false := by simp [hw0]
              simp only [dl, isB_f, Bool.not_false, gd_true, vb_some, xPick_f, xFld_p, Nat.zero_add, l5, e1, la, xSub_i, hz', p1]
              refine Ret.of ⟨b1, rfl, ?_⟩
              rw [p2, e]; simp [hw0]
          · have d6 : decide (op = ((6 : Nat) : Int)) = false := by simp; omega
            have e : tkF (f + 1) (.mk op s [k]) w ↔ if w = [] then op = 4 ∨ tkF f k w else ∃ u v, w = u ++ v ∧ u ≠ [] ∧ tkF f k u ∧ (v = [] ∨ tkF f (.mk 4 zs4 [k]) v) := by
              rw [tkF, if_neg (by omega), if_neg (by omega), if_neg (by omega)]
              simp only [h6, if_false]
            have go : Ret (F32_17 n (CLV n D) bv (pt x1) (.int .i64 (z : Nat)) h1) fun v _ => Bo (tkF (f + 1) (.mk op s [k]) w) v := by
              simp only [F32_17, hlen, vN_eq, xEq_i, vb_some]
              by_cases hw0 : w = []
              · have dl : decide ((w.length : Int) = ((0 : Nat) : Int)) = true := by simp [hw0]
                rw [if_pos hw0] at e
                simp only [dl, bite_t, F32_12, xFld_p, Nat.zero_add, l0, vb_some, vN_eq, xEq_i]
                by_cases h4 : op = 4
                · have d4 : decide (op = ((4 : Nat) : Int)) = true := by simp [h4]
                  simp only [d4, isB_f, Bool.not_true, gd_false, vb_some, xPick_t]
                  exact Ret.of ⟨true, rfl, (fun _ => e.2 (.inl h4)), fun _ => rfl⟩
                · have d4 : decide (op = ((4 : Nat) : Int)) = false := by simp; omega
                  simp only [d4, isB_f, Bool.not_false, gd_true, vb_some, xPick_f, xFld_p, Nat.zero_add, l5, e1, la, xSub_i, hz', p1]
                  refine Ret.of ⟨b1, rfl, ?_⟩
                  rw [p2, e]; simp [h4]
              · have dl : decide ((w.length : Int) = ((0 : Nat) : Int)) = false := by simp [hw0]
                rw [if_neg hw0] at e
                simp only [dl, bite_f]
                rw [e]
                have := loop32s hn ih st he5 hk hkk (by omega) (by omega) hz1 hb h256 (w.length + 1) n 1 (by omega) (by omega) (Nat.le_refl _) (by omega) (fun j hj0 hj => by omega)
                exact this
            simp only [d1, d2, d3, d6, bite_f, F32_24, F32_23, F32_22, F32_21, vN_eq, xEq_i, vb_some, jn_eq]
            by_cases h4 : op = 4
            · have d4 : decide (op = ((4 : Nat) : Int)) = true := by simp [h4]
              simp only [d4, bite_t, F32_20, ucons_cons]
              exact go
            · have d4 : decide (op = ((4 : Nat) : Int)) = false := by simp; omega
              have d5 : decide (op = ((5 : Nat) : Int)) = true := by simp; omega
              simp only [d4, d5, bite_f, bite_t, F32_20, F32_19, vN_eq, xEq_i, vb_some, ucons_cons]
              exact go
    obtain ⟨v, h1, e, bb, rfl, hbb⟩ := key
    exact ⟨bb, by rw [CLV32, e]; exact pcall_some rfl, hbb⟩
end
end Go.Am

set_option linter.unusedSimpArgs false
set_option linter.unusedVariables false
namespace Go.Am
open Go Go.RowKit Go.Proofs
theorem clt32 {n d : Nat} {u v w : Value} {h : PH} : CLT n d 32 [u, v, w] h = CLV n d 32 [u, v, w] h := rfl
theorem BysV.bc {V : Vw} {v : Value} {bs : List Nat} (h : BysV V v bs) (hl : bs.length ≤ 1000000) : BC V v bs := by
  by_cases e : bs = []
  · subst e
    rcases h.emp rfl with rfl | ⟨b, c, rfl⟩
    · exact .inl ⟨rfl, none, 0, rfl, CapOk.self (by omega), rfl⟩
    · have := h.cap _ _ _ rfl
      subst this
      exact .inl ⟨rfl, _, _, rfl, CapOk.opn (by omega), rfl⟩
  · rcases h.slv e with ⟨he, _⟩ | ⟨b, o, c, cs, rfl, h1, h2, h3⟩
    · have := congrArg List.length he
      rw [bys_len] at this
      exact absurd (List.eq_nil_of_length_eq_zero this) e
    · have := h.cap _ _ _ rfl
      subst this
      rw [bys_len] at h2 ⊢
      exact .inr ⟨b, o, _, cs, rfl, CapOk.opn (by omega), h1, h2, fun i x hx => h3 i _ (by simp [bys, hx])⟩
theorem veq1_i {k : IntKind} {x : Int} : veq1 (.int k x) (.int k x) = true := by
  have h1 : kb k k = true := by cases k <;> rfl
  have h2 : ieq x x = true := by rw [ieq_eq]; simp
  simp [veq1, h1, h2]
theorem veq1_s {a : Option Addr} {l c : Nat} (h : okA a = true) : veq1 (.slice a l c) (.slice a l c) = true := by
  match a, h with
  | none, _ =>
    unfold veq1
    simp only [Nat.beq_refl]; rfl
  | some ⟨b, o, none⟩, _ => exact veq1_sl
theorem KidsV.veq1 {V : Vw} {ks : List Re} {kv : Value} (r : KidsV V ks kv) : Go.Am.veq1 kv kv = true := by
  rcases r with ⟨rfl, a, c, rfl, _, ha⟩ | ⟨b, o, c, cs, rfl, _⟩
  · exact veq1_s ha
  · exact veq1_sl
theorem ReE.veq {V : Vw} {x : Re} {es : List Value} (h : ReE V x es) : Go.Am.veq (.agg ⟨es⟩) (.agg ⟨es⟩) = true := by
  obtain ⟨op, s, ks⟩ := x
  obtain ⟨kv, rfl, hs, hk⟩ := ReE_mk.1 h
  match s, hs with
  | [a, b, c, d], _ =>
    show veqs [.int .i64 op, .int .u64 a, .int .u64 b, .int .u64 c, .int .u64 d, kv] [.int .i64 op, .int .u64 a, .int .u64 b, .int .u64 c, .int .u64 d, kv] = true
    simp only [veqs, veq1_i, hk.veq1]
section
variable {n : Nat} {h h0 : PH} {S : Vw}
theorem law10 [OkH h] (hn : 4611686018427387904 ≤ n) {D : Nat} (hD : 1000000 ≤ D) (hS : Vw.le S h.cells) {t : ByteArray} (ht : t.size < 9223372036854775808) {bv : Value} {bs : List Nat} (hb : BysV S bv bs) (hbs : ∀ c ∈ bs, c < 256) : Ret (F10 n (CLT n (D + 1)) (.string t) bv h) fun v _ => v = .bool true := by
  have st0 : Sl h h S OM.emp [] := Sl.start h hS
  have hok := st0.ok
  unfold F10
  rw [told24]
  simp only [vb_some]
  refine Ret.fcall0 st0 (P := fun v S' => ∃ x es p e, v = .tuple ⟨[.agg ⟨es⟩, .int .i64 p, .int .i64 ((e : Nat) : Int)]⟩ ∧ ReE S' x es ∧ x.wf ∧ x.size ≤ 3 * t.size + 2 ∧ (e = 0 → t.size ≤ 200))
    ((c30 (n := n) (cl := CLT n (D + 1)) (h := h.fzn) (h0 := h.fzn) (S := S) hn (D := D) (by omega) (fun u v h => clt55) ht (Sl.start h.fzn (fun b cs e => st0.leS b cs e))).mono fun v h1 ⟨S', x, es, p, e, le, st, q1, q2, q3, q4, q5⟩ => ⟨S', le, st, x, es, p, e, q1, q2, q3, q4, q5⟩)
    fun v h1 S1 le1 ⟨x, es, p, e, hv, he, hwf, hsz, hts⟩ st1 => ?_
  subst hv
  have hes := he.len
  simp only [xExt_t', List.getElem?_cons_zero, List.getElem?_cons_succ, vb_some]
  refine Ret.lalloc st1 zc57 fun h2 x6 st2 => ?_
  refine Ret.lstA st2 0 rfl rfl hes (by simp) he.one fun h3 st3 => ?_
  rw [setsL_all (by rw [hes]; rfl)] at st3
  have st3 : Sl h h3 S1 OM.emp [(x6, .row .own 1 es)] := st3
  have hlen := hb.len
  simp only [xNot_b, Bool.not_true, isB_f, Bool.not_false, gd_true, vb_some, vN_eq, xNe_i, xPick_f]
  by_cases hz : e = 0
  · have dd : (!decide (((e : Nat) : Int) = ((0 : Nat) : Int))) = false := by simp [hz]
    have ht200 := hts hz
    simp only [dd, isB_f, Bool.not_false, gd_true, vb_some, hlen, xGt_i, xPick_f]
    by_cases hl : 6 < bs.length
    · have d1 : decide (((6 : Nat) : Int) < ((bs.length : Nat) : Int)) = true := by simp; omega
      simp only [d1, isB_f, Bool.not_true, gd_false, vb_some, xPick_t, bite_t]
      exact Ret.of rfl
    have d1 : decide (((6 : Nat) : Int) < ((bs.length : Nat) : Int)) = false := by simp; omega
    simp only [d1, isB_f, Bool.not_false, gd_true, vb_some, xLenT_s, xGt_i, xPick_f]
    by_cases hl2 : 14 < t.size
    · have d2 : decide (((14 : Nat) : Int) < ((t.size : Nat) : Int)) = true := by simp; omega
      simp only [d2, bite_t]
      exact Ret.of rfl
    have d2 : decide (((14 : Nat) : Int) < ((t.size : Nat) : Int)) = false := by simp; omega
    have la3 : xLdA 6 (.pointer (some ⟨x6, 0, none⟩)) h3 = some (.agg ⟨es⟩) := st3.ldA (.head _) (by rw [List.drop_zero, ← hes, List.take_length]) (by omega)
    simp only [d2, bite_f, F10_1, la3, vb_some]
    have hdp := Re.deep_le x
    refine Ret.hb (c26 hn (fun v h => clt50) (fun u v h => clt51) (by omega) (by omega) st3 he) fun v5 h5 ⟨S5, qs, f, le5, st5, hv, hq⟩ => ?_
    subst hv
    simp only [xExt_t', List.getElem?_cons_zero, List.getElem?_cons_succ, vb_some]
    have P2 : qs.length = 5 ∧ oneCells qs = true := by
      rcases hq with ⟨_, _, rfl⟩ | ⟨_, _, _, rfl⟩ | ⟨_, _, _, q⟩
      · exact ⟨rfl, rfl⟩
      · exact ⟨rfl, rfl⟩
      · exact q.ps
    refine Ret.lalloc st5 zc43 fun h6 x19 st6 => ?_
    refine Ret.lstA st6 0 rfl rfl P2.1 (by simp) P2.2 fun h7 st7 => ?_
    rw [setsL_all (by rw [P2.1]; rfl)] at st7
    have st7 : Sl h h7 S5 OM.emp [(x19, .row .own 1 qs), (x6, .row .own 1 es)] := st7
    simp only [c29, vN_eq, xNe_i, vb_some]
    by_cases hf : f = 0
    · have d2 : (!decide ((f : Int) = ((0 : Nat) : Int))) = false := by simp [hf]
      obtain ⟨hs150, _, hp⟩ : x.sets.length ≤ 150 ∧ x.deep ≤ 200 ∧ PoV S5 (poOf x) qs := by
        rcases hq with ⟨_, h, _⟩ | ⟨_, _, h, _⟩ | ⟨q1, q2, _, q3⟩
        · omega
        · omega
        · exact ⟨q1, q2, q3⟩
      have la7 : xLdA 5 (.pointer (some ⟨x19, 0, none⟩)) h7 = some (.agg ⟨qs⟩) := st7.ldA (.head _) (by rw [List.drop_zero, ← P2.1, List.take_length]) (by rw [P2.1]; exact Nat.le_refl _)
      have lb7 : xLdA 6 (.pointer (some ⟨x6, 0, none⟩)) h7 = some (.agg ⟨es⟩) := st7.ldA (.tail _ (.head _)) (by rw [List.drop_zero, ← hes, List.take_length]) (by omega)
      have hin := poOf_in he hs150
      have hfo := poOf_fol hs150
      have hfi := poOf_fst hs150
      have := st7.ok
      have hb5 : BysV S5 bv bs := (hb.mono le1).mono le5
      have hbc : BC S5 bv bs := hb5.bc (by omega)
      obtain ⟨b1, e1, q1⟩ := c31g (n := n) (cl := CLT n (D + 1)) (cl' := CLV n D) (h := h7.fzn) (S := S5) hn hD (fun u v w x h => clt104) (fun u v h => clt61) (fun b cs e => st7.leS b cs e) hp hin (fun w hw => by have := (hfo w hw).2.1; omega) (fun w hw y hy => by have := (hfo w hw).2.2 y hy; omega) (by omega) hlen hb5.slv (fun _ b o n' c' e => by
        subst e
        have h1 := hb5.cap _ _ _ rfl
        have h2 := hlen
        simp at h2
        subst h1
        exact CapOk.opn (by omega)) hbs (by omega)
      obtain ⟨b2, e2, q2⟩ := c32 hn (x.size + bs.length) (D + 1) (by omega) x bs 100 hwf.wg (Nat.le_refl _) (by omega) (by omega) h7.fzn S5 (fun b cs e => st7.leS b cs e) es bv (he.mono le5) hbc hbs
      have hsame := takes_same (bs := bs) hwf (Nat.le_refl (x.size + bs.length))
      have hbb : b1 = b2 := by
        cases b1 <;> cases b2 <;> simp_all
      subst hbb
      have hveq := he.veq
      rw [← vN_eq] at e2
      simp only [d2, bite_f, F10_0, la7, lb7, vb_some, e1, lchk_t hveq, clt32, e2]
      refine Ret.vb abeq' ?_
      exact Ret.of (by simp)
    · have d2 : (!decide ((f : Int) = ((0 : Nat) : Int))) = true := by simp; omega
      simp only [d2, bite_t]
      exact Ret.of rfl
  · have dd : (!decide (((e : Nat) : Int) = ((0 : Nat) : Int))) = true := by simp [hz]
    simp only [dd, isB_t, isB_f, Bool.not_true, gd_false, gd_some', vb_some, xPick_t, bite_t]
    simp
    exact Ret.of rfl
end
end Go.Am
