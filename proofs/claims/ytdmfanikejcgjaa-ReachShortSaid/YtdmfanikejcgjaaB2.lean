import Derived.Test.YtdmfanikejcgjaaB1
set_option linter.unusedSimpArgs false
set_option linter.unusedVariables false
namespace Go.Am
open Go Go.RowKit

inductive Mode | ro | own | opn
  deriving DecidableEq, Repr

/-- An object of the plain machine's memory. -/
inductive AObj where
  | dead
  | row (m : Mode) (esz : Nat) (cs : List Value)
  | map (es : List MapEntry) (clock : Nat)

def AObj.owned : AObj → Bool
  | .row .own _ _ | .row .opn _ _ | .map _ _ => true
  | _ => false

abbrev Heap := List AObj

/-- Entries of a map, and the true ones. -/
inductive ERs (ρ : RMap) : List MapEntry → List MapEntry → Prop
  | nil : ERs ρ [] []
  | cons {k k' v v' : Value} {b : Nat} {xs ys : List MapEntry} : VR ρ k k' → VR ρ v v' → ERs ρ xs ys → ERs ρ (⟨k, v, b⟩ :: xs) (⟨k', v', b⟩ :: ys)

theorem ERs.mono {ρ ρ' : RMap} (hl : ρ.le ρ') {xs ys : List MapEntry} (h : ERs ρ xs ys) : ERs ρ' xs ys := by
  induction h with
  | nil => exact .nil
  | cons h1 h2 _ ih => exact .cons (h1.mono hl) (h2.mono hl) ih

/-- An object, and what lies in the true memory. -/
def OR (ρ : RMap) (w : World) (B : Nat) (L : RLoc) : AObj → Prop
  | .dead => True
  | .row .ro _ cs => L.blk < B ∧ ∀ (i : Nat) v, cs[i]? = some v → ∃ v', w.cell? ⟨L.blk, L.off + i, none⟩ = some v' ∧ VR ρ v v'
  | .row .own _ cs => B ≤ L.blk ∧ ∃ (pre vs suf : List Value) (e : TypeId) (lo hi : Nat), w.heap[L.blk]? = some (.cells ⟨pre ++ vs ++ suf⟩ e (lo, hi)) ∧ pre.length = L.off ∧ VRs ρ cs vs ∧
      (lo = hi ∨ (pre ++ vs ++ suf).length ≤ lo)
  | .row .opn esz cs => B ≤ L.blk ∧ ∃ (pre vs suf : List Value) (e : TypeId) (lo hi : Nat), w.heap[L.blk]? = some (.cells ⟨pre ++ vs ++ suf⟩ e (lo, hi)) ∧ pre.length = L.off ∧ VRs ρ cs vs ∧
      (lo = hi ∨ (pre ++ vs ++ suf).length ≤ lo) ∧ vs.length + suf.length = L.cap * esz
  | .map es clock => B ≤ L.blk ∧ ∃ es', w.heap[L.blk]? = some (.map ⟨es'⟩ clock) ∧ ERs ρ es es'

/-- The plain machine's memory, and the true one. -/
structure Rel (B : Nat) (w0 : World) (ρ : RMap) (h : Heap) (w : World) : Prop where
  below : Below B w0 w
  base : B ≤ w.heap.size
  fin : ∀ b L, ρ b = some L → b < h.length
  lt : ∀ b L o, ρ b = some L → h[b]? = some o → o ≠ .dead → L.blk < w.heap.size
  obj : ∀ (b : Nat) o, h[b]? = some o → ∃ L, ρ b = some L ∧ OR ρ w B L o
  sep : ∀ (b b' : Nat) o o' L L', b ≠ b' → h[b]? = some o → h[b']? = some o' → o.owned = true → o'.owned = true → ρ b = some L → ρ b' = some L' → L.blk ≠ L'.blk

theorem OR.mono {ρ ρ' : RMap} (hl : ρ.le ρ') {w : World} {B : Nat} {L : RLoc} {o : AObj} (h : OR ρ w B L o) : OR ρ' w B L o := by
  cases o with
  | dead => trivial
  | map es clock => obtain ⟨h0, es', h1, h2⟩ := h; exact ⟨h0, es', h1, h2.mono hl⟩
  | row m esz cs =>
    cases m with
    | ro => exact ⟨h.1, fun i v hv => let ⟨v', h1, h2⟩ := h.2 i v hv; ⟨v', h1, h2.mono hl⟩⟩
    | own => obtain ⟨h0, pre, vs, suf, e, lo, hi, h1, h2, h3, h4⟩ := h; exact ⟨h0, pre, vs, suf, e, lo, hi, h1, h2, h3.mono hl, h4⟩
    | opn => obtain ⟨h0, pre, vs, suf, e, lo, hi, h1, h2, h3, h4⟩ := h; exact ⟨h0, pre, vs, suf, e, lo, hi, h1, h2, h3.mono hl, h4⟩

/-- The object does not see a change elsewhere. -/
theorem OR.frame {ρ : RMap} {w w' : World} {B : Nat} {L : RLoc} {o : AObj} (h : OR ρ w B L o) (hw : w'.heap[L.blk]? = w.heap[L.blk]?) : OR ρ w' B L o := by
  cases o with
  | dead => trivial
  | map es clock => obtain ⟨h0, es', h1, h2⟩ := h; exact ⟨h0, es', hw.trans h1, h2⟩
  | row m esz cs =>
    cases m with
    | ro => exact ⟨h.1, fun i v hv => let ⟨v', h1, h2⟩ := h.2 i v hv; ⟨v', by rw [← h1]; simp [World.cell?, hw], h2⟩⟩
    | own => obtain ⟨h0, pre, vs, suf, e, lo, hi, h1, h2, h3, h4⟩ := h; exact ⟨h0, pre, vs, suf, e, lo, hi, hw.trans h1, h2, h3, h4⟩
    | opn => obtain ⟨h0, pre, vs, suf, e, lo, hi, h1, h2, h3, h4⟩ := h; exact ⟨h0, pre, vs, suf, e, lo, hi, hw.trans h1, h2, h3, h4⟩

section
variable {B : Nat} {w0 : World} {ρ : RMap} {h : Heap} {w : World}

/-- The world was drawn from. -/
theorem Rel.draw (hr : Rel B w0 ρ h w) {n : Nat} : Rel B w0 ρ h { w with drawn := n } where
  below := hr.below.trans ⟨rfl, rfl, rfl, Nat.le_refl _, fun _ _ => rfl⟩
  base := hr.base
  fin := hr.fin
  lt := hr.lt
  obj := fun b o ho => let ⟨L, h1, h2⟩ := hr.obj b o ho; ⟨L, h1, h2.frame rfl⟩
  sep := hr.sep

/-- A cell of a row. -/
theorem Rel.cell (hr : Rel B w0 ρ h w) {b : Nat} {m : Mode} {esz : Nat} {cs : List Value} (ho : h[b]? = some (.row m esz cs)) {L : RLoc} (hL : ρ b = some L) {i : Nat} {v : Value} (hi : cs[i]? = some v) :
    ∃ v', w.cell? ⟨L.blk, L.off + i, none⟩ = some v' ∧ VR ρ v v' := by
  obtain ⟨L', hL', hO⟩ := hr.obj b _ ho
  obtain rfl : L = L' := by rw [hL] at hL'; exact Option.some.inj hL'
  have key : ∀ (pre vs suf : List Value) (e : TypeId) (fz : Nat × Nat), w.heap[L.blk]? = some (.cells ⟨pre ++ vs ++ suf⟩ e fz) → pre.length = L.off → VRs ρ cs vs →
      ∃ v', w.cell? ⟨L.blk, L.off + i, none⟩ = some v' ∧ VR ρ v v' := by
    intro pre vs suf e fz h1 h2 h3
    obtain ⟨v', h4, h5⟩ := h3.get hi
    refine ⟨v', ?_, h5⟩
    simp only [World.cell?, h1]
    have hlt : i < vs.length := (List.getElem?_eq_some_iff.1 h4).1
    simp only [Option.isSome_none, Bool.false_eq_true, if_false, List.getElem?_toArray]
    rw [List.append_assoc, List.getElem?_append_right (by omega), ← h2, Nat.add_sub_cancel_left, List.getElem?_append_left hlt, h4]
  cases m with
  | ro => exact hO.2 i v hi
  | own => obtain ⟨_, pre, vs, suf, e, lo, hi', h1, h2, h3, _⟩ := hO; exact key pre vs suf e _ h1 h2 h3
  | opn => obtain ⟨_, pre, vs, suf, e, lo, hi', h1, h2, h3, _⟩ := hO; exact key pre vs suf e _ h1 h2 h3

/-- A new object. -/
theorem Rel.push (hr : Rel B w0 ρ h w) {o : AObj} {obj : Obj} {cap : Nat}
    (hO : ∀ (ρ' : RMap) (w' : World), ρ.le ρ' → w'.heap[w.heap.size]? = some obj → OR ρ' w' B ⟨w.heap.size, 0, cap⟩ o) :
    ∃ ρ', ρ.le ρ' ∧ ρ' h.length = some ⟨w.heap.size, 0, cap⟩ ∧ Rel B w0 ρ' (h ++ [o]) { w with heap := w.heap.push obj } := by
  have hnew : ρ h.length = none := by
    cases hq : ρ h.length with
    | none => rfl
    | some L => exact absurd (hr.fin _ _ hq) (by omega)
  refine ⟨fun b => if b = h.length then some ⟨w.heap.size, 0, cap⟩ else ρ b, ?_, by simp, ?_⟩
  · intro b L hb
    show (if b = h.length then _ else ρ b) = some L
    rw [if_neg]
    · exact hb
    · rintro rfl; rw [hnew] at hb; cases hb
  · have hle : ρ.le (fun b => if b = h.length then some ⟨w.heap.size, 0, cap⟩ else ρ b) := by
      intro b L hb
      show (if b = h.length then _ else ρ b) = some L
      rw [if_neg]
      · exact hb
      · rintro rfl; rw [hnew] at hb; cases hb
    have hold : ∀ k, k < w.heap.size → (w.heap.push obj)[k]? = w.heap[k]? := by
      intro k hk
      rw [Array.getElem?_push, if_neg (by omega)]
    have hblk : ∀ (b : Nat) (L : RLoc), ρ b = some L → h[b]? ≠ none := by
      intro b L hb hn
      have := hr.fin b L hb
      simp at hn
      omega
    refine ⟨hr.below.trans ⟨rfl, rfl, rfl, by simp, fun k hk => hold k (by have := hr.base; omega)⟩, by have := hr.base; simp; omega, ?_, ?_, ?_, ?_⟩
    · intro b L hb
      try simp only at hb
      split at hb
      · simp; omega
      · have := hr.fin b L hb; simp; omega
    · intro b L o' hb ho' hd
      try simp only at hb
      split at hb
      · cases hb; simp
      · have hlt := hr.fin b L hb
        rw [List.getElem?_append_left hlt] at ho'
        have := hr.lt b L o' hb ho' hd
        simp; omega
    · intro b o' ho'
      by_cases hb : b = h.length
      · subst hb
        simp at ho'
        subst ho'
        exact ⟨⟨w.heap.size, 0, cap⟩, by simp, hO _ _ hle (by simp)⟩
      · have hlt : b < h.length := by
          have := (List.getElem?_eq_some_iff.1 ho').1
          simp at this; omega
        rw [List.getElem?_append_left hlt] at ho'
        obtain ⟨L, hL, hO'⟩ := hr.obj b o' ho'
        refine ⟨L, by simp [hb, hL], ?_⟩
        by_cases hd : o' = .dead
        · subst hd; trivial
        · exact (hO'.mono hle).frame (hold _ (hr.lt b L o' hL ho' hd))
    · intro b b' o1 o2 L L' hne h1 h2 hw1 hw2 hL hL'
      try simp only at hL hL'
      by_cases hb : b = h.length
      · subst hb
        rw [if_pos rfl] at hL
        cases hL
        rw [if_neg (by omega)] at hL'
        rw [List.getElem?_append_left (hr.fin b' L' hL')] at h2
        have := hr.lt b' L' o2 hL' h2 (by rintro rfl; simp [AObj.owned] at hw2)
        simp; omega
      · rw [if_neg hb] at hL
        rw [List.getElem?_append_left (hr.fin b L hL)] at h1
        by_cases hb' : b' = h.length
        · subst hb'
          rw [if_pos rfl] at hL'
          cases hL'
          have := hr.lt b L o1 hL h1 (by rintro rfl; simp [AObj.owned] at hw1)
          simp; omega
        · rw [if_neg hb'] at hL'
          rw [List.getElem?_append_left (hr.fin b' L' hL')] at h2
          exact hr.sep b b' o1 o2 L L' hne h1 h2 hw1 hw2 hL hL'

/-- One object is written (it stays in its block). -/
theorem Rel.write (hr : Rel B w0 ρ h w) {b : Nat} {o o' : AObj} (ho : h[b]? = some o) (how : o.owned = true) {L : RLoc} (hL : ρ b = some L) {obj : Obj} (hB : B ≤ L.blk)
    (hO : ∀ w' : World, w'.heap[L.blk]? = some obj → OR ρ w' B L o') :
    Rel B w0 ρ (h.set b o') { w with heap := w.heap.setIfInBounds L.blk obj } := by
  have hb : b < h.length := (List.getElem?_eq_some_iff.1 ho).1
  have hnd : o ≠ .dead := by rintro rfl; simp [AObj.owned] at how
  have hlt := hr.lt b L o hL ho hnd
  have hset : ∀ k, k ≠ L.blk → (w.heap.setIfInBounds L.blk obj)[k]? = w.heap[k]? := fun k hk => Array.getElem?_setIfInBounds_ne (Ne.symm hk)
  refine ⟨hr.below.trans ⟨rfl, rfl, rfl, by simp, fun k hk => hset k (by omega)⟩, by simpa using hr.base, fun b' L' h' => by simpa using hr.fin b' L' h', ?_, ?_, ?_⟩
  · intro b' L' o2 h1 h2 h3
    by_cases hbb : b' = b
    · subst hbb; rw [hL] at h1; cases h1; simpa using hlt
    · rw [List.getElem?_set_ne (Ne.symm hbb)] at h2
      simpa using hr.lt b' L' o2 h1 h2 h3
  · intro b' o2 h2
    by_cases hbb : b' = b
    · subst hbb
      rw [List.getElem?_set_self hb] at h2
      cases h2
      exact ⟨L, hL, hO _ (by simp [hlt])⟩
    · rw [List.getElem?_set_ne (Ne.symm hbb)] at h2
      obtain ⟨L', hL', hO'⟩ := hr.obj b' o2 h2
      refine ⟨L', hL', ?_⟩
      cases o2 with
      | dead => trivial
      | map es clock => exact hO'.frame (hset _ (hr.sep b' b _ _ L' L hbb h2 ho rfl how hL' hL))
      | row m esz cs =>
        cases m with
        | ro => exact hO'.frame (hset _ (by have := hO'.1; omega))
        | own => exact hO'.frame (hset _ (hr.sep b' b _ _ L' L hbb h2 ho rfl how hL' hL))
        | opn => exact hO'.frame (hset _ (hr.sep b' b _ _ L' L hbb h2 ho rfl how hL' hL))
  · intro b1 b2 o1 o2 L1 L2 hne h1 h2 hw1 hw2 hL1 hL2
    have back : ∀ (b3 : Nat) (o3 : AObj), (h.set b o')[b3]? = some o3 → o3.owned = true → ∃ o4, h[b3]? = some o4 ∧ o4.owned = true := by
      intro b3 o3 h3 h4
      by_cases hbb : b3 = b
      · subst hbb; exact ⟨o, ho, how⟩
      · rw [List.getElem?_set_ne (Ne.symm hbb)] at h3; exact ⟨o3, h3, h4⟩
    obtain ⟨o3, h3, h4⟩ := back b1 o1 h1 hw1
    obtain ⟨o5, h5, h6⟩ := back b2 o2 h2 hw2
    exact hr.sep b1 b2 o3 o5 L1 L2 hne h3 h5 h4 h6 hL1 hL2

/-- An object is forgotten. -/
theorem Rel.kill (hr : Rel B w0 ρ h w) (b : Nat) : Rel B w0 ρ (h.set b .dead) w := by
  refine ⟨hr.below, hr.base, fun b' L' h' => by simpa using hr.fin b' L' h', ?_, ?_, ?_⟩
  · intro b' L' o2 h1 h2 h3
    by_cases hbb : b' = b
    · subst hbb
      have hb : b' < h.length := hr.fin b' L' h1
      rw [List.getElem?_set_self hb] at h2; cases h2; exact absurd rfl h3
    · rw [List.getElem?_set_ne (Ne.symm hbb)] at h2
      exact hr.lt b' L' o2 h1 h2 h3
  · intro b' o2 h2
    by_cases hbb : b' = b
    · subst hbb
      have hb : b' < h.length := by have := (List.getElem?_eq_some_iff.1 h2).1; simpa using this
      rw [List.getElem?_set_self hb] at h2; cases h2
      obtain ⟨L, hL, _⟩ := hr.obj b' h[b'] (List.getElem?_eq_getElem hb)
      exact ⟨L, hL, trivial⟩
    · rw [List.getElem?_set_ne (Ne.symm hbb)] at h2
      exact hr.obj b' o2 h2
  · intro b1 b2 o1 o2 L1 L2 hne h1 h2 hw1 hw2 hL1 hL2
    have back : ∀ (b3 : Nat) (o3 : AObj), (h.set b .dead)[b3]? = some o3 → o3.owned = true → h[b3]? = some o3 := by
      intro b3 o3 h3 h4
      by_cases hbb : b3 = b
      · subst hbb
        have hb : b3 < h.length := by have := (List.getElem?_eq_some_iff.1 h3).1; simpa using this
        rw [List.getElem?_set_self hb] at h3; cases h3; simp [AObj.owned] at h4
      · rwa [List.getElem?_set_ne (Ne.symm hbb)] at h3
    exact hr.sep b1 b2 o1 o2 L1 L2 hne (back _ _ h1 hw1) (back _ _ h2 hw2) hw1 hw2 hL1 hL2
end
end Go.Am
