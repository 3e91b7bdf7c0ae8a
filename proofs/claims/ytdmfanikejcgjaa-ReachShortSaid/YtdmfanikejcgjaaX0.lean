import Derived.Test.YtdmfanikejcgjaaB15
set_option linter.unusedSimpArgs false
set_option linter.unusedVariables false
namespace Go.Am
open Go Go.RowKit

/-! ### a call that turns nothing of what is there -/
def freeze : AObj → AObj
  | .row _ esz cs => .row .ro esz cs
  | _ => .dead
theorem freeze_freeze (o : AObj) : freeze (freeze o) = freeze o := by cases o <;> rfl

section
variable {B : Nat} {w0 : World} {ρ : RMap} {h : Heap} {w : World}
theorem Rel.freeze (hr : Rel B w0 ρ h w) : Rel w.heap.size w ρ (h.map Go.Am.freeze) w := by
  have back : ∀ (b : Nat) o, (h.map Go.Am.freeze)[b]? = some o → ∃ o', h[b]? = some o' ∧ o = Go.Am.freeze o' := by
    intro b o ho
    simp only [List.getElem?_map, Option.map_eq_some_iff] at ho
    obtain ⟨o', h1, h2⟩ := ho
    exact ⟨o', h1, h2.symm⟩
  refine ⟨Below.refl _ _, Nat.le_refl _, fun b L hb => by simpa using hr.fin b L hb, ?_, ?_, ?_⟩
  · intro b L o hb ho hd
    obtain ⟨o', h1, rfl⟩ := back b o ho
    exact hr.lt b L o' hb h1 (by rintro rfl; exact hd rfl)
  · intro b o ho
    obtain ⟨o', h1, rfl⟩ := back b o ho
    obtain ⟨L, hL, _⟩ := hr.obj b o' h1
    refine ⟨L, hL, ?_⟩
    cases o' with
    | dead => trivial
    | map es c => trivial
    | row m esz cs => exact ⟨hr.lt b L _ hL h1 (by simp), fun i v hv => hr.cell h1 hL hv⟩
  · intro b b' o o' L L' _ h1 _ hw _ _ _
    obtain ⟨o1, _, rfl⟩ := back b o h1
    cases o1 <;> simp [Go.Am.freeze, AObj.owned] at hw

theorem Rel.thaw {ρ' : RMap} {h' : Heap} {w' : World} (hr : Rel B w0 ρ h w) (hr' : Rel w.heap.size w ρ' h' w') : Rel B w0 ρ h w' := by
  have hb := hr'.below
  refine ⟨hr.below.trans ⟨hb.os, hb.tape, hb.output, hb.size, fun k hk => hb.block k (by have := hr.base; omega)⟩, by have := hr.base; have := hb.size; omega, hr.fin, ?_, ?_, hr.sep⟩
  · intro b L o h1 h2 h3
    have := hr.lt b L o h1 h2 h3
    have := hb.size
    omega
  · intro b o ho
    obtain ⟨L, hL, hO⟩ := hr.obj b o ho
    refine ⟨L, hL, ?_⟩
    by_cases hd : o = .dead
    · subst hd; trivial
    · exact hO.frame (hb.block _ (hr.lt b L o hL ho hd))
end

def notroA : AObj → Prop
  | .row .ro _ _ => False
  | _ => True
theorem Rel.thawNew {B : Nat} {w0 : World} {ρ ρ' : RMap} {h news : Heap} {w w' : World} (hr : Rel B w0 ρ h w) (hl : ρ.le ρ') (hr' : Rel w.heap.size w ρ' (h.map Go.Am.freeze ++ news) w') (hn : ∀ o ∈ news, notroA o) : Rel B w0 ρ' (h ++ news) w' := by
  have hb := hr'.below
  have hB := hr.base
  have old : ∀ (b : Nat) o, b < h.length → (h ++ news)[b]? = some o → h[b]? = some o := by
    intro b o hlt ho; rwa [List.getElem?_append_left hlt] at ho
  have new : ∀ (b : Nat) o, ¬ b < h.length → (h ++ news)[b]? = some o → (h.map Go.Am.freeze ++ news)[b]? = some o ∧ o ∈ news := by
    intro b o hge ho
    rw [List.getElem?_append_right (by omega)] at ho
    refine ⟨?_, List.mem_of_getElem? ho⟩
    rw [List.getElem?_append_right (by simpa using hge)]
    simpa using ho
  have loc : ∀ (b : Nat) o, h[b]? = some o → ∃ L, ρ b = some L ∧ ρ' b = some L := by
    intro b o ho
    obtain ⟨L, hL, _⟩ := hr.obj b o ho
    exact ⟨L, hL, hl _ _ hL⟩
  refine ⟨hr.below.trans ⟨hb.os, hb.tape, hb.output, hb.size, fun k hk => hb.block k (by omega)⟩, by have := hb.size; omega, fun b L hbL => by simpa using hr'.fin b L hbL, ?_, ?_, ?_⟩
  · intro b L o h1 h2 h3
    by_cases hlt : b < h.length
    · have ho := old b o hlt h2
      obtain ⟨L2, hL, hL'⟩ := loc b o ho
      rw [hL'] at h1; cases h1
      have := hr.lt b _ o hL ho h3
      have := hb.size
      omega
    · exact hr'.lt b L o h1 (new b o hlt h2).1 h3
  · intro b o h2
    by_cases hlt : b < h.length
    · have ho := old b o hlt h2
      obtain ⟨L, hL, hO⟩ := hr.obj b o ho
      refine ⟨L, hl _ _ hL, ?_⟩
      by_cases hd : o = .dead
      · subst hd; trivial
      · exact (hO.mono hl).frame (hb.block _ (hr.lt b L o hL ho hd))
    · obtain ⟨hk, hm⟩ := new b o hlt h2
      obtain ⟨L, hL, hO⟩ := hr'.obj b o hk
      refine ⟨L, hL, ?_⟩
      have hnr := hn o hm
      cases o with
      | dead => trivial
      | map es c => exact ⟨by have := hO.1; omega, hO.2⟩
      | row m esz cs => cases m with
        | ro => exact hnr.elim
        | own => exact ⟨by have := hO.1; omega, hO.2⟩
        | opn => exact ⟨by have := hO.1; omega, hO.2⟩
  · intro b b' o o' L L' hne h1 h2 hw1 hw2 hL hL'
    have nd : ∀ {o : AObj}, o.owned = true → o ≠ .dead := by rintro o ho rfl; simp [AObj.owned] at ho
    have oldlt : ∀ (b : Nat) o L, b < h.length → (h ++ news)[b]? = some o → o.owned = true → ρ' b = some L → L.blk < w.heap.size := by
      intro b o L hlt ho hw hL
      have ho := old b o hlt ho
      obtain ⟨L2, hL2, hL3⟩ := loc b o ho
      rw [hL3] at hL; cases hL
      exact hr.lt b _ o hL2 ho (nd hw)
    have newge : ∀ (b : Nat) o L, ¬ b < h.length → (h ++ news)[b]? = some o → o.owned = true → ρ' b = some L → w.heap.size ≤ L.blk := by
      intro b o L hlt ho hw hL
      obtain ⟨hk, hm⟩ := new b o hlt ho
      obtain ⟨L2, hL2, hO⟩ := hr'.obj b o hk
      rw [hL2] at hL; cases hL
      cases o with
      | dead => exact (nd hw rfl).elim
      | map es c => exact hO.1
      | row m esz cs => cases m with
        | ro => simp [AObj.owned] at hw
        | own => exact hO.1
        | opn => exact hO.1
    by_cases hlt : b < h.length
    · by_cases hlt' : b' < h.length
      · have ho := old b o hlt h1
        have ho' := old b' o' hlt' h2
        obtain ⟨L2, hL2, hL3⟩ := loc b o ho
        obtain ⟨L4, hL4, hL5⟩ := loc b' o' ho'
        rw [hL3] at hL; cases hL
        rw [hL5] at hL'; cases hL'
        exact hr.sep b b' o o' _ _ hne ho ho' hw1 hw2 hL2 hL4
      · have := oldlt b o L hlt h1 hw1 hL
        have := newge b' o' L' hlt' h2 hw2 hL'
        omega
    · by_cases hlt' : b' < h.length
      · have := oldlt b' o' L' hlt' h2 hw2 hL'
        have := newge b o L hlt h1 hw1 hL
        omega
      · exact hr'.sep b b' o o' L L' hne (new b o hlt h1).1 (new b' o' hlt' h2).1 hw1 hw2 hL hL'

theorem ACall.frozenNew {P : Program} {f : FuncId} {args : List Value} {h news : Heap} {c : Value} (hc : ACall P f args (h.map freeze) (fun u k => u = c ∧ k = h.map freeze ++ news)) (hn : ∀ o ∈ news, notroA o) : ACall P f args h (fun u k => u = c ∧ k = h ++ news) := by
  intro B w0 ρ rargs w hr hv
  refine (hc w.heap.size w ρ rargs w hr.freeze hv).mono ?_
  rintro e w' ⟨v, v', h', ρ', he, ⟨rfl, rfl⟩, hl, hr', hvr⟩
  exact ⟨v, v', h ++ news, ρ', he, ⟨rfl, rfl⟩, hl, hr.thawNew hl hr' hn, hvr⟩

theorem ACall.frozen {P : Program} {f : FuncId} {args : List Value} {h : Heap} {c : Value} (hc : ACall P f args (h.map freeze) (fun u _ => u = c)) (hp : plainV c = true) : ACall P f args h (fun u k => u = c ∧ k = h) := by
  intro B w0 ρ rargs w hr hv
  refine (hc w.heap.size w ρ rargs w hr.freeze hv).mono ?_
  rintro e w' ⟨v, v', h', ρ', he, rfl, hl, hr', hvr⟩
  refine ⟨v, v', h, ρ, he, ⟨rfl, rfl⟩, ρ.le_refl, hr.thaw hr', ?_⟩
  rw [hvr.plain_eq hp]
  exact VR.plain hp
end Go.Am
