import Derived.Test.YtdmfanikejcgjaaI1
set_option linter.unusedSimpArgs false
set_option linter.unusedVariables false
namespace Go.Am
open Go Go.RowKit Go.Proofs Go.ChangeShapes Go.WideShapes

def ruleL (l : Heap) (r : Rl) (es : List Value) : Prop := ∃ rv, es = [.int .i64 r.left, rv, .int .i64 r.dyn] ∧ RdL intE 1 l rv r.right
structure RIn (r : Rl) : Prop where
  left : inR r.left
  dyn : inR r.dyn
  len : r.right.length < 9223372036854775808
  right : ∀ s ∈ r.right, inR s
theorem inR_of {z : Int} (h : (Lit.int .i64 z).wf = true) : inR z := by
  simp [Lit.wf, IntKind.min, IntKind.max, IntKind.signed, IntKind.bits] at h
  unfold inR; omega
theorem ruleL.app {l : Heap} (ext : Heap) {r : Rl} {es : List Value} (h : ruleL l r es) : ruleL (l ++ ext) r es := let ⟨rv, e, q⟩ := h; ⟨rv, e, q.app ext fun _ _ e => e⟩
section
variable {w : World} {ρ : RMap} {l : Heap} {H : Type} {enc : TypeId × Value → H}
theorem three {l : List Value} (h : l.length = 3) : ∃ a b c, l = [a, b, c] := by
  match l, h with
  | [a, b, c], _ => exact ⟨a, b, c, rfl⟩
theorem drop_app3 {cs : List Value} {k i : Nat} {new : List Value} (hl : cs.length = k * 3) (hi : i < k) : ((cs ++ new).drop (i * 3)).take 3 = (cs.drop (i * 3)).take 3 := by
  rw [List.drop_append_of_le_length (by omega), List.take_append_of_le_length (by simp; omega)]
theorem Im.rulesK (m : Im w ρ l) (h0 : ρ 0 = some ⟨0, 0, 0⟩) {a : Addr} {len n : Nat} (hs : a.spot = none)
    (hcell : ∀ i, i < len → ∃ cs', w.cells? 0 (a.add (i * 3)) 3 = some cs' ∧ ∃ y, DataW.trod enc Try.prog w 0 (fun _ => true) true n 29 cs' = some y) :
    ∀ k, k ≤ len → ∃ (ρ' : RMap) (ext : Heap) (rls : List Rl) (cs : List Value), Im w ρ' (l ++ ext) ∧ ρ.le ρ' ∧ rls.length = k ∧ cs.length = k * 3 ∧ (∀ (i : Nat) v, cs[i]? = some v → ∃ v', w.cell? ⟨a.block, a.off + i, none⟩ = some v' ∧ VR ρ' v v') ∧ (∀ (i : Nat) r, rls[i]? = some r → ruleL (l ++ ext) r ((cs.drop (i * 3)).take 3)) ∧ ∀ r ∈ rls, RIn r
  | 0, _ => ⟨ρ, [], [], [], by rw [List.append_nil]; exact m, RMap.le_refl _, rfl, rfl, by simp, by simp, by simp⟩
  | k + 1, hk => by
    obtain ⟨ρ1, ext, rls, cs, m1, le1, h1, h2, h3, h4, h5⟩ := Im.rulesK m h0 hs hcell k (by omega)
    obtain ⟨cs', hc, y, ht⟩ := hcell k (by omega)
    obtain ⟨_, hlen, hat⟩ := World.cells?_some hc
    obtain ⟨c0, c1, c2, rfl⟩ := three hlen
    obtain ⟨xs, n', _, _, _, hxl, hf⟩ := DataW.trod_struct Try.underlying29 ht
    have C3 : Try.prog.cellsOf 3 = 1 := by kernel_rfl
    have C25 : Try.prog.cellsOf 25 = 1 := by kernel_rfl
    have f0 : DataW.trod enc Try.prog w 0 (fun _ => true) true n' 3 (([c0, c1, c2].drop 0).take (Try.prog.cellsOf 3)) = xs[0]? := hf 0 _ rfl
    have f1 : DataW.trod enc Try.prog w 0 (fun _ => true) true n' 25 (([c0, c1, c2].drop 1).take (Try.prog.cellsOf 25)) = xs[1]? := hf 1 _ rfl
    have f2 : DataW.trod enc Try.prog w 0 (fun _ => true) true n' 3 (([c0, c1, c2].drop 2).take (Try.prog.cellsOf 3)) = xs[2]? := hf 2 _ rfl
    have hx : ∀ j, j < 3 → xs[j]? = some (xs[j]!) := by
      intro j hj
      have : j < xs.length := by rw [hxl]; exact hj
      rw [List.getElem?_eq_getElem this, List.getElem!_eq_getElem?_getD, List.getElem?_eq_getElem this]; rfl
    rw [hx 0 (by omega)] at f0
    rw [hx 1 (by omega)] at f1
    rw [hx 2 (by omega)] at f2
    simp only [C3, C25, List.drop_zero, List.take_succ_cons, List.take_zero, List.drop_succ_cons] at f0 f1 f2
    obtain ⟨a0, e0, _, w0⟩ := DataW.trod_int Try.underlying3 f0
    obtain ⟨a2, e2, _, w2⟩ := DataW.trod_int Try.underlying3 f2
    cases e0
    cases e2
    obtain ⟨ρ2, ext2, rv, right, m2, le2, hv, hrd, hrl, hrin⟩ := m1.ints (le1 _ _ h0) f1
    have hbase : ∀ j, j < 3 → w.cell? ⟨a.block, a.off + (k * 3 + j), none⟩ = [Value.int .i64 a0, c1, Value.int .i64 a2][j]? := by
      intro j hj
      have := hat j hj
      rw [add_eq hs, add_eq rfl] at this
      rw [← this]
      show w.cell? ⟨a.block, a.off + (k * 3 + j), none⟩ = w.cell? ⟨a.block, a.off + k * 3 + j, none⟩
      rw [Nat.add_assoc]
    refine ⟨ρ2, ext ++ ext2, rls ++ [⟨a0, right, a2⟩], cs ++ [.int .i64 a0, rv, .int .i64 a2], by rw [← List.append_assoc]; exact m2, RMap.le_trans le1 le2, by simp [h1], by simp [h2]; omega, ?_, ?_, ?_⟩
    · intro i v hi
      by_cases hlt : i < cs.length
      · rw [List.getElem?_append_left hlt] at hi
        obtain ⟨v', e1, e2⟩ := h3 i v hi
        exact ⟨v', e1, e2.mono le2⟩
      · have hi3 : i - cs.length < 3 := by
          have := (List.getElem?_eq_some_iff.1 hi).1; simp at this; omega
        rw [List.getElem?_append_right (by omega)] at hi
        have hb := hbase (i - cs.length) hi3
        have e : k * 3 + (i - cs.length) = i := by omega
        rw [e] at hb
        rw [hb]
        generalize i - cs.length = j at hi hi3
        match j, hi3, hi with
        | 0, _, hi => cases hi; exact ⟨_, rfl, .int _ _⟩
        | 1, _, hi => cases hi; exact ⟨_, rfl, hv⟩
        | 2, _, hi => cases hi; exact ⟨_, rfl, .int _ _⟩
    · intro i r hi
      by_cases hlt : i < k
      · rw [List.getElem?_append_left (by omega)] at hi
        rw [drop_app3 h2 hlt, ← List.append_assoc]
        exact (h4 i r hi).app ext2
      · have hik : i = k := by
          have := (List.getElem?_eq_some_iff.1 hi).1; simp at this; omega
        subst hik
        rw [List.getElem?_append_right (by omega), h1] at hi
        simp at hi; subst hi
        rw [← h2, List.drop_left, ← List.append_assoc]
        exact ⟨rv, rfl, hrd⟩
    · intro r hr
      rcases List.mem_append.1 hr with h | h
      · exact h5 r h
      · simp at h; subst h; exact ⟨inR_of w0, inR_of w2, hrl, hrin⟩
theorem Im.rules (m : Im w ρ l) (h0 : ρ 0 = some ⟨0, 0, 0⟩) {fuel : Nat} {v : Value} {x : DataW H × List MemPlace} (ht : DataW.trod enc Try.prog w 0 (fun _ => true) true fuel 23 [v] = some x) :
    ∃ ρ' ext rv xs, Im w ρ' (l ++ ext) ∧ ρ.le ρ' ∧ VR ρ' rv v ∧ RdL (ruleL (l ++ ext)) 3 (l ++ ext) rv xs ∧ xs.length < 9223372036854775808 ∧ ∀ r ∈ xs, RIn r := by
  have C29 : Try.prog.cellsOf 29 = 3 := by kernel_rfl
  have hmx : maxLen = 9223372036854775807 := rfl
  rcases Deep.open_slice Try.underlying23 ht with ⟨hcs, _⟩ | ⟨a, len, cap, mm, n, D, Pl, hcs, _, hl, hm, hmm, _, hcell⟩
  · cases hcs
    exact ⟨ρ, [], nils, [], by rw [List.append_nil]; exact m, RMap.le_refl _, .snil _ _, .inl ⟨rfl, _, _, rfl⟩, by simp, by simp⟩
  · cases hcs
    simp only [if_true] at hmm
    rw [C29] at hcell
    cases hc0 : cap with
    | zero =>
      have hl0 : len = 0 := by omega
      subst hl0
      exact ⟨ρ, [], .slice (some ⟨0, 0, none⟩) 0 openCap, [], by rw [List.append_nil]; exact m, RMap.le_refl _, .slz h0 (by decide) rfl, .inl ⟨rfl, _, _, rfl⟩, by simp, by simp⟩
    | succ cap' =>
      obtain ⟨cs0, hc, _⟩ := hcell 0 (by omega)
      obtain ⟨_, hlen0, hat0⟩ := World.cells?_some hc
      obtain ⟨d0, d1, d2, rfl⟩ := three hlen0
      have hat0 := hat0 0 (by omega)
      obtain ⟨hb, hs⟩ := cell_lt (v := d0) (by rw [hat0]; rfl)
      have hb : a.block < w.heap.size := by simpa [Addr.add] using hb
      have hs : a.spot = none := by simpa [Addr.add] using hs
      have ea : a = ⟨a.block, a.off, none⟩ := by cases a; simp_all
      obtain ⟨ρ1, ext, rls, cs, m1, le1, h1, h2, h3, h4, h5⟩ := Im.rulesK m h0 hs (len := len) (n := n) (enc := enc) (fun i hi => let ⟨c, q1, q2⟩ := hcell i (by omega); ⟨c, q1, _, q2⟩) len (Nat.le_refl _)
      have m' := m1.row 3 a.block a.off cap cs hb h3
      refine ⟨_, ext ++ [.row .ro 3 cs], .slice (some ⟨(l ++ ext).length, 0, none⟩) len openCap, rls, by rw [← List.append_assoc]; exact m', RMap.le_trans le1 (upR_le m1 _), ?_, .inr ⟨(l ++ ext).length, 0, openCap, cs, 3, by rw [h1], by rw [← List.append_assoc]; simp, fun i x hx => ?_⟩, by omega, h5⟩
      · rw [ea]
        have e : upR ρ1 (l ++ ext).length ⟨a.block, a.off, cap⟩ (l ++ ext).length = some ⟨a.block, a.off, cap⟩ := by unfold upR; rw [if_pos rfl]
        rw [← hc0]
        exact VR.slo e (by decide) (Nat.add_comm _ _) hl
      · have hlt := (List.getElem?_eq_some_iff.1 hx).1
        refine ⟨by omega, ?_⟩
        rw [Nat.zero_add, ← List.append_assoc]
        exact (h4 i x hx).app _
end
end Go.Am
