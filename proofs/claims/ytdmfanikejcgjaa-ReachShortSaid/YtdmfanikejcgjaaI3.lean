import Derived.Test.YtdmfanikejcgjaaI2
set_option linter.unusedSimpArgs false
set_option linter.unusedVariables false
namespace Go.Am
open Go Go.RowKit Go.Proofs Go.ChangeShapes Go.WideShapes

section
variable {w : World} {ρ : RMap} {l : Heap} {H : Type} {enc : TypeId × Value → H}
theorem some_at {α : Type} [Inhabited α] {xs : List α} {j : Nat} (h : j < xs.length) : xs[j]? = some (xs[j]!) := by
  rw [List.getElem?_eq_getElem h, List.getElem!_eq_getElem?_getD, List.getElem?_eq_getElem h]; rfl
theorem Im.forbK {a : Addr} {len n : Nat} (hs : a.spot = none)
    (hcell : ∀ i, i < len → ∃ cs', w.cells? 0 (a.add (i * 3)) 3 = some cs' ∧ ∃ y, DataW.trod enc Try.prog w 0 (fun _ => true) true n 49 cs' = some y) :
    ∀ k, k ≤ len → ∃ (fs : List (Int × Int × Int)) (cs : List Value), fs.length = k ∧ cs.length = k * 3 ∧ (∀ (i : Nat) v, cs[i]? = some v → ∃ v', w.cell? ⟨a.block, a.off + i, none⟩ = some v' ∧ VR ρ v v') ∧ (∀ (i : Nat) r, fs[i]? = some r → int3E r ((cs.drop (i * 3)).take 3)) ∧ ∀ f ∈ fs, inR f.1 ∧ inR f.2.1 ∧ inR f.2.2
  | 0, _ => ⟨[], [], rfl, rfl, by simp, by simp, by simp⟩
  | k + 1, hk => by
    obtain ⟨fs, cs, h1, h2, h3, h4, h5⟩ := Im.forbK hs hcell k (by omega)
    obtain ⟨cs', hc, y, ht⟩ := hcell k (by omega)
    obtain ⟨_, hlen, hat⟩ := World.cells?_some hc
    obtain ⟨c0, c1, c2, rfl⟩ := three hlen
    obtain ⟨xs, n', _, _, _, hxl, hf⟩ := DataW.trod_array Try.underlying49 ht
    have C3 : Try.prog.cellsOf 3 = 1 := by kernel_rfl
    have f0 := hf 0 (by omega)
    have f1 := hf 1 (by omega)
    have f2 := hf 2 (by omega)
    rw [List.getElem?_eq_getElem (by omega), C3] at f0 f1 f2
    simp only [Nat.zero_mul, Nat.one_mul, Nat.mul_one, List.drop_zero, List.take_succ_cons, List.take_zero, List.drop_succ_cons] at f0 f1 f2
    obtain ⟨a0, e0, _, w0⟩ := DataW.trod_int Try.underlying3 f0
    obtain ⟨a1, e1, _, w1⟩ := DataW.trod_int Try.underlying3 f1
    obtain ⟨a2, e2, _, w2⟩ := DataW.trod_int Try.underlying3 f2
    cases e0
    cases e1
    cases e2
    have hbase : ∀ j, j < 3 → w.cell? ⟨a.block, a.off + (k * 3 + j), none⟩ = [Value.int .i64 a0, Value.int .i64 a1, Value.int .i64 a2][j]? := by
      intro j hj
      have := hat j hj
      rw [add_eq hs, add_eq rfl] at this
      rw [← this]
      show w.cell? ⟨a.block, a.off + (k * 3 + j), none⟩ = w.cell? ⟨a.block, a.off + k * 3 + j, none⟩
      rw [Nat.add_assoc]
    refine ⟨fs ++ [(a0, a1, a2)], cs ++ [.int .i64 a0, .int .i64 a1, .int .i64 a2], by simp [h1], by simp [h2]; omega, ?_, ?_, ?_⟩
    · intro i v hi
      by_cases hlt : i < cs.length
      · rw [List.getElem?_append_left hlt] at hi
        exact h3 i v hi
      · have hi3 : i - cs.length < 3 := by
          have := (List.getElem?_eq_some_iff.1 hi).1; simp at this; omega
        rw [List.getElem?_append_right (by omega)] at hi
        have hb := hbase (i - cs.length) hi3
        have e : k * 3 + (i - cs.length) = i := by omega
        rw [e] at hb
        rw [hb]
        generalize i - cs.length = j at hi hi3
        match j, hi3, hi with
        | 0, _, hi => cases hi; exact ⟨_, rfl, .int _ _⟩
        | 1, _, hi => cases hi; exact ⟨_, rfl, .int _ _⟩
        | 2, _, hi => cases hi; exact ⟨_, rfl, .int _ _⟩
    · intro i r hi
      by_cases hlt : i < k
      · rw [List.getElem?_append_left (by omega)] at hi
        rw [drop_app3 h2 hlt]
        exact h4 i r hi
      · have hik : i = k := by
          have := (List.getElem?_eq_some_iff.1 hi).1; simp at this; omega
        subst hik
        rw [List.getElem?_append_right (by omega), h1] at hi
        simp at hi; subst hi
        rw [← h2, List.drop_left]
        rfl
    · intro r hr
      rcases List.mem_append.1 hr with h | h
      · exact h5 r h
      · simp at h; subst h; exact ⟨inR_of w0, inR_of w1, inR_of w2⟩
theorem Im.forb (m : Im w ρ l) (h0 : ρ 0 = some ⟨0, 0, 0⟩) {fuel : Nat} {v : Value} {x : DataW H × List MemPlace} (ht : DataW.trod enc Try.prog w 0 (fun _ => true) true fuel 24 [v] = some x) :
    ∃ (ρ' : RMap) (ext : Heap) (rv : Value) (xs : List (Int × Int × Int)), Im w ρ' (l ++ ext) ∧ ρ.le ρ' ∧ VR ρ' rv v ∧ RdL int3E 3 (l ++ ext) rv xs ∧ xs.length < 9223372036854775808 ∧ ∀ f ∈ xs, inR f.1 ∧ inR f.2.1 ∧ inR f.2.2 := by
  have C49 : Try.prog.cellsOf 49 = 3 := by kernel_rfl
  have hmx : maxLen = 9223372036854775807 := rfl
  rcases Deep.open_slice Try.underlying24 ht with ⟨hcs, _⟩ | ⟨a, len, cap, mm, n, D, Pl, hcs, _, hl, hm, hmm, _, hcell⟩
  · cases hcs
    exact ⟨ρ, [], nils, [], by rw [List.append_nil]; exact m, RMap.le_refl _, .snil _ _, .inl ⟨rfl, _, _, rfl⟩, by simp, by simp⟩
  · cases hcs
    simp only [if_true] at hmm
    rw [C49] at hcell
    cases hc0 : cap with
    | zero =>
      have hl0 : len = 0 := by omega
      subst hl0
      exact ⟨ρ, [], .slice (some ⟨0, 0, none⟩) 0 openCap, [], by rw [List.append_nil]; exact m, RMap.le_refl _, .slz h0 (by decide) rfl, .inl ⟨rfl, _, _, rfl⟩, by simp, by simp⟩
    | succ cap' =>
      obtain ⟨cs0, hc, _⟩ := hcell 0 (by omega)
      obtain ⟨_, hlen0, hat0⟩ := World.cells?_some hc
      obtain ⟨d0, d1, d2, rfl⟩ := three hlen0
      have hat0 := hat0 0 (by omega)
      obtain ⟨hb, hs⟩ := cell_lt (v := d0) (by rw [hat0]; rfl)
      have hb : a.block < w.heap.size := by simpa [Addr.add] using hb
      have hs : a.spot = none := by simpa [Addr.add] using hs
      have ea : a = ⟨a.block, a.off, none⟩ := by cases a; simp_all
      obtain ⟨fs, cs, h1, h2, h3, h4, h5⟩ := Im.forbK (ρ := ρ) hs (len := len) (n := n) (enc := enc) (fun i hi => let ⟨c, q1, q2⟩ := hcell i (by omega); ⟨c, q1, _, q2⟩) len (Nat.le_refl _)
      have m' := m.row 3 a.block a.off cap cs hb h3
      refine ⟨_, _, .slice (some ⟨l.length, 0, none⟩) len openCap, fs, m', upR_le m _, ?_, .inr ⟨l.length, 0, openCap, cs, 3, by rw [h1], by simp, fun i x hx => ?_⟩, by omega, h5⟩
      · rw [ea]
        have e : upR ρ l.length ⟨a.block, a.off, cap⟩ l.length = some ⟨a.block, a.off, cap⟩ := by unfold upR; rw [if_pos rfl]
        rw [← hc0]
        exact VR.slo e (by decide) (Nat.add_comm _ _) hl
      · have hlt := (List.getElem?_eq_some_iff.1 hx).1
        refine ⟨by omega, ?_⟩
        rw [Nat.zero_add]
        exact h4 i x hx
theorem seven {l : List Value} (h : l.length = 7) : ∃ a b c d e f g, l = [a, b, c, d, e, f, g] := by
  match l, h with
  | [a, b, c, d, e, f, g], _ => exact ⟨a, b, c, d, e, f, g, rfl⟩
/-- A grammar that came in. -/
theorem Im.gram {r : Reach} {b0 : Nat} {v0 : Value} {d : DataW H} {p : List MemPlace} (hv : Value.okWide Try.prog w r b0 27 v0) (ht : DataW.Trod enc Try.prog w 0 (fun _ => true) true 27 v0 d p) :
    ∃ (ρ : RMap) (l : Heap) (v : Value) (g : Gr) (rv fv cv kv : Value), Im w ρ l ∧ VR ρ v v0 ∧ GIn g ∧ ∀ h : PH, (∀ b, h.raw b = l[b]?) → RdG h v g rv fv cv kv := by
  obtain ⟨⟨cs⟩, rfl, hsz⟩ := okWide_struct Try.underlying27 hv
  have C27 : Try.prog.cellsOf 27 = 7 := by kernel_rfl
  obtain ⟨c0, c1, c2, c3, c4, c5, c6, rfl⟩ := seven (hsz.trans C27)
  obtain ⟨fuel, ht⟩ := ht
  obtain ⟨xs, n, _, _, _, hxl, hf⟩ := DataW.trod_struct Try.underlying27 ht
  have hxl : xs.length = 7 := hxl
  have C3 : Try.prog.cellsOf 3 = 1 := by kernel_rfl
  have C23 : Try.prog.cellsOf 23 = 1 := by kernel_rfl
  have C24 : Try.prog.cellsOf 24 = 1 := by kernel_rfl
  have C25 : Try.prog.cellsOf 25 = 1 := by kernel_rfl
  have f0 : DataW.trod enc Try.prog w 0 (fun _ => true) true n 3 (([c0, c1, c2, c3, c4, c5, c6].drop 0).take (Try.prog.cellsOf 3)) = xs[0]? := hf 0 _ rfl
  have f1 : DataW.trod enc Try.prog w 0 (fun _ => true) true n 3 (([c0, c1, c2, c3, c4, c5, c6].drop 1).take (Try.prog.cellsOf 3)) = xs[1]? := hf 1 _ rfl
  have f2 : DataW.trod enc Try.prog w 0 (fun _ => true) true n 3 (([c0, c1, c2, c3, c4, c5, c6].drop 2).take (Try.prog.cellsOf 3)) = xs[2]? := hf 2 _ rfl
  have f3 : DataW.trod enc Try.prog w 0 (fun _ => true) true n 23 (([c0, c1, c2, c3, c4, c5, c6].drop 3).take (Try.prog.cellsOf 23)) = xs[3]? := hf 3 _ rfl
  have f4 : DataW.trod enc Try.prog w 0 (fun _ => true) true n 24 (([c0, c1, c2, c3, c4, c5, c6].drop 4).take (Try.prog.cellsOf 24)) = xs[4]? := hf 4 _ rfl
  have f5 : DataW.trod enc Try.prog w 0 (fun _ => true) true n 25 (([c0, c1, c2, c3, c4, c5, c6].drop 5).take (Try.prog.cellsOf 25)) = xs[5]? := hf 5 _ rfl
  have f6 : DataW.trod enc Try.prog w 0 (fun _ => true) true n 25 (([c0, c1, c2, c3, c4, c5, c6].drop 6).take (Try.prog.cellsOf 25)) = xs[6]? := hf 6 _ rfl
  rw [List.getElem?_eq_getElem (by omega)] at f0 f1 f2 f3 f4 f5 f6
  simp only [C3, C23, C24, C25, List.drop_zero, List.take_succ_cons, List.take_zero, List.drop_succ_cons] at f0 f1 f2 f3 f4 f5 f6
  obtain ⟨a0, e0, _, w0⟩ := DataW.trod_int Try.underlying3 f0
  obtain ⟨a1, e1, _, w1⟩ := DataW.trod_int Try.underlying3 f1
  obtain ⟨a2, e2, _, w2⟩ := DataW.trod_int Try.underlying3 f2
  cases e0
  cases e1
  cases e2
  have m0 := Im.start w
  have z0 : upR (fun _ => none) 0 ⟨0, 0, 0⟩ 0 = some ⟨0, 0, 0⟩ := rfl
  obtain ⟨ρ1, x1, rv, rules, m1, le1, v1, r1, b1, i1⟩ := m0.rules z0 f3
  obtain ⟨ρ2, x2, fv, fs, m2, le2, v2, r2, b2, i2⟩ := m1.forb (le1 _ _ z0) f4
  obtain ⟨ρ3, x3, cv, cs, m3, le3, v3', r3, b3, i3⟩ := m2.ints (le2 _ _ (le1 _ _ z0)) f5
  obtain ⟨ρ4, x4, kv, ks, m4, le4, v4, r4, b4, i4⟩ := m3.ints (le3 _ _ (le2 _ _ (le1 _ _ z0))) f6
  refine ⟨ρ4, _, .agg ⟨[.int .i64 a0, .int .i64 a1, .int .i64 a2, rv, fv, cv, kv]⟩, ⟨a0, a1, a2, rules, fs, cs, ks⟩, rv, fv, cv, kv, m4, .agg ?_, ?_, fun h hr => ?_⟩
  · exact .cons (.int _ _) (.cons (.int _ _) (.cons (.int _ _) (.cons (v1.mono (RMap.le_trans le2 (RMap.le_trans le3 le4))) (.cons (v2.mono (RMap.le_trans le3 le4)) (.cons (v3'.mono le4) (.cons v4 .nil))))))
  · exact ⟨inR_of w0, inR_of w1, inR_of w2, b1, b2, b3, b4, fun r h => (i1 r h).left, fun r h => (i1 r h).dyn, fun r h => (i1 r h).right, fun r h => (i1 r h).len, i2⟩
  · refine ⟨rfl, ?_, ?_, ?_, ?_⟩
    · have q := r1.app (E' := ruleL ([.dead] ++ x1)) (x2 ++ x3 ++ x4) fun _ _ e => e
      refine q.toS (h := h) (by intro b; rw [hr]; simp) fun x es hx => ?_
      obtain ⟨rv', e, q'⟩ := hx
      exact ⟨rv', e, (q'.app (E' := intE) (x2 ++ x3 ++ x4) fun _ _ e => e).toS (by intro b; rw [hr]; simp) fun _ _ e => e⟩
    · exact (r2.app (E' := int3E) (x3 ++ x4) fun _ _ e => e).toS (by intro b; rw [hr]; simp) fun _ _ e => e
    · exact (r3.app (E' := intE) x4 fun _ _ e => e).toS (by intro b; rw [hr]) fun _ _ e => e
    · exact r4.toS (by intro b; rw [hr]) fun _ _ e => e
end
end Go.Am
