import Derived.Test.YtdmfanikejcgjaaB5
set_option linter.unusedSimpArgs false
set_option linter.unusedVariables false
namespace Go.Am
open Go Go.RowKit
section
variable {P : Program} {ρ : RMap} {t : Tm} {ts : List Value}

theorem addr_add (b o n : Nat) : (Addr.mk b o none).add n = ⟨b, o + n, none⟩ := by
  unfold Addr.add
  split
  · subst_vars; rfl
  · rfl

theorem boundN_le {v : Option Value} {d y n : Nat} (h : boundN v d y = some n) (hd : d ≤ y) : n ≤ y := by
  cases v with
  | none => simp [boundN] at h; omega
  | some v =>
    simp only [boundN] at h
    split at h
    · split at h <;> simp at h; omega
    · cases h

theorem boundN_of {v : Option Value} {d y n : Nat} (h : boundN v d y = some n) {y' : Nat} (hy : n ≤ y') (hn : v.isSome = true) (d' : Nat) : boundN v d' y' = some n := by
  cases v with
  | none => simp at hn
  | some v =>
    simp only [boundN] at h ⊢
    split at h
    · split at h <;> simp at h
      subst h
      rw [if_pos (by omega)]
    · cases h

theorem acut_ok {T : TypeId} {x x' v : Value} {lo hi mx lo' hi' mx' : Option Value} (h : acut P T x lo hi mx = some v) (hx : VR ρ x x') (h1 : OptR ρ lo lo') (h2 : OptR ρ hi hi') (h3 : OptR ρ mx mx') :
    ∃ v', VR ρ v v' ∧ ∀ w, (Instr.sliceAt T x' lo' hi' mx').run P w = .ok v' w := by
  unfold acut at h
  split at h
  · rename_i e a n c hu
    split at h
    · cases h
    rename_i inf hinf
    split at h
    · cases h
    rename_i m hm
    split at h
    · cases h
    rename_i hc1
    split at h
    · cases h
    rename_i hc2
    split at h
    · cases h
    rename_i hh hhe
    split at h
    · cases h
    rename_i hc3
    split at h
    · cases h
    rename_i l hle
    split at h
    · cases h
    rename_i hc4
    simp only [Bool.not_eq_true] at hc2
    -- the true slice
    have real : ∀ (a' : Option Addr) (c' m' : Nat), x' = .slice a' n c' → boundN mx c' c' = some m' → boundN hi n m' = some hh → l ≤ hh ∧
        ∀ w, (Instr.sliceAt T x' lo' hi' mx').run P w = .ok (.slice (if m' = l then a' else a'.map (·.add (l * inf.size))) (hh - l) (m' - l)) w := by
      rintro a' c' m' rfl e3 e2
      refine ⟨(sliceBounds_ok (P := P) (isS := true) h1 h2 h3 e3 hc2 e2 hle default).2, fun w => ?_⟩
      simp only [Instr.sliceAt, Sem.run_bind, run_underlying' hu, Result.andThen_ok]
      simp only [Instr.slice, Sem.run_bind, run_underlying' hu, Result.andThen_ok, (sliceBounds_ok (P := P) (isS := true) h1 h2 h3 e3 hc2 e2 hle w).1, run_sizeOf' hinf, Sem.run_pure]
    cases hx with
    | snil n c =>
      obtain ⟨_, r⟩ := real none c m rfl hm hhe
      simp at h; subst h
      refine ⟨_, .snil _ _, fun w => ?_⟩
      rw [r w]; simp
    | @sl b o n c L hL hc =>
      obtain ⟨hlh, r⟩ := real _ c m rfl hm hhe
      simp at h; subst h
      have hmc := boundN_le hm (Nat.le_refl _)
      have hv : VR ρ (.slice (some ⟨b, if m = l then o else o + l * inf.size, none⟩) (hh - l) (m - l)) (.slice (some ⟨L.blk, L.off + if m = l then o else o + l * inf.size, none⟩) (hh - l) (m - l)) := .sl hL (by omega)
      refine ⟨_, hv, fun w => ?_⟩
      rw [r w]
      by_cases hml : m = l <;> simp [hml, addr_add, Nat.add_assoc]
    | @slo b o n c c' L hL hc he hn =>
      simp at h; subst h
      cases mx with
      | none =>
        simp [boundN] at hm; subst hm
        have hhn : hh ≤ n := by
          simp only [Bool.and_eq_true, decide_eq_true_eq, not_and] at hc3
          have := hc3 hc; omega
        have hhe' : boundN hi n c' = some hh := by
          cases hi with
          | none => simpa [boundN] using hhe
          | some q => exact boundN_of hhe (by omega) rfl n
        obtain ⟨hlh, r⟩ := real _ c' c' rfl (by simp [boundN]) hhe'
        have hcl : 4611686018427387904 ≤ c - l := by
          simp only [Bool.and_eq_true, decide_eq_true_eq, not_and] at hc4
          have := hc4 hc; omega
        have hlc : c ≠ l := by omega
        by_cases hz : c' = l
        · have hz2 : hh - l = 0 := by omega
          have hv : VR ρ (.slice (some ⟨b, if c = l then o else o + l * inf.size, none⟩) (hh - l) (c - l)) (.slice (some ⟨L.blk, L.off + o, none⟩) 0 0) := by
            rw [hz2]; exact .slz hL hcl (by omega)
          refine ⟨_, hv, fun w => ?_⟩
          rw [r w]
          simp [hz, hz2]
        · have hv : VR ρ (.slice (some ⟨b, if c = l then o else o + l * inf.size, none⟩) (hh - l) (c - l)) (.slice (some ⟨L.blk, L.off + if c = l then o else o + l * inf.size, none⟩) (hh - l) (c' - l)) :=
            .slo hL hcl (by omega) (by omega)
          refine ⟨_, hv, fun w => ?_⟩
          rw [r w]
          simp [hz, hlc, addr_add, Nat.add_assoc]
      | some q =>
        have hmn : m ≤ n ∧ m < 4611686018427387904 := by
          simp only [Option.isSome_some, Bool.true_and, Bool.and_eq_true, Bool.or_eq_true, decide_eq_true_eq, not_and] at hc1
          have := hc1 hc; omega
        have hm' : boundN (some q) c' c' = some m := boundN_of hm (by omega) rfl c'
        obtain ⟨hlh, r⟩ := real _ c' m rfl hm' hhe
        have hhm : hh ≤ m := by
          cases hi with
          | none => simp at hc2
          | some z =>
            simp only [boundN] at hhe
            split at hhe
            · split at hhe <;> simp at hhe; omega
            · cases hhe
        have hv : VR ρ (.slice (some ⟨b, if m = l then o else o + l * inf.size, none⟩) (hh - l) (m - l)) (.slice (some ⟨L.blk, L.off + if m = l then o else o + l * inf.size, none⟩) (hh - l) (m - l)) := .sl hL (by omega)
        refine ⟨_, hv, fun w => ?_⟩
        rw [r w]
        by_cases hml : m = l <;> simp [hml, addr_add, Nat.add_assoc]
    | @slz b o c L a' hL hc he =>
      simp at h; subst h
      have zero : ∀ {q : Nat}, boundN hi 0 q = some 0 → boundN hi 0 0 = some 0 := by
        intro q hq
        cases hi with
        | none => simp [boundN]
        | some z => exact boundN_of hq (Nat.le_refl _) rfl 0
      cases mx with
      | some q =>
        have hm0 : m = 0 := by
          simp only [Option.isSome_some, Bool.true_and, Bool.and_eq_true, Bool.or_eq_true, decide_eq_true_eq, not_and] at hc1
          have := hc1 hc; omega
        subst hm0
        have hhm : hh = 0 := by
          have := boundN_le hhe (Nat.le_refl _); omega
        subst hhm
        have hm' : boundN (some q) 0 0 = some 0 := boundN_of hm (Nat.le_refl _) rfl 0
        obtain ⟨hlh, r⟩ := real _ 0 0 rfl hm' hhe
        obtain rfl : l = 0 := by omega
        refine ⟨_, .sl0 (a := a') hL, fun w => ?_⟩
        rw [r w]; simp
      | none =>
        simp [boundN] at hm; subst hm
        have hhn : hh = 0 := by
          simp only [Bool.and_eq_true, decide_eq_true_eq, not_and] at hc3
          have := hc3 hc; omega
        subst hhn
        have hhe' : boundN hi 0 0 = some 0 := by
          cases hi with
          | none => simp [boundN]
          | some q => exact boundN_of hhe (Nat.le_refl _) rfl 0
        obtain ⟨hlh, r⟩ := real _ 0 0 rfl (by simp [boundN]) hhe'
        obtain rfl : l = 0 := by omega
        refine ⟨_, .slz (a := a') hL (by simpa using hc) (by simpa using he), fun w => ?_⟩
        rw [r w]; simp
    | @sl0 b o L a' hL =>
      simp at h; subst h
      have hm0 := boundN_le hm (Nat.le_refl _)
      obtain rfl : m = 0 := by omega
      have hh0 := boundN_le hhe (Nat.le_refl _)
      obtain rfl : hh = 0 := by omega
      obtain ⟨hlh, r⟩ := real _ 0 0 rfl hm hhe
      obtain rfl : l = 0 := by omega
      refine ⟨_, .sl0 (a := a') hL, fun w => ?_⟩
      rw [r w]; simp
  · rename_i n e b o hu
    split at h
    · cases h
    rename_i inf hinf
    split at h
    · cases h
    rename_i hmx
    cases mx with
    | some _ => simp at hmx
    | none =>
    cases mx' with
    | some _ => simp [OptR] at h3
    | none =>
    split at h
    · cases h
    rename_i hh hhe
    split at h
    · cases h
    rename_i l hle
    split at h
    · cases h
    rename_i hbig
    simp at h; subst h
    cases hx with
    | @ptr b o L hL =>
      have hv : VR ρ (.slice (some ⟨b, if n = l then o else o + l * inf.size, none⟩) (hh - l) (n - l)) (.slice (some ⟨L.blk, L.off + if n = l then o else o + l * inf.size, none⟩) (hh - l) (n - l)) := .sl hL (by omega)
      refine ⟨_, hv, fun w => ?_⟩
      have sb := (sliceBounds_ok (P := P) (isS := false) (cap := n) (mx := none) (mx' := none) h1 h2 h3 (by simp [boundN]) (by simp) hhe hle w).1
      simp only [Instr.sliceAt, Instr.sureAddr, Sem.run_bind, run_underlying' hu, Result.andThen_ok, Sem.run_pure, sb, run_sizeOf' hinf]
      by_cases hml : n = l <;> simp [hml, addr_add, Nat.add_assoc]
  · rename_i s hu
    split at h
    · cases h
    rename_i hmx
    cases mx with
    | some _ => simp at hmx
    | none =>
    cases mx' with
    | some _ => simp [OptR] at h3
    | none =>
    split at h
    · cases h
    rename_i hh hhe
    split at h
    · cases h
    rename_i l hle
    simp at h; subst h
    cases hx with
    | string s =>
      refine ⟨_, .string _, fun w => ?_⟩
      have sb := (sliceBounds_ok (P := P) (isS := false) (cap := s.size) (mx := none) (mx' := none) h1 h2 h3 (by simp [boundN]) (by simp) hhe hle w).1
      simp only [Instr.sliceAt, Sem.run_bind, run_underlying' hu, Result.andThen_ok]
      simp only [Instr.slice, Sem.run_bind, run_underlying' hu, Result.andThen_ok, Option.isSome_none, Bool.false_eq_true, if_false, sb, Sem.run_pure]
  · cases h

theorem afieldAddr_ok {S : TypeId} {x x' v : Value} {f : Nat} (h : afieldAddr P S x f = some v) (hx : VR ρ x x') : ∃ v', VR ρ v v' ∧ ∀ w, (Instr.fieldAt S x' f).run P w = .ok v' w := by
  unfold afieldAddr at h
  split at h
  · rename_i fs b o hu
    split at h
    · rename_i fd hf
      split at h
      · rename_i i hi
        split at h <;> simp at h
        subst h
        rename_i hz
        cases hx with
        | @ptr b o L hL =>
          have hv : VR ρ (.pointer (some ⟨b, o + fd.offset, none⟩)) (.pointer (some ⟨L.blk, L.off + (o + fd.offset), none⟩)) := .ptr hL
          refine ⟨_, hv, fun w => ?_⟩
          simp only [Instr.fieldAt, Sem.run_bind, run_underlying' hu, Result.andThen_ok, hf, Instr.sureAddr, Sem.run_pure, fieldPlace, run_sizeOf' hi]
          rw [if_neg hz]
          simp [addr_add, Nat.add_assoc]
      · cases h
    · cases h
  · cases h

theorem afield_ok {S : TypeId} {x x' v : Value} {f : Nat} (h : afield P S x f = some v) (hx : VR ρ x x') : ∃ v', VR ρ v v' ∧ ∀ w, (Instr.field S x' f).run P w = .ok v' w := by
  unfold afield at h
  split at h
  · rename_i fs cs hu
    split at h
    · rename_i fd hf
      cases hx with
      | @agg xs ys hxy =>
        obtain ⟨v', h1, h2⟩ := apart_ok h hxy
        refine ⟨v', h1, fun w => ?_⟩
        simp only [Instr.field, Sem.run_bind, run_underlying' hu, Result.andThen_ok, hf, asAgg, Sem.run_pure, h2]
    · cases h
  · cases h

theorem aindexAddr_ok {T : TypeId} {x x' ix ix' v : Value} (h : aindexAddr P T x ix = some v) (hx : VR ρ x x') (hi : VR ρ ix ix') : ∃ v', VR ρ v v' ∧ ∀ w, (Instr.indexAt T x' ix').run P w = .ok v' w := by
  unfold aindexAddr at h
  split at h
  · rename_i e b o n c k i hu
    split at h
    · rename_i inf hinf
      split at h <;> simp at h
      subst h
      rename_i hb
      cases hi
      have fin : ∀ (L : RLoc) (c' : Nat), ρ b = some L → ∀ w, (Instr.indexAt T (.slice (some ⟨L.blk, L.off + o, none⟩) n c') (.int k i)).run P w = .ok (.pointer (some ⟨L.blk, L.off + (o + i.toNat * inf.size), none⟩)) w := by
        intro L c' hL w
        simp only [Instr.indexAt, asIntOf, Sem.run_bind, run_underlying' hu, Result.andThen_ok, Sem.run_pure, run_sizeOf' hinf]
        simp [hb, addr_add, Nat.add_assoc, run_sizeOf' hinf]
      cases hx with
      | sl hL hc => exact ⟨_, .ptr hL, fin _ _ hL⟩
      | slo hL hc he hn => exact ⟨_, .ptr hL, fin _ _ hL⟩
      | slz hL hc he => omega
      | sl0 hL => omega
    · cases h
  · rename_i n e b o k i hu
    split at h
    · rename_i inf hinf
      split at h <;> simp at h
      subst h
      rename_i hb
      cases hi
      cases hx with
      | @ptr b o L hL =>
        refine ⟨_, .ptr hL, fun w => ?_⟩
        simp only [Instr.indexAt, asIntOf, Sem.run_bind, run_underlying' hu, Result.andThen_ok, Sem.run_pure, Instr.sureAddr]
        simp [hb, addr_add, Nat.add_assoc, run_sizeOf' hinf]
    · cases h
  · cases h

theorem aindex_ok {T : TypeId} {x x' ix ix' v : Value} (h : aindex P T x ix = some v) (hx : VR ρ x x') (hi : VR ρ ix ix') : ∃ v', VR ρ v v' ∧ ∀ w, (Instr.index T x' ix').run P w = .ok v' w := by
  unfold aindex at h
  split at h
  · rename_i n e cs k i hu
    split at h
    · rename_i inf hinf
      split at h
      · rename_i hb
        cases hi
        cases hx with
        | @agg xs ys hxy =>
          obtain ⟨v', h1, h2⟩ := apart_ok h hxy
          refine ⟨v', h1, fun w => ?_⟩
          simp only [Instr.index, asIntOf, Sem.run_bind, run_underlying' hu, Result.andThen_ok, Sem.run_pure]
          rw [if_pos hb]
          simp only [Sem.run_bind, run_sizeOf' hinf, Result.andThen_ok, h2]
      · cases h
    · cases h
  · rename_i s k i hu
    split at h
    · rename_i hb
      split at h
      · rename_i b hsb
        simp at h; subst h
        cases hi; cases hx
        refine ⟨_, .int _ _, fun w => ?_⟩
        simp only [Instr.index, asIntOf, Sem.run_bind, run_underlying' hu, Result.andThen_ok, Sem.run_pure]
        rw [if_pos hb, hsb]
        rfl
      · cases h
    · cases h
  · cases h

theorem alen_ok {ats : Array TypeId} {vs us : List Value} {ty : TypeId} {v : Value} (h : alen P ats vs = some v) (hv : VRs ρ vs us) : ∃ v', VR ρ v v' ∧ ∀ w, (Builtin.len_ ats ty ⟨us⟩).run P w = .ok v' w := by
  unfold alen at h
  split at h
  · rename_i T x hT
    cases hv with
    | cons hx hn =>
      cases hn
      split at h <;> first | (cases h; done) | skip
      all_goals
        rename_i hu
        simp at h; subst h
        refine ⟨_, .int _ _, fun w => ?_⟩
        first
        | (cases hx <;> simp only [Builtin.len_, hT, List.getElem?_toArray, List.getElem?_cons_zero, Sem.run_bind, run_underlying' hu, Result.andThen_ok, Sem.run_pure, goInt]; done)
        | (simp only [Builtin.len_, hT, List.getElem?_toArray, List.getElem?_cons_zero, Sem.run_bind, run_underlying' hu, Result.andThen_ok, Sem.run_pure, goInt]; done)
  · cases h

theorem acap_ok {ats : Array TypeId} {vs us : List Value} {ty : TypeId} {v : Value} (h : acap P ats vs = some v) (hv : VRs ρ vs us) : ∃ v', VR ρ v v' ∧ ∀ w, (Builtin.cap_ ats ty ⟨us⟩).run P w = .ok v' w := by
  unfold acap at h
  split at h
  · rename_i T x hT
    cases hv with
    | cons hx hn =>
      cases hn
      split at h
      · rename_i hu
        simp at h; subst h
        refine ⟨_, .int _ _, fun w => ?_⟩
        simp only [Builtin.cap_, hT, List.getElem?_toArray, List.getElem?_cons_zero, Sem.run_bind, run_underlying' hu, Result.andThen_ok, Sem.run_pure, goInt]
      · rename_i hu
        split at h <;> simp at h
        subst h
        refine ⟨_, .int _ _, fun w => ?_⟩
        cases hx <;> first | omega | simp only [Builtin.cap_, hT, List.getElem?_toArray, List.getElem?_cons_zero, Sem.run_bind, run_underlying' hu, Result.andThen_ok, Sem.run_pure, goInt]
      · cases h
  · cases h

/-- Soundness of the quiet operations. -/
theorem apure_ok {o : Oper} {v : Value} (h : apure P o t = some v) (ht : TRs ρ t ts) :
    ∃ v', VR ρ v v' ∧ ∀ w, (execOp (tev ts) o).run P w = .ok (.value v') w := by
  obtain ⟨dst, op, ty, pos, aft, grd⟩ := o
  unfold apure at h
  split at h
  · rename_i x hop; dsimp only at hop; subst hop; exact ⟨_, ev_ok ht h, fun w => rfl⟩
  · rename_i x hop; dsimp only at hop; subst hop; exact ⟨_, ev_ok ht h, fun w => rfl⟩
  · rename_i c a b hop; dsimp only at hop; subst hop
    split at h
    · rename_i hc
      have := ev_ok ht hc
      generalize hcv : tev ts c = cv at this
      cases this
      exact ⟨_, ev_ok ht h, fun w => by simp [execOp, hcv, asBool]⟩
    · rename_i hc
      have := ev_ok ht hc
      generalize hcv : tev ts c = cv at this
      cases this
      exact ⟨_, ev_ok ht h, fun w => by simp [execOp, hcv, asBool]⟩
    · cases h
  · rename_i T parts hop; dsimp only at hop; subst hop
    split at h
    · rename_i ps hps
      obtain ⟨v', h1, h2⟩ := abuild_ok h (evp_ok ht hps)
      refine ⟨v', h1, fun w => ?_⟩
      have : (parts.map fun x : Nat × Operand => (x.1, tev ts x.2)) = ⟨parts.toList.map fun p => (p.1, tev ts p.2)⟩ := by
        apply Array.ext'; simp
      simp only [execOp, Sem.run_bind]
      rw [this, h2]; rfl
    · cases h
  · rename_i x hop; dsimp only at hop; subst hop
    split at h
    · rename_i a hx
      simp at h; subst h
      have := ev_ok ht hx
      generalize hxv : tev ts x = xv at this
      refine ⟨xv, this, fun w => ?_⟩
      cases this
      simp [execOp, hxv]
    · rename_i f a b hx
      simp at h; subst h
      have := ev_ok ht hx
      generalize hxv : tev ts x = xv at this
      refine ⟨xv, this, fun w => ?_⟩
      cases this
      simp [execOp, hxv]
    · cases h
  · rename_i op T x y yt hop; dsimp only at hop; subst hop
    split at h
    · rename_i a b ha hb
      obtain ⟨v', h1, h2⟩ := abin_ok h (ev_ok ht ha) (ev_ok ht hb)
      refine ⟨v', h1, fun w => ?_⟩
      have := h2 w
      simp only [execOp]
      rw [Sem.run_bind, this]; rfl
    · cases h
  · rename_i op T x hop; dsimp only at hop; subst hop
    split at h
    · rename_i a ha
      split at h
      · rename_i hp
        obtain ⟨h1, h2⟩ := prun_ok (ρ := ρ) h
        have := (ev_ok ht ha).plain_eq hp
        exact ⟨v, h1, fun w => by simp only [execOp]; rw [this, Sem.run_bind, h2]; rfl⟩
      · cases h
    · cases h
  · rename_i s d x hop; dsimp only at hop; subst hop
    split at h
    · rename_i a ha
      split at h
      · rename_i hp
        obtain ⟨h1, h2⟩ := prun_ok (ρ := ρ) h
        have := (ev_ok ht ha).plain_eq hp
        exact ⟨v, h1, fun w => by simp only [execOp]; rw [this, Sem.run_bind, h2]; rfl⟩
      · cases h
    · cases h
  · rename_i fn first captured hop; dsimp only at hop; subst hop
    split at h
    · rename_i f c hf hc
      simp at h; subst h
      have e : ∀ xs : Array Operand, xs.map (tev ts) = ⟨xs.toList.map (tev ts)⟩ := fun xs => by apply Array.ext'; simp
      refine ⟨_, .func (evs_ok ht hf) (evs_ok ht hc), fun w => ?_⟩
      simp only [execOp, Instr.makeFunc, Sem.run_bind, Sem.run_pure, Result.andThen_ok, e]
    · cases h
  · rename_i T x lo hi mx hop; dsimp only at hop; subst hop
    split at h
    · rename_i v0 l hh m hx hl hh' hm
      obtain ⟨v', h1, h2⟩ := acut_ok h (ev_ok ht hx) (evo_ok ht hl) (evo_ok ht hh') (evo_ok ht hm)
      exact ⟨v', h1, fun w => by simp only [execOp, Sem.run_bind, h2]; rfl⟩
    · cases h
  · rename_i S x f hop; dsimp only at hop; subst hop
    split at h
    · rename_i v0 hx
      obtain ⟨v', h1, h2⟩ := afieldAddr_ok h (ev_ok ht hx)
      exact ⟨v', h1, fun w => by simp only [execOp, Sem.run_bind, h2]; rfl⟩
    · cases h
  · rename_i S x f hop; dsimp only at hop; subst hop
    split at h
    · rename_i v0 hx
      obtain ⟨v', h1, h2⟩ := afield_ok h (ev_ok ht hx)
      exact ⟨v', h1, fun w => by simp only [execOp, Sem.run_bind, h2]; rfl⟩
    · cases h
  · rename_i T x ix hop; dsimp only at hop; subst hop
    split at h
    · rename_i v0 i0 hx hi
      obtain ⟨v', h1, h2⟩ := aindexAddr_ok h (ev_ok ht hx) (ev_ok ht hi)
      exact ⟨v', h1, fun w => by simp only [execOp, Sem.run_bind, h2]; rfl⟩
    · cases h
  · rename_i T x ix hop; dsimp only at hop; subst hop
    split at h
    · rename_i v0 i0 hx hi
      obtain ⟨v', h1, h2⟩ := aindex_ok h (ev_ok ht hx) (ev_ok ht hi)
      exact ⟨v', h1, fun w => by simp only [execOp, Sem.run_bind, h2]; rfl⟩
    · cases h
  · rename_i x i hop; dsimp only at hop; subst hop
    split at h
    · rename_i vs hx
      have := ev_ok ht hx
      generalize hxv : tev ts x = xv at this
      cases this with
      | tuple hvs =>
        obtain ⟨v', h1, h2⟩ := hvs.get (by simpa using h)
        refine ⟨v', h2, fun w => ?_⟩
        simp [execOp, hxv, Instr.extract, h1]
    · cases h
  all_goals (try (cases h; done))
  all_goals
    rename_i args ats hop; dsimp only at hop; subst hop
    split at h
    rotate_left
    · cases h
    rename_i vs hvs
    have e : args.map (tev ts) = ⟨args.toList.map (tev ts)⟩ := by apply Array.ext'; simp
  · obtain ⟨v', h1, h2⟩ := alen_ok (ty := ty) h (evs_ok ht hvs)
    exact ⟨v', h1, fun w => by simp only [execOp, resolve, Sem.run_bind, Sem.run_pure, Result.andThen_ok, invoke, builtin, e, h2]⟩
  · obtain ⟨v', h1, h2⟩ := acap_ok (ty := ty) h (evs_ok ht hvs)
    exact ⟨v', h1, fun w => by simp only [execOp, resolve, Sem.run_bind, Sem.run_pure, Result.andThen_ok, invoke, builtin, e, h2]⟩
  · split at h
    · rename_i hp
      obtain ⟨h1, h2⟩ := prun_ok (ρ := ρ) h
      have := (evs_ok ht hvs).plain_eq hp
      exact ⟨v, h1, fun w => by simp only [execOp, resolve, Sem.run_bind, Sem.run_pure, Result.andThen_ok, invoke, builtin, e, this, h2]⟩
    · cases h
  · split at h
    · rename_i hp
      obtain ⟨h1, h2⟩ := prun_ok (ρ := ρ) h
      have := (evs_ok ht hvs).plain_eq hp
      exact ⟨v, h1, fun w => by simp only [execOp, resolve, Sem.run_bind, Sem.run_pure, Result.andThen_ok, invoke, builtin, e, this, h2]⟩
    · cases h
end
end Go.Am
