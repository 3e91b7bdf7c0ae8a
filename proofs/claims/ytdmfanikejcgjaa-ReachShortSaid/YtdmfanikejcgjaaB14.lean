import Derived.Test.YtdmfanikejcgjaaB13
set_option linter.unusedSimpArgs false
set_option linter.unusedVariables false
namespace Go.Am
open Go Go.RowKit

/-- May the first operation come behind the second one? -/
def compat (a b : Nat) : Bool := a == 0 || (b == 0 && a != 4) || (a == 1 && b == 1) || (a == 1 && b == 2)

/-- An operation, and whether it is told what it has to do with the memory that is kept. -/
abbrev FOp := Oper × Bool

def indep (P : Program) (ops : Array Oper) (x y : FOp) : Bool :=
  x.1.apart ops y.1 && (compat (cls P x.1.op) (cls P y.1.op) || (cls P x.1.op == 1 && x.2 && (cls P y.1.op == 3 || cls P y.1.op == 4) && y.2))

/-- These objects are as they were. -/
def same (S : List Nat) (h h' : Heap) : Prop := ∀ b ∈ S, ∀ o, h[b]? = some o → h'[b]? = some o

theorem same.trans {S : List Nat} {h h1 h2 : Heap} (a : same S h h1) (b : same S h1 h2) : same S h h2 := fun x hx o ho => b x hx o (a x hx o ho)
theorem same.push (S : List Nat) (h l : Heap) : same S h (h ++ l) := fun b _ o ho => by
  rw [List.getElem?_append_left (List.getElem?_eq_some_iff.1 ho).1]; exact ho

/-- One operation; where it is told to, it reads no more than the objects of S, or leaves them. -/
def AOpF (P : Program) (ops : Array Oper) (S : List Nat) (o : FOp) (K : Tm → Heap → Prop) (t : Tm) (h : Heap) : Prop :=
  gok ops o.1 t = true ∧ if Region.wanted o.1 (ayielded ops t) then
    (∃ v, apure P o.1 t = some v ∧ K (aput t o.1.dst v) h) ∨
    (∃ v, aread P o.1 t h = some v ∧ (o.2 = true → ∀ h', same S h h' → aread P o.1 t h' = some v) ∧ K (aput t o.1.dst v) h) ∨
    (∃ v h', aeff P o.1 t h = some (v, h') ∧ (o.2 = true → same S h h') ∧ K (aput t o.1.dst v) h') ∨
    (∃ f args R, acallee P o.1 t = some (f, args) ∧ ACall P f args h R ∧ ∀ v h', R v h' → (o.2 = true → same S h h') ∧ K (aput t o.1.dst v) h')
  else K (aput t o.1.dst undef) h

def AOpsF (P : Program) (ops : Array Oper) (S : List Nat) (K : Tm → Heap → Prop) : List FOp → Tm → Heap → Prop
  | [] => K
  | o :: rest => AOpF P ops S o (AOpsF P ops S K rest)

section
variable {P : Program} {t t' : Tm} {h : Heap} {ops : Array Oper} {S : List Nat}

theorem AOp.mono {o : Oper} {K K' : Tm → Heap → Prop} (hK : ∀ t h, K t h → K' t h) (ho : AOp P ops o K t h) : AOp P ops o K' t h := by
  unfold AOp at ho ⊢
  refine ⟨ho.1, ?_⟩
  replace ho := ho.2
  split
  · rename_i hw
    rw [if_pos hw] at ho
    rcases ho with ⟨v, h1, h2⟩ | ⟨v, h1, h2⟩ | ⟨v, h', h1, h2⟩ | ⟨f, args, R, h1, h2, h3⟩
    · exact .inl ⟨v, h1, hK _ _ h2⟩
    · exact .inr (.inl ⟨v, h1, hK _ _ h2⟩)
    · exact .inr (.inr (.inl ⟨v, h', h1, hK _ _ h2⟩))
    · exact .inr (.inr (.inr ⟨f, args, R, h1, h2, fun v h' hr => hK _ _ (h3 v h' hr)⟩))
  · rename_i hw
    rw [if_neg hw] at ho
    exact hK _ _ ho

theorem AOpF.mono {o : FOp} {K K' : Tm → Heap → Prop} (hK : ∀ t h, K t h → K' t h) (ho : AOpF P ops S o K t h) : AOpF P ops S o K' t h := by
  unfold AOpF at ho ⊢
  refine ⟨ho.1, ?_⟩
  replace ho := ho.2
  split
  · rename_i hw
    rw [if_pos hw] at ho
    rcases ho with ⟨v, h1, h2⟩ | ⟨v, h1, hs, h2⟩ | ⟨v, h', h1, hs, h2⟩ | ⟨f, args, R, h1, h2, h3⟩
    · exact .inl ⟨v, h1, hK _ _ h2⟩
    · exact .inr (.inl ⟨v, h1, hs, hK _ _ h2⟩)
    · exact .inr (.inr (.inl ⟨v, h', h1, hs, hK _ _ h2⟩))
    · exact .inr (.inr (.inr ⟨f, args, R, h1, h2, fun v h' hr => ⟨(h3 v h' hr).1, hK _ _ (h3 v h' hr).2⟩⟩))
  · rename_i hw
    rw [if_neg hw] at ho
    exact hK _ _ ho

theorem AOpF.plain {o : FOp} {K K' : Tm → Heap → Prop} (hK : ∀ t h, K t h → K' t h) (ho : AOpF P ops S o K t h) : AOp P ops o.1 K' t h := by
  unfold AOpF at ho
  unfold AOp
  refine ⟨ho.1, ?_⟩
  replace ho := ho.2
  split
  · rename_i hw
    rw [if_pos hw] at ho
    rcases ho with ⟨v, h1, h2⟩ | ⟨v, h1, hs, h2⟩ | ⟨v, h', h1, hs, h2⟩ | ⟨f, args, R, h1, h2, h3⟩
    · exact .inl ⟨v, h1, hK _ _ h2⟩
    · exact .inr (.inl ⟨v, h1, hK _ _ h2⟩)
    · exact .inr (.inr (.inl ⟨v, h', h1, hK _ _ h2⟩))
    · exact .inr (.inr (.inr ⟨f, args, R, h1, h2, fun v h' hr => hK _ _ (h3 v h' hr).2⟩))
  · rename_i hw
    rw [if_neg hw] at ho
    exact hK _ _ ho

theorem AOpsF.plain {K : Tm → Heap → Prop} (l : List FOp) : ∀ {t : Tm} {h : Heap}, AOpsF P ops S K l t h → AOps P ops K (l.map (·.1)) t h := by
  induction l with
  | nil => intro t h hk; exact hk
  | cons o l ih => intro t h hk; exact AOpF.plain (fun t h => ih) hk

theorem aput_tget {dst : Option Tmp} {v : Value} {i : Nat} (hi : ∀ d, dst = some d → d ≠ i) : tget (aput t dst v) i = tget t i := by
  cases dst with
  | none => rfl
  | some d =>
    simp only [aput, tget]
    rw [List.getElem?_set_ne (hi d rfl)]

theorem aput_get {dst : Option Tmp} {v : Value} {i : Nat} (hi : ∀ d, dst = some d → d ≠ i) : (aput t dst v)[i]? = t[i]? := by
  cases dst with
  | none => rfl
  | some d => simp only [aput]; rw [List.getElem?_set_ne (hi d rfl)]

theorem aput_comm {x y : Option Tmp} (v u : Value) (hxy : ∀ d, x = some d → y ≠ some d) : aput (aput t x v) y u = aput (aput t y u) x v := by
  cases x with
  | none => rfl
  | some d =>
    cases y with
    | none => rfl
    | some e => simp only [aput]; exact List.set_comm _ _ (fun hde => hxy d rfl (by rw [hde]))

theorem mem_looks {o : Oper} {i : Nat} (hi : Operand.tmp i ∈ o.op.operands.toList) : i ∈ o.looksAt ops := by
  unfold Oper.looksAt
  exact List.mem_append_left _ (List.mem_filterMap.2 ⟨_, hi, rfl⟩)

theorem agree_put {o : Oper} {dst : Option Tmp} {v : Value} (hd : ∀ d, dst = some d → d ∉ o.looksAt ops) : agree (aput t dst v) t o.op.operands.toList :=
  fun i hi => aput_get fun d hdd he => hd d hdd (he ▸ mem_looks hi)

theorem wanted_put {o : Oper} {dst : Option Tmp} {v : Value} (hd : ∀ d, dst = some d → d ∉ o.looksAt ops) : Region.wanted o (ayielded ops (aput t dst v)) = Region.wanted o (ayielded ops t) := by
  unfold Region.wanted
  cases hg : o.guard with
  | none => rfl
  | some g =>
    obtain ⟨j, want⟩ := g
    have : ayielded ops (aput t dst v) j = ayielded ops t j := by
      unfold ayielded
      cases hj : ops[j]? with
      | none => rfl
      | some o' =>
        cases hod : o'.dst with
        | none => simp only [hod]
        | some d =>
          simp only [hod]
          rw [aput_tget]
          intro d' hd' he
          apply hd d' hd'
          unfold Oper.looksAt
          apply List.mem_append_right
          simp [hg, hj, hod, he]
    simp only [this]

theorem gok_put {o : Oper} {dst : Option Tmp} {v : Value} (hd : ∀ d, dst = some d → d ∉ o.looksAt ops) : gok ops o (aput t dst v) = gok ops o t := by
  unfold gok
  cases hg : o.guard with
  | none => rfl
  | some g =>
    obtain ⟨j, want⟩ := g
    dsimp only
    cases hj : ops[j]? with
    | none => rfl
    | some o' =>
      dsimp only
      cases hod : o'.dst with
      | none => rfl
      | some d =>
        dsimp only
        rw [aput_tget]
        intro d' hd' he
        apply hd d' hd'
        unfold Oper.looksAt
        apply List.mem_append_right
        simp [hg, hj, hod, he]

/-- Two operations that are apart, the other way round. -/
theorem AOpF.swap {x y : FOp} (hi : indep P ops x y = true) {K : Tm → Heap → Prop} (ho : AOpF P ops S x (AOpF P ops S y K) t h) : AOpF P ops S y (AOpF P ops S x K) t h := by
  obtain ⟨x, fx⟩ := x
  obtain ⟨y, fy⟩ := y
  simp only [indep, Bool.and_eq_true] at hi
  obtain ⟨hap, hcm⟩ := hi
  obtain ⟨a1, a2, a3⟩ := Oper.apart_spec hap
  have ax : ∀ {v : Value}, agree (aput t y.dst v) t x.op.operands.toList := agree_put a3
  have ay : ∀ {v : Value}, agree (aput t x.dst v) t y.op.operands.toList := agree_put a1
  have cm : ∀ (v u : Value), aput (aput t x.dst v) y.dst u = aput (aput t y.dst u) x.dst v := fun v u => aput_comm v u a2
  unfold AOpF at ho ⊢
  dsimp only at ho ⊢
  simp only [wanted_put a1, gok_put a1] at ho
  simp only [wanted_put a3, gok_put a3]
  obtain ⟨gx, ho⟩ := ho
  have gy : gok ops y t = true := by
    split at ho
    · rcases ho with ⟨v, h1, h2⟩ | ⟨v, h1, hs, h2⟩ | ⟨v, h', h1, hs, h2⟩ | ⟨f, args, R, h1, h2, h3⟩
      · exact h2.1
      · exact h2.1
      · exact h2.1
      · have hx4 : cls P x.op = 4 := Classical.byContradiction fun h0 => by rw [no_call (P := P) (t := t) h0] at h1; cases h1
        simp [compat, hx4] at hcm
    · exact ho.1
  simp only [gx, gy, true_and] at ho ⊢
  -- y is passed over
  by_cases hy : Region.wanted y (ayielded ops t)
  rotate_left
  · rw [if_neg hy]
    simp only [if_neg hy, cm] at ho
    simp only [apure_congr ax, aread_congr ax, aeff_congr ax, acallee_congr ax]
    exact ho
  rw [if_pos hy]
  simp only [if_pos hy] at ho
  by_cases hx : Region.wanted x (ayielded ops t)
  rotate_left
  · simp only [if_neg hx] at ho ⊢
    rcases ho with ⟨v, h1, h2⟩ | ⟨v, h1, hs, h2⟩ | ⟨v, h', h1, hs, h2⟩ | ⟨f, args, R, h1, h2, h3⟩
    · exact .inl ⟨v, by rw [← apure_congr ay]; exact h1, by rw [← cm]; exact h2⟩
    · exact .inr (.inl ⟨v, by rw [← aread_congr ay]; exact h1, fun hf h' hs' => by rw [← aread_congr ay]; exact hs hf h' hs', by rw [← cm]; exact h2⟩)
    · exact .inr (.inr (.inl ⟨v, h', by rw [← aeff_congr ay]; exact h1, hs, by rw [← cm]; exact h2⟩))
    · exact .inr (.inr (.inr ⟨f, args, R, by rw [← acallee_congr ay]; exact h1, h2, fun v h' hr => ⟨(h3 v h' hr).1, by rw [← cm]; exact (h3 v h' hr).2⟩⟩))
  simp only [if_pos hx] at ho ⊢
  rcases ho with ⟨v, h1, h2⟩ | ⟨v, h1, hsx, h2⟩ | ⟨v, h', h1, hsx, h2⟩ | ⟨f, args, R, h1, h2, h3⟩
  · -- x is quiet
    rcases h2 with ⟨u, h3, h4⟩ | ⟨u, h3, hs, h4⟩ | ⟨u, h'', h3, hs, h4⟩ | ⟨f, args, R, h3, h4, h5⟩
    · exact .inl ⟨u, by rw [← apure_congr ay]; exact h3, .inl ⟨v, by rw [apure_congr ax]; exact h1, by rw [← cm]; exact h4⟩⟩
    · exact .inr (.inl ⟨u, by rw [← aread_congr ay]; exact h3, fun hf h' hs' => by rw [← aread_congr ay]; exact hs hf h' hs', .inl ⟨v, by rw [apure_congr ax]; exact h1, by rw [← cm]; exact h4⟩⟩)
    · exact .inr (.inr (.inl ⟨u, h'', by rw [← aeff_congr ay]; exact h3, hs, .inl ⟨v, by rw [apure_congr ax]; exact h1, by rw [← cm]; exact h4⟩⟩))
    · exact .inr (.inr (.inr ⟨f, args, R, by rw [← acallee_congr ay]; exact h3, h4, fun u h' hr => ⟨(h5 u h' hr).1, .inl ⟨v, by rw [apure_congr ax]; exact h1, by rw [← cm]; exact (h5 u h' hr).2⟩⟩⟩))
  · -- x reads
    have hcx : cls P x.op ≠ 0 := fun h0 => by rw [(only_pure (P := P) (t := t) (h := h) h0).1] at h1; cases h1
    have hcx2 : cls P x.op ≠ 2 := fun h0 => by rw [(only_new (P := P) (t := t) (h := h) h0).2.1] at h1; cases h1
    rcases h2 with ⟨u, h3, h4⟩ | ⟨u, h3, hs, h4⟩ | ⟨u, h'', h3, hs, h4⟩ | ⟨f, args, R, h3, h4, h5⟩
    · exact .inl ⟨u, by rw [← apure_congr ay]; exact h3, .inr (.inl ⟨v, by rw [aread_congr ax]; exact h1, fun hf h' hs' => by rw [aread_congr ax]; exact hsx hf h' hs', by rw [← cm]; exact h4⟩)⟩
    · exact .inr (.inl ⟨u, by rw [← aread_congr ay]; exact h3, fun hf h' hs' => by rw [← aread_congr ay]; exact hs hf h' hs', .inr (.inl ⟨v, by rw [aread_congr ax]; exact h1, fun hf h' hs' => by rw [aread_congr ax]; exact hsx hf h' hs', by rw [← cm]; exact h4⟩)⟩)
    · rw [aeff_congr ay] at h3
      have hy0 : cls P y.op ≠ 0 := fun h0 => by rw [(only_pure (P := P) (t := t) (h := h) h0).2.1] at h3; cases h3
      have hy1 : cls P y.op ≠ 1 := fun h0 => by rw [(only_read (P := P) (t := t) (h := h) h0).1] at h3; cases h3
      simp only [Bool.or_eq_true, Bool.and_eq_true, beq_iff_eq] at hcm
      rcases hcm with hcm | ⟨⟨⟨hcm1, hcm2⟩, _⟩, hcm3⟩
      · have hc : cls P x.op = 1 ∧ cls P y.op = 2 := by
          simp only [compat, Bool.or_eq_true, Bool.and_eq_true, beq_iff_eq] at hcm
          omega
        obtain ⟨l, rfl⟩ := (only_new (P := P) (t := t) (h := h) hc.2).2.2.2 _ _ h3
        have pushed : ∀ h2, same S (h ++ l) h2 → fx = true → aread P x t h2 = some v := by
          intro h2 hs2 hf
          exact hsx hf h2 ((same.push S h l).trans hs2)
        exact .inr (.inr (.inl ⟨u, _, h3, hs, .inr (.inl ⟨v, by rw [aread_congr ax]; exact aread_push hc.1 h1, fun hf h2 hs2 => by rw [aread_congr ax]; exact pushed h2 hs2 hf, by rw [← cm]; exact h4⟩)⟩))
      · have hsame := hs hcm3
        have := hsx hcm2 _ hsame
        exact .inr (.inr (.inl ⟨u, _, h3, hs, .inr (.inl ⟨v, by rw [aread_congr ax]; exact this, fun hf h2 hs2 => by rw [aread_congr ax]; exact hsx hf h2 (hsame.trans hs2), by rw [← cm]; exact h4⟩)⟩))
    · rw [acallee_congr ay] at h3
      have hy4 : cls P y.op = 4 := Classical.byContradiction fun h0 => by rw [no_call (P := P) (t := t) h0] at h3; cases h3
      simp only [Bool.or_eq_true, Bool.and_eq_true, beq_iff_eq] at hcm
      rcases hcm with hcm | ⟨⟨⟨hcm1, hcm2⟩, _⟩, hcm3⟩
      · simp only [compat, Bool.or_eq_true, Bool.and_eq_true, beq_iff_eq] at hcm
        omega
      · refine .inr (.inr (.inr ⟨f, args, R, h3, h4, fun u h' hr => ?_⟩))
        obtain ⟨hs, h6⟩ := h5 u h' hr
        have hsame := hs hcm3
        exact ⟨hs, .inr (.inl ⟨v, by rw [aread_congr ax]; exact hsx hcm2 _ hsame, fun hf h2 hs2 => by rw [aread_congr ax]; exact hsx hf h2 (hsame.trans hs2), by rw [← cm]; exact h6⟩)⟩
  · -- x makes or writes
    have hx0 : cls P x.op ≠ 0 := fun h0 => by rw [(only_pure (P := P) (t := t) (h := h) h0).2.1] at h1; cases h1
    have hx1 : cls P x.op ≠ 1 := fun h0 => by rw [(only_read (P := P) (t := t) (h := h) h0).1] at h1; cases h1
    have hy0 : cls P y.op = 0 := by
      simp only [compat, Bool.or_eq_true, Bool.and_eq_true, beq_iff_eq] at hcm
      omega
    rcases h2 with ⟨u, h3, h4⟩ | ⟨u, h3, hs, h4⟩ | ⟨u, h'', h3, hs, h4⟩ | ⟨f, args, R, h3, h4, h5⟩
    · exact .inl ⟨u, by rw [← apure_congr ay]; exact h3, .inr (.inr (.inl ⟨v, h', by rw [aeff_congr ax]; exact h1, hsx, by rw [← cm]; exact h4⟩))⟩
    · rw [(only_pure (P := P) hy0).1] at h3; cases h3
    · rw [(only_pure (P := P) hy0).2.1] at h3; cases h3
    · rw [(only_pure (P := P) (h := h) hy0).2.2] at h3; cases h3
  · -- x calls: it never comes behind
    have hx4 : cls P x.op = 4 := Classical.byContradiction fun h0 => by rw [no_call (P := P) (t := t) h0] at h1; cases h1
    simp [compat, hx4] at hcm
end
end Go.Am
