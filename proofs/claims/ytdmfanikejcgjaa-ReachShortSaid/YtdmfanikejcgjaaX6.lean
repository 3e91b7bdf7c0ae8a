import Derived.Test.YtdmfanikejcgjaaX5
set_option linter.unusedSimpArgs false
set_option linter.unusedVariables false
namespace Go.Am
open Go Go.RowKit

/-- A temporary is set. -/
def lset {α : Type} : Tm → Nat → Value → (Tm → α) → α
  | [], _, _, K => K []
  | x :: xs, d, v, K => match d with
    | 0 => K (some v :: xs)
    | .succ d => lset xs d v fun ys => K (x :: ys)
theorem lset_eq {α : Type} {K : Tm → α} {t : Tm} {d : Nat} {v : Value} : lset t d v K = K (t.set d (some v)) := by
  induction t generalizing d K with
  | nil => simp [lset]
  | cons x xs ih => cases d with
    | zero => simp [lset]
    | succ d => simp [lset, ih]
def putK {α : Type} (t : Tm) (d : Option Tmp) (v : Value) (K : Tm → α) : α := match d with
  | some d => lset t d v K
  | none => K t
theorem putK_eq {α : Type} {K : Tm → α} {t : Tm} {d : Option Tmp} {v : Value} : putK t d v K = K (aput t d v) := by
  cases d <;> simp [putK, aput, lset_eq]

/-- What the guard asks. -/
def gval (ops : Array Oper) (t : Tm) (j : Nat) : Option Value := match ops[j]? with
  | some o => match o.dst with
    | some d => tget t d
    | none => none
  | none => none

/-- A value that is handed on. -/
def isMv : Op → Option Operand
  | .move x => some x
  | .assign x => some x
  | _ => none

noncomputable def exOpG (vc : Bool) (mv : Option Operand) (fV : Option Value) (fH : R) (ops : Array Oper) (o : Oper) (K : Tm → PH → R) (t : Tm) (h : PH) : R :=
  match vc with
  | true => match o.guard with
    | none => match mv with
      | some x => match ev t x with
        | some v => putK t o.dst v fun t => K t h
        | none => none
      | none => vb fV fun v => putK t o.dst v fun t => K t h
    | some (j, w) => match gval ops t j with
      | some g => vb (gd (isB w g) fV) fun v => putK t o.dst v fun t => K t h
      | none => none
  | false => match o.guard with
    | none => hb fH fun v h => putK t o.dst v fun t => K t h
    | some (j, w) => match gval ops t j with
      | some g => hb (gh (isB w g) h fH) fun v h => putK t o.dst v fun t => K t h
      | none => none

/-- What is told beside the code: which functions write nothing and answer plain values; which write nothing; of a place, which temporaries live; of a region, its order, and which of its operations have to do with old memory alone. -/
structure Tab where
  pu : List Nat
  fr : List Nat
  live : List (Nat × List Nat)
  ords : List (Nat × List Nat)
  fl : List (Nat × List Nat)

noncomputable def exOp (P : Program) (tab : Tab) (cl : CL) (ops : Array Oper) (o : Oper) (K : Tm → PH → R) (t : Tm) (h : PH) : R :=
  exOpG (isV P tab.pu o.op) (isMv o.op) (opV P tab.pu cl o.op o.type t h) (opH P tab.fr cl o.op t h) ops o K t h

/-- An operation that has to do with old memory alone. -/
def oldB (n : Nat) (v : Value) (r : Option Value) : Option Value := match v with
  | .pointer (some ⟨b, _, none⟩) => match Nat.blt b n with
    | true => r
    | false => none
  | _ => none
noncomputable def fV (P : Program) (tab : Tab) (cl : CL) (n : Nat) (o : Op) (ty : TypeId) (t : Tm) (h : PH) : Option Value := match o with
  | .load T x => match ev t x with
    | some v => oldB n v (opV P tab.pu cl o ty t h)
    | none => none
  | .call ⟨.value (.func g), _, _⟩ => match memN tab.pu g with
    | true => opV P tab.pu cl o ty t h
    | false => none
  | _ => none
noncomputable def fH (P : Program) (tab : Tab) (cl : CL) (o : Op) (t : Tm) (h : PH) : R := match o with
  | .call ⟨.value (.func g), _, _⟩ => match memN tab.fr g with
    | true => opH P tab.fr cl o t h
    | false => none
  | _ => none
noncomputable def exOpF (P : Program) (tab : Tab) (cl : CL) (n : Nat) (ops : Array Oper) (o : FOp) (K : Tm → PH → R) (t : Tm) (h : PH) : R := match o.2 with
  | false => exOp P tab cl ops o.1 K t h
  | true => exOpG (isV P tab.pu o.1.op) none (fV P tab cl n o.1.op o.1.type t h) (fH P tab cl o.1.op t h) ops o.1 K t h

noncomputable def exOps (P : Program) (tab : Tab) (cl : CL) (ops : Array Oper) : List Oper → (Tm → PH → R) → Tm → PH → R
  | [], K => K
  | o :: rest, K => exOp P tab cl ops o (exOps P tab cl ops rest K)
noncomputable def exOpsF (P : Program) (tab : Tab) (cl : CL) (n : Nat) (ops : Array Oper) : List FOp → (Tm → PH → R) → Tm → PH → R
  | [], K => K
  | o :: rest, K => exOpF P tab cl n ops o (exOpsF P tab cl n ops rest K)

theorem isB_ok {ops : Array Oper} {o : Oper} {t : Tm} {j : Nat} {w : Bool} {g : Value} (hg : o.guard = some (j, w)) (hv : gval ops t j = some g) : gok ops o t = true ∧ Region.wanted o (ayielded ops t) = isB w g := by
  unfold gval at hv
  split at hv <;> try (cases hv; done)
  rename_i o' ho
  split at hv <;> try (cases hv; done)
  rename_i d hd
  refine ⟨by simp [gok, hg, ho, hd, hv], ?_⟩
  unfold Region.wanted
  rw [hg]
  simp only [ayielded, ho, hd, hv]
  unfold isB
  cases g <;> try (cases w <;> rfl)
  rename_i b
  cases w <;> cases b <;> rfl

/-- The cases of an operation. -/
theorem exOpG_ok {vc : Bool} {mv : Option Operand} {fV : Option Value} {fH : R} {ops : Array Oper} {o : Oper} {K : Tm → PH → R} {t : Tm} {h : PH} {r : Value × PH} (hmv : ∀ x v, mv = some x → ev t x = some v → vc = true → fV = some v)
    (hx : exOpG vc mv fV fH ops o K t h = some r) :
    gok ops o t = true ∧ ((Region.wanted o (ayielded ops t) = true ∧ ((vc = true ∧ ∃ v, fV = some v ∧ K (aput t o.dst v) h = some r) ∨ (vc = false ∧ ∃ v h', fH = some (v, h') ∧ K (aput t o.dst v) h' = some r))) ∨
      (Region.wanted o (ayielded ops t) = false ∧ K (aput t o.dst undef) h = some r)) := by
  obtain ⟨dst, op, ty, pos, aft, grd⟩ := o
  unfold exOpG at hx
  dsimp only at hx ⊢
  cases vc with
  | true =>
    dsimp only at hx
    cases grd with
    | none =>
      dsimp only at hx
      refine ⟨rfl, .inl ⟨rfl, .inl ⟨rfl, ?_⟩⟩⟩
      split at hx
      · rename_i x
        split at hx <;> try (cases hx; done)
        rename_i v hv
        rw [putK_eq] at hx
        exact ⟨v, hmv x v rfl hv rfl, hx⟩
      · obtain ⟨v, hv, hx⟩ := vb_ok hx
        rw [putK_eq] at hx
        exact ⟨v, hv, hx⟩
    | some q =>
      obtain ⟨j, w⟩ := q
      dsimp only at hx
      split at hx <;> try (cases hx; done)
      rename_i g hg
      obtain ⟨g1, g2⟩ := isB_ok (o := ⟨dst, op, ty, pos, aft, some (j, w)⟩) (w := w) rfl hg
      obtain ⟨v, hv, hx⟩ := vb_ok hx
      rw [putK_eq] at hx
      refine ⟨g1, ?_⟩
      cases hb : isB w g with
      | true => rw [hb] at hv; exact .inl ⟨g2.trans hb, .inl ⟨rfl, v, hv, hx⟩⟩
      | false => rw [hb] at hv; cases hv; exact .inr ⟨g2.trans hb, hx⟩
  | false =>
    dsimp only at hx
    cases grd with
    | none =>
      dsimp only at hx
      obtain ⟨v, h', hv, hx⟩ := hb_ok hx
      rw [putK_eq] at hx
      exact ⟨rfl, .inl ⟨rfl, .inr ⟨rfl, v, h', hv, hx⟩⟩⟩
    | some q =>
      obtain ⟨j, w⟩ := q
      dsimp only at hx
      split at hx <;> try (cases hx; done)
      rename_i g hg
      obtain ⟨g1, g2⟩ := isB_ok (o := ⟨dst, op, ty, pos, aft, some (j, w)⟩) (w := w) rfl hg
      obtain ⟨v, h', hv, hx⟩ := hb_ok hx
      rw [putK_eq] at hx
      refine ⟨g1, ?_⟩
      cases hb : isB w g with
      | true => rw [hb] at hv; exact .inl ⟨g2.trans hb, .inr ⟨rfl, v, h', hv, hx⟩⟩
      | false => rw [hb] at hv; cases hv; exact .inr ⟨g2.trans hb, hx⟩

theorem isMv_ok {P : Program} {pu : List Nat} {cl : CL} {op : Op} {ty : TypeId} {t : Tm} {h : PH} {x : Operand} {v : Value} (hm : isMv op = some x) (hv : ev t x = some v) : opV P pu cl op ty t h = some v := by
  unfold isMv at hm
  split at hm <;> cases hm <;> exact hv

theorem exOp_ok {P : Program} {tab : Tab} {cl : CL} (hcl : OkCL P cl) {ops : Array Oper} {o : Oper} {K : Tm → PH → R} {t : Tm} {h : PH} {r : Value × PH} (hx : exOp P tab cl ops o K t h = some r) :
    AOp P ops o (fun t' k => ∃ h', h'.abs = k ∧ Inv h h' ∧ (∃ d, t' = aput t o.dst d) ∧ K t' h' = some r) t h.abs := by
  obtain ⟨hg, hc⟩ := exOpG_ok (fun x v hm hv _ => isMv_ok hm hv) hx
  refine ⟨hg, ?_⟩
  rcases hc with ⟨hw, hc⟩ | ⟨hw, hk⟩
  · rw [if_pos hw]
    rcases hc with ⟨_, v, hv, hk⟩ | ⟨_, v, h', hv, hk⟩
    · rcases opV_ok hcl (d := o.dst) (pos := o.pos) (aft := o.after) (g := o.guard) hv with (h1 | h1) | ⟨f, args, h1, h2⟩
      · exact .inl ⟨v, h1, h, rfl, Inv.refl h, ⟨v, rfl⟩, hk⟩
      · exact .inr (.inl ⟨v, h1, h, rfl, Inv.refl h, ⟨v, rfl⟩, hk⟩)
      · refine .inr (.inr (.inr ⟨f, args, _, h1, h2, ?_⟩))
        rintro u k ⟨rfl, rfl⟩
        exact ⟨h, rfl, Inv.refl h, ⟨_, rfl⟩, hk⟩
    · have hi := opH_inv hcl hv
      rcases opH_ok hcl (d := o.dst) (ty := o.type) (pos := o.pos) (aft := o.after) (g := o.guard) hv with h1 | ⟨f, args, h1, h2⟩
      · exact .inr (.inr (.inl ⟨v, _, h1, h', rfl, hi, ⟨v, rfl⟩, hk⟩))
      · refine .inr (.inr (.inr ⟨f, args, _, h1, h2, ?_⟩))
        rintro u k ⟨rfl, rfl⟩
        exact ⟨h', rfl, hi, ⟨_, rfl⟩, hk⟩
  · rw [if_neg (by simp [hw])]
    exact ⟨h, rfl, Inv.refl h, ⟨_, rfl⟩, hk⟩

/-- An operation that has to do with old memory alone. -/
theorem exOpF_ok {P : Program} {tab : Tab} {cl : CL} (hcl : OkCL P cl) {n : Nat} {ops : Array Oper} {o : FOp} {K : Tm → PH → R} {t : Tm} {h : PH} {r : Value × PH} (hn : n ≤ h.n) (hx : exOpF P tab cl n ops o K t h = some r) :
    AOpF P ops (List.range n) o (fun t' k => ∃ h', h'.abs = k ∧ Inv h h' ∧ (∃ d, t' = aput t o.1.dst d) ∧ K t' h' = some r) t h.abs := by
  obtain ⟨o, f⟩ := o
  unfold exOpF at hx
  cases f with
  | false =>
    dsimp only at hx
    obtain ⟨hg, hc⟩ := exOp_ok hcl hx
    refine ⟨hg, ?_⟩
    dsimp only
    split
    · rename_i hw
      rw [if_pos hw] at hc
      rcases hc with ⟨v, h1, h2⟩ | ⟨v, h1, h2⟩ | ⟨v, h', h1, h2⟩ | ⟨f, args, R, h1, h2, h3⟩
      · exact .inl ⟨v, h1, h2⟩
      · exact .inr (.inl ⟨v, h1, (fun hf => by cases hf), h2⟩)
      · exact .inr (.inr (.inl ⟨v, h', h1, (fun hf => by cases hf), h2⟩))
      · exact .inr (.inr (.inr ⟨f, args, R, h1, h2, fun v h' hr => ⟨(fun hf => by cases hf), h3 v h' hr⟩⟩))
    · rename_i hw
      rw [if_neg hw] at hc
      exact hc
  | true =>
    dsimp only at hx
    obtain ⟨hg, hc⟩ := exOpG_ok (fun x v hm => by cases hm) hx
    refine ⟨hg, ?_⟩
    dsimp only
    rcases hc with ⟨hw, hc⟩ | ⟨hw, hk⟩
    · rw [if_pos hw]
      rcases hc with ⟨_, v, hv, hk⟩ | ⟨_, v, h', hv, hk⟩
      · obtain ⟨dst, op, ty, pos, aft, grd⟩ := o
        dsimp only at hv hk ⊢
        unfold fV at hv
        split at hv
        · rename_i T x
          split at hv <;> try (cases hv; done)
          rename_i a ha
          unfold oldB at hv
          split at hv <;> try (cases hv; done)
          split at hv <;> try (cases hv; done)
          rename_i b off _ hb
          have hb : b < n := Nat.le_of_ble_eq_true hb
          rcases opV_ok hcl (d := dst) (pos := pos) (aft := aft) (g := grd) hv with (h1 | h1) | ⟨f, args, h1, h2⟩
          · cases h1
          · refine .inr (.inl ⟨v, h1, fun _ k hs => ?_, h, rfl, Inv.refl h, ⟨v, rfl⟩, hk⟩)
            simp only [aread, ha, aload] at h1 ⊢
            cases hq : h.abs[b]? with
            | none => rw [hq] at h1; cases h1
            | some ob => rw [hq] at h1; rw [hs b (by simpa using hb) ob hq]; exact h1
          · cases h1
        · rename_i g args ats
          split at hv <;> try (cases hv; done)
          rcases opV_ok hcl (d := dst) (pos := pos) (aft := aft) (g := grd) hv with (h1 | h1) | ⟨f, args, h1, h2⟩
          · cases h1
          · cases h1
          · refine .inr (.inr (.inr ⟨f, args, _, h1, h2, ?_⟩))
            rintro u k ⟨rfl, rfl⟩
            exact ⟨fun _ b _ ob hob => hob, h, rfl, Inv.refl h, ⟨_, rfl⟩, hk⟩
        · cases hv
      · obtain ⟨dst, op, ty, pos, aft, grd⟩ := o
        dsimp only at hv hk ⊢
        unfold fH at hv
        split at hv <;> try (cases hv; done)
        rename_i g args ats
        split at hv <;> try (cases hv; done)
        rename_i hfr
        have hi := opH_inv hcl hv
        have hsame : same (List.range n) h.abs h'.abs := by
          simp only [opH, hfr] at hv
          split at hv <;> try (cases hv; done)
          obtain ⟨k1, hx1, rfl, hz⟩ := fcall_ok hv
          obtain ⟨news, e1, e2, e3⟩ := PH.back_abs (hcl _ _ _ _ _ hx1).2 hz
          rw [e2]
          exact same.push _ _ _
        rcases opH_ok hcl (d := dst) (ty := ty) (pos := pos) (aft := aft) (g := grd) hv with h1 | ⟨f, args, h1, h2⟩
        · cases h1
        · refine .inr (.inr (.inr ⟨f, args, _, h1, h2, ?_⟩))
          rintro u k ⟨rfl, rfl⟩
          exact ⟨fun _ => hsame, h', rfl, hi, ⟨_, rfl⟩, hk⟩
    · rw [if_neg (by simp [hw])]
      exact ⟨h, rfl, Inv.refl h, ⟨_, rfl⟩, hk⟩

theorem aput_length (t : Tm) (d : Option Tmp) (v : Value) : (aput t d v).length = t.length := by cases d <;> simp [aput]

theorem exOps_ok {P : Program} {tab : Tab} {cl : CL} (hcl : OkCL P cl) {ops : Array Oper} {K : Tm → PH → R} {r : Value × PH} : ∀ {l : List Oper} {t : Tm} {h : PH}, exOps P tab cl ops l K t h = some r →
    AOps P ops (fun t' k => t'.length = t.length ∧ ∃ h', h'.abs = k ∧ K t' h' = some r) l t h.abs := by
  intro l
  induction l with
  | nil => intro t h hx; exact ⟨rfl, h, rfl, hx⟩
  | cons o l ih =>
    intro t h hx
    refine AOp.mono ?_ (exOp_ok hcl hx)
    rintro t' k ⟨h', rfl, _, ⟨d, rfl⟩, hk⟩
    have := ih hk
    rw [aput_length] at this
    exact this

theorem exOpsF_ok {P : Program} {tab : Tab} {cl : CL} (hcl : OkCL P cl) {n : Nat} {ops : Array Oper} {K : Tm → PH → R} {r : Value × PH} : ∀ {l : List FOp} {t : Tm} {h : PH}, n ≤ h.n → exOpsF P tab cl n ops l K t h = some r →
    AOpsF P ops (List.range n) (fun t' k => t'.length = t.length ∧ ∃ h', h'.abs = k ∧ K t' h' = some r) l t h.abs := by
  intro l
  induction l with
  | nil => intro t h _ hx; exact ⟨rfl, h, rfl, hx⟩
  | cons o l ih =>
    intro t h hn hx
    refine AOpF.mono ?_ (exOpF_ok hcl hn hx)
    rintro t' k ⟨h', rfl, hi, ⟨d, rfl⟩, hk⟩
    have := ih (Nat.le_trans hn hi.le) hk
    rw [aput_length] at this
    exact this

/-- A run that leaves what was told. -/
def Leaves (K : Tm → PH → R) : Prop := ∀ t h r, K t h = some r → Inv h r.2
theorem exOpG_inv {vc : Bool} {mv : Option Operand} {fV : Option Value} {fH : R} {ops : Array Oper} {o : Oper} {K : Tm → PH → R} {t : Tm} {h : PH} {r : Value × PH} (hK : Leaves K) (hH : ∀ v h', fH = some (v, h') → Inv h h') (hx : exOpG vc mv fV fH ops o K t h = some r) : Inv h r.2 := by
  unfold exOpG at hx
  split at hx
  · split at hx
    · split at hx
      · split at hx <;> try (cases hx; done)
        rw [putK_eq] at hx; exact hK _ _ _ hx
      · obtain ⟨v, hv, hx⟩ := vb_ok hx
        rw [putK_eq] at hx; exact hK _ _ _ hx
    · split at hx <;> try (cases hx; done)
      obtain ⟨v, hv, hx⟩ := vb_ok hx
      rw [putK_eq] at hx; exact hK _ _ _ hx
  · split at hx
    · obtain ⟨v, h', hv, hx⟩ := hb_ok hx
      rw [putK_eq] at hx; exact (hH _ _ hv).trans (hK _ _ _ hx)
    · split at hx <;> try (cases hx; done)
      obtain ⟨v, h', hv, hx⟩ := hb_ok hx
      rw [putK_eq] at hx
      generalize isB _ _ = bb at hv
      cases bb with
      | true => exact (hH _ _ hv).trans (hK _ _ _ hx)
      | false => cases hv; exact hK _ _ _ hx
theorem exOp_inv {P : Program} {tab : Tab} {cl : CL} (hcl : OkCL P cl) {ops : Array Oper} {o : Oper} {K : Tm → PH → R} (hK : Leaves K) : Leaves (exOp P tab cl ops o K) :=
  fun t h r hx => exOpG_inv hK (fun v h' hv => opH_inv hcl hv) hx
theorem exOpF_inv {P : Program} {tab : Tab} {cl : CL} (hcl : OkCL P cl) {n : Nat} {ops : Array Oper} {o : FOp} {K : Tm → PH → R} (hK : Leaves K) : Leaves (exOpF P tab cl n ops o K) := by
  intro t h r hx
  unfold exOpF at hx
  split at hx
  · exact exOp_inv hcl hK t h r hx
  · refine exOpG_inv hK (fun v h' hv => ?_) hx
    unfold fH at hv
    split at hv <;> try (cases hv; done)
    split at hv <;> try (cases hv; done)
    exact opH_inv hcl hv
theorem exOps_inv {P : Program} {tab : Tab} {cl : CL} (hcl : OkCL P cl) {ops : Array Oper} {K : Tm → PH → R} (hK : Leaves K) : ∀ l, Leaves (exOps P tab cl ops l K)
  | [] => hK
  | o :: l => exOp_inv hcl (exOps_inv hcl hK l)
theorem exOpsF_inv {P : Program} {tab : Tab} {cl : CL} (hcl : OkCL P cl) {n : Nat} {ops : Array Oper} {K : Tm → PH → R} (hK : Leaves K) : ∀ l, Leaves (exOpsF P tab cl n ops l K)
  | [] => hK
  | o :: l => exOpF_inv hcl (exOpsF_inv hcl hK l)

/-- The operations of these numbers. -/
def pickOps (ops : Array Oper) (l : List Nat) : List Oper := l.filterMap fun i => ops[i]?

theorem AOpsF.of {P : Program} {ops : Array Oper} {K : Tm → Heap → Prop} (l : List Nat) : ∀ {t : Tm} {h : Heap}, AOps P ops K (pickOps ops l) t h → AOpsF P ops [] K (fops ops [] l) t h := by
  induction l with
  | nil => intro t h hk; exact hk
  | cons i l ih =>
    intro t h hk
    simp only [pickOps, fops, List.filterMap_cons, fop] at hk ih ⊢
    cases ho : ops[i]? with
    | none => rw [ho] at hk; exact ih hk
    | some o =>
      rw [ho] at hk
      dsimp only at hk ⊢
      have hk : AOp P ops o (AOps P ops K (l.filterMap fun i => ops[i]?)) t h := hk
      show AOpF P ops [] (o, List.contains [] i) _ t h
      unfold AOp at hk
      unfold AOpF
      refine ⟨hk.1, ?_⟩
      replace hk := hk.2
      split
      · rename_i hw
        rw [if_pos hw] at hk
        rcases hk with ⟨v, h1, h2⟩ | ⟨v, h1, h2⟩ | ⟨v, h', h1, h2⟩ | ⟨f, args, R, h1, h2, h3⟩
        · exact .inl ⟨v, h1, ih h2⟩
        · exact .inr (.inl ⟨v, h1, fun hf => by simp at hf, ih h2⟩)
        · exact .inr (.inr (.inl ⟨v, h', h1, fun hf => by simp at hf, ih h2⟩))
        · exact .inr (.inr (.inr ⟨f, args, R, h1, h2, fun v h' hr => ⟨fun hf => by simp at hf, ih (h3 v h' hr)⟩⟩))
      · rename_i hw
        rw [if_neg hw] at hk
        exact ih hk

/-! ### a piece of code -/
def nE : Code → Nat → Nat
  | .exit j, i => match Nat.beq i j with
    | true => 1
    | false => 0
  | .seq a b, i => nE a i + nE b i
  | .cond _ x y, i => nE x i + nE y i
  | .block _ c, i => nE c i
  | .loop c, i => nE c i
  | _, _ => 0
/-- In how many places a piece comes to its end. -/
def nN : Code → Nat
  | .skip => 1
  | .region .. => 1
  | .seq a b => match nN a with
    | 0 => 0
    | _ => nN b
  | .cond _ x y => nN x + nN y
  | .block i c => nN c + nE c i
  | _ => 0
def keyC : Code → Option Nat
  | .region i _ _ => some i
  | .seq a b => match keyC a with
    | some i => some i
    | none => keyC b
  | .cond _ x y => match keyC x with
    | some i => some i
    | none => keyC y
  | .block _ c => keyC c
  | .loop c => keyC c
  | _ => none
def lk : List (Nat × List Nat) → Nat → List Nat
  | [], _ => []
  | (j, l) :: xs, i => match Nat.beq i j with
    | true => l
    | false => lk xs i
def jkey (a b : Code) : Option Nat := match nN a with
  | 0 => none
  | 1 => none
  | _ => keyC b
def pickK : List Nat → Tm → (List Value → R) → R
  | [], _, K => K []
  | l :: ls, t, K => match tget t l with
    | some v => pickK ls t fun vs => K (v :: vs)
    | none => none
noncomputable def reload : List Nat → List Value → Tm → (Tm → R) → R
  | [], _, t, K => K t
  | l :: ls, ys, t, K => ucons ys fun y ys => lset t l y fun t => reload ls ys t K
def rep : Nat → Tm
  | 0 => []
  | .succ n => none :: rep n
abbrev KE := Exit → Tm → PH → R
def Kseq (kb : Tm → PH → R) (K : KE) : KE := fun e => match e with
  | .normal => kb
  | e => K e
def Kblk (i : Nat) (K : KE) : KE := fun e => match e with
  | .exit j => match Nat.beq j i with
    | true => K .normal
    | false => K (.exit j)
  | e => K e
def chkO (P : Program) (ops : Array Oper) (fl ord : List Nat) : Bool := chkD P ops fl ord
def nb (h : PH) (K : Nat → R) : R := K h.n

noncomputable def ex (P : Program) (n : Nat) (cl : CL) (tab : Tab) (nt : Nat) : Code → KE → Tm → PH → R
  | .skip, K => K .normal
  | .exit i, K => K (.exit i)
  | .ret, K => K .ret
  | .region i ops d, K => match d with
    | false => exOps P tab cl ops ops.toList (K .normal)
    | true => match chkO P ops (lk tab.fl i) (lk tab.ords i) with
      | true => match lk tab.fl i with
        | [] => exOps P tab cl ops (pickOps ops (lk tab.ords i)) (K .normal)
        | _ => fun t h => nb h fun n => exOpsF P tab cl n ops (fops ops (lk tab.fl i) (lk tab.ords i)) (K .normal) t h
      | false => fun _ _ => none
  | .seq a b, K => match jkey a b with
    | none => ex P n cl tab nt a (Kseq (ex P n cl tab nt b K) K)
    | some i => fun t h => jn (fun ys h => reload (lk tab.live i) ys (rep nt) fun t => ex P n cl tab nt b K t h)
        fun k => ex P n cl tab nt a (Kseq (fun t h => pickK (lk tab.live i) t fun ys => k ys h) K) t h
  | .cond c x y, K => fun t h => match ev t c with
    | some v => bite v (ex P n cl tab nt x K t h) (ex P n cl tab nt y K t h)
    | none => none
  | .block i c, K => ex P n cl tab nt c (Kblk i K)
  | .loop c, K => match keyC c with
    | some i => fun t h => pickK (lk tab.live i) t fun ys => lp n (fun rec ys h => reload (lk tab.live i) ys (rep nt) fun t => ex P n cl tab nt c (Kseq (fun t h => pickK (lk tab.live i) t fun ys => rec ys h) K) t h) ys h
    | none => fun _ _ => none
  | _, _ => fun _ _ => none

theorem rep_length (n : Nat) : (rep n).length = n := by induction n <;> simp_all [rep]
theorem rep_get (n i : Nat) (v : Value) : (rep n)[i]? ≠ some (some v) := by
  induction n generalizing i with
  | zero => simp [rep]
  | succ n ih => cases i with
    | zero => simp [rep]
    | succ i => simpa [rep] using ih i

theorem pickK_ok {r : Value × PH} {t : Tm} : ∀ {L : List Nat}, ∀ {K : List Value → R}, pickK L t K = some r → ∃ ys, L.map (tget t) = ys.map some ∧ K ys = some r := by
  intro L
  induction L with
  | nil => intro K h; exact ⟨[], rfl, h⟩
  | cons l L ih =>
    intro K h
    simp only [pickK] at h
    split at h <;> try (cases h; done)
    rename_i v hv
    obtain ⟨ys, h1, h2⟩ := ih h
    exact ⟨v :: ys, by simp [hv, h1], h2⟩

/-- What is picked and laid again. -/
theorem reload_ok {t : Tm} {K : Tm → R} {r : Value × PH} : ∀ {L : List Nat} {ys : List Value} {t0 : Tm}, L.map (tget t) = ys.map some → reload L ys t0 K = some r →
    t0.length = t.length → (∀ (i : Nat) v, t0[i]? = some (some v) → t[i]? = some (some v)) →
    ∃ t', t'.length = t.length ∧ (∀ (i : Nat) v, t'[i]? = some (some v) → t[i]? = some (some v)) ∧ K t' = some r := by
  intro L
  induction L with
  | nil => intro ys t0 _ h hl hs; exact ⟨t0, hl, hs, h⟩
  | cons l L ih =>
    intro ys t0 hm h hl hs
    cases ys with
    | nil => simp at hm
    | cons y ys =>
      simp only [List.map_cons, List.cons.injEq] at hm
      simp only [reload, ucons, lset_eq] at h
      refine ih hm.2 h (by simp [hl]) fun i v hv => ?_
      by_cases hli : l = i
      · subst hli
        have hlt : l < t0.length := by
          have := (List.getElem?_eq_some_iff.1 hv).1
          simpa using this
        rw [List.getElem?_set_self hlt] at hv
        cases hv
        have h1 := hm.1
        unfold tget at h1
        split at h1 <;> simp at h1
        subst h1
        assumption
      · rw [List.getElem?_set_ne hli] at hv
        exact hs i v hv

theorem ex_ok {P : Program} {n : Nat} {cl : CL} {tab : Tab} {nt : Nat} (hcl : OkCL P cl) (hm : P.follows .mixedOrders = true) (c : Code) : ∀ {K : KE} {t : Tm} {h : PH} {r : Value × PH}, t.length = nt → ex P n cl tab nt c K t h = some r →
    AWp P c (fun e t' k => t'.length = nt ∧ ∃ h', h'.abs = k ∧ K e t' h' = some r) t h.abs := by
  induction c with
  | skip => intro K t h r hl hx; exact AWp.skip ⟨hl, h, rfl, hx⟩
  | exit i => intro K t h r hl hx; exact AWp.exit ⟨hl, h, rfl, hx⟩
  | ret => intro K t h r hl hx; exact AWp.ret ⟨hl, h, rfl, hx⟩
  | region i ops d =>
    intro K t h r hl hx
    simp only [ex] at hx
    cases d with
    | false =>
      refine AWp.region ?_
      have := exOps_ok hcl hx
      rw [hl] at this
      exact this
    | true =>
      dsimp only at hx
      cases hchk : chkO P ops (lk tab.fl i) (lk tab.ords i) with
      | false => rw [hchk] at hx; cases hx
      | true =>
      rw [hchk] at hx
      dsimp only at hx
      cases hfl : lk tab.fl i with
      | nil =>
        rw [hfl] at hx hchk
        have := exOps_ok hcl hx
        rw [hl] at this
        exact AWp.drawn [] _ [] hm hchk (AOpsF.of _ this)
      | cons z zs =>
        rw [hfl] at hx hchk
        have := exOpsF_ok hcl (Nat.le_refl h.n) hx
        rw [hl] at this
        exact AWp.drawn (z :: zs) _ _ hm hchk this
  | seq a b iha ihb =>
    intro K t h r hl hx
    simp only [ex] at hx
    refine AWp.seq ?_
    cases hj : jkey a b with
    | none =>
      rw [hj] at hx
      refine AWp.mono (iha hl hx) ?_
      rintro e t' k ⟨hl', h', rfl, hk⟩
      cases e with
      | normal => exact ihb hl' hk
      | _ => exact ⟨hl', h', rfl, hk⟩
    | some i =>
      rw [hj] at hx
      refine AWp.mono (iha hl hx) ?_
      rintro e t' k ⟨hl', h', rfl, hk⟩
      cases e with
      | normal =>
        simp only [Kseq] at hk
        obtain ⟨ys, h1, h2⟩ := pickK_ok hk
        obtain ⟨t2, h3, h4, h5⟩ := reload_ok h1 h2 (by rw [rep_length, hl']) (fun i v hv => absurd hv (rep_get _ _ _))
        exact AWp.weak h3 h4 (ihb (h3.trans hl') h5)
      | _ => exact ⟨hl', h', rfl, hk⟩
  | cond c x y ihx ihy =>
    intro K t h r hl hx
    simp only [ex] at hx
    split at hx <;> try (cases hx; done)
    rename_i v hv
    rcases bite_ok hx with ⟨rfl, hx⟩ | ⟨rfl, hx⟩
    · exact AWp.cond (b := true) hv (ihx hl hx)
    · exact AWp.cond (b := false) hv (ihy hl hx)
  | block i c ih =>
    intro K t h r hl hx
    simp only [ex] at hx
    refine AWp.block (AWp.mono (ih hl hx) ?_)
    rintro e t' k ⟨hl', h', rfl, hk⟩
    cases e with
    | exit j =>
      simp only [Kblk] at hk
      unfold blockQ
      dsimp only
      cases hj : Nat.beq j i with
      | true =>
        rw [hj] at hk
        rw [if_pos (Nat.eq_of_beq_eq_true hj)]
        exact ⟨hl', h', rfl, hk⟩
      | false =>
        rw [hj] at hk
        rw [if_neg (Nat.ne_of_beq_eq_false hj)]
        exact ⟨hl', h', rfl, hk⟩
    | _ => exact ⟨hl', h', rfl, hk⟩
  | loop c ih =>
    intro K t h r hl hx
    simp only [ex] at hx
    cases hi : keyC c with
    | none => rw [hi] at hx; cases hx
    | some i =>
    rw [hi] at hx
    dsimp only at hx
    generalize hL : lk tab.live i = L at hx
    generalize hbody : (fun (rec : Kt) (ys : List Value) (h : PH) => reload L ys (rep nt) fun t => ex P n cl tab nt c (Kseq (fun t h => pickK L t fun ys => rec ys h) K) t h) = body at hx
    have hx : pickK L t (fun ys => lp n body ys h) = some r := hx
    refine AWp.loop (fun m t' k => t'.length = nt ∧ ∃ h', h'.abs = k ∧ pickK L t' (fun ys => lp m body ys h') = some r) n ⟨hl, h, rfl, hx⟩ ?_
    rintro m t' k ⟨hl', h', rfl, hk⟩
    obtain ⟨ys, h1, h2⟩ := pickK_ok hk
    cases m with
    | zero => cases h2
    | succ m =>
      have h2 : body (lp m body) ys h' = some r := h2
      rw [← hbody] at h2
      dsimp only at h2
      obtain ⟨t2, h3, h4, h5⟩ := reload_ok h1 h2 (by rw [rep_length, hl']) (fun i v hv => absurd hv (rep_get _ _ _))
      refine AWp.weak h3 h4 (AWp.mono (ih (h3.trans hl') h5) ?_)
      rintro e t3 k ⟨hl3, h6, rfl, hk3⟩
      cases e with
      | normal =>
        simp only [Kseq] at hk3
        rw [hbody] at hk3
        exact ⟨m, Nat.lt_succ_self m, hl3, h6, rfl, hk3⟩
      | _ => exact ⟨hl3, h6, rfl, hk3⟩
  | _ => intro K t h r hl hx; simp [ex] at hx

theorem pickK_leaves {L : List Nat} {t : Tm} {h : PH} {r : Value × PH} {K : List Value → R} (hK : ∀ ys, K ys = some r → Inv h r.2) (hx : pickK L t K = some r) : Inv h r.2 := by
  obtain ⟨ys, _, h2⟩ := pickK_ok hx
  exact hK ys h2
theorem reload_leaves {h : PH} {r : Value × PH} : ∀ {L : List Nat} {ys : List Value} {t : Tm} {K : Tm → R}, (∀ t, K t = some r → Inv h r.2) → reload L ys t K = some r → Inv h r.2 := by
  intro L
  induction L with
  | nil => intro ys t K hK hx; exact hK t hx
  | cons l L ih =>
    intro ys t K hK hx
    cases ys with
    | nil => cases hx
    | cons y ys =>
      simp only [reload, ucons, lset_eq] at hx
      exact ih hK hx

theorem ex_inv {P : Program} {n : Nat} {cl : CL} {tab : Tab} {nt : Nat} (hcl : OkCL P cl) (c : Code) : ∀ {K : KE}, (∀ e, Leaves (K e)) → Leaves (ex P n cl tab nt c K) := by
  induction c with
  | skip => intro K hK; exact hK _
  | exit i => intro K hK; exact hK _
  | ret => intro K hK; exact hK _
  | region i ops d =>
    intro K hK t h r hx
    simp only [ex] at hx
    cases d with
    | false => exact exOps_inv hcl (hK _) _ t h r hx
    | true =>
      dsimp only at hx
      cases hchk : chkO P ops (lk tab.fl i) (lk tab.ords i) with
      | false => rw [hchk] at hx; cases hx
      | true =>
      rw [hchk] at hx
      dsimp only at hx
      cases hfl : lk tab.fl i with
      | nil => rw [hfl] at hx; exact exOps_inv hcl (hK _) _ t h r hx
      | cons z zs => rw [hfl] at hx; exact exOpsF_inv hcl (hK _) _ t h r hx
  | seq a b iha ihb =>
    intro K hK t h r hx
    simp only [ex] at hx
    cases hj : jkey a b with
    | none =>
      rw [hj] at hx
      refine iha (fun e => ?_) t h r hx
      cases e with
      | normal => exact ihb hK
      | _ => exact hK _
    | some i =>
      rw [hj] at hx
      refine iha (fun e => ?_) t h r hx
      cases e with
      | normal => exact fun t h r hx => pickK_leaves (fun ys hy => reload_leaves (fun t ht => ihb hK t h r ht) hy) hx
      | _ => exact hK _
  | cond c x y ihx ihy =>
    intro K hK t h r hx
    simp only [ex] at hx
    split at hx <;> try (cases hx; done)
    rcases bite_ok hx with ⟨rfl, hx⟩ | ⟨rfl, hx⟩
    · exact ihx hK t h r hx
    · exact ihy hK t h r hx
  | block i c ih =>
    intro K hK t h r hx
    simp only [ex] at hx
    refine ih (fun e => ?_) t h r hx
    cases e with
    | exit j =>
      simp only [Kblk]
      cases Nat.beq j i <;> exact hK _
    | _ => exact hK _
  | loop c ih =>
    intro K hK t h r hx
    simp only [ex] at hx
    cases hi : keyC c with
    | none => rw [hi] at hx; cases hx
    | some i =>
    rw [hi] at hx
    dsimp only at hx
    refine pickK_leaves (fun ys hy => ?_) hx
    clear hx
    revert hy
    generalize hbody : (fun (rec : Kt) (ys : List Value) (h : PH) => reload (lk tab.live i) ys (rep nt) fun t => ex P n cl tab nt c (Kseq (fun t h => pickK (lk tab.live i) t fun ys => rec ys h) K) t h) = body
    have key : ∀ m ys h r, lp m body ys h = some r → Inv h r.2 := by
      intro m
      induction m with
      | zero => intro ys h r hx; cases hx
      | succ m ihm =>
        intro ys h r hx
        have hx : body (lp m body) ys h = some r := hx
        rw [← hbody] at hx
        dsimp only at hx
        rw [hbody] at hx
        refine reload_leaves (fun t ht => ih (fun e => ?_) t h r ht) hx
        cases e with
        | normal => exact fun t h r hx => pickK_leaves (fun ys hy => ihm ys h r hy) hx
        | _ => exact hK _
    intro hy
    exact key n ys h r hy
  | _ => intro K hK t h r hx; simp [ex] at hx

/-! ### a function -/
noncomputable def fin1 (P : Program) (t : Tm) (h : PH) : ResultVar → Option Value
  | .tmp i => tget t i
  | .cell a T => match tget t a with
    | some v => match scal P T with
      | true => xLd v h
      | false => match aggSz P T with
        | some (.succ n) => xLdA (.succ n) v h
        | _ => none
    | none => none
noncomputable def finL (P : Program) (t : Tm) (h : PH) : List ResultVar → (List Value → R) → R
  | [], K => K []
  | .tmp i :: rs, K => match tget t i with
    | some v => finL P t h rs fun vs => K (v :: vs)
    | none => none
  | r :: rs, K => vb (fin1 P t h r) fun v => finL P t h rs fun vs => K (v :: vs)
def fin2 (h : PH) (vs : List Value) : R := match vs with
  | [v] => some (v, h)
  | vs => some (.tuple ⟨vs⟩, h)
noncomputable def Kfin (P : Program) (fn : Func) : KE := fun e t h => match e with
  | .normal => finL P t h fn.results.toList (fin2 h)
  | .ret => finL P t h fn.results.toList (fin2 h)
  | _ => none
def frame : List Value → Nat → Tm
  | [], n => rep n
  | x :: xs, n => match n with
    | 0 => []
    | .succ n => some x :: frame xs n
noncomputable def exF (P : Program) (n : Nat) (cl : CL) (tab : Tab) (fn : Func) (args : List Value) (h : PH) : R := match fn.body with
  | some c => match Nat.ble args.length fn.ntmps with
    | true => ex P n cl tab fn.ntmps c (Kfin P fn) (frame args fn.ntmps) h
    | false => none
  | none => none

theorem frame_eq (xs : List Value) (n : Nat) (h : xs.length ≤ n) : frame xs n = xs.map some ++ List.replicate (n - xs.length) none := by
  induction xs generalizing n with
  | nil =>
    simp only [frame, List.map_nil, List.nil_append, List.length_nil, Nat.sub_zero]
    induction n with
    | zero => rfl
    | succ n ih => simp [rep, List.replicate_succ]; exact ih (Nat.zero_le _)
  | cons x xs ih =>
    cases n with
    | zero => simp at h
    | succ n => simp [frame]; exact ih n (by simpa using h)

theorem fin1_ok {P : Program} {t : Tm} {h : PH} {rv : ResultVar} {v : Value} (hx : fin1 P t h rv = some v) : aresult1 P t h.abs rv = some v := by
  cases rv with
  | tmp i => exact hx
  | cell a T =>
    simp only [fin1] at hx
    simp only [aresult1]
    split at hx <;> try (cases hx; done)
    rename_i hv
    simp only [hv]
    split at hx
    · exact xLd_ok ‹_› hx
    · split at hx <;> try (cases hx; done)
      exact xLdA_ok ‹_› (Nat.succ_pos _) hx
theorem finL_ok {P : Program} {t : Tm} {h : PH} {r : Value × PH} : ∀ {rs : List ResultVar} {K : List Value → R}, finL P t h rs K = some r → ∃ vs, aresultL P t h.abs rs = some vs ∧ K vs = some r := by
  intro rs
  induction rs with
  | nil => intro K hx; exact ⟨[], rfl, hx⟩
  | cons rv rs ih =>
    intro K hx
    have : ∃ v, fin1 P t h rv = some v ∧ (finL P t h rs fun vs => K (v :: vs)) = some r := by
      cases rv with
      | tmp i =>
        simp only [finL] at hx
        split at hx <;> try (cases hx; done)
        rename_i v hv
        exact ⟨v, hv, hx⟩
      | cell a T => exact vb_ok hx
    obtain ⟨v, hv, hx⟩ := this
    obtain ⟨vs, h1, h2⟩ := ih hx
    exact ⟨v :: vs, by simp [aresultL, fin1_ok hv, h1], h2⟩

theorem finL_leaves {P : Program} {t : Tm} {h : PH} {r : Value × PH} : ∀ {rs : List ResultVar} {K : List Value → R}, (∀ vs, K vs = some r → Inv h r.2) → finL P t h rs K = some r → Inv h r.2 := by
  intro rs K hK hx
  obtain ⟨vs, _, h2⟩ := finL_ok hx
  exact hK vs h2
theorem fin2_leaves {h : PH} {vs : List Value} {r : Value × PH} (hx : fin2 h vs = some r) : Inv h r.2 := by
  unfold fin2 at hx
  split at hx <;> (cases hx; exact Inv.refl h)
theorem Kfin_leaves (P : Program) (fn : Func) (e : Exit) : Leaves (Kfin P fn e) := by
  intro t h r hx
  cases e with
  | normal => exact finL_leaves (fun vs => fin2_leaves) hx
  | ret => exact finL_leaves (fun vs => fin2_leaves) hx
  | _ => cases hx

theorem exF_ok {P : Program} {n : Nat} {cl : CL} {tab : Tab} (hcl : OkCL P cl) (hm : P.follows .mixedOrders = true) {f : FuncId} {fn : Func} (hf : P.funcs[f]? = some fn) (hnm : (fn.name == "runtime.NumGoroutine") = false) {args : List Value} {h h' : PH} {v : Value}
    (hx : exF P n cl tab fn args h = some (v, h')) : (enterable P f = true ∧ ACall P f args h.abs (fun u k => u = v ∧ k = h'.abs)) ∧ Inv h h' := by
  unfold exF at hx
  split at hx <;> try (cases hx; done)
  rename_i c hb
  split at hx <;> try (cases hx; done)
  rename_i hle
  have hle := Nat.le_of_ble_eq_true hle
  refine ⟨⟨by simp [enterable, hf, hb, hnm], ACall.of hf hb ?_⟩, ex_inv hcl c (Kfin_leaves P fn) _ _ _ hx⟩
  rw [← frame_eq _ _ hle]
  refine AWp.mono (ex_ok hcl hm c (by rw [frame_eq _ _ hle]; simp; omega) hx) ?_
  rintro e t' k ⟨hl, h2, rfl, hk⟩
  have fin : finL P t' h2 fn.results.toList (fin2 h2) = some (v, h') → ∃ u, aresults P fn t' h2.abs = some u ∧ u = v ∧ h2.abs = h'.abs := by
    intro hk
    obtain ⟨vs, h1, h3⟩ := finL_ok hk
    unfold aresults
    rw [h1]
    unfold fin2 at h3
    split at h3
    · cases h3; exact ⟨_, rfl, rfl, rfl⟩
    · rename_i hne
      cases h3
      match vs, hne with
      | [], _ => exact ⟨_, rfl, rfl, rfl⟩
      | [a], hne => exact absurd rfl (hne a)
      | a :: b :: l, _ => exact ⟨_, rfl, rfl, rfl⟩
  cases e with
  | normal => exact fin hk
  | ret => exact fin hk
  | _ => simp [Kfin] at hk
end Go.Am
