import Derived.Test.YtdmfanikejcgjaaX0
set_option linter.unusedSimpArgs false
set_option linter.unusedVariables false
namespace Go.Am
open Go Go.RowKit

/-! ### the plain machine's memory as a tree -/
inductive Br where
  | leaf
  | node (o : AObj) (l r : Br)

/-- The place is counted from 1. -/
noncomputable def Br.get1 (b : Br) : Nat → Option AObj :=
  Br.rec (motive := fun _ => Nat → Option AObj) (fun _ => none)
    (fun o _ _ gl gr j => Bool.rec (motive := fun _ => Option AObj) (Bool.rec (motive := fun _ => Option AObj) (gr (Nat.div j 2)) (gl (Nat.div j 2)) (Nat.beq (Nat.mod j 2) 0)) (some o) (Nat.beq j 1)) b

/-- One object is put in place. -/
noncomputable def Br.upd1 (b : Br) : Nat → AObj → Option Br :=
  Br.rec (motive := fun _ => Nat → AObj → Option Br)
    (fun j o => Bool.rec (motive := fun _ => Option Br) none (some (.node o .leaf .leaf)) (Nat.beq j 1))
    (fun x l r ul ur j o => Bool.rec (motive := fun _ => Option Br)
      (Bool.rec (motive := fun _ => Option Br)
        (Option.rec (motive := fun _ => Option Br) none (fun r' => some (.node x l r')) (ur (Nat.div j 2) o))
        (Option.rec (motive := fun _ => Option Br) none (fun l' => some (.node x l' r)) (ul (Nat.div j 2) o)) (Nat.beq (Nat.mod j 2) 0))
      (some (.node o l r)) (Nat.beq j 1)) b
noncomputable def Br.get (b : Br) (i : Nat) : Option AObj := b.get1 (.succ i)
noncomputable def Br.upd (b : Br) (i : Nat) (o : AObj) : Option Br := b.upd1 (.succ i) o

theorem Br.get1_node (o : AObj) (l r : Br) (j : Nat) : (Br.node o l r).get1 j = if j = 1 then some o else if j % 2 = 0 then l.get1 (j / 2) else r.get1 (j / 2) := by
  show Bool.rec (motive := fun _ => Option AObj) (Bool.rec (motive := fun _ => Option AObj) (r.get1 (j / 2)) (l.get1 (j / 2)) (Nat.beq (j % 2) 0)) (some o) (Nat.beq j 1) = _
  cases h1 : Nat.beq j 1 with
  | true => rw [if_pos (Nat.eq_of_beq_eq_true h1)]
  | false =>
    rw [if_neg (Nat.ne_of_beq_eq_false h1)]
    cases h2 : Nat.beq (j % 2) 0 with
    | true => rw [if_pos (Nat.eq_of_beq_eq_true h2)]
    | false => rw [if_neg (Nat.ne_of_beq_eq_false h2)]

theorem Br.upd1_node (o x : AObj) (l r : Br) (j : Nat) : (Br.node x l r).upd1 j o = if j = 1 then some (.node o l r) else if j % 2 = 0 then (l.upd1 (j / 2) o).map (fun l' => .node x l' r) else (r.upd1 (j / 2) o).map (fun r' => .node x l r') := by
  show Bool.rec (motive := fun _ => Option Br) (Bool.rec (motive := fun _ => Option Br) (Option.rec (motive := fun _ => Option Br) none (fun r' => some (.node x l r')) (r.upd1 (j / 2) o)) (Option.rec (motive := fun _ => Option Br) none (fun l' => some (.node x l' r)) (l.upd1 (j / 2) o)) (Nat.beq (j % 2) 0)) (some (.node o l r)) (Nat.beq j 1) = _
  cases h1 : Nat.beq j 1 with
  | true => rw [if_pos (Nat.eq_of_beq_eq_true h1)]
  | false =>
    rw [if_neg (Nat.ne_of_beq_eq_false h1)]
    cases h2 : Nat.beq (j % 2) 0 with
    | true => rw [if_pos (Nat.eq_of_beq_eq_true h2)]; cases l.upd1 (j / 2) o <;> rfl
    | false => rw [if_neg (Nat.ne_of_beq_eq_false h2)]; cases r.upd1 (j / 2) o <;> rfl

theorem Br.upd1_get {o : AObj} : ∀ {br br' : Br} {i : Nat}, 0 < i → br.upd1 i o = some br' → ∀ j, 0 < j → br'.get1 j = if j = i then some o else br.get1 j := by
  intro br
  induction br with
  | leaf =>
    intro br' i hi hu j hj
    have hu : Bool.rec (motive := fun _ => Option Br) none (some (.node o .leaf .leaf)) (Nat.beq i 1) = some br' := hu
    cases h1 : Nat.beq i 1 with
    | false => rw [h1] at hu; cases hu
    | true =>
      rw [h1] at hu
      cases hu
      have := Nat.eq_of_beq_eq_true h1
      rw [Br.get1_node, this]
      split
      · rfl
      · split <;> rfl
  | node x l r ihl ihr =>
    intro br' i hi hu j hj
    rw [Br.upd1_node] at hu
    split at hu
    · cases hu
      rename_i h1
      rw [Br.get1_node, Br.get1_node, h1]
      split <;> rfl
    · rename_i hi1
      split at hu
      · rename_i he
        simp only [Option.map_eq_some_iff] at hu
        obtain ⟨l', hl', rfl⟩ := hu
        rw [Br.get1_node, Br.get1_node]
        split
        · rename_i hj1; rw [if_neg (by omega)]
        · rename_i hj1
          split
          · rename_i hje
            rw [ihl (by omega) hl' _ (by omega)]
            by_cases hji : j = i
            · rw [if_pos (by rw [hji]), if_pos hji]
            · rw [if_neg (by omega), if_neg hji]
          · rename_i hje
            rw [if_neg (by rintro rfl; exact hje he)]
      · rename_i he
        simp only [Option.map_eq_some_iff] at hu
        obtain ⟨r', hr', rfl⟩ := hu
        rw [Br.get1_node, Br.get1_node]
        split
        · rename_i hj1; rw [if_neg (by omega)]
        · rename_i hj1
          split
          · rename_i hje
            rw [if_neg (by rintro rfl; exact he hje)]
          · rename_i hje
            rw [ihr (by omega) hr' _ (by omega)]
            by_cases hji : j = i
            · rw [if_pos (by rw [hji]), if_pos hji]
            · rw [if_neg (by omega), if_neg hji]

theorem Br.upd_get {o : AObj} {br br' : Br} {i : Nat} (h : br.upd i o = some br') (j : Nat) : br'.get j = if j = i then some o else br.get j := by
  have := Br.upd1_get (Nat.succ_pos i) h (.succ j) (Nat.succ_pos j)
  unfold Br.get
  rw [this]
  by_cases hji : j = i
  · rw [if_pos (by rw [hji]), if_pos hji]
  · rw [if_neg (by omega), if_neg hji]

structure PH where
  n : Nat
  /-- What lies ahead of this place is not written. -/
  fz : Nat
  br : Br

def frz (b : Bool) (o : AObj) : AObj := match b with
  | true => freeze o
  | false => o
noncomputable def PH.abs (h : PH) : Heap := (List.range h.n).map fun i => frz (Nat.blt i h.fz) ((h.br.get i).getD .dead)
/-- An object, as it lies. -/
noncomputable def PH.raw (h : PH) (b : Nat) : Option AObj := Bool.rec (motive := fun _ => Option AObj) none (h.br.get b) (Nat.blt b h.n)
noncomputable def PH.get (h : PH) (b : Nat) : Option AObj := match h.raw b with
  | some o => match Nat.blt b h.fz with
    | true => some (freeze o)
    | false => some o
  | none => none

/-- A number, told. -/
def seqN {α : Type} (n : Nat) (K : Nat → α) : α := match n with
  | 0 => K 0
  | .succ m => K (.succ m)
theorem seqN_eq {α : Type} (n : Nat) (K : Nat → α) : seqN n K = K n := by cases n <;> rfl

noncomputable def PH.set (h : PH) (b : Nat) (o : AObj) : Option PH :=
  Bool.rec (motive := fun _ => Option PH) none (Bool.rec (motive := fun _ => Option PH) none
    (Option.rec (motive := fun _ => Option PH) none (fun br => seqN h.n fun n => seqN h.fz fun z => some ⟨n, z, br⟩) (h.br.upd b o)) (Nat.ble h.fz b)) (Nat.blt b h.n)

noncomputable def PH.push (h : PH) (o : AObj) : Option PH :=
  Bool.rec (motive := fun _ => Option PH) none (Option.rec (motive := fun _ => Option PH) none (fun br => seqN (.succ h.n) fun n => seqN h.fz fun z => some ⟨n, z, br⟩) (h.br.upd h.n o)) (Nat.ble h.fz h.n)

/-- The same, of which nothing may be written. -/
def PH.fzn (h : PH) : PH := ⟨h.n, h.n, h.br⟩

theorem PH.length (h : PH) : h.abs.length = h.n := by simp [PH.abs]

theorem PH.raw_ok {h : PH} {b : Nat} {o : AObj} (hg : h.raw b = some o) : b < h.n ∧ h.br.get b = some o := by
  unfold PH.raw at hg
  cases hb : Nat.blt b h.n with
  | false => rw [hb] at hg; cases hg
  | true => rw [hb] at hg; exact ⟨Nat.le_of_ble_eq_true hb, hg⟩

theorem PH.raw_abs {h : PH} {b : Nat} {o : AObj} (hg : h.raw b = some o) : h.abs[b]? = some (frz (Nat.blt b h.fz) o) := by
  obtain ⟨h1, h2⟩ := PH.raw_ok hg
  simp [PH.abs, List.getElem?_range h1, h2]

/-- A row, as it lies: its cells may be read. -/
theorem PH.raw_row {h : PH} {b : Nat} {m : Mode} {esz : Nat} {cs : List Value} (hg : h.raw b = some (.row m esz cs)) : ∃ m', h.abs[b]? = some (.row m' esz cs) := by
  have := PH.raw_abs hg
  cases hb : Nat.blt b h.fz with
  | true => rw [hb] at this; exact ⟨_, this⟩
  | false => rw [hb] at this; exact ⟨_, this⟩

theorem PH.get_abs {h : PH} {b : Nat} {o : AObj} (hg : h.get b = some o) : h.abs[b]? = some o := by
  unfold PH.get at hg
  split at hg <;> try (cases hg; done)
  rename_i o' hr
  have := PH.raw_abs hr
  split at hg
  · rename_i hb; cases hg; rw [this, hb]; rfl
  · rename_i hb; cases hg; rw [this, hb]; rfl

theorem PH.set_abs {h h' : PH} {b : Nat} {o : AObj} (hs : h.set b o = some h') : h'.abs = h.abs.set b o := by
  unfold PH.set at hs
  cases hb : Nat.blt b h.n with
  | false => rw [hb] at hs; cases hs
  | true =>
  cases hf : Nat.ble h.fz b with
  | false => rw [hb, hf] at hs; cases hs
  | true =>
  cases hu : h.br.upd b o with
  | none => rw [hb, hf, hu] at hs; cases hs
  | some br =>
  rw [hb, hf, hu] at hs
  have hs : (seqN h.n fun n => seqN h.fz fun z => some (PH.mk n z br)) = some h' := hs
  rw [seqN_eq, seqN_eq] at hs
  cases hs
  have := Br.upd_get hu
  apply List.ext_getElem?
  intro j
  rw [List.getElem?_set]
  simp only [PH.abs, List.getElem?_map, List.length_map, List.length_range]
  have hb : b < h.n := Nat.le_of_ble_eq_true hb
  have hf : h.fz ≤ b := Nat.le_of_ble_eq_true hf
  by_cases hj : j < h.n
  · rw [List.getElem?_range hj, Option.map_some, this j]
    by_cases hbj : b = j
    · subst hbj
      have : Nat.blt b h.fz = false := by
        cases hq : Nat.blt b h.fz with
        | false => rfl
        | true => have : b < h.fz := Nat.le_of_ble_eq_true hq; omega
      simp [hb, this, frz]
    · rw [if_neg (fun e => hbj e.symm), if_neg hbj]; rfl
  · rw [if_neg (by omega)]
    simp [List.getElem?_eq_none (show (List.range h.n).length ≤ j by simp; omega)]

theorem PH.push_abs {h h' : PH} {o : AObj} (hs : h.push o = some h') : h'.abs = h.abs ++ [o] := by
  unfold PH.push at hs
  cases hf : Nat.ble h.fz h.n with
  | false => rw [hf] at hs; cases hs
  | true =>
  cases hu : h.br.upd h.n o with
  | none => rw [hf, hu] at hs; cases hs
  | some br =>
  rw [hf, hu] at hs
  have hs : (seqN (.succ h.n) fun n => seqN h.fz fun z => some (PH.mk n z br)) = some h' := hs
  rw [seqN_eq, seqN_eq] at hs
  cases hs
  have := Br.upd_get hu
  have hf : h.fz ≤ h.n := Nat.le_of_ble_eq_true hf
  simp only [PH.abs, List.range_succ, List.map_append, List.map_cons, List.map_nil]
  congr 1
  · apply List.map_congr_left
    intro j hj
    rw [this j, if_neg (by simp at hj; omega)]
  · have hq : Nat.blt h.n h.fz = false := by
      cases hq : Nat.blt h.n h.fz with
      | false => rfl
      | true => have : h.n < h.fz := Nat.le_of_ble_eq_true hq; omega
    rw [this h.n, if_pos rfl, hq]; rfl

theorem PH.fzn_abs (h : PH) : h.fzn.abs = h.abs.map freeze := by
  simp only [PH.abs, PH.fzn, List.map_map]
  apply List.map_congr_left
  intro j hj
  have hj : j < h.n := by simpa using hj
  have : Nat.blt j h.n = true := Nat.ble_eq_true_of_le hj
  simp only [this, frz, Function.comp]
  split
  · rw [freeze_freeze]
  · rfl

/-! ### what a run leaves -/
def notro : AObj → Bool
  | .row .ro _ _ => false
  | _ => true
structure Inv (h h' : PH) : Prop where
  fz : h'.fz = h.fz
  le : h.n ≤ h'.n
  low : ∀ i, i < h.fz → h'.br.get i = h.br.get i
  nr : (∀ i o, h.fz ≤ i → i < h.n → h.br.get i = some o → notro o = true) → ∀ i o, h'.fz ≤ i → i < h'.n → h'.br.get i = some o → notro o = true
theorem Inv.refl (h : PH) : Inv h h := ⟨rfl, Nat.le_refl _, fun _ _ => rfl, fun h => h⟩
theorem Inv.trans {h h1 h2 : PH} (a : Inv h h1) (b : Inv h1 h2) : Inv h h2 :=
  ⟨b.fz.trans a.fz, Nat.le_trans a.le b.le, fun i hi => (b.low i (by rw [a.fz]; exact hi)).trans (a.low i hi), fun c => b.nr (a.nr c)⟩
theorem PH.set_inv {h h' : PH} {b : Nat} {o : AObj} (hs : h.set b o = some h') (ho : notro o = true) : Inv h h' := by
  unfold PH.set at hs
  cases hb : Nat.blt b h.n with
  | false => rw [hb] at hs; cases hs
  | true =>
  cases hf : Nat.ble h.fz b with
  | false => rw [hb, hf] at hs; cases hs
  | true =>
  cases hu : h.br.upd b o with
  | none => rw [hb, hf, hu] at hs; cases hs
  | some br =>
  rw [hb, hf, hu] at hs
  have hs : (seqN h.n fun n => seqN h.fz fun z => some (PH.mk n z br)) = some h' := hs
  rw [seqN_eq, seqN_eq] at hs
  cases hs
  have := Br.upd_get hu
  have hf : h.fz ≤ b := Nat.le_of_ble_eq_true hf
  refine ⟨rfl, Nat.le_refl _, fun i hi => ?_, fun c i o' h1 h2 h3 => ?_⟩
  · dsimp only; rw [this i, if_neg (by omega)]
  · dsimp only at h1 h2 h3
    rw [this i] at h3
    split at h3
    · cases h3; exact ho
    · exact c i o' h1 h2 h3
theorem PH.push_inv {h h' : PH} {o : AObj} (hs : h.push o = some h') (ho : notro o = true) : Inv h h' := by
  unfold PH.push at hs
  cases hf : Nat.ble h.fz h.n with
  | false => rw [hf] at hs; cases hs
  | true =>
  cases hu : h.br.upd h.n o with
  | none => rw [hf, hu] at hs; cases hs
  | some br =>
  rw [hf, hu] at hs
  have hs : (seqN (.succ h.n) fun n => seqN h.fz fun z => some (PH.mk n z br)) = some h' := hs
  rw [seqN_eq, seqN_eq] at hs
  cases hs
  have := Br.upd_get hu
  have hf : h.fz ≤ h.n := Nat.le_of_ble_eq_true hf
  refine ⟨rfl, Nat.le_succ _, fun i hi => ?_, fun c i o' h1 h2 h3 => ?_⟩
  · dsimp only; rw [this i, if_neg (by omega)]
  · dsimp only at h1 h2 h3
    rw [this i] at h3
    split at h3
    · cases h3; exact ho
    · exact c i o' h1 (by omega) h3

/-- A run over a memory of which nothing was to be written: what is new lies behind what was. -/
def PH.back (h h' : PH) : PH := ⟨h'.n, h.fz, h'.br⟩
theorem PH.back_abs {h h' : PH} (hi : Inv h.fzn h') (hz : h.fz ≤ h.n) : ∃ news, h'.abs = h.abs.map freeze ++ news ∧ (h.back h').abs = h.abs ++ news ∧ ∀ o ∈ news, notro o = true := by
  have hle : h.n ≤ h'.n := hi.le
  have hfz : h'.fz = h.n := hi.fz
  have hlow : ∀ i, i < h.n → h'.br.get i = h.br.get i := hi.low
  have hnr := hi.nr (fun i o h1 h2 _ => absurd h2 (by have : (PH.fzn h).fz = h.n := rfl; have : (PH.fzn h).n = h.n := rfl; omega))
  have hr : List.range h'.n = List.range h.n ++ (List.range (h'.n - h.n)).map (h.n + ·) := by
    rw [← List.range_add]; congr 1; omega
  refine ⟨(List.range (h'.n - h.n)).map fun i => (h'.br.get (h.n + i)).getD .dead, ?_, ?_, ?_⟩
  · simp only [PH.abs, hr, List.map_append, List.map_map]
    congr 1
    · apply List.map_congr_left
      intro j hj
      have hj : j < h.n := by simpa using hj
      have h1 : Nat.blt j h'.fz = true := by rw [hfz]; exact Nat.ble_eq_true_of_le hj
      simp only [h1, Function.comp, hlow j hj, frz]
      split
      · rw [freeze_freeze]
      · rfl
    · apply List.map_congr_left
      intro j hj
      have h1 : Nat.blt (h.n + j) h'.fz = false := by
        cases hq : Nat.blt (h.n + j) h'.fz with
        | false => rfl
        | true => have : h.n + j < h'.fz := Nat.le_of_ble_eq_true hq; omega
      simp only [Function.comp, h1, frz]
  · simp only [PH.abs, PH.back, hr, List.map_append, List.map_map]
    congr 1
    · apply List.map_congr_left
      intro j hj
      have hj : j < h.n := by simpa using hj
      simp only [hlow j hj]
    · apply List.map_congr_left
      intro j hj
      have h1 : Nat.blt (h.n + j) h.fz = false := by
        cases hq : Nat.blt (h.n + j) h.fz with
        | false => rfl
        | true => have : h.n + j < h.fz := Nat.le_of_ble_eq_true hq; omega
      simp only [Function.comp, h1, frz]
  · intro o ho
    simp only [List.mem_map, List.mem_range] at ho
    obtain ⟨i, hi', rfl⟩ := ho
    cases hq : h'.br.get (h.n + i) with
    | none => rfl
    | some o => exact hnr (h.n + i) o (by omega) (by omega) hq
theorem PH.back_inv {h h' : PH} (hi : Inv h.fzn h') (hz : h.fz ≤ h.n) : Inv h (h.back h') := by
  have hle : h.n ≤ h'.n := hi.le
  have hfz : h'.fz = h.n := hi.fz
  have hlow : ∀ i, i < h.n → h'.br.get i = h.br.get i := hi.low
  have hnr := hi.nr (fun i o h1 h2 _ => absurd h2 (by have : (PH.fzn h).fz = h.n := rfl; have : (PH.fzn h).n = h.n := rfl; omega))
  refine ⟨rfl, hle, fun i h1 => hlow i (by omega), fun c i o h1 h2 h3 => ?_⟩
  by_cases hin : i < h.n
  · have h3 : h'.br.get i = some o := h3
    rw [hlow i hin] at h3
    exact c i o h1 hin h3
  · exact hnr i o (by omega) h2 h3

/-! ### results, one behind the other -/
abbrev R := Option (Value × PH)
noncomputable def vb (o : Option Value) (K : Value → R) : R := Option.rec (motive := fun _ => R) none K o
noncomputable def hb (o : R) (K : Value → PH → R) : R := Option.rec (motive := fun _ => R) none (fun p => Prod.rec (motive := fun _ => R) K p) o
noncomputable def gd (b : Bool) (o : Option Value) : Option Value := Bool.rec (motive := fun _ => Option Value) (some undef) o b
noncomputable def gh (b : Bool) (h : PH) (o : R) : R := Bool.rec (motive := fun _ => R) (some (undef, h)) o b
def isB (want : Bool) (v : Value) : Bool := match v with
  | .bool b => match want with
    | true => b
    | false => match b with
      | true => false
      | false => true
  | _ => false
def isTF (v : Value) : Option Bool := match v with
  | .bool b => some b
  | _ => none
noncomputable def bite (v : Value) (x y : R) : R := Option.rec (motive := fun _ => R) none (fun b => Bool.rec (motive := fun _ => R) y x b) (isTF v)
noncomputable def ucons (ys : List Value) (K : Value → List Value → R) : R := List.rec (motive := fun _ => R) none (fun y ys _ => K y ys) ys
abbrev Kt := List Value → PH → R
def jn (k : Kt) (body : Kt → R) : R := body k
noncomputable def lp (n : Nat) (body : Kt → Kt) : Kt := Nat.rec (motive := fun _ => Kt) (fun _ _ => none) (fun _ ih => body ih) n

/-- A call of which the value alone is kept. -/
noncomputable def pcall (r : R) : Option Value := Option.rec (motive := fun _ => Option Value) none (fun p => Bool.rec (motive := fun _ => Option Value) none (some p.1) (plainV p.1)) r
theorem pcall_ok {r : R} {v : Value} (h : pcall r = some v) : ∃ h', r = some (v, h') ∧ plainV v = true := by
  cases r with
  | none => cases h
  | some p =>
    have h : Bool.rec (motive := fun _ => Option Value) none (some p.1) (plainV p.1) = some v := h
    cases hp : plainV p.1 with
    | false => rw [hp] at h; cases h
    | true => rw [hp] at h; cases h; exact ⟨p.2, rfl, hp⟩

/-- A call over a memory of which nothing is written; what is new is kept. -/
noncomputable def fcall (h : PH) (r : R) : R := Option.rec (motive := fun _ => R) none (fun p => Bool.rec (motive := fun _ => R) none (some (p.1, h.back p.2)) (Nat.ble h.fz h.n)) r
theorem fcall_ok {h h' : PH} {r : R} {v : Value} (hx : fcall h r = some (v, h')) : ∃ h1, r = some (v, h1) ∧ h' = h.back h1 ∧ h.fz ≤ h.n := by
  cases r with
  | none => cases hx
  | some p =>
    have hx : Bool.rec (motive := fun _ => R) none (some (p.1, h.back p.2)) (Nat.ble h.fz h.n) = some (v, h') := hx
    cases hp : Nat.ble h.fz h.n with
    | false => rw [hp] at hx; cases hx
    | true => rw [hp] at hx; cases hx; exact ⟨p.2, rfl, rfl, Nat.le_of_ble_eq_true hp⟩

theorem vb_ok {o : Option Value} {K : Value → R} {r : Value × PH} (h : vb o K = some r) : ∃ v, o = some v ∧ K v = some r := by
  cases o with
  | none => cases h
  | some v => exact ⟨v, rfl, h⟩
theorem hb_ok {o : R} {K : Value → PH → R} {r : Value × PH} (h : hb o K = some r) : ∃ v h', o = some (v, h') ∧ K v h' = some r := by
  cases o with
  | none => cases h
  | some v => exact ⟨v.1, v.2, rfl, h⟩
theorem bite_ok {v : Value} {x y : R} {r : Value × PH} (h : bite v x y = some r) : (v = .bool true ∧ x = some r) ∨ (v = .bool false ∧ y = some r) := by
  unfold bite isTF at h
  cases v <;> try (cases h; done)
  rename_i b
  cases b
  · exact .inr ⟨rfl, h⟩
  · exact .inl ⟨rfl, h⟩

/-- An element of a list. -/
noncomputable def nth (l : List Value) : Nat → Option Value :=
  List.rec (motive := fun _ => Nat → Option Value) (fun _ => none) (fun x _ ih i => Nat.rec (motive := fun _ => Option Value) (some x) (fun j _ => ih j) i) l
theorem nth_eq (l : List Value) : ∀ i, nth l i = l[i]? := by
  induction l with
  | nil => intro i; rfl
  | cons x l ih => intro i; cases i with
    | zero => rfl
    | succ i => rw [List.getElem?_cons_succ, ← ih]; rfl
end Go.Am
