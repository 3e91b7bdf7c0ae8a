import Derived.Test.YtlombbiepbficaaZB
import Derived.Below
import Derived.WalkKit
import Derived.ProofKit
import Derived.OpenShut
import Derived.Carry
set_option linter.unusedSimpArgs false
set_option linter.unusedVariables false
namespace Go.Am
open Go Go.RowKit

/-! ### the plain machine's memory as a tree -/
inductive Br where
  | leaf
  | node (o : AObj) (l r : Br)

/-- The place is counted from 1. -/
noncomputable def Br.get1 (b : Br) : Nat → Option AObj :=
  Br.rec (motive := fun _ => Nat → Option AObj) (fun _ => none)
    (fun o _ _ gl gr j => Bool.rec (motive := fun _ => Option AObj) (Bool.rec (motive := fun _ => Option AObj) (gr (Nat.div j 2)) (gl (Nat.div j 2)) (Nat.beq (Nat.mod j 2) 0)) (some o) (Nat.beq j 1)) b

/-- One object is put in place. -/
noncomputable def Br.upd1 (b : Br) : Nat → AObj → Option Br :=
  Br.rec (motive := fun _ => Nat → AObj → Option Br)
    (fun j o => Bool.rec (motive := fun _ => Option Br) none (some (.node o .leaf .leaf)) (Nat.beq j 1))
    (fun x l r ul ur j o => Bool.rec (motive := fun _ => Option Br)
      (Bool.rec (motive := fun _ => Option Br)
        (Option.rec (motive := fun _ => Option Br) none (fun r' => some (.node x l r')) (ur (Nat.div j 2) o))
        (Option.rec (motive := fun _ => Option Br) none (fun l' => some (.node x l' r)) (ul (Nat.div j 2) o)) (Nat.beq (Nat.mod j 2) 0))
      (some (.node o l r)) (Nat.beq j 1)) b
noncomputable def Br.get (b : Br) (i : Nat) : Option AObj := b.get1 (.succ i)
noncomputable def Br.upd (b : Br) (i : Nat) (o : AObj) : Option Br := b.upd1 (.succ i) o

theorem Br.get1_node (o : AObj) (l r : Br) (j : Nat) : (Br.node o l r).get1 j = if j = 1 then some o else if j % 2 = 0 then l.get1 (j / 2) else r.get1 (j / 2) := by
  show Bool.rec (motive := fun _ => Option AObj) (Bool.rec (motive := fun _ => Option AObj) (r.get1 (j / 2)) (l.get1 (j / 2)) (Nat.beq (j % 2) 0)) (some o) (Nat.beq j 1) = _
  cases h1 : Nat.beq j 1 with
  | true => rw [if_pos (Nat.eq_of_beq_eq_true h1)]
  | false =>
    rw [if_neg (Nat.ne_of_beq_eq_false h1)]
    cases h2 : Nat.beq (j % 2) 0 with
    | true => rw [if_pos (Nat.eq_of_beq_eq_true h2)]
    | false => rw [if_neg (Nat.ne_of_beq_eq_false h2)]

theorem Br.upd1_node (o x : AObj) (l r : Br) (j : Nat) : (Br.node x l r).upd1 j o = if j = 1 then some (.node o l r) else if j % 2 = 0 then (l.upd1 (j / 2) o).map (fun l' => .node x l' r) else (r.upd1 (j / 2) o).map (fun r' => .node x l r') := by
  show Bool.rec (motive := fun _ => Option Br) (Bool.rec (motive := fun _ => Option Br) (Option.rec (motive := fun _ => Option Br) none (fun r' => some (.node x l r')) (r.upd1 (j / 2) o)) (Option.rec (motive := fun _ => Option Br) none (fun l' => some (.node x l' r)) (l.upd1 (j / 2) o)) (Nat.beq (j % 2) 0)) (some (.node o l r)) (Nat.beq j 1) = _
  cases h1 : Nat.beq j 1 with
  | true => rw [if_pos (Nat.eq_of_beq_eq_true h1)]
  | false =>
    rw [if_neg (Nat.ne_of_beq_eq_false h1)]
    cases h2 : Nat.beq (j % 2) 0 with
    | true => rw [if_pos (Nat.eq_of_beq_eq_true h2)]; cases l.upd1 (j / 2) o <;> rfl
    | false => rw [if_neg (Nat.ne_of_beq_eq_false h2)]; cases r.upd1 (j / 2) o <;> rfl

theorem Br.upd1_get {o : AObj} : ∀ {br br' : Br} {i : Nat}, 0 < i → br.upd1 i o = some br' → ∀ j, 0 < j → br'.get1 j = if j = i then some o else br.get1 j := by
  intro br
  induction br with
  | leaf =>
    intro br' i hi hu j hj
    have hu : Bool.rec (motive := fun _ => Option Br) none (some (.node o .leaf .leaf)) (Nat.beq i 1) = some br' := hu
    cases h1 : Nat.beq i 1 with
    | false => rw [h1] at hu; cases hu
    | true =>
      rw [h1] at hu
      cases hu
      have := Nat.eq_of_beq_eq_true h1
      rw [Br.get1_node, this]
      split
      · rfl
      · split <;> rfl
  | node x l r ihl ihr =>
    intro br' i hi hu j hj
    rw [Br.upd1_node] at hu
    split at hu
    · cases hu
      rename_i h1
      rw [Br.get1_node, Br.get1_node, h1]
      split <;> rfl
    · rename_i hi1
      split at hu
      · rename_i he
        simp only [Option.map_eq_some_iff] at hu
        obtain ⟨l', hl', rfl⟩ := hu
        rw [Br.get1_node, Br.get1_node]
        split
        · rename_i hj1; rw [if_neg (by omega)]
        · rename_i hj1
          split
          · rename_i hje
            rw [ihl (by omega) hl' _ (by omega)]
            by_cases hji : j = i
            · rw [if_pos (by rw [hji]), if_pos hji]
            · rw [if_neg (by omega), if_neg hji]
          · rename_i hje
            rw [if_neg (by rintro rfl; exact hje he)]
      · rename_i he
        simp only [Option.map_eq_some_iff] at hu
        obtain ⟨r', hr', rfl⟩ := hu
        rw [Br.get1_node, Br.get1_node]
        split
        · rename_i hj1; rw [if_neg (by omega)]
        · rename_i hj1
          split
          · rename_i hje
            rw [if_neg (by rintro rfl; exact he hje)]
          · rename_i hje
            rw [ihr (by omega) hr' _ (by omega)]
            by_cases hji : j = i
            · rw [if_pos (by rw [hji]), if_pos hji]
            · rw [if_neg (by omega), if_neg hji]

theorem Br.upd_get {o : AObj} {br br' : Br} {i : Nat} (h : br.upd i o = some br') (j : Nat) : br'.get j = if j = i then some o else br.get j := by
  have := Br.upd1_get (Nat.succ_pos i) h (.succ j) (Nat.succ_pos j)
  unfold Br.get
  rw [this]
  by_cases hji : j = i
  · rw [if_pos (by rw [hji]), if_pos hji]
  · rw [if_neg (by omega), if_neg hji]

structure PH where
  n : Nat
  /-- What lies ahead of this place is not written. -/
  fz : Nat
  br : Br

def frz (b : Bool) (o : AObj) : AObj := match b with
  | true => freeze o
  | false => o
noncomputable def PH.abs (h : PH) : Heap := (List.range h.n).map fun i => frz (Nat.blt i h.fz) ((h.br.get i).getD .dead)
/-- An object, as it lies. -/
noncomputable def PH.raw (h : PH) (b : Nat) : Option AObj := Bool.rec (motive := fun _ => Option AObj) none (h.br.get b) (Nat.blt b h.n)
noncomputable def PH.get (h : PH) (b : Nat) : Option AObj := match h.raw b with
  | some o => match Nat.blt b h.fz with
    | true => some (freeze o)
    | false => some o
  | none => none

/-- A number, told. -/
def seqN {α : Type} (n : Nat) (K : Nat → α) : α := match n with
  | 0 => K 0
  | .succ m => K (.succ m)
theorem seqN_eq {α : Type} (n : Nat) (K : Nat → α) : seqN n K = K n := by cases n <;> rfl

noncomputable def PH.set (h : PH) (b : Nat) (o : AObj) : Option PH :=
  Bool.rec (motive := fun _ => Option PH) none (Bool.rec (motive := fun _ => Option PH) none
    (Option.rec (motive := fun _ => Option PH) none (fun br => seqN h.n fun n => seqN h.fz fun z => some ⟨n, z, br⟩) (h.br.upd b o)) (Nat.ble h.fz b)) (Nat.blt b h.n)

noncomputable def PH.push (h : PH) (o : AObj) : Option PH :=
  Bool.rec (motive := fun _ => Option PH) none (Option.rec (motive := fun _ => Option PH) none (fun br => seqN (.succ h.n) fun n => seqN h.fz fun z => some ⟨n, z, br⟩) (h.br.upd h.n o)) (Nat.ble h.fz h.n)

/-- The same, of which nothing may be written. -/
def PH.fzn (h : PH) : PH := ⟨h.n, h.n, h.br⟩

theorem PH.length (h : PH) : h.abs.length = h.n := by simp [PH.abs]

theorem PH.raw_ok {h : PH} {b : Nat} {o : AObj} (hg : h.raw b = some o) : b < h.n ∧ h.br.get b = some o := by
  unfold PH.raw at hg
  cases hb : Nat.blt b h.n with
  | false => rw [hb] at hg; cases hg
  | true => rw [hb] at hg; exact ⟨Nat.le_of_ble_eq_true hb, hg⟩

theorem PH.raw_abs {h : PH} {b : Nat} {o : AObj} (hg : h.raw b = some o) : h.abs[b]? = some (frz (Nat.blt b h.fz) o) := by
  obtain ⟨h1, h2⟩ := PH.raw_ok hg
  simp [PH.abs, List.getElem?_range h1, h2]

/-- A row, as it lies: its cells may be read. -/
theorem PH.raw_row {h : PH} {b : Nat} {m : Mode} {esz : Nat} {cs : List Value} (hg : h.raw b = some (.row m esz cs)) : ∃ m', h.abs[b]? = some (.row m' esz cs) := by
  have := PH.raw_abs hg
  cases hb : Nat.blt b h.fz with
  | true => rw [hb] at this; exact ⟨_, this⟩
  | false => rw [hb] at this; exact ⟨_, this⟩

theorem PH.get_abs {h : PH} {b : Nat} {o : AObj} (hg : h.get b = some o) : h.abs[b]? = some o := by
  unfold PH.get at hg
  split at hg <;> try (cases hg; done)
  rename_i o' hr
  have := PH.raw_abs hr
  split at hg
  · rename_i hb; cases hg; rw [this, hb]; rfl
  · rename_i hb; cases hg; rw [this, hb]; rfl

theorem PH.set_abs {h h' : PH} {b : Nat} {o : AObj} (hs : h.set b o = some h') : h'.abs = h.abs.set b o := by
  unfold PH.set at hs
  cases hb : Nat.blt b h.n with
  | false => rw [hb] at hs; cases hs
  | true =>
  cases hf : Nat.ble h.fz b with
  | false => rw [hb, hf] at hs; cases hs
  | true =>
  cases hu : h.br.upd b o with
  | none => rw [hb, hf, hu] at hs; cases hs
  | some br =>
  rw [hb, hf, hu] at hs
  have hs : (seqN h.n fun n => seqN h.fz fun z => some (PH.mk n z br)) = some h' := hs
  rw [seqN_eq, seqN_eq] at hs
  cases hs
  have := Br.upd_get hu
  apply List.ext_getElem?
  intro j
  rw [List.getElem?_set]
  simp only [PH.abs, List.getElem?_map, List.length_map, List.length_range]
  have hb : b < h.n := Nat.le_of_ble_eq_true hb
  have hf : h.fz ≤ b := Nat.le_of_ble_eq_true hf
  by_cases hj : j < h.n
  · rw [List.getElem?_range hj, Option.map_some, this j]
    by_cases hbj : b = j
    · subst hbj
      have : Nat.blt b h.fz = false := by
        cases hq : Nat.blt b h.fz with
        | false => rfl
        | true => have : b < h.fz := Nat.le_of_ble_eq_true hq; omega
      simp [hb, this, frz]
    · rw [if_neg (fun e => hbj e.symm), if_neg hbj]; rfl
  · rw [if_neg (by omega)]
    simp [List.getElem?_eq_none (show (List.range h.n).length ≤ j by simp; omega)]

theorem PH.push_abs {h h' : PH} {o : AObj} (hs : h.push o = some h') : h'.abs = h.abs ++ [o] := by
  unfold PH.push at hs
  cases hf : Nat.ble h.fz h.n with
  | false => rw [hf] at hs; cases hs
  | true =>
  cases hu : h.br.upd h.n o with
  | none => rw [hf, hu] at hs; cases hs
  | some br =>
  rw [hf, hu] at hs
  have hs : (seqN (.succ h.n) fun n => seqN h.fz fun z => some (PH.mk n z br)) = some h' := hs
  rw [seqN_eq, seqN_eq] at hs
  cases hs
  have := Br.upd_get hu
  have hf : h.fz ≤ h.n := Nat.le_of_ble_eq_true hf
  simp only [PH.abs, List.range_succ, List.map_append, List.map_cons, List.map_nil]
  congr 1
  · apply List.map_congr_left
    intro j hj
    rw [this j, if_neg (by simp at hj; omega)]
  · have hq : Nat.blt h.n h.fz = false := by
      cases hq : Nat.blt h.n h.fz with
      | false => rfl
      | true => have : h.n < h.fz := Nat.le_of_ble_eq_true hq; omega
    rw [this h.n, if_pos rfl, hq]; rfl

theorem PH.fzn_abs (h : PH) : h.fzn.abs = h.abs.map freeze := by
  simp only [PH.abs, PH.fzn, List.map_map]
  apply List.map_congr_left
  intro j hj
  have hj : j < h.n := by simpa using hj
  have : Nat.blt j h.n = true := Nat.ble_eq_true_of_le hj
  simp only [this, frz, Function.comp]
  split
  · rw [freeze_freeze]
  · rfl

/-! ### what a run leaves -/
def notro : AObj → Bool
  | .row .ro _ _ => false
  | _ => true
structure Inv (h h' : PH) : Prop where
  fz : h'.fz = h.fz
  le : h.n ≤ h'.n
  low : ∀ i, i < h.fz → h'.br.get i = h.br.get i
  nr : (∀ i o, h.fz ≤ i → i < h.n → h.br.get i = some o → notro o = true) → ∀ i o, h'.fz ≤ i → i < h'.n → h'.br.get i = some o → notro o = true
theorem Inv.refl (h : PH) : Inv h h := ⟨rfl, Nat.le_refl _, fun _ _ => rfl, fun h => h⟩
theorem Inv.trans {h h1 h2 : PH} (a : Inv h h1) (b : Inv h1 h2) : Inv h h2 :=
  ⟨b.fz.trans a.fz, Nat.le_trans a.le b.le, fun i hi => (b.low i (by rw [a.fz]; exact hi)).trans (a.low i hi), fun c => b.nr (a.nr c)⟩
theorem PH.set_inv {h h' : PH} {b : Nat} {o : AObj} (hs : h.set b o = some h') (ho : notro o = true) : Inv h h' := by
  unfold PH.set at hs
  cases hb : Nat.blt b h.n with
  | false => rw [hb] at hs; cases hs
  | true =>
  cases hf : Nat.ble h.fz b with
  | false => rw [hb, hf] at hs; cases hs
  | true =>
  cases hu : h.br.upd b o with
  | none => rw [hb, hf, hu] at hs; cases hs
  | some br =>
  rw [hb, hf, hu] at hs
  have hs : (seqN h.n fun n => seqN h.fz fun z => some (PH.mk n z br)) = some h' := hs
  rw [seqN_eq, seqN_eq] at hs
  cases hs
  have := Br.upd_get hu
  have hf : h.fz ≤ b := Nat.le_of_ble_eq_true hf
  refine ⟨rfl, Nat.le_refl _, fun i hi => ?_, fun c i o' h1 h2 h3 => ?_⟩
  · dsimp only; rw [this i, if_neg (by omega)]
  · dsimp only at h1 h2 h3
    rw [this i] at h3
    split at h3
    · cases h3; exact ho
    · exact c i o' h1 h2 h3
theorem PH.push_inv {h h' : PH} {o : AObj} (hs : h.push o = some h') (ho : notro o = true) : Inv h h' := by
  unfold PH.push at hs
  cases hf : Nat.ble h.fz h.n with
  | false => rw [hf] at hs; cases hs
  | true =>
  cases hu : h.br.upd h.n o with
  | none => rw [hf, hu] at hs; cases hs
  | some br =>
  rw [hf, hu] at hs
  have hs : (seqN (.succ h.n) fun n => seqN h.fz fun z => some (PH.mk n z br)) = some h' := hs
  rw [seqN_eq, seqN_eq] at hs
  cases hs
  have := Br.upd_get hu
  have hf : h.fz ≤ h.n := Nat.le_of_ble_eq_true hf
  refine ⟨rfl, Nat.le_succ _, fun i hi => ?_, fun c i o' h1 h2 h3 => ?_⟩
  · dsimp only; rw [this i, if_neg (by omega)]
  · dsimp only at h1 h2 h3
    rw [this i] at h3
    split at h3
    · cases h3; exact ho
    · exact c i o' h1 (by omega) h3

/-- A run over a memory of which nothing was to be written: what is new lies behind what was. -/
def PH.back (h h' : PH) : PH := ⟨h'.n, h.fz, h'.br⟩
theorem PH.back_abs {h h' : PH} (hi : Inv h.fzn h') (hz : h.fz ≤ h.n) : ∃ news, h'.abs = h.abs.map freeze ++ news ∧ (h.back h').abs = h.abs ++ news ∧ ∀ o ∈ news, notro o = true := by
  have hle : h.n ≤ h'.n := hi.le
  have hfz : h'.fz = h.n := hi.fz
  have hlow : ∀ i, i < h.n → h'.br.get i = h.br.get i := hi.low
  have hnr := hi.nr (fun i o h1 h2 _ => absurd h2 (by have : (PH.fzn h).fz = h.n := rfl; have : (PH.fzn h).n = h.n := rfl; omega))
  have hr : List.range h'.n = List.range h.n ++ (List.range (h'.n - h.n)).map (h.n + ·) := by
    rw [← List.range_add]; congr 1; omega
  refine ⟨(List.range (h'.n - h.n)).map fun i => (h'.br.get (h.n + i)).getD .dead, ?_, ?_, ?_⟩
  · simp only [PH.abs, hr, List.map_append, List.map_map]
    congr 1
    · apply List.map_congr_left
      intro j hj
      have hj : j < h.n := by simpa using hj
      have h1 : Nat.blt j h'.fz = true := by rw [hfz]; exact Nat.ble_eq_true_of_le hj
      simp only [h1, Function.comp, hlow j hj, frz]
      split
      · rw [freeze_freeze]
      · rfl
    · apply List.map_congr_left
      intro j hj
      have h1 : Nat.blt (h.n + j) h'.fz = false := by
        cases hq : Nat.blt (h.n + j) h'.fz with
        | false => rfl
        | true => have : h.n + j < h'.fz := Nat.le_of_ble_eq_true hq; omega
      simp only [Function.comp, h1, frz]
  · simp only [PH.abs, PH.back, hr, List.map_append, List.map_map]
    congr 1
    · apply List.map_congr_left
      intro j hj
      have hj : j < h.n := by simpa using hj
      simp only [hlow j hj]
    · apply List.map_congr_left
      intro j hj
      have h1 : Nat.blt (h.n + j) h.fz = false := by
        cases hq : Nat.blt (h.n + j) h.fz with
        | false => rfl
        | true => have : h.n + j < h.fz := Nat.le_of_ble_eq_true hq; omega
      simp only [Function.comp, h1, frz]
  · intro o ho
    simp only [List.mem_map, List.mem_range] at ho
    obtain ⟨i, hi', rfl⟩ := ho
    cases hq : h'.br.get (h.n + i) with
    | none => rfl
    | some o => exact hnr (h.n + i) o (by omega) (by omega) hq
theorem PH.back_inv {h h' : PH} (hi : Inv h.fzn h') (hz : h.fz ≤ h.n) : Inv h (h.back h') := by
  have hle : h.n ≤ h'.n := hi.le
  have hfz : h'.fz = h.n := hi.fz
  have hlow : ∀ i, i < h.n → h'.br.get i = h.br.get i := hi.low
  have hnr := hi.nr (fun i o h1 h2 _ => absurd h2 (by have : (PH.fzn h).fz = h.n := rfl; have : (PH.fzn h).n = h.n := rfl; omega))
  refine ⟨rfl, hle, fun i h1 => hlow i (by omega), fun c i o h1 h2 h3 => ?_⟩
  by_cases hin : i < h.n
  · have h3 : h'.br.get i = some o := h3
    rw [hlow i hin] at h3
    exact c i o h1 hin h3
  · exact hnr i o (by omega) h2 h3

/-! ### results, one behind the other -/
abbrev R := Option (Value × PH)
noncomputable def vb (o : Option Value) (K : Value → R) : R := Option.rec (motive := fun _ => R) none K o
noncomputable def hb (o : R) (K : Value → PH → R) : R := Option.rec (motive := fun _ => R) none (fun p => Prod.rec (motive := fun _ => R) K p) o
noncomputable def gd (b : Bool) (o : Option Value) : Option Value := Bool.rec (motive := fun _ => Option Value) (some undef) o b
noncomputable def gh (b : Bool) (h : PH) (o : R) : R := Bool.rec (motive := fun _ => R) (some (undef, h)) o b
def isB (want : Bool) (v : Value) : Bool := match v with
  | .bool b => match want with
    | true => b
    | false => match b with
      | true => false
      | false => true
  | _ => false
def isTF (v : Value) : Option Bool := match v with
  | .bool b => some b
  | _ => none
noncomputable def bite (v : Value) (x y : R) : R := Option.rec (motive := fun _ => R) none (fun b => Bool.rec (motive := fun _ => R) y x b) (isTF v)
noncomputable def ucons (ys : List Value) (K : Value → List Value → R) : R := List.rec (motive := fun _ => R) none (fun y ys _ => K y ys) ys
abbrev Kt := List Value → PH → R
def jn (k : Kt) (body : Kt → R) : R := body k
noncomputable def lp (n : Nat) (body : Kt → Kt) : Kt := Nat.rec (motive := fun _ => Kt) (fun _ _ => none) (fun _ ih => body ih) n

/-- A call of which the value alone is kept. -/
noncomputable def pcall (r : R) : Option Value := Option.rec (motive := fun _ => Option Value) none (fun p => Bool.rec (motive := fun _ => Option Value) none (some p.1) (plainV p.1)) r
theorem pcall_ok {r : R} {v : Value} (h : pcall r = some v) : ∃ h', r = some (v, h') ∧ plainV v = true := by
  cases r with
  | none => cases h
  | some p =>
    have h : Bool.rec (motive := fun _ => Option Value) none (some p.1) (plainV p.1) = some v := h
    cases hp : plainV p.1 with
    | false => rw [hp] at h; cases h
    | true => rw [hp] at h; cases h; exact ⟨p.2, rfl, hp⟩

/-- A call over a memory of which nothing is written; what is new is kept. -/
noncomputable def fcall (h : PH) (r : R) : R := Option.rec (motive := fun _ => R) none (fun p => Bool.rec (motive := fun _ => R) none (some (p.1, h.back p.2)) (Nat.ble h.fz h.n)) r
theorem fcall_ok {h h' : PH} {r : R} {v : Value} (hx : fcall h r = some (v, h')) : ∃ h1, r = some (v, h1) ∧ h' = h.back h1 ∧ h.fz ≤ h.n := by
  cases r with
  | none => cases hx
  | some p =>
    have hx : Bool.rec (motive := fun _ => R) none (some (p.1, h.back p.2)) (Nat.ble h.fz h.n) = some (v, h') := hx
    cases hp : Nat.ble h.fz h.n with
    | false => rw [hp] at hx; cases hx
    | true => rw [hp] at hx; cases hx; exact ⟨p.2, rfl, rfl, Nat.le_of_ble_eq_true hp⟩

theorem vb_ok {o : Option Value} {K : Value → R} {r : Value × PH} (h : vb o K = some r) : ∃ v, o = some v ∧ K v = some r := by
  cases o with
  | none => cases h
  | some v => exact ⟨v, rfl, h⟩
theorem hb_ok {o : R} {K : Value → PH → R} {r : Value × PH} (h : hb o K = some r) : ∃ v h', o = some (v, h') ∧ K v h' = some r := by
  cases o with
  | none => cases h
  | some v => exact ⟨v.1, v.2, rfl, h⟩
theorem bite_ok {v : Value} {x y : R} {r : Value × PH} (h : bite v x y = some r) : (v = .bool true ∧ x = some r) ∨ (v = .bool false ∧ y = some r) := by
  unfold bite isTF at h
  cases v <;> try (cases h; done)
  rename_i b
  cases b
  · exact .inr ⟨rfl, h⟩
  · exact .inl ⟨rfl, h⟩

/-- An element of a list. -/
noncomputable def nth (l : List Value) : Nat → Option Value :=
  List.rec (motive := fun _ => Nat → Option Value) (fun _ => none) (fun x _ ih i => Nat.rec (motive := fun _ => Option Value) (some x) (fun j _ => ih j) i) l
theorem nth_eq (l : List Value) : ∀ i, nth l i = l[i]? := by
  induction l with
  | nil => intro i; rfl
  | cons x l ih => intro i; cases i with
    | zero => rfl
    | succ i => rw [List.getElem?_cons_succ, ← ih]; rfl
end Go.Am

set_option linter.unusedSimpArgs false
set_option linter.unusedVariables false
namespace Go.Am
open Go Go.RowKit

/-! ### what is known of a program's types -/
def scal (P : Program) (T : TypeId) : Bool :=
  match P.underlying T with
  | some (.struct _) | some (.array _ _) | none => false
  | _ => true
def aggSz (P : Program) (T : TypeId) : Option Nat :=
  match P.underlying T, P.info? T with
  | some (.struct _), some i => some i.size
  | some (.array _ _), some i => some i.size
  | _, _ => none
def fieldOff (P : Program) (S : TypeId) (f : Nat) : Option Nat :=
  match P.underlying S with
  | some (.struct fs) => match fs[f]? with
    | some fd => match P.info? fd.type with
      | some i => if i.size = 0 then none else some fd.offset
      | none => none
    | none => none
  | _ => none
def sliceSz (P : Program) (T : TypeId) : Option Nat :=
  match P.underlying T with
  | some (.slice e) => (P.info? e).map (·.size)
  | _ => none
def arrSz (P : Program) (T : TypeId) : Option (Nat × Nat) :=
  match P.underlying T with
  | some (.array n e) => (P.info? e).map fun i => (n, i.size)
  | _ => none
def strT (P : Program) (T : TypeId) : Bool :=
  match P.underlying T with
  | some .string => true
  | _ => false

section
variable {P : Program} {h : Heap}
theorem apart_scal {T : TypeId} (hs : scal P T = true) (cs : List Value) (off : Nat) : apart P T cs off = cs[off]? := by
  unfold scal at hs
  unfold apart
  split <;> simp_all
theorem apart_agg {T : TypeId} {n : Nat} (hs : aggSz P T = some n) (cs : List Value) (off : Nat) (hle : off + n ≤ cs.length) : apart P T cs off = some (.agg ⟨(cs.drop off).take n⟩) := by
  unfold aggSz at hs
  unfold apart
  split at hs <;> simp_all
theorem fieldAddr_of {S : TypeId} {f n : Nat} (hs : fieldOff P S f = some n) (b o : Nat) : afieldAddr P S (.pointer (some ⟨b, o, none⟩)) f = some (.pointer (some ⟨b, o + n, none⟩)) := by
  unfold fieldOff at hs
  unfold afieldAddr
  split at hs
  · rename_i fs hu
    split at hs
    · rename_i fd hf
      split at hs
      · rename_i i hi
        split at hs <;> simp at hs
        subst hs
        simp [hu, hf, hi, *]
      · cases hs
    · cases hs
  · cases hs
theorem indexAddr_of {T : TypeId} {sz : Nat} (hs : sliceSz P T = some sz) {b o n c : Nat} {k : IntKind} {i : Int} (h0 : 0 ≤ i) (h1 : i < n) :
    aindexAddr P T (.slice (some ⟨b, o, none⟩) n c) (.int k i) = some (.pointer (some ⟨b, o + i.toNat * sz, none⟩)) := by
  unfold sliceSz at hs
  unfold aindexAddr
  split at hs
  · rename_i e hu
    simp only [Option.map_eq_some_iff] at hs
    obtain ⟨inf, hi, rfl⟩ := hs
    simp [hu, hi, h0, h1]
  · cases hs
theorem arrAddr_of {T : TypeId} {n sz : Nat} (hs : arrSz P T = some (n, sz)) {b o : Nat} {k : IntKind} {i : Int} (h0 : 0 ≤ i) (h1 : i < n) :
    aindexAddr P T (.pointer (some ⟨b, o, none⟩)) (.int k i) = some (.pointer (some ⟨b, o + i.toNat * sz, none⟩)) := by
  unfold arrSz at hs
  unfold aindexAddr
  split at hs
  · rename_i n e hu
    simp only [Option.map_eq_some_iff, Prod.mk.injEq] at hs
    obtain ⟨inf, hi, rfl, rfl⟩ := hs
    simp [hu, hi, h0, h1]
  · cases hs
end

/-! ### whole numbers -/
def kb (a b : IntKind) : Bool := match a, b with
  | .i64, .i64 => true
  | a, b => decide (a = b)
theorem kb_ok {a b : IntKind} (h : kb a b = true) : a = b := by
  unfold kb at h
  split at h
  · rfl
  · simpa using h
def mkI (k : IntKind) (x : Int) : Option Value := match x with
  | .ofNat n => seqN n fun n => some (.int k (.ofNat n))
  | .negSucc n => seqN n fun n => some (.int k (.negSucc n))
theorem mkI_eq (k : IntKind) (x : Int) : mkI k x = some (.int k x) := by cases x <;> simp [mkI, seqN_eq]
def wr (k : IntKind) (x : Int) : Int := match k with
  | .i64 => match x with
    | .ofNat n => match Nat.ble n 9223372036854775807 with
      | true => .ofNat n
      | false => IntKind.i64.wrap (.ofNat n)
    | .negSucc n => match Nat.ble n 9223372036854775807 with
      | true => .negSucc n
      | false => IntKind.i64.wrap (.negSucc n)
  | k => k.wrap x
theorem wrap_in {x : Int} (h0 : -9223372036854775808 ≤ x) (h1 : x < 9223372036854775808) : IntKind.i64.wrap x = x := by
  simp only [IntKind.wrap, IntKind.signed, IntKind.bits]
  simp
  omega
theorem wr_eq (k : IntKind) (x : Int) : wr k x = k.wrap x := by
  unfold wr
  split
  · split
    · split
      · rename_i n hn
        have := Nat.le_of_ble_eq_true hn
        exact (wrap_in (by simp only [Int.ofNat_eq_natCast]; omega) (by simp only [Int.ofNat_eq_natCast]; omega)).symm
      · rfl
    · split
      · rename_i n hn
        have := Nat.le_of_ble_eq_true hn
        exact (wrap_in (by rw [Int.negSucc_eq]; omega) (by rw [Int.negSucc_eq]; omega)).symm
      · rfl
  · rfl
def ilt (x y : Int) : Bool := match x with
  | .ofNat m => match y with
    | .ofNat n => Nat.blt m n
    | .negSucc _ => false
  | .negSucc m => match y with
    | .ofNat _ => true
    | .negSucc n => Nat.blt n m
def ieq (x y : Int) : Bool := match x with
  | .ofNat m => match y with
    | .ofNat n => Nat.beq m n
    | .negSucc _ => false
  | .negSucc m => match y with
    | .ofNat _ => false
    | .negSucc n => Nat.beq m n
theorem blt_eq (m n : Nat) : Nat.blt m n = decide (m < n) := by
  rw [Bool.eq_iff_iff, decide_eq_true_iff]; exact ⟨fun h => Nat.le_of_ble_eq_true h, fun h => Nat.ble_eq_true_of_le h⟩
theorem beq_eq (m n : Nat) : Nat.beq m n = decide (m = n) := by
  rw [Bool.eq_iff_iff, decide_eq_true_iff]; exact ⟨Nat.eq_of_beq_eq_true, fun h => by subst h; exact Nat.beq_refl m⟩
theorem ilt_eq (x y : Int) : ilt x y = decide (x < y) := by
  cases x <;> cases y <;> simp only [ilt, blt_eq] <;> rw [Bool.eq_iff_iff] <;> (try simp [Int.negSucc_eq]) <;> (try omega)
theorem ieq_eq (x y : Int) : ieq x y = decide (x = y) := by
  cases x <;> cases y <;> simp only [ieq, beq_eq] <;> rw [Bool.eq_iff_iff] <;> (try simp [Int.negSucc_eq]) <;> (try omega)
def ile (x y : Int) : Bool := match ilt y x with
  | true => false
  | false => true
def ine (x y : Int) : Bool := match ieq y x with
  | true => false
  | false => true
theorem ile_eq (x y : Int) : ile x y = decide (x ≤ y) := by
  unfold ile; rw [ilt_eq]; by_cases h : y < x <;> simp [h] <;> omega
theorem ine_eq (x y : Int) : ine x y = !decide (x = y) := by
  unfold ine; rw [ieq_eq]; by_cases h : y = x
  · simp [h]
  · have : ¬ x = y := fun e => h e.symm
    simp [h, this]
def boolV (b : Bool) : Option Value := match b with
  | true => some (.bool true)
  | false => some (.bool false)
theorem boolV_eq (b : Bool) : boolV b = some (.bool b) := by cases b <;> rfl

def vInt (v : Value) : Option (IntKind × Int) := match v with
  | .int k x => some (k, x)
  | _ => none
theorem vInt_ok {v : Value} {k : IntKind} {x : Int} (h : vInt v = some (k, x)) : v = .int k x := by
  unfold vInt at h
  split at h <;> cases h
  rfl
noncomputable def two {α : Type} (a b : Value) (K : IntKind → Int → Int → Option α) : Option α :=
  Option.rec (motive := fun _ => Option α) none (fun p => Prod.rec (motive := fun _ => Option α) (fun k x =>
    Option.rec (motive := fun _ => Option α) none (fun q => Prod.rec (motive := fun _ => Option α) (fun k' y => Bool.rec (motive := fun _ => Option α) none (K k x y) (kb k k')) q) (vInt b)) p) (vInt a)
theorem two_ok {α : Type} {a b : Value} {K : IntKind → Int → Int → Option α} {r : α} (h : two a b K = some r) : ∃ k x y, a = .int k x ∧ b = .int k y ∧ K k x y = some r := by
  unfold two at h
  cases h1 : vInt a with
  | none => rw [h1] at h; cases h
  | some p =>
    cases h2 : vInt b with
    | none => rw [h1, h2] at h; cases h
    | some q =>
      obtain ⟨k, x⟩ := p
      obtain ⟨k', y⟩ := q
      rw [h1, h2] at h
      replace h : Bool.rec (motive := fun _ => Option α) none (K k x y) (kb k k') = some r := h
      cases h3 : kb k k' with
      | false => rw [h3] at h; cases h
      | true =>
        rw [h3] at h
        have := kb_ok h3
        subst this
        exact ⟨_, _, _, vInt_ok h1, vInt_ok h2, h⟩
theorem two_i {α : Type} {k : IntKind} {x y : Int} {K : IntKind → Int → Int → Option α} : two (.int k x) (.int k y) K = K k x y := by
  have : kb k k = true := by cases k <;> rfl
  show Bool.rec (motive := fun _ => Option α) none (K k x y) (kb k k) = _
  rw [this]
noncomputable def xAri (f : Int → Int → Int) (a b : Value) : Option Value := two a b fun k x y => mkI k (wr k (f x y))
noncomputable def xCmp (f : Int → Int → Bool) (a b : Value) : Option Value := two a b fun _ x y => some (.bool (f x y))
def xMinMax (f : Int → Int → Bool) (a b : Value) : Option Value := match a with
  | .int k x => match b with
    | .int k' y => match kb k k' with
      | true => match f x y with
        | true => some (.int k x)
        | false => some (.int k y)
      | false => none
    | _ => none
  | _ => none
noncomputable def xNot (a : Value) : Option Value := Option.rec (motive := fun _ => Option Value) none (fun b => Bool.rec (motive := fun _ => Option Value) (some (.bool true)) (some (.bool false)) b) (isTF a)
noncomputable def xPick (c a b : Value) : Option Value := Option.rec (motive := fun _ => Option Value) none (fun c => Bool.rec (motive := fun _ => Option Value) (some b) (some a) c) (isTF c)
theorem isTF_ok {v : Value} {b : Bool} (h : isTF v = some b) : v = .bool b := by
  unfold isTF at h
  split at h <;> cases h
  rfl
theorem xNot_ok {a v : Value} (h : xNot a = some v) : ∃ b, a = .bool b ∧ v = .bool !b := by
  unfold xNot at h
  cases h1 : isTF a with
  | none => rw [h1] at h; cases h
  | some b => rw [h1] at h; exact ⟨b, isTF_ok h1, by cases b <;> (cases h; rfl)⟩
theorem xPick_ok {c a b v : Value} (h : xPick c a b = some v) : (c = .bool true ∧ v = a) ∨ (c = .bool false ∧ v = b) := by
  unfold xPick at h
  cases h1 : isTF c with
  | none => rw [h1] at h; cases h
  | some d =>
    rw [h1] at h
    cases d with
    | true => cases h; exact .inl ⟨isTF_ok h1, rfl⟩
    | false => cases h; exact .inr ⟨isTF_ok h1, rfl⟩
theorem xAri_ok {f : Int → Int → Int} {a b v : Value} (h : xAri f a b = some v) : ∃ k x y, a = .int k x ∧ b = .int k y ∧ v = .int k (k.wrap (f x y)) := by
  obtain ⟨k, x, y, rfl, rfl, h2⟩ := two_ok h
  rw [mkI_eq, wr_eq] at h2
  cases h2
  exact ⟨_, _, _, rfl, rfl, rfl⟩
theorem xCmp_ok {f : Int → Int → Bool} {a b v : Value} (h : xCmp f a b = some v) : ∃ k x y, a = .int k x ∧ b = .int k y ∧ v = .bool (f x y) := by
  obtain ⟨k, x, y, rfl, rfl, h2⟩ := two_ok h
  cases h2
  exact ⟨_, _, _, rfl, rfl, rfl⟩
theorem xMinMax_ok {f : Int → Int → Bool} {a b v : Value} (h : xMinMax f a b = some v) : ∃ k x y, a = .int k x ∧ b = .int k y ∧ v = .int k (if f x y then x else y) := by
  unfold xMinMax at h
  split at h <;> try (cases h; done)
  split at h <;> try (cases h; done)
  split at h <;> try (cases h; done)
  rename_i hk
  cases kb_ok hk
  split at h <;> (cases h; exact ⟨_, _, _, rfl, rfl, by simp [*]⟩)

theorem prun_of {P : Program} {s : Sem Value} {v : Value} (h : pureRun P s = some v) (hp : plainV v = true) : prun P s = some v := by simp [prun, h, hp]
theorem abin_of {P : Program} {op : BinOp} {T : TypeId} {x y : Operand} {a b v : Value} (ha : plainV a = true) (hb : plainV b = true) (hv : pureRun P (do eqGuard op T x y a b; binOp op T a b) = some v) (hp : plainV v = true) : abin P op T x y a b = some v := by
  simp [abin, ha, hb, prun_of hv hp]

/-- Two whole numbers. -/
noncomputable def ibin (op : BinOp) : Option (Value → Value → Option Value) := match op with
  | .add => some (xAri Int.add)
  | .sub => some (xAri Int.sub)
  | .mul => some (xAri Int.mul)
  | .lss => some (xCmp ilt)
  | .leq => some (xCmp ile)
  | .gtr => some (xCmp fun x y => ilt y x)
  | .geq => some (xCmp fun x y => ile y x)
  | .eql => some (xCmp ieq)
  | .neq => some (xCmp ine)
  | _ => none

theorem ibin_ok {P : Program} {op : BinOp} {T : TypeId} {x y : Operand} {a b v : Value} {f : Value → Value → Option Value} (hf : ibin op = some f) (h : f a b = some v) : abin P op T x y a b = some v := by
  cases op <;> simp only [ibin, Option.some.injEq] at hf <;> first | (cases hf; done) | subst hf
  all_goals first
    | (obtain ⟨k, m, n, rfl, rfl, rfl⟩ := xAri_ok h; exact abin_of rfl rfl (by cases k <;> rfl) rfl)
    | (obtain ⟨k, m, n, rfl, rfl, rfl⟩ := xCmp_ok h; simp only [ilt_eq, ile_eq, ieq_eq, ine_eq]; exact abin_of rfl rfl (by cases k <;> rfl) rfl)

end Go.Am

set_option linter.unusedSimpArgs false
set_option linter.unusedVariables false
namespace Go.Am
open Go Go.RowKit

/-! ### addresses -/
def addrK (b o : Nat) : Option Value := seqN o fun o => some (.pointer (some ⟨b, o, none⟩))
theorem addrK_eq (b o : Nat) : addrK b o = some (.pointer (some ⟨b, o, none⟩)) := by simp [addrK, seqN_eq]
/-- Where a pointer points. -/
def vPtr (v : Value) : Option (Nat × Nat) := match v with
  | .pointer (some ⟨b, o, none⟩) => some (b, o)
  | _ => none
theorem vPtr_ok {v : Value} {b o : Nat} (h : vPtr v = some (b, o)) : v = .pointer (some ⟨b, o, none⟩) := by
  unfold vPtr at h
  split at h <;> cases h
  rfl
/-- Where a slice lies, and its length. -/
def vSl (v : Value) : Option (Nat × Nat × Nat) := match v with
  | .slice (some ⟨b, o, none⟩) n _ => some (b, o, n)
  | _ => none
theorem vSl_ok {v : Value} {b o n : Nat} (h : vSl v = some (b, o, n)) : ∃ c, v = .slice (some ⟨b, o, none⟩) n c := by
  unfold vSl at h
  split at h <;> cases h
  exact ⟨_, rfl⟩
/-- A whole number that is none below 0. -/
def vNat (v : Value) : Option Nat := match v with
  | .int _ (.ofNat j) => some j
  | _ => none
theorem vNat_ok {v : Value} {j : Nat} (h : vNat v = some j) : ∃ k, v = .int k (.ofNat j) := by
  unfold vNat at h
  split at h <;> cases h
  exact ⟨_, rfl⟩
noncomputable def ob {α β : Type} (o : Option α) (K : α → Option β) : Option β := Option.rec (motive := fun _ => Option β) none K o
theorem ob_ok {α β : Type} {o : Option α} {K : α → Option β} {r : β} (h : ob o K = some r) : ∃ a, o = some a ∧ K a = some r := by
  cases o with
  | none => cases h
  | some a => exact ⟨a, rfl, h⟩
noncomputable def ob2 {α β γ : Type} (o : Option (α × β)) (K : α → β → Option γ) : Option γ := Option.rec (motive := fun _ => Option γ) none (fun p => Prod.rec (motive := fun _ => Option γ) K p) o
theorem ob2_ok {α β γ : Type} {o : Option (α × β)} {K : α → β → Option γ} {r : γ} (h : ob2 o K = some r) : ∃ a b, o = some (a, b) ∧ K a b = some r := by
  cases o with
  | none => cases h
  | some a => exact ⟨a.1, a.2, rfl, h⟩
noncomputable def ob3 {α β γ δ : Type} (o : Option (α × β × γ)) (K : α → β → γ → Option δ) : Option δ := Option.rec (motive := fun _ => Option δ) none (fun p => Prod.rec (motive := fun _ => Option δ) (fun a q => Prod.rec (motive := fun _ => Option δ) (K a) q) p) o
theorem ob3_ok {α β γ δ : Type} {o : Option (α × β × γ)} {K : α → β → γ → Option δ} {r : δ} (h : ob3 o K = some r) : ∃ a b c, o = some (a, b, c) ∧ K a b c = some r := by
  cases o with
  | none => cases h
  | some a => exact ⟨a.1, a.2.1, a.2.2, rfl, h⟩
noncomputable def grd {α : Type} (b : Bool) (o : Option α) : Option α := Bool.rec (motive := fun _ => Option α) none o b
theorem grd_ok {α : Type} {b : Bool} {o : Option α} {r : α} (h : grd b o = some r) : b = true ∧ o = some r := by
  cases b with
  | false => cases h
  | true => exact ⟨rfl, h⟩
noncomputable def xFld (n : Nat) (x : Value) : Option Value := ob2 (vPtr x) fun b o => addrK b (Nat.add o n)
noncomputable def xIdxS (sz : Nat) (x i : Value) : Option Value := ob3 (vSl x) fun b o n => ob (vNat i) fun j => grd (Nat.blt j n) (addrK b (Nat.add o (Nat.mul j sz)))
noncomputable def xIdxA (n sz : Nat) (x i : Value) : Option Value := ob2 (vPtr x) fun b o => ob (vNat i) fun j => grd (Nat.blt j n) (addrK b (Nat.add o (Nat.mul j sz)))

theorem xFld_ok {P : Program} {S : TypeId} {f n : Nat} (hs : fieldOff P S f = some n) {x v : Value} (h : xFld n x = some v) : afieldAddr P S x f = some v := by
  obtain ⟨b, o, h1, h2⟩ := ob2_ok h
  clear h
  cases vPtr_ok h1
  rw [addrK_eq] at h2; cases h2
  exact fieldAddr_of hs _ _
theorem xIdxS_ok {P : Program} {T : TypeId} {sz : Nat} (hs : sliceSz P T = some sz) {x i v : Value} (h : xIdxS sz x i = some v) : aindexAddr P T x i = some v := by
  obtain ⟨b, o, n, h1, h2⟩ := ob3_ok h
  obtain ⟨j, h3, h4⟩ := ob_ok h2
  obtain ⟨hlt, h5⟩ := grd_ok h4
  clear h h2 h4
  obtain ⟨c, rfl⟩ := vSl_ok h1
  obtain ⟨k, rfl⟩ := vNat_ok h3
  rw [addrK_eq] at h5; cases h5
  rw [blt_eq] at hlt
  exact indexAddr_of hs (by simp) (by simpa using hlt)
theorem xIdxA_ok {P : Program} {T : TypeId} {n sz : Nat} (hs : arrSz P T = some (n, sz)) {x i v : Value} (h : xIdxA n sz x i = some v) : aindexAddr P T x i = some v := by
  obtain ⟨b, o, h1, h2⟩ := ob2_ok h
  obtain ⟨j, h3, h4⟩ := ob_ok h2
  obtain ⟨hlt, h5⟩ := grd_ok h4
  clear h h2 h4
  cases vPtr_ok h1
  obtain ⟨k, rfl⟩ := vNat_ok h3
  rw [addrK_eq] at h5; cases h5
  rw [blt_eq] at hlt
  exact arrAddr_of hs (by simp) (by simpa using hlt)

/-! ### reading -/
/-- The cells of a row. -/
def rowC (o : AObj) : Option (List Value) := match o with
  | .row _ _ cs => some cs
  | _ => none
noncomputable def PH.cells (h : PH) (b : Nat) : Option (List Value) := ob (h.raw b) rowC
theorem PH.cells_ok {h : PH} {b : Nat} {cs : List Value} (hc : h.cells b = some cs) : ∃ m esz, h.abs[b]? = some (.row m esz cs) := by
  obtain ⟨o, h1, h2⟩ := ob_ok hc
  unfold rowC at h2
  split at h2 <;> cases h2
  obtain ⟨m', hg⟩ := PH.raw_row h1
  exact ⟨m', _, hg⟩
noncomputable def xLd (x : Value) (h : PH) : Option Value := ob2 (vPtr x) fun b o => ob (h.cells b) fun cs => nth cs o
noncomputable def tkN (n : Nat) : List Value → (List Value → Option Value) → Option Value :=
  Nat.rec (motive := fun _ => List Value → (List Value → Option Value) → Option Value) (fun _ K => K [])
    (fun _ ih l K => List.rec (motive := fun _ => Option Value) none (fun x xs _ => ih xs fun ys => K (x :: ys)) l) n
theorem tkN_ok {K : List Value → Option Value} {v : Value} {n : Nat} {l : List Value} (h : tkN n l K = some v) : n ≤ l.length ∧ K (l.take n) = some v := by
  induction n generalizing l K with
  | zero => exact ⟨Nat.zero_le _, by rw [List.take_zero]; exact h⟩
  | succ n ih =>
    cases l with
    | nil => cases h
    | cons x xs =>
      have h : tkN n xs (fun ys => K (x :: ys)) = some v := h
      obtain ⟨h1, h2⟩ := ih h
      exact ⟨by simpa using h1, by simpa using h2⟩
noncomputable def xLdA (n : Nat) (x : Value) (h : PH) : Option Value := ob2 (vPtr x) fun b o => ob (h.cells b) fun cs => tkN n (cs.drop o) fun ys => some (.agg ⟨ys⟩)

theorem xLd_ok {P : Program} {T : TypeId} (hs : scal P T = true) {x v : Value} {h : PH} (hl : xLd x h = some v) : aload P T x h.abs = some v := by
  obtain ⟨b, o, h1, h2⟩ := ob2_ok hl
  obtain ⟨cs, h3, h4⟩ := ob_ok h2
  clear hl h2
  cases vPtr_ok h1
  obtain ⟨m, esz, hg⟩ := PH.cells_ok h3
  rw [nth_eq] at h4
  simp only [aload, hg, apart_scal hs, h4]
theorem xLdA_ok {P : Program} {T : TypeId} {n : Nat} (hs : aggSz P T = some n) {x v : Value} {h : PH} (hn : 0 < n) (hl : xLdA n x h = some v) : aload P T x h.abs = some v := by
  obtain ⟨b, o, h1, h2⟩ := ob2_ok hl
  obtain ⟨cs, h3, h4⟩ := ob_ok h2
  clear hl h2
  cases vPtr_ok h1
  obtain ⟨m, esz, hg⟩ := PH.cells_ok h3
  obtain ⟨h5, h6⟩ := tkN_ok h4
  simp only [aload, hg]
  rw [apart_agg hs cs _ (by simp at h5; omega)]
  exact h6

/-! ### writing -/
def mro (m : Mode) : Bool := match m with
  | .ro => true
  | _ => false
theorem mro_ok {m : Mode} (h : mro m = false) : m ≠ .ro := by rintro rfl; simp [mro] at h
noncomputable def stK {α : Type} (cs : List Value) : Nat → Value → (List Value → Option α) → Option α :=
  List.rec (motive := fun _ => Nat → Value → (List Value → Option α) → Option α) (fun _ _ _ => none)
    (fun x xs ih i v K => Nat.rec (motive := fun _ => Option α) (K (v :: xs)) (fun j _ => ih j v fun ys => K (x :: ys)) i) cs
theorem stK_ok {α : Type} {K : List Value → Option α} {r : α} {cs : List Value} {i : Nat} {v : Value} (h : stK cs i v K = some r) : i < cs.length ∧ K (cs.set i v) = some r := by
  induction cs generalizing i K with
  | nil => cases h
  | cons x xs ih =>
    cases i with
    | zero => exact ⟨by simp, h⟩
    | succ i =>
      have h : stK xs i v (fun ys => K (x :: ys)) = some r := h
      obtain ⟨h1, h2⟩ := ih h
      exact ⟨by simpa using h1, h2⟩
noncomputable def stsK {α : Type} : List Value → Nat → List Value → (List Value → Option α) → Option α
  | cs, _, [], K => K cs
  | cs, i, v :: vs, K => stK cs i v fun cs => stsK cs (.succ i) vs K
theorem stsK_ok {α : Type} {K : List Value → Option α} {r : α} {vs cs : List Value} {i : Nat} (h : stsK cs i vs K = some r) : (vs ≠ [] → i + vs.length ≤ cs.length) ∧ K (setsL cs i vs) = some r := by
  induction vs generalizing cs i with
  | nil => exact ⟨fun h => absurd rfl h, h⟩
  | cons v vs ih =>
    simp only [stsK] at h
    obtain ⟨h1, h2⟩ := stK_ok h
    obtain ⟨h3, h4⟩ := ih h2
    refine ⟨fun _ => ?_, h4⟩
    by_cases hv : vs = []
    · subst hv; simp; omega
    · have := h3 hv; simp at this ⊢; omega
noncomputable def xSt1 (x v : Value) (h : PH) : R := match x with
  | .pointer (some ⟨b, o, none⟩) => match v.oneCell' with
    | true => match h.get b with
      | some (.row m esz cs) => match mro m with
        | false => stK cs o v fun cs => match h.set b (.row m esz cs) with
          | some h' => some (undef, h')
          | none => none
        | true => none
      | _ => none
    | false => none
  | _ => none
noncomputable def xStA (sz : Nat) (x v : Value) (h : PH) : R := match x with
  | .pointer (some ⟨b, o, none⟩) => match v with
    | .agg ⟨vs⟩ => match Nat.beq vs.length sz with
      | true => match oneCells vs with
        | true => match h.get b with
          | some (.row m esz cs) => match mro m with
            | false => stsK cs o vs fun cs => match h.set b (.row m esz cs) with
              | some h' => some (undef, h')
              | none => none
            | true => none
          | _ => none
        | false => none
      | false => none
    | _ => none
  | _ => none
def infoSz (P : Program) (T : TypeId) : Option Nat := (P.info? T).map (·.size)

theorem oneCells_one {v : Value} (h : v.oneCell' = true) : cellsL v = [v] := by cases v <;> simp_all [Value.oneCell', cellsL]

theorem xSt1_ok {P : Program} {T : TypeId} (hs : infoSz P T = some 1) {x v u : Value} {h h' : PH} (hx : xSt1 x v h = some (u, h')) : u = undef ∧ astore P T x v h.abs = some h'.abs := by
  unfold xSt1 at hx
  split at hx <;> try (cases hx; done)
  split at hx <;> try (cases hx; done)
  split at hx <;> try (cases hx; done)
  split at hx <;> try (cases hx; done)
  rename_i b o _ h1 _ m esz cs hg _ hm
  obtain ⟨h2, h3⟩ := stK_ok hx
  split at h3 <;> try (cases h3; done)
  rename_i h'' hset
  cases h3
  refine ⟨rfl, ?_⟩
  unfold infoSz at hs
  cases hi : P.info? T with
  | none => simp [hi] at hs
  | some i =>
    simp only [hi, Option.map_some, Option.some.injEq] at hs
    simp only [astore, hi, oneCells_one h1, PH.get_abs hg, hs, PH.set_abs hset]
    simp [oneCells, h1, mro_ok hm, setsL]
    omega

theorem xStA_ok {P : Program} {T : TypeId} {sz : Nat} (hs : infoSz P T = some sz) (hz : 0 < sz) {x v u : Value} {h h' : PH} (hx : xStA sz x v h = some (u, h')) : u = undef ∧ astore P T x v h.abs = some h'.abs := by
  unfold xStA at hx
  split at hx <;> try (cases hx; done)
  split at hx <;> try (cases hx; done)
  split at hx <;> try (cases hx; done)
  split at hx <;> try (cases hx; done)
  split at hx <;> try (cases hx; done)
  split at hx <;> try (cases hx; done)
  rename_i b o _ vs _ hl _ h1 _ m esz cs hg _ hm
  obtain ⟨h2, h3⟩ := stsK_ok hx
  split at h3 <;> try (cases h3; done)
  rename_i h'' hset
  cases h3
  refine ⟨rfl, ?_⟩
  have hl := Nat.eq_of_beq_eq_true hl
  unfold infoSz at hs
  cases hi : P.info? T with
  | none => simp [hi] at hs
  | some i =>
    simp only [hi, Option.map_some, Option.some.injEq] at hs
    have hne : vs ≠ [] := by rintro rfl; simp at hl; omega
    simp only [astore, hi, cellsL, PH.get_abs hg, hs, PH.set_abs hset, hl, h1]
    have := h2 hne
    simp [mro_ok hm]
    omega

/-! ### new objects -/
def pnew (b : Nat) : Value := .pointer (some ⟨b, 0, none⟩)
noncomputable def xNewP (cs : List Value) (h : PH) : R := match h.push (.row .own 1 cs) with
  | some h' => some (.pointer (some ⟨h.n, 0, none⟩), h')
  | none => none
noncomputable def xBox (v : Value) (h : PH) : R := xNewP (cellsL v) h
def zcells (P : Program) (T : TypeId) : Option (List Value) := match P.info? T with
  | some i => match i.zero with
    | some z => if plainV z then some (cellsL z) else none
    | none => none
  | none => none
noncomputable def xAlloc (zs : Option (List Value)) (h : PH) : R := match zs with
  | some cs => xNewP cs h
  | none => none
theorem xNewP_ok {cs : List Value} {h h' : PH} {v : Value} (hx : xNewP cs h = some (v, h')) : v = .pointer (some ⟨h.abs.length, 0, none⟩) ∧ h'.abs = h.abs ++ [.row .own 1 cs] := by
  unfold xNewP at hx
  split at hx <;> try (cases hx; done)
  rename_i hp
  cases hx
  exact ⟨by rw [PH.length], PH.push_abs hp⟩
theorem xBox_ok {v u : Value} {h h' : PH} (hx : xBox v h = some (u, h')) : abox v h.abs = some (u, h'.abs) := by
  obtain ⟨h1, h2⟩ := xNewP_ok hx
  simp [abox, h1, h2]
theorem xAlloc_ok {P : Program} {T : TypeId} {u : Value} {h h' : PH} (hx : xAlloc (zcells P T) h = some (u, h')) : aalloc P T h.abs = some (u, h'.abs) := by
  unfold xAlloc at hx
  split at hx <;> try (cases hx; done)
  rename_i cs hz
  unfold zcells at hz
  split at hz <;> try (cases hz; done)
  split at hz <;> try (cases hz; done)
  split at hz <;> try (cases hz; done)
  rename_i i hi _ z hzz hp
  cases hz
  obtain ⟨h1, h2⟩ := xNewP_ok hx
  simp [aalloc, hi, hzz, hp, abox, h1, h2]

/-- A slice type's element: cells, bytes, the cells of a zero. -/
def zinfo (P : Program) (T : TypeId) : Option (Nat × Nat × List Value) := match P.underlying T with
  | some (.slice e) => match P.info? e with
    | some i => match i.zero with
      | some z => if plainV z && decide ((cellsL z).length = i.size) then some (i.size, i.bytes, cellsL z) else none
      | none => none
    | none => none
  | _ => none
def zrows (z : List Value) : Nat → List Value
  | 0 => []
  | .succ n => z ++ zrows z n
theorem zrows_length (z : List Value) (n : Nat) : (zrows z n).length = n * z.length := by
  induction n with
  | zero => simp [zrows]
  | succ n ih => simp [zrows, ih, Nat.succ_mul]; omega
theorem zrows_get (z : List Value) (n i : Nat) (hi : i < n * z.length) : (zrows z n)[i]? = z[i % z.length]? := by
  induction n generalizing i with
  | zero => simp at hi
  | succ n ih =>
    simp only [zrows]
    by_cases h : i < z.length
    · rw [List.getElem?_append_left h, Nat.mod_eq_of_lt h]
    · rw [List.getElem?_append_right (by omega), ih _ (by rw [Nat.succ_mul] at hi; omega)]
      rw [Nat.mod_eq_sub_mod (a := i) (b := z.length) (by omega)]
theorem zrows_eq (z : List Value) (n : Nat) : zrow z (n * z.length) = zrows z n := by
  apply List.ext_getElem?
  intro i
  by_cases hi : i < n * z.length
  · rw [zrows_get z n i hi]
    have hz : 0 < z.length := by
      rcases Nat.eq_zero_or_pos z.length with h | h
      · rw [h] at hi; simp at hi
      · exact h
    simp [zrow, List.getElem?_range hi, List.getD_eq_getElem?_getD, List.getElem?_eq_getElem (Nat.mod_lt i hz)]
  · rw [List.getElem?_eq_none (by simp [zrow]; omega), List.getElem?_eq_none (by rw [zrows_length]; omega)]
noncomputable def xMk (zi : Option (Nat × Nat × List Value)) (l c : Value) (h : PH) : R := match zi with
  | some (sz, bt, z) => match l with
    | .int _ (.ofNat l) => match c with
      | .int _ (.ofNat c) => match Nat.ble l c with
        | true => match Nat.ble c 4611686018427387903 with
          | true => match Nat.ble (Nat.mul bt c) 281474976710656 with
            | true => match h.push (.row .own sz (zrows z c)) with
              | some h' => some (.slice (some ⟨h.n, 0, none⟩) l c, h')
              | none => none
            | false => none
          | false => none
        | false => none
      | _ => none
    | _ => none
  | none => none
theorem xMk_ok {P : Program} {T : TypeId} {l c u : Value} {h h' : PH} (hx : xMk (zinfo P T) l c h = some (u, h')) : amakeSlice P T l c h.abs = some (u, h'.abs) := by
  unfold xMk at hx
  split at hx <;> try (cases hx; done)
  rename_i sz bt z hz
  split at hx <;> try (cases hx; done)
  split at hx <;> try (cases hx; done)
  split at hx <;> try (cases hx; done)
  split at hx <;> try (cases hx; done)
  split at hx <;> try (cases hx; done)
  split at hx <;> try (cases hx; done)
  rename_i k l k' c _ h1 _ h2 _ h3 _ h'' hp
  cases hx
  unfold zinfo at hz
  split at hz <;> try (cases hz; done)
  split at hz <;> try (cases hz; done)
  split at hz <;> try (cases hz; done)
  split at hz <;> try (cases hz; done)
  rename_i e hu _ i hi _ zz hzz hc
  cases hz
  simp only [Bool.and_eq_true, decide_eq_true_eq] at hc
  have h1 := Nat.le_of_ble_eq_true h1
  have h2 := Nat.le_of_ble_eq_true h2
  have h3 : i.bytes * c ≤ 281474976710656 := Nat.le_of_ble_eq_true h3
  have h3' : (i.bytes : Int) * (c : Int) ≤ 281474976710656 := by
    rw [← Int.natCast_mul]; omega
  unfold amakeSlice
  simp only [hu, hi, hzz, hc.1, hc.2, Int.ofNat_eq_natCast, Int.toNat_natCast, PH.push_abs hp, PH.length]
  rw [← zrows_eq, hc.2]
  simp [h1, h3']
  omega
end Go.Am

set_option linter.unusedSimpArgs false
set_option linter.unusedVariables false
namespace Go.Am
open Go Go.RowKit

/-! ### rows made of parts, rows that grow -/
noncomputable def tkA {α : Type} (n : Nat) : List Value → List Value → (List Value → Option α) → Option α :=
  Nat.rec (motive := fun _ => List Value → List Value → (List Value → Option α) → Option α) (fun _ tl K => K tl)
    (fun _ ih l tl K => List.rec (motive := fun _ => Option α) none (fun x xs _ => ih xs tl fun ys => K (x :: ys)) l) n
theorem tkA_ok {α : Type} {K : List Value → Option α} {r : α} {n : Nat} {l tl : List Value} (h : tkA n l tl K = some r) : n ≤ l.length ∧ K (l.take n ++ tl) = some r := by
  induction n generalizing l K with
  | zero => exact ⟨Nat.zero_le _, by rw [List.take_zero]; exact h⟩
  | succ n ih =>
    cases l with
    | nil => cases h
    | cons x xs =>
      have h : tkA n xs tl (fun ys => K (x :: ys)) = some r := h
      obtain ⟨h1, h2⟩ := ih h
      exact ⟨by simpa using h1, by simpa using h2⟩

def bsRow (P : Program) (T : TypeId) (len : Nat) (parts : List (Nat × Value)) : Option (Nat × List Value) :=
  match P.underlying T with
  | some (.slice e) => match P.info? e with
    | some i => match i.zero with
      | some z =>
        if plainV z && (decide (len = 0) || decide (0 < len * i.size)) && decide (len * i.size ≤ 2 ^ 24) && decide ((cellsL z).length = i.size) then
          match afill (fun j => some (j * i.size, i.size)) (zrow (cellsL z) (len * i.size)) parts with
          | some cs => some (i.size, cs)
          | none => none
        else none
      | none => none
    | none => none
  | _ => none
noncomputable def xBS (len : Nat) (row : Option (Nat × List Value)) (h : PH) : R := match row with
  | some (sz, cs) => match h.push (.row .own sz cs) with
    | some h' => some (.slice (some ⟨h.n, 0, none⟩) len len, h')
    | none => none
  | none => none
theorem xBS_ok {P : Program} {T : TypeId} {len : Nat} {parts : List (Nat × Value)} {u : Value} {h h' : PH} (hx : xBS len (bsRow P T len parts) h = some (u, h')) : abuildSlice P T len parts h.abs = some (u, h'.abs) := by
  unfold xBS at hx
  split at hx <;> try (cases hx; done)
  rename_i sz cs hr
  split at hx <;> try (cases hx; done)
  rename_i h'' hp
  cases hx
  unfold bsRow at hr
  unfold abuildSlice
  split at hr <;> try (cases hr; done)
  split at hr <;> try (cases hr; done)
  split at hr <;> try (cases hr; done)
  split at hr <;> try (cases hr; done)
  split at hr <;> try (cases hr; done)
  rename_i e hu _ i hi _ z hz hc _ cs' hf
  cases hr
  simp only [hu, hi, hz, hc, hf, if_true, PH.push_abs hp, PH.length]

noncomputable def ptail (size : Nat) (x : Value) (h : PH) : Option (Nat × List Value) :=
  match x with
  | .slice none 0 _ => some (0, [])
  | .slice (some ⟨b, o, none⟩) n _ => match h.raw b with
    | some (.row _ _ cs) => tkA (Nat.mul n size) (cs.drop o) [] fun l => match Nat.ble (Nat.add o (Nat.mul n size)) cs.length with
      | true => some (n, l)
      | false => none
    | _ => none
  | .string s => match Nat.beq size 1 with
    | true => some (s.size, s.data.toList.map fun b => .int .u8 b.toNat)
    | false => none
  | _ => none
theorem ptail_ok {size : Nat} {x : Value} {h : PH} {r : Nat × List Value} (hp : ptail size x h = some r) : atail size x h.abs = some r := by
  unfold ptail at hp
  unfold atail
  split at hp
  · exact hp
  · split at hp <;> try (cases hp; done)
    rename_i hg
    obtain ⟨h1, h2⟩ := tkA_ok hp
    split at h2 <;> try (cases h2; done)
    rename_i hle
    have hle := Nat.le_of_ble_eq_true hle
    cases h2
    obtain ⟨m', hg⟩ := PH.raw_row hg
    simp only [hg]
    refine (if_pos hle).trans ?_
    simp
  · split at hp <;> try (cases hp; done)
    rename_i hb
    dsimp only
    rw [if_pos (Nat.eq_of_beq_eq_true hb)]
    exact hp
  · cases hp

def appInfo (P : Program) (ats : Array TypeId) : Option (Nat × Nat) :=
  match ats[0]?, ats[1]? with
  | some sT, some xT => match P.underlying sT, P.underlying xT with
    | some (.slice e), some xd => match P.info? e with
      | none => none
      | some i => match i.zero with
        | none => none
        | some z => if isIntD xd || decide (i.size = 0) || decide (i.bytes = 0) || decide ((cellsL z).length ≠ i.size) then none else some (i.size, i.bytes)
    | _, _ => none
  | _, _ => none

def modn (m : Mode) : Bool := match m with
  | .opn => true
  | _ => false
/-- A new row: so many cells of an old one, and what comes. -/
noncomputable def growR (sz b k o : Nat) (kill : Bool) (cs new : List Value) (n : Nat) (h : PH) : R :=
  tkA k (cs.drop o) new fun cs' => match h.push (.row .opn sz cs') with
    | some h' => match kill with
      | true => match h'.set b .dead with
        | some h'' => seqN n fun n => some (.slice (some ⟨h.n, 0, none⟩) n openCap, h'')
        | none => none
      | false => seqN n fun n => some (.slice (some ⟨h.n, 0, none⟩) n openCap, h')
    | none => none
noncomputable def stayR (b o sz sLen sCap n : Nat) (m : Mode) (esz : Nat) (cs new : List Value) (h : PH) : R :=
  stsK cs (Nat.add o (Nat.mul sLen sz)) new fun cs' => match h.set b (.row m esz cs') with
    | some h' => seqN (Nat.add sLen n) fun k => some (.slice (some ⟨b, o, none⟩) k sCap, h')
    | none => none
noncomputable def xApp (ai : Option (Nat × Nat)) (s x : Value) (h : PH) : R := match ai with
  | none => none
  | some (sz, bt) => match ptail sz x h with
    | none => none
    | some (n, new) => match oneCells new with
      | false => none
      | true => match s with
        | .slice none 0 0 => match Nat.beq n 0 with
          | true => some (.slice none 0 0, h)
          | false => match Nat.ble (Nat.mul (Nat.add (Nat.mul 2 n) 512) bt) 281474976710656 with
            | true => match h.push (.row .opn sz new) with
              | some h' => some (.slice (some ⟨h.n, 0, none⟩) n openCap, h')
              | none => none
            | false => none
        | .slice (some ⟨b, o, none⟩) sLen sCap => match Nat.beq n 0 with
          | true => match Nat.ble sLen sCap with
            | true => some (.slice (some ⟨b, o, none⟩) sLen sCap, h)
            | false => none
          | false => match Nat.ble (Nat.mul (Nat.add (Nat.mul 2 (Nat.add sLen n)) 512) bt) 281474976710656 with
            | false => none
            | true => match h.get b with
              | some (.row m esz cs) => match Nat.ble (Nat.add o (Nat.mul sLen sz)) cs.length with
                | false => none
                | true => match Nat.blt sCap 4611686018427387904 with
                  | true => match Nat.ble (Nat.add sLen n) sCap with
                    | true => match mro m with
                      | true => none
                      | false => match Nat.ble (Nat.add o (Nat.mul (Nat.add sLen n) sz)) cs.length with
                        | true => stayR b o sz sLen sCap n m esz cs new h
                        | false => none
                    | false => growR sz b (Nat.mul sLen sz) o false cs new (Nat.add sLen n) h
                  | false => match modn m with
                    | false => none
                    | true => match Nat.beq esz sz with
                      | false => none
                      | true => match Nat.ble sCap openCap with
                        | false => none
                        | true => match Nat.beq (Nat.mul (Nat.sub openCap sCap) sz) o with
                          | false => none
                          | true => match Nat.ble (Nat.add o (Nat.mul (Nat.add sLen n) sz)) cs.length with
                            | true => stayR b o sz sLen sCap n m esz cs new h
                            | false => growR sz b (Nat.mul sLen sz) o true cs new (Nat.add sLen n) h
              | _ => none
        | _ => none

theorem growR_ok {sz b k o n : Nat} {kill : Bool} {cs new : List Value} {h h' : PH} {v : Value} (hx : growR sz b k o kill cs new n h = some (v, h')) :
    v = .slice (some ⟨h.abs.length, 0, none⟩) n openCap ∧ h'.abs = (if kill then List.set (h.abs ++ [.row .opn sz ((cs.drop o).take k ++ new)]) b .dead else h.abs ++ [.row .opn sz ((cs.drop o).take k ++ new)]) := by
  unfold growR at hx
  obtain ⟨h1, h2⟩ := tkA_ok hx
  split at h2 <;> try (cases h2; done)
  rename_i h1' hp
  rw [PH.length]
  cases kill with
  | true =>
    dsimp only at h2
    split at h2 <;> try (cases h2; done)
    rename_i h2' hs
    rw [seqN_eq] at h2
    cases h2
    exact ⟨rfl, by simp [PH.set_abs hs, PH.push_abs hp]⟩
  | false =>
    dsimp only at h2
    rw [seqN_eq] at h2
    cases h2
    exact ⟨rfl, by simp [PH.push_abs hp]⟩
theorem stayR_ok {b o sz sLen sCap n esz : Nat} {m : Mode} {cs new : List Value} {h h' : PH} {v : Value} (hx : stayR b o sz sLen sCap n m esz cs new h = some (v, h')) :
    v = .slice (some ⟨b, o, none⟩) (sLen + n) sCap ∧ h'.abs = h.abs.set b (.row m esz (setsL cs (o + sLen * sz) new)) := by
  unfold stayR at hx
  obtain ⟨h1, h2⟩ := stsK_ok hx
  split at h2 <;> try (cases h2; done)
  rename_i h' hs
  rw [seqN_eq] at h2
  cases h2
  exact ⟨rfl, PH.set_abs hs⟩

theorem xApp_ok {P : Program} {ats : Array TypeId} {s x u : Value} {h h' : PH} (hx : xApp (appInfo P ats) s x h = some (u, h')) : aappend P ats [s, x] h.abs = some (u, h'.abs) := by
  unfold xApp at hx
  split at hx
  · cases hx
  rename_i sz bt hai
  unfold appInfo at hai
  split at hai <;> try (cases hai; done)
  rename_i sT xT h0 h1
  split at hai <;> try (cases hai; done)
  rename_i e xd hu hux
  split at hai <;> try (cases hai; done)
  rename_i i hi
  split at hai <;> try (cases hai; done)
  rename_i z hz
  split at hai
  · cases hai
  rename_i hcond
  cases hai
  split at hx
  · cases hx
  rename_i n new ht
  split at hx
  · cases hx
  rename_i hone
  have ht := ptail_ok ht
  unfold aappend
  simp only [h0, h1, hu, hux, hi, hz]
  rw [if_neg hcond]
  simp only [ht, hone, Bool.not_true, Bool.false_eq_true, if_false]
  split at hx
  · try dsimp only
    split at hx
    · rename_i hn
      rw [if_pos (Nat.eq_of_beq_eq_true hn)]
      cases hx; rfl
    · rename_i hn
      rw [if_neg (Nat.ne_of_beq_eq_false hn)]
      split at hx <;> try (cases hx; done)
      rename_i hle
      have hle : (2 * n + 512) * i.bytes ≤ 2 ^ 48 := Nat.le_of_ble_eq_true hle
      rw [if_pos hle]
      split at hx <;> try (cases hx; done)
      rename_i hp
      cases hx
      simp only [PH.push_abs hp, PH.length]
  · rename_i b o sLen sCap
    try dsimp only
    split at hx
    · rename_i hn
      split at hx <;> try (cases hx; done)
      rename_i hle
      rw [if_pos ⟨Nat.eq_of_beq_eq_true hn, Nat.le_of_ble_eq_true hle⟩]
      cases hx; rfl
    · rename_i hn
      rw [if_neg (fun c => Nat.ne_of_beq_eq_false hn c.1)]
      split at hx
      · cases hx
      rename_i hle
      have hle : (2 * (sLen + n) + 512) * i.bytes ≤ 2 ^ 48 := Nat.le_of_ble_eq_true hle
      rw [if_neg (fun c => c hle)]
      split at hx <;> try (cases hx; done)
      rename_i m esz cs hg
      simp only [PH.get_abs hg]
      split at hx
      · cases hx
      rename_i hlen
      rw [if_pos (show o + sLen * i.size ≤ cs.length from Nat.le_of_ble_eq_true hlen)]
      split at hx
      · rename_i hcap
        rw [if_pos (show sCap < 4611686018427387904 from Nat.le_of_ble_eq_true hcap)]
        split at hx
        · rename_i hin
          rw [if_pos (show sLen + n ≤ sCap from Nat.le_of_ble_eq_true hin)]
          split at hx
          · cases hx
          rename_i hm
          split at hx <;> try (cases hx; done)
          rename_i hin2
          rw [if_pos ⟨mro_ok hm, Nat.le_of_ble_eq_true hin2⟩]
          obtain ⟨rfl, h2⟩ := stayR_ok hx
          rw [h2]
        · rename_i hin
          rw [if_neg (fun c : sLen + n ≤ sCap => by have := Nat.ble_eq_true_of_le c; exact absurd (this.symm.trans hin) (by simp))]
          obtain ⟨rfl, h2⟩ := growR_ok hx
          rw [h2]
          rfl
      · rename_i hcap
        rw [if_neg (fun c : sCap < 4611686018427387904 => by have := Nat.ble_eq_true_of_le c; exact absurd (this.symm.trans hcap) (by simp))]
        split at hx
        · cases hx
        rename_i hm
        split at hx
        · cases hx
        rename_i he
        split at hx
        · cases hx
        rename_i hoc
        split at hx
        · cases hx
        rename_i ho
        have hm' : m = .opn := by cases m <;> simp_all [modn]
        rw [if_pos ⟨hm', Nat.eq_of_beq_eq_true he, Nat.le_of_ble_eq_true hoc, Nat.eq_of_beq_eq_true ho⟩]
        split at hx
        · rename_i hin2
          rw [if_pos (show o + (sLen + n) * i.size ≤ cs.length from Nat.le_of_ble_eq_true hin2)]
          obtain ⟨rfl, h2⟩ := stayR_ok hx
          rw [h2]
        · rename_i hin2
          rw [if_neg (fun c : o + (sLen + n) * i.size ≤ cs.length => by have := Nat.ble_eq_true_of_le c; exact absurd (this.symm.trans hin2) (by simp))]
          obtain ⟨rfl, h2⟩ := growR_ok hx
          rw [h2]
          rfl
  · cases hx
end Go.Am

set_option linter.unusedSimpArgs false
set_option linter.unusedVariables false
namespace Go.Am
open Go Go.RowKit

abbrev CL := FuncId → List Value → PH → R
/-- The calls that are told are true. -/
def OkCL (P : Program) (cl : CL) : Prop := ∀ f args h v h', cl f args h = some (v, h') → (enterable P f = true ∧ ACall P f args h.abs (fun u k => u = v ∧ k = h'.abs)) ∧ Inv h h'

def xUn (P : Program) (op : UnOp) (a : Value) : Option Value := if plainV a then prun P (Op.unary op a) else none
def xConv (P : Program) (s d : TypeId) (a : Value) : Option Value := if plainV a then prun P (convert s d a) else none
def xExt (i : Nat) (v : Value) : Option Value := match v with
  | .tuple ⟨vs⟩ => vs[i]?
  | _ => none
def xNil (v : Value) : Option Value := match v with
  | .pointer (some a) => some (.pointer (some a))
  | .func (.func f) a b => some (.func (.func f) a b)
  | _ => none
def xLenS (v : Value) : Option Value := match v with
  | .slice _ n _ => seqN n fun n => some (.int .i64 (.ofNat n))
  | _ => none
def xLenT (v : Value) : Option Value := match v with
  | .string s => seqN s.size fun n => some (.int .i64 (.ofNat n))
  | _ => none
noncomputable def xB2S (x : Value) (h : PH) : Option Value := match x with
  | .slice (some ⟨b, o, none⟩) n _ => match h.raw b with
    | some (.row _ _ cs) => match Nat.ble (Nat.add o n) cs.length with
      | true => match bytesOf ((cs.drop o).take n) with
        | some ns => some (.string (ns.foldl (fun r n => r.push (UInt8.ofNat n.toNat)) ByteArray.empty))
        | none => none
      | false => none
    | _ => none
  | .slice none _ _ => some (.string ByteArray.empty)
  | _ => none
noncomputable def xS2B (x : Value) (h : PH) : R := match x with
  | .string str => match h.push (.row .opn 1 (str.data.toList.map fun b => .int .u8 b.toNat)) with
    | some h' => some (.slice (some ⟨h.n, 0, none⟩) str.size openCap, h')
    | none => none
  | _ => none
/-- bytes to a string: 1; a string to bytes: 2. -/
def convK (P : Program) (s d : TypeId) : Nat := match P.underlying s, P.underlying d with
  | some (.slice e), some .string => match P.underlying e, P.info? e with
    | some (.int .u8), some _ => 1
    | _, _ => 0
  | some .string, some (.slice e) => match P.underlying e with
    | some (.int .u8) => 2
    | _ => 0
  | _, _ => 0

/-! ### maps -/
noncomputable def phMap (x : Value) (h : PH) : Option (Nat × List MapEntry × Nat) := match x with
  | .map (some b) => match h.get b with
    | some (.map es c) => some (b, es, c)
    | _ => none
  | _ => none
def lkE (P : Program) (kt et : TypeId) (k : Value) (ok : Bool) (es : List MapEntry) : Option Value :=
  if plainV k && keysPlain es then
    match pureRun P (Instr.checkKey es.isEmpty 10000 kt k) with
    | none => none
    | some _ => match afind P kt k es with
      | none => none
      | some (some (_, v)) => some (if ok then .tuple ⟨[v, .bool true]⟩ else v)
      | some none => match P.info? et with
        | some i => match i.zero with
          | some z => if plainV z then some (if ok then .tuple ⟨[z, .bool false]⟩ else z) else none
          | none => none
        | none => none
  else none
def mapT (P : Program) (T : TypeId) : Option (TypeId × TypeId) := match P.underlying T with
  | some (.map kt et) => some (kt, et)
  | _ => none
noncomputable def xLkp (P : Program) (kt et : TypeId) (ok : Bool) (x k : Value) (h : PH) : Option Value := match x with
  | .map none => lkE P kt et k ok []
  | _ => match phMap x h with
    | some (_, es, _) => lkE P kt et k ok es
    | none => none
noncomputable def xMLen (x : Value) (h : PH) : Option Value := match x with
  | .map none => some (.int .i64 0)
  | _ => match phMap x h with
    | some (_, es, _) => seqN es.length fun n => some (.int .i64 (.ofNat n))
    | none => none
noncomputable def pset (h : PH) (b : Nat) (o : AObj) (v : Value) : R := match h.set b o with
  | some h' => some (v, h')
  | none => none
noncomputable def xMUpd (P : Program) (kt : TypeId) (x k v : Value) (h : PH) : R := match phMap x h with
  | some (b, es, clock) =>
    if plainV k && keysPlain es then
      match pureRun P (Instr.checkKey false 10000 kt k) with
      | none => none
      | some _ => match afind P kt k es with
        | none => none
        | some (some (i, _)) => if Instr.sameBits 10000 (((es[i]?).map (·.key)).getD k) k then pset h b (.map (es.modify i fun e => { e with key := k, val := v }) clock) undef else none
        | some none => pset h b (.map (es ++ [⟨k, v, clock⟩]) (clock + 1)) undef
    else none
  | none => none
noncomputable def xMDel (P : Program) (kt : TypeId) (x k : Value) (h : PH) : R := match phMap x h with
  | some (b, es, clock) =>
    if plainV k && keysPlain es then
      match pureRun P (Instr.checkKey es.isEmpty 10000 kt k) with
      | none => none
      | some _ => match afind P kt k es with
        | none => none
        | some (some (i, _)) => pset h b (.map (es.eraseIdx i) clock) (.tuple #[])
        | some none => pset h b (.map es clock) (.tuple #[])
    else none
  | none => none
noncomputable def xMMk (h : PH) : R := match h.push (.map [] 0) with
  | some h' => some (.map (some h.n), h')
  | none => none

theorem phMap_ok {x : Value} {h : PH} {b c : Nat} {es : List MapEntry} (hp : phMap x h = some (b, es, c)) : x = .map (some b) ∧ h.abs[b]? = some (.map es c) := by
  unfold phMap at hp
  split at hp <;> try (cases hp; done)
  split at hp <;> try (cases hp; done)
  rename_i hg
  cases hp
  exact ⟨rfl, PH.get_abs hg⟩
theorem pset_ok {h h' : PH} {b : Nat} {o : AObj} {v u : Value} (hp : pset h b o v = some (u, h')) : u = v ∧ h'.abs = h.abs.set b o := by
  unfold pset at hp
  split at hp <;> try (cases hp; done)
  rename_i hs
  cases hp
  exact ⟨rfl, PH.set_abs hs⟩
theorem mapT_ok {P : Program} {T kt et : TypeId} (h : mapT P T = some (kt, et)) : P.underlying T = some (.map kt et) := by
  unfold mapT at h
  split at h <;> (cases h; try assumption)
theorem xLkp_ok {P : Program} {T kt et : TypeId} {ok : Bool} {x k v : Value} {h : PH} (hT : mapT P T = some (kt, et)) (hx : xLkp P kt et ok x k h = some v) : alookup P T x k ok h.abs = some v := by
  unfold xLkp at hx
  unfold alookup
  simp only [mapT_ok hT]
  split at hx
  · exact hx
  · split at hx <;> try (cases hx; done)
    rename_i hp
    obtain ⟨rfl, h2⟩ := phMap_ok hp
    simp only [h2]
    exact hx
theorem xMUpd_ok {P : Program} {T kt et : TypeId} {x k v u : Value} {h h' : PH} (hT : mapT P T = some (kt, et)) (hx : xMUpd P kt x k v h = some (u, h')) : u = undef ∧ amapUpdate P T x k v h.abs = some h'.abs := by
  unfold xMUpd at hx
  split at hx <;> try (cases hx; done)
  rename_i b es clock hp
  obtain ⟨rfl, h2⟩ := phMap_ok hp
  unfold amapUpdate
  simp only [mapT_ok hT, h2]
  split at hx
  rotate_left
  · cases hx
  rename_i hc
  rw [if_pos hc]
  split at hx
  · cases hx
  rename_i hk
  simp only [hk]
  split at hx
  · cases hx
  · rename_i hf
    simp only [hf]
    split at hx
    · rename_i hsb
      rw [if_pos hsb]
      obtain ⟨rfl, h3⟩ := pset_ok hx
      exact ⟨rfl, by rw [h3]⟩
    · cases hx
  · rename_i hf
    simp only [hf]
    obtain ⟨rfl, h3⟩ := pset_ok hx
    exact ⟨rfl, by rw [h3]⟩
theorem xMDel_ok {P : Program} {T kt et : TypeId} {ats : Array TypeId} (h0 : ats[0]? = some T) {x k u : Value} {h h' : PH} (hT : mapT P T = some (kt, et)) (hx : xMDel P kt x k h = some (u, h')) : adelete P ats [x, k] h.abs = some (u, h'.abs) := by
  unfold xMDel at hx
  split at hx <;> try (cases hx; done)
  rename_i b es clock hp
  obtain ⟨rfl, h2⟩ := phMap_ok hp
  unfold adelete
  simp only [h0, mapT_ok hT, h2]
  split at hx
  rotate_left
  · cases hx
  rename_i hc
  rw [if_pos hc]
  split at hx
  · cases hx
  rename_i hk
  simp only [hk]
  split at hx
  · cases hx
  · rename_i hf
    simp only [hf]
    obtain ⟨rfl, h3⟩ := pset_ok hx
    rw [h3]
  · rename_i hf
    simp only [hf]
    obtain ⟨rfl, h3⟩ := pset_ok hx
    rw [h3]

/-! ### one operation -/
/-- Asks, and turns nothing. -/
noncomputable def opV (P : Program) (pu : List Nat) (cl : CL) (o : Op) (ty : TypeId) (t : Tm) (h : PH) : Option Value :=
  match o with
  | .move x => ev t x
  | .assign x => ev t x
  | .pick c a b => match ev t c, ev t a, ev t b with
    | some c, some a, some b => xPick c a b
    | _, _, _ => none
  | .build T parts => match evp t parts.toList with
    | some ps => abuild P T ps
    | none => none
  | .nilCheck x => match ev t x with
    | some a => xNil a
    | none => none
  | .binOp op T x y _ => match ev t x, ev t y with
    | some a, some b => match intT P T, ibin op with
      | true, some f => f a b
      | _, _ => abin P op T x y a b
    | _, _ => none
  | .unOp op _ x => match ev t x with
    | some a => match op with
      | .not => xNot a
      | op => xUn P op a
    | none => none
  | .convert s d x => match ev t x with
    | some a => match convK P s d with
      | 0 => xConv P s d a
      | 1 => xB2S a h
      | _ => none
    | none => none
  | .makeFunc fn first captured => match evs t first.toList, evs t captured.toList with
    | some f, some c => some (.func fn ⟨f⟩ ⟨c⟩)
    | _, _ => none
  | .slice T x lo hi mx => match ev t x, evo t lo, evo t hi, evo t mx with
    | some v, some l, some h, some m => acut P T v l h m
    | _, _, _, _ => none
  | .fieldAddr S x f => match ev t x, fieldOff P S f with
    | some v, some n => xFld n v
    | _, _ => none
  | .field S x f => match ev t x with
    | some v => afield P S v f
    | none => none
  | .indexAddr T x ix => match ev t x, ev t ix with
    | some v, some i => match sliceSz P T with
      | some sz => xIdxS sz v i
      | none => match arrSz P T with
        | some (n, sz) => xIdxA n sz v i
        | none => none
    | _, _ => none
  | .index T x ix => match ev t x, ev t ix with
    | some v, some i => aindex P T v i
    | _, _ => none
  | .extract x i => match ev t x with
    | some v => xExt i v
    | none => none
  | .load T x => match ev t x with
    | some v => match scal P T with
      | true => xLd v h
      | false => match aggSz P T with
        | some (.succ n) => xLdA (.succ n) v h
        | _ => none
    | none => none
  | .lookup T x k ok => match ev t x, ev t k with
    | some v, some k => match mapT P T with
      | some (kt, et) => xLkp P kt et ok v k h
      | none => none
    | _, _ => none
  | .call ⟨.builtin .len, args, ats⟩ => match evs t args.toList, ats[0]? with
    | some [v], some T => match sliceSz P T with
      | some _ => xLenS v
      | none => match strT P T with
        | true => xLenT v
        | false => match mapT P T with
          | some _ => xMLen v h
          | none => alen P ats [v]
    | _, _ => none
  | .call ⟨.builtin .cap, args, ats⟩ => match evs t args.toList with
    | some vs => acap P ats vs
    | none => none
  | .call ⟨.builtin .min, args, ats⟩ => match evs t args.toList with
    | some vs => if plainV.plainVs vs then prun P (Builtin.min_ ats ty ⟨vs⟩) else none
    | none => none
  | .call ⟨.builtin .max, args, ats⟩ => match evs t args.toList with
    | some vs => if plainV.plainVs vs then prun P (Builtin.max_ ats ty ⟨vs⟩) else none
    | none => none
  | .call ⟨.value (.func g), args, _⟩ => match evs t args.toList with
    | some as => pcall (cl g as h.fzn)
    | none => none
  | _ => none

/-- Does it ask alone? -/
def memN : List Nat → Nat → Bool
  | [], _ => false
  | x :: xs, g => match Nat.beq x g with
    | true => true
    | false => memN xs g
def isV (P : Program) (pu : List Nat) (o : Op) : Bool := match o with
  | .box .. | .alloc .. | .buildSlice .. | .makeSlice .. | .makeMap .. | .store .. | .mapUpdate .. | .insert .. => false
  | .convert s d _ => match convK P s d with
    | 2 => false
    | _ => true
  | .call ⟨.builtin .len, _, _⟩ | .call ⟨.builtin .cap, _, _⟩ | .call ⟨.builtin .min, _, _⟩ | .call ⟨.builtin .max, _, _⟩ => true
  | .call ⟨.value (.func g), _, _⟩ => memN pu g
  | .call _ => false
  | _ => true

def xCall (cl : CL) (f : Value) (args : List Value) (h : PH) : R := match f with
  | .func (.func g) ⟨first⟩ ⟨captured⟩ => cl g (first ++ args ++ captured) h
  | _ => none

/-- Turns memory, or calls. -/
noncomputable def opH (P : Program) (fr : List Nat) (cl : CL) (o : Op) (t : Tm) (h : PH) : R :=
  match o with
  | .box _ x => match ev t x with
    | some v => xBox v h
    | none => none
  | .alloc T => xAlloc (zcells P T) h
  | .buildSlice T len parts => match evp t parts.toList with
    | some ps => xBS len (bsRow P T len ps) h
    | none => none
  | .makeSlice T l c => match ev t l, ev t c with
    | some l, some c => xMk (zinfo P T) l c h
    | _, _ => none
  | .makeMap T r => match r with
    | none => xMMk h
    | some _ => none
  | .store T a x => match ev t a, ev t x with
    | some a, some v => match infoSz P T with
      | some (.succ 0) => match scal P T with
        | true => xSt1 a v h
        | false => xStA 1 a v h
      | some (.succ (.succ n)) => xStA (.succ (.succ n)) a v h
      | _ => none
    | _, _ => none
  | .mapUpdate T m k x => match ev t m, ev t k, ev t x with
    | some m, some k, some v => match mapT P T with
      | some (kt, _) => xMUpd P kt m k v h
      | none => none
    | _, _, _ => none
  | .insert T m k x => match ev t m, ev t k, ev t x with
    | some m, some k, some v => match mapT P T with
      | some (kt, _) => xMUpd P kt m k v h
      | none => none
    | _, _, _ => none
  | .convert s d x => match ev t x with
    | some v => match convK P s d with
      | 2 => xS2B v h
      | _ => none
    | none => none
  | .call ⟨.builtin .append, args, ats⟩ => match evs t args.toList with
    | some [s, x] => xApp (appInfo P ats) s x h
    | _ => none
  | .call ⟨.builtin .delete, args, ats⟩ => match evs t args.toList, ats[0]? with
    | some [m, k], some T => match mapT P T with
      | some (kt, _) => xMDel P kt m k h
      | none => none
    | _, _ => none
  | .call ⟨.value (.func g), args, _⟩ => match evs t args.toList with
    | some as => match memN fr g with
      | true => fcall h (cl g as h.fzn)
      | false => cl g as h
    | none => none
  | .call ⟨.value f, args, _⟩ => match ev t f, evs t args.toList with
    | some f, some as => xCall cl f as h
    | _, _ => none
  | _ => none

theorem opV_ok {P : Program} {pu : List Nat} {cl : CL} (hcl : OkCL P cl) {d : Option Tmp} {op : Op} {ty : TypeId} {pos : String} {aft : Array Edge} {g : Option (Nat × Bool)} {t : Tm} {h : PH} {v : Value} (hx : opV P pu cl op ty t h = some v) :
    (apure P ⟨d, op, ty, pos, aft, g⟩ t = some v ∨ aread P ⟨d, op, ty, pos, aft, g⟩ t h.abs = some v) ∨ ∃ f args, acallee P ⟨d, op, ty, pos, aft, g⟩ t = some (f, args) ∧ ACall P f args h.abs (fun u k => u = v ∧ k = h.abs) := by
  unfold opV at hx
  split at hx
  · exact .inl (.inl hx)
  · exact .inl (.inl hx)
  · left; left
    split at hx <;> try (cases hx; done)
    rename_i hc ha hb
    rcases xPick_ok hx with ⟨rfl, rfl⟩ | ⟨rfl, rfl⟩ <;> simp [apure, hc, ha, hb]
  · exact .inl (.inl hx)
  · left; left
    split at hx <;> try (cases hx; done)
    rename_i ha
    unfold xNil at hx
    split at hx <;> (try (cases hx; done)) <;> (cases hx; simp [apure, ha])
  · left; left
    split at hx <;> try (cases hx; done)
    rename_i ha hb
    simp only [apure, ha, hb]
    split at hx
    · rename_i hf
      exact ibin_ok hf hx
    · exact hx
  · left; left
    split at hx <;> try (cases hx; done)
    rename_i ha
    simp only [apure, ha]
    split at hx
    · obtain ⟨b, rfl, rfl⟩ := xNot_ok hx
      cases b <;> rfl
    · exact hx
  · split at hx <;> try (cases hx; done)
    rename_i a ha
    split at hx
    · left; left; simp only [apure, ha]; exact hx
    · left; right
      rename_i hk
      unfold xB2S at hx
      unfold convK at hk
      split at hk <;> try (cases hk; done)
      rotate_left
      · split at hk <;> cases hk
      rename_i e hs hd
      split at hk <;> try (cases hk; done)
      rename_i he hi
      split at hx <;> try (cases hx; done)
      · split at hx <;> try (cases hx; done)
        split at hx <;> try (cases hx; done)
        split at hx <;> try (cases hx; done)
        rename_i hg _ hle _ ns hns
        cases hx
        obtain ⟨m', hg⟩ := PH.raw_row hg
        simp only [aread, ha, abytesStr, hs, hd, he, hi, hg]
        refine (if_pos (Nat.le_of_ble_eq_true hle)).trans ?_
        rw [hns]
      · cases hx
        simp only [aread, ha, abytesStr, hs, hd, he, hi]
    · cases hx
  · exact .inl (.inl hx)
  · exact .inl (.inl hx)
  · left; left
    split at hx <;> try (cases hx; done)
    rename_i ha hf
    simp only [apure, ha]
    exact xFld_ok hf hx
  · exact .inl (.inl hx)
  · left; left
    split at hx <;> try (cases hx; done)
    rename_i ha hi
    simp only [apure, ha, hi]
    split at hx
    · rename_i hs; exact xIdxS_ok hs hx
    · split at hx <;> try (cases hx; done)
      rename_i hs; exact xIdxA_ok hs hx
  · exact .inl (.inl hx)
  · left; left
    split at hx <;> try (cases hx; done)
    rename_i ha
    unfold xExt at hx
    split at hx <;> try (cases hx; done)
    simp only [apure, ha]; exact hx
  · left; right
    split at hx <;> try (cases hx; done)
    rename_i ha
    simp only [aread, ha]
    split at hx
    · rename_i hs; exact xLd_ok hs hx
    · split at hx <;> try (cases hx; done)
      rename_i hs; exact xLdA_ok hs (Nat.succ_pos _) hx
  · left; right
    split at hx <;> try (cases hx; done)
    rename_i ha hk
    simp only [aread, ha, hk]
    split at hx <;> try (cases hx; done)
    rename_i hT
    exact xLkp_ok hT hx
  · split at hx <;> try (cases hx; done)
    rename_i args ats v0 T ha hT
    split at hx
    · left; left
      rename_i hs
      unfold xLenS at hx
      split at hx <;> try (cases hx; done)
      rw [seqN_eq] at hx
      cases hx
      unfold sliceSz at hs
      split at hs <;> try (cases hs; done)
      rename_i hu
      simp [apure, ha, alen, hT, hu]
    · split at hx
      · left; left
        rename_i hs
        unfold xLenT at hx
        split at hx <;> try (cases hx; done)
        rw [seqN_eq] at hx
        cases hx
        unfold strT at hs
        split at hs <;> try (cases hs; done)
        rename_i hu
        simp [apure, ha, alen, hT, hu]
      · split at hx
        · rename_i hm
          have hm := mapT_ok hm
          unfold xMLen at hx
          split at hx
          · left; left
            cases hx
            simp [apure, ha, alen, hT, hm]
          · left; right
            split at hx <;> try (cases hx; done)
            rename_i hp
            rw [seqN_eq] at hx
            cases hx
            obtain ⟨rfl, h2⟩ := phMap_ok hp
            simp [aread, ha, amapLen, hT, hm, h2]
        · left; left
          simp only [apure, ha]
          exact hx
  · exact .inl (.inl hx)
  · exact .inl (.inl hx)
  · exact .inl (.inl hx)
  · right
    split at hx <;> try (cases hx; done)
    rename_i ha
    obtain ⟨h', hx, hp⟩ := pcall_ok hx
    obtain ⟨⟨h1, h2⟩, hinv⟩ := hcl _ _ _ _ _ hx
    rw [PH.fzn_abs] at h2
    have h3 := ACall.frozen (h2.mono fun _ _ hq => hq.1) hp
    exact ⟨_, _, by simp only [acallee, ev, ha, h1]; simp, h3⟩
  · cases hx

theorem notro_ok {o : AObj} (h : notro o = true) : notroA o := by
  cases o with
  | row m a b => cases m <;> first | trivial | cases h
  | _ => trivial
theorem opH_ok {P : Program} {fr : List Nat} {cl : CL} (hcl : OkCL P cl) {d : Option Tmp} {op : Op} {ty : TypeId} {pos : String} {aft : Array Edge} {g : Option (Nat × Bool)} {t : Tm} {h h' : PH} {v : Value} (hx : opH P fr cl op t h = some (v, h')) :
    aeff P ⟨d, op, ty, pos, aft, g⟩ t h.abs = some (v, h'.abs) ∨ ∃ f args, acallee P ⟨d, op, ty, pos, aft, g⟩ t = some (f, args) ∧ ACall P f args h.abs (fun u k => u = v ∧ k = h'.abs) := by
  unfold opH at hx
  split at hx
  · left
    split at hx <;> try (cases hx; done)
    rename_i ha
    simp only [aeff, ha]; exact xBox_ok hx
  · left; simp only [aeff]; exact xAlloc_ok hx
  · left
    split at hx <;> try (cases hx; done)
    rename_i ha
    simp only [aeff, ha]; exact xBS_ok hx
  · left
    split at hx <;> try (cases hx; done)
    rename_i ha hb
    simp only [aeff, ha, hb]; exact xMk_ok hx
  · left
    split at hx <;> try (cases hx; done)
    unfold xMMk at hx
    split at hx <;> try (cases hx; done)
    rename_i hp
    cases hx
    simp [aeff, evo, amakeMap, PH.push_abs hp, PH.length]
  · left
    split at hx <;> try (cases hx; done)
    rename_i ha hb
    simp only [aeff, ha, hb]
    split at hx
    · split at hx
      · rename_i hs _ _
        obtain ⟨rfl, h2⟩ := xSt1_ok hs hx
        simp [h2]
      · rename_i hs _ _
        obtain ⟨rfl, h2⟩ := xStA_ok hs (by omega) hx
        simp [h2]
    · rename_i hs
      obtain ⟨rfl, h2⟩ := xStA_ok hs (by omega) hx
      simp [h2]
    · cases hx
  · left
    split at hx <;> try (cases hx; done)
    rename_i ha hb hc
    simp only [aeff, ha, hb, hc]
    split at hx <;> try (cases hx; done)
    rename_i hT
    obtain ⟨rfl, h2⟩ := xMUpd_ok hT hx
    simp [h2]
  · left
    split at hx <;> try (cases hx; done)
    rename_i ha hb hc
    simp only [aeff, ha, hb, hc]
    split at hx <;> try (cases hx; done)
    rename_i hT
    obtain ⟨rfl, h2⟩ := xMUpd_ok hT hx
    simp [h2]
  · left
    split at hx <;> try (cases hx; done)
    rename_i ha
    split at hx <;> try (cases hx; done)
    rename_i hk
    unfold xS2B at hx
    split at hx <;> try (cases hx; done)
    split at hx <;> try (cases hx; done)
    rename_i hp
    cases hx
    unfold convK at hk
    split at hk
    · split at hk <;> cases hk
    · rename_i e hs hd
      split at hk <;> try (cases hk; done)
      rename_i he
      simp [aeff, ha, astrBytes, hs, hd, he, PH.push_abs hp, PH.length]
    · cases hk
  · left
    split at hx <;> try (cases hx; done)
    rename_i ha
    simp only [aeff, ha]; exact xApp_ok hx
  · left
    split at hx <;> try (cases hx; done)
    rename_i ha h0
    split at hx <;> try (cases hx; done)
    rename_i hT
    simp only [aeff, ha]; exact xMDel_ok h0 hT hx
  · right
    split at hx <;> try (cases hx; done)
    rename_i ha
    split at hx
    · obtain ⟨k1, hx1, rfl, hz⟩ := fcall_ok hx
      obtain ⟨⟨h1, h2⟩, hinv⟩ := hcl _ _ _ _ _ hx1
      obtain ⟨news, e1, e2, e3⟩ := PH.back_abs hinv hz
      rw [PH.fzn_abs, e1] at h2
      have h3 := ACall.frozenNew h2 (fun o ho => notro_ok (e3 o ho))
      rw [← e2] at h3
      exact ⟨_, _, by simp only [acallee, ev, ha, h1]; simp, h3⟩
    · obtain ⟨⟨h1, h2⟩, hinv⟩ := hcl _ _ _ _ _ hx
      exact ⟨_, _, by simp only [acallee, ev, ha, h1]; simp, h2⟩
  · right
    split at hx <;> try (cases hx; done)
    rename_i hf ha
    unfold xCall at hx
    split at hx <;> try (cases hx; done)
    obtain ⟨⟨h1, h2⟩, hinv⟩ := hcl _ _ _ _ _ hx
    exact ⟨_, _, by simp only [acallee, hf, ha, h1]; simp, h2⟩
  · cases hx

/-! ### what an operation leaves -/
theorem xNewP_inv {cs : List Value} {h h' : PH} {v : Value} (hx : xNewP cs h = some (v, h')) : Inv h h' := by
  unfold xNewP at hx
  split at hx <;> try (cases hx; done)
  rename_i hp
  cases hx
  exact PH.push_inv hp rfl
theorem xBS_inv {n : Nat} {row : Option (Nat × List Value)} {h h' : PH} {v : Value} (hx : xBS n row h = some (v, h')) : Inv h h' := by
  unfold xBS at hx
  split at hx <;> try (cases hx; done)
  split at hx <;> try (cases hx; done)
  rename_i hp
  cases hx
  exact PH.push_inv hp rfl
theorem xMk_inv {zi : Option (Nat × Nat × List Value)} {l c : Value} {h h' : PH} {v : Value} (hx : xMk zi l c h = some (v, h')) : Inv h h' := by
  unfold xMk at hx
  split at hx <;> try (cases hx; done)
  split at hx <;> try (cases hx; done)
  split at hx <;> try (cases hx; done)
  split at hx <;> try (cases hx; done)
  split at hx <;> try (cases hx; done)
  split at hx <;> try (cases hx; done)
  split at hx <;> try (cases hx; done)
  rename_i hp
  cases hx
  exact PH.push_inv hp rfl
theorem mro_notro {m : Mode} {esz : Nat} {cs : List Value} (h : mro m = false) : notro (.row m esz cs) = true := by cases m <;> first | rfl | cases h
theorem xSt1_inv {x v u : Value} {h h' : PH} (hx : xSt1 x v h = some (u, h')) : Inv h h' := by
  unfold xSt1 at hx
  split at hx <;> try (cases hx; done)
  split at hx <;> try (cases hx; done)
  split at hx <;> try (cases hx; done)
  split at hx <;> try (cases hx; done)
  rename_i hm
  obtain ⟨_, h3⟩ := stK_ok hx
  split at h3 <;> try (cases h3; done)
  rename_i hs
  cases h3
  exact PH.set_inv hs (mro_notro hm)
theorem xStA_inv {sz : Nat} {x v u : Value} {h h' : PH} (hx : xStA sz x v h = some (u, h')) : Inv h h' := by
  unfold xStA at hx
  split at hx <;> try (cases hx; done)
  split at hx <;> try (cases hx; done)
  split at hx <;> try (cases hx; done)
  split at hx <;> try (cases hx; done)
  split at hx <;> try (cases hx; done)
  split at hx <;> try (cases hx; done)
  rename_i hm
  obtain ⟨_, h3⟩ := stsK_ok hx
  split at h3 <;> try (cases h3; done)
  rename_i hs
  cases h3
  exact PH.set_inv hs (mro_notro hm)
theorem growR_inv {sz b k o n : Nat} {kill : Bool} {cs new : List Value} {h h' : PH} {v : Value} (hx : growR sz b k o kill cs new n h = some (v, h')) : Inv h h' := by
  unfold growR at hx
  obtain ⟨_, h2⟩ := tkA_ok hx
  split at h2 <;> try (cases h2; done)
  rename_i hp
  cases kill with
  | true =>
    dsimp only at h2
    split at h2 <;> try (cases h2; done)
    rename_i hs
    rw [seqN_eq] at h2
    cases h2
    exact (PH.push_inv hp rfl).trans (PH.set_inv hs rfl)
  | false =>
    dsimp only at h2
    rw [seqN_eq] at h2
    cases h2
    exact PH.push_inv hp rfl
theorem stayR_inv {b o sz sLen sCap n esz : Nat} {m : Mode} {cs new : List Value} {h h' : PH} {v : Value} (hm : notro (.row m esz []) = true) (hx : stayR b o sz sLen sCap n m esz cs new h = some (v, h')) : Inv h h' := by
  unfold stayR at hx
  obtain ⟨_, h2⟩ := stsK_ok hx
  split at h2 <;> try (cases h2; done)
  rename_i hs
  rw [seqN_eq] at h2
  cases h2
  exact PH.set_inv hs (by cases m <;> first | rfl | cases hm)
theorem xApp_inv {ai : Option (Nat × Nat)} {s x u : Value} {h h' : PH} (hx : xApp ai s x h = some (u, h')) : Inv h h' := by
  unfold xApp at hx
  split at hx <;> try (cases hx; done)
  split at hx <;> try (cases hx; done)
  split at hx <;> try (cases hx; done)
  split at hx
  · split at hx
    · cases hx; exact Inv.refl _
    · split at hx <;> try (cases hx; done)
      split at hx <;> try (cases hx; done)
      rename_i hp
      cases hx
      exact PH.push_inv hp rfl
  · split at hx
    · split at hx <;> try (cases hx; done)
      cases hx; exact Inv.refl _
    · split at hx <;> try (cases hx; done)
      split at hx <;> try (cases hx; done)
      split at hx <;> try (cases hx; done)
      split at hx
      · split at hx
        · split at hx <;> try (cases hx; done)
          rename_i hm
          split at hx <;> try (cases hx; done)
          exact stayR_inv (mro_notro hm) hx
        · exact growR_inv hx
      · split at hx <;> try (cases hx; done)
        rename_i hm
        split at hx <;> try (cases hx; done)
        split at hx <;> try (cases hx; done)
        split at hx <;> try (cases hx; done)
        split at hx
        · exact stayR_inv (by unfold modn at hm; split at hm <;> first | rfl | cases hm) hx
        · exact growR_inv hx
  · cases hx
theorem pset_inv {h h' : PH} {b : Nat} {o : AObj} {v u : Value} (ho : notro o = true) (hx : pset h b o v = some (u, h')) : Inv h h' := by
  unfold pset at hx
  split at hx <;> try (cases hx; done)
  rename_i hs
  cases hx
  exact PH.set_inv hs ho
theorem xMUpd_inv {P : Program} {kt : TypeId} {x k v u : Value} {h h' : PH} (hx : xMUpd P kt x k v h = some (u, h')) : Inv h h' := by
  unfold xMUpd at hx
  split at hx <;> try (cases hx; done)
  split at hx <;> try (cases hx; done)
  split at hx <;> try (cases hx; done)
  split at hx <;> try (cases hx; done)
  · split at hx <;> try (cases hx; done)
    exact pset_inv rfl hx
  · exact pset_inv rfl hx
theorem xMDel_inv {P : Program} {kt : TypeId} {x k u : Value} {h h' : PH} (hx : xMDel P kt x k h = some (u, h')) : Inv h h' := by
  unfold xMDel at hx
  split at hx <;> try (cases hx; done)
  split at hx <;> try (cases hx; done)
  split at hx <;> try (cases hx; done)
  split at hx <;> try (cases hx; done)
  · exact pset_inv rfl hx
  · exact pset_inv rfl hx
theorem opH_inv {P : Program} {fr : List Nat} {cl : CL} (hcl : OkCL P cl) {op : Op} {t : Tm} {h h' : PH} {v : Value} (hx : opH P fr cl op t h = some (v, h')) : Inv h h' := by
  unfold opH at hx
  split at hx
  · split at hx <;> try (cases hx; done)
    exact xNewP_inv hx
  · unfold xAlloc at hx
    split at hx <;> try (cases hx; done)
    exact xNewP_inv hx
  · split at hx <;> try (cases hx; done)
    exact xBS_inv hx
  · split at hx <;> try (cases hx; done)
    exact xMk_inv hx
  · split at hx <;> try (cases hx; done)
    unfold xMMk at hx
    split at hx <;> try (cases hx; done)
    rename_i hp
    cases hx
    exact PH.push_inv hp rfl
  · split at hx <;> try (cases hx; done)
    split at hx
    · split at hx
      · exact xSt1_inv hx
      · exact xStA_inv hx
    · exact xStA_inv hx
    · cases hx
  · split at hx <;> try (cases hx; done)
    split at hx <;> try (cases hx; done)
    exact xMUpd_inv hx
  · split at hx <;> try (cases hx; done)
    split at hx <;> try (cases hx; done)
    exact xMUpd_inv hx
  · split at hx <;> try (cases hx; done)
    split at hx <;> try (cases hx; done)
    unfold xS2B at hx
    split at hx <;> try (cases hx; done)
    split at hx <;> try (cases hx; done)
    rename_i hp
    cases hx
    exact PH.push_inv hp rfl
  · split at hx <;> try (cases hx; done)
    exact xApp_inv hx
  · split at hx <;> try (cases hx; done)
    split at hx <;> try (cases hx; done)
    exact xMDel_inv hx
  · split at hx <;> try (cases hx; done)
    split at hx
    · obtain ⟨k1, hx1, rfl, hz⟩ := fcall_ok hx
      exact PH.back_inv (hcl _ _ _ _ _ hx1).2 hz
    · exact (hcl _ _ _ _ _ hx).2
  · split at hx <;> try (cases hx; done)
    unfold xCall at hx
    split at hx <;> try (cases hx; done)
    exact (hcl _ _ _ _ _ hx).2
  · cases hx
end Go.Am

set_option linter.unusedSimpArgs false
set_option linter.unusedVariables false
namespace Go.Am
open Go Go.RowKit

/-- A temporary is set. -/
def lset {α : Type} : Tm → Nat → Value → (Tm → α) → α
  | [], _, _, K => K []
  | x :: xs, d, v, K => match d with
    | 0 => K (some v :: xs)
    | .succ d => lset xs d v fun ys => K (x :: ys)
theorem lset_eq {α : Type} {K : Tm → α} {t : Tm} {d : Nat} {v : Value} : lset t d v K = K (t.set d (some v)) := by
  induction t generalizing d K with
  | nil => simp [lset]
  | cons x xs ih => cases d with
    | zero => simp [lset]
    | succ d => simp [lset, ih]
def putK {α : Type} (t : Tm) (d : Option Tmp) (v : Value) (K : Tm → α) : α := match d with
  | some d => lset t d v K
  | none => K t
theorem putK_eq {α : Type} {K : Tm → α} {t : Tm} {d : Option Tmp} {v : Value} : putK t d v K = K (aput t d v) := by
  cases d <;> simp [putK, aput, lset_eq]

/-- What the guard asks. -/
def gval (ops : Array Oper) (t : Tm) (j : Nat) : Option Value := match ops[j]? with
  | some o => match o.dst with
    | some d => tget t d
    | none => none
  | none => none

/-- A value that is handed on. -/
def isMv : Op → Option Operand
  | .move x => some x
  | .assign x => some x
  | _ => none

noncomputable def exOpG (vc : Bool) (mv : Option Operand) (fV : Option Value) (fH : R) (ops : Array Oper) (o : Oper) (K : Tm → PH → R) (t : Tm) (h : PH) : R :=
  match vc with
  | true => match o.guard with
    | none => match mv with
      | some x => match ev t x with
        | some v => putK t o.dst v fun t => K t h
        | none => none
      | none => vb fV fun v => putK t o.dst v fun t => K t h
    | some (j, w) => match gval ops t j with
      | some g => vb (gd (isB w g) fV) fun v => putK t o.dst v fun t => K t h
      | none => none
  | false => match o.guard with
    | none => hb fH fun v h => putK t o.dst v fun t => K t h
    | some (j, w) => match gval ops t j with
      | some g => hb (gh (isB w g) h fH) fun v h => putK t o.dst v fun t => K t h
      | none => none

/-- What is told beside the code: which functions write nothing and answer plain values; which write nothing; of a place, which temporaries live; of a region, its order, and which of its operations have to do with old memory alone. -/
structure Tab where
  pu : List Nat
  fr : List Nat
  live : List (Nat × List Nat)
  ords : List (Nat × List Nat)
  fl : List (Nat × List Nat)
  dd : List Nat

noncomputable def exOp (P : Program) (tab : Tab) (cl : CL) (ops : Array Oper) (o : Oper) (K : Tm → PH → R) (t : Tm) (h : PH) : R :=
  exOpG (isV P tab.pu o.op) (isMv o.op) (opV P tab.pu cl o.op o.type t h) (opH P tab.fr cl o.op t h) ops o K t h

/-! ### what is read ahead of a call is read anew behind it -/
def aeq (a b : Option Addr) : Bool := match a, b with
  | none, none => true
  | some ⟨b, o, none⟩, some ⟨b', o', none⟩ => match Nat.beq b b' with
    | true => Nat.beq o o'
    | false => false
  | _, _ => false
theorem aeq_ok {a b : Option Addr} (h : aeq a b = true) : a = b := by
  unfold aeq at h
  split at h
  · rfl
  · split at h
    · rename_i e; rw [Nat.eq_of_beq_eq_true e, Nat.eq_of_beq_eq_true h]
    · cases h
  · cases h
def veq1 (a b : Value) : Bool := match a, b with
  | .bool x, .bool y => x == y
  | .int k x, .int k' y => match kb k k' with
    | true => ieq x y
    | false => false
  | .pointer x, .pointer y => aeq x y
  | .slice x l c, .slice y l' c' => match Nat.beq l l' with
    | true => match Nat.beq c c' with
      | true => aeq x y
      | false => false
    | false => false
  | .map (some r), .map (some r') => Nat.beq r r'
  | .map none, .map none => true
  | .nilFunc, .nilFunc => true
  | .nilIface, .nilIface => true
  | .tuple ⟨[]⟩, .tuple ⟨[]⟩ => true
  | _, _ => false
theorem veq1_ok {a b : Value} (h : veq1 a b = true) : a = b := by
  unfold veq1 at h
  split at h <;> try (first | rfl | cases h; done)
  · rw [eq_of_beq h]
  · split at h
    · rename_i e; rw [ieq_eq] at h; rw [kb_ok e, of_decide_eq_true h]
    · cases h
  · rw [aeq_ok h]
  · split at h
    · rename_i e; split at h
      · rename_i e2; rw [Nat.eq_of_beq_eq_true e, Nat.eq_of_beq_eq_true e2, aeq_ok h]
      · cases h
    · cases h
  · rw [Nat.eq_of_beq_eq_true h]
def veqs : List Value → List Value → Bool
  | [], [] => true
  | x :: xs, y :: ys => match veq1 x y with
    | true => veqs xs ys
    | false => false
  | _, _ => false
theorem veqs_ok : ∀ {xs ys : List Value}, veqs xs ys = true → xs = ys
  | [], [], _ => rfl
  | x :: xs, y :: ys, h => by
    unfold veqs at h
    split at h
    · rename_i e; rw [veq1_ok e, veqs_ok h]
    · cases h
  | [], y :: ys, h => by cases h
  | x :: xs, [], h => by cases h
def veq (a b : Value) : Bool := match a, b with
  | .agg ⟨xs⟩, .agg ⟨ys⟩ => veqs xs ys
  | .func (.func g) ⟨xs⟩ ⟨us⟩, .func (.func g') ⟨ys⟩ ⟨ws⟩ => match Nat.beq g g' with
    | true => match veqs xs ys with
      | true => veqs us ws
      | false => false
    | false => false
  | _, _ => veq1 a b
theorem veq_ok {a b : Value} (h : veq a b = true) : a = b := by
  unfold veq at h
  split at h
  · rw [veqs_ok h]
  · split at h
    · rename_i e; split at h
      · rename_i e2; rw [Nat.eq_of_beq_eq_true e, veqs_ok e2, veqs_ok h]
      · cases h
    · cases h
  · exact veq1_ok h
/-- Is what is read as it was? -/
noncomputable def lchk (o : Option Value) (v : Value) (r : R) : R := Option.rec (motive := fun _ => R) none (fun u => Bool.rec (motive := fun _ => R) none r (veq u v)) o
theorem lchk_ok {o : Option Value} {v : Value} {r : R} {r' : Value × PH} (h : lchk o v r = some r') : o = some v ∧ r = some r' := by
  cases o with
  | none => cases h
  | some u =>
    have h : Bool.rec (motive := fun _ => R) none r (veq u v) = some r' := h
    cases hq : veq u v with
    | false => rw [hq] at h; cases h
    | true => rw [hq] at h; rw [veq_ok hq]; exact ⟨rfl, h⟩
abbrev CK := PH → R → R
def isL (op : Op) : Bool := match op with
  | .load _ _ => true
  | _ => false
def isE (op : Op) : Bool := match op with
  | .call ⟨.builtin .len, _, _⟩ => false
  | .call _ => true
  | .store .. | .mapUpdate .. | .insert .. => true
  | _ => false
noncomputable def exOpsE (P : Program) (tab : Tab) (cl : CL) (ops : Array Oper) (ck : CK) : List FOp → (Tm → PH → R) → Tm → PH → R
  | [], K => K
  | o :: rest, K => match o.2 with
    | false => exOp P tab cl ops o.1 (exOpsE P tab cl ops ck rest K)
    | true => match isE o.1.op with
      | true => exOp P tab cl ops o.1 (fun t h => ck h (exOpsE P tab cl ops ck rest K t h))
      | false => fun _ _ => none
noncomputable def exOpsF (P : Program) (tab : Tab) (cl : CL) (ops : Array Oper) : List FOp → CK → (Tm → PH → R) → Tm → PH → R
  | [], _, K => K
  | o :: rest, ck, K => match o.2 with
    | false => exOp P tab cl ops o.1 (exOpsF P tab cl ops rest ck K)
    | true => match isE o.1.op with
      | true => exOp P tab cl ops o.1 (fun t h => ck h (exOpsE P tab cl ops ck rest K t h))
      | false => match isL o.1.op with
        | false => fun _ _ => none
        | true => fun t h => match o.1.guard with
          | none => vb (opV P tab.pu cl o.1.op o.1.type t h) fun v => putK t o.1.dst v fun t' => exOpsF P tab cl ops rest (fun h r => ck h (lchk (opV P tab.pu cl o.1.op o.1.type t h) v r)) K t' h
          | some (j, w) => match gval ops t j with
            | some g => vb (gd (isB w g) (opV P tab.pu cl o.1.op o.1.type t h)) fun v => putK t o.1.dst v fun t' => exOpsF P tab cl ops rest (fun h r => ck h (lchk (gd (isB w g) (opV P tab.pu cl o.1.op o.1.type t h)) v r)) K t' h
            | none => none

noncomputable def exOps (P : Program) (tab : Tab) (cl : CL) (ops : Array Oper) : List Oper → (Tm → PH → R) → Tm → PH → R
  | [], K => K
  | o :: rest, K => exOp P tab cl ops o (exOps P tab cl ops rest K)
theorem isB_ok {ops : Array Oper} {o : Oper} {t : Tm} {j : Nat} {w : Bool} {g : Value} (hg : o.guard = some (j, w)) (hv : gval ops t j = some g) : gok ops o t = true ∧ Region.wanted o (ayielded ops t) = isB w g := by
  unfold gval at hv
  split at hv <;> try (cases hv; done)
  rename_i o' ho
  split at hv <;> try (cases hv; done)
  rename_i d hd
  refine ⟨by simp [gok, hg, ho, hd, hv], ?_⟩
  unfold Region.wanted
  rw [hg]
  simp only [ayielded, ho, hd, hv]
  unfold isB
  cases g <;> try (cases w <;> rfl)
  rename_i b
  cases w <;> cases b <;> rfl

/-- The cases of an operation. -/
theorem exOpG_ok {vc : Bool} {mv : Option Operand} {fV : Option Value} {fH : R} {ops : Array Oper} {o : Oper} {K : Tm → PH → R} {t : Tm} {h : PH} {r : Value × PH} (hmv : ∀ x v, mv = some x → ev t x = some v → vc = true → fV = some v)
    (hx : exOpG vc mv fV fH ops o K t h = some r) :
    gok ops o t = true ∧ ((Region.wanted o (ayielded ops t) = true ∧ ((vc = true ∧ ∃ v, fV = some v ∧ K (aput t o.dst v) h = some r) ∨ (vc = false ∧ ∃ v h', fH = some (v, h') ∧ K (aput t o.dst v) h' = some r))) ∨
      (Region.wanted o (ayielded ops t) = false ∧ K (aput t o.dst undef) h = some r)) := by
  obtain ⟨dst, op, ty, pos, aft, grd⟩ := o
  unfold exOpG at hx
  dsimp only at hx ⊢
  cases vc with
  | true =>
    dsimp only at hx
    cases grd with
    | none =>
      dsimp only at hx
      refine ⟨rfl, .inl ⟨rfl, .inl ⟨rfl, ?_⟩⟩⟩
      split at hx
      · rename_i x
        split at hx <;> try (cases hx; done)
        rename_i v hv
        rw [putK_eq] at hx
        exact ⟨v, hmv x v rfl hv rfl, hx⟩
      · obtain ⟨v, hv, hx⟩ := vb_ok hx
        rw [putK_eq] at hx
        exact ⟨v, hv, hx⟩
    | some q =>
      obtain ⟨j, w⟩ := q
      dsimp only at hx
      split at hx <;> try (cases hx; done)
      rename_i g hg
      obtain ⟨g1, g2⟩ := isB_ok (o := ⟨dst, op, ty, pos, aft, some (j, w)⟩) (w := w) rfl hg
      obtain ⟨v, hv, hx⟩ := vb_ok hx
      rw [putK_eq] at hx
      refine ⟨g1, ?_⟩
      cases hb : isB w g with
      | true => rw [hb] at hv; exact .inl ⟨g2.trans hb, .inl ⟨rfl, v, hv, hx⟩⟩
      | false => rw [hb] at hv; cases hv; exact .inr ⟨g2.trans hb, hx⟩
  | false =>
    dsimp only at hx
    cases grd with
    | none =>
      dsimp only at hx
      obtain ⟨v, h', hv, hx⟩ := hb_ok hx
      rw [putK_eq] at hx
      exact ⟨rfl, .inl ⟨rfl, .inr ⟨rfl, v, h', hv, hx⟩⟩⟩
    | some q =>
      obtain ⟨j, w⟩ := q
      dsimp only at hx
      split at hx <;> try (cases hx; done)
      rename_i g hg
      obtain ⟨g1, g2⟩ := isB_ok (o := ⟨dst, op, ty, pos, aft, some (j, w)⟩) (w := w) rfl hg
      obtain ⟨v, h', hv, hx⟩ := hb_ok hx
      rw [putK_eq] at hx
      refine ⟨g1, ?_⟩
      cases hb : isB w g with
      | true => rw [hb] at hv; exact .inl ⟨g2.trans hb, .inr ⟨rfl, v, h', hv, hx⟩⟩
      | false => rw [hb] at hv; cases hv; exact .inr ⟨g2.trans hb, hx⟩

theorem isMv_ok {P : Program} {pu : List Nat} {cl : CL} {op : Op} {ty : TypeId} {t : Tm} {h : PH} {x : Operand} {v : Value} (hm : isMv op = some x) (hv : ev t x = some v) : opV P pu cl op ty t h = some v := by
  unfold isMv at hm
  split at hm <;> cases hm <;> exact hv

/-- An operation is run: there is one way on. -/
theorem exOp_one {P : Program} {tab : Tab} {cl : CL} (hcl : OkCL P cl) {ops : Array Oper} {o : Oper} {K : Tm → PH → R} {t : Tm} {h : PH} {r : Value × PH} (hx : exOp P tab cl ops o K t h = some r) :
    ∃ t' h', K t' h' = some r ∧ Inv h h' ∧ (∃ d, t' = aput t o.dst d) ∧ ∀ K' : Tm → Heap → Prop, K' t' h'.abs → AOp P ops o K' t h.abs := by
  obtain ⟨hg, hc⟩ := exOpG_ok (fun x v hm hv _ => isMv_ok hm hv) hx
  rcases hc with ⟨hw, hc⟩ | ⟨hw, hk⟩
  · rcases hc with ⟨_, v, hv, hk⟩ | ⟨_, v, h', hv, hk⟩
    · refine ⟨_, h, hk, Inv.refl h, ⟨v, rfl⟩, fun K' hK' => ⟨hg, ?_⟩⟩
      rw [if_pos hw]
      rcases opV_ok hcl (d := o.dst) (pos := o.pos) (aft := o.after) (g := o.guard) hv with (h1 | h1) | ⟨f, args, h1, h2⟩
      · exact .inl ⟨v, h1, hK'⟩
      · exact .inr (.inl ⟨v, h1, hK'⟩)
      · refine .inr (.inr (.inr ⟨f, args, _, h1, h2, ?_⟩))
        rintro u k ⟨rfl, rfl⟩
        exact hK'
    · refine ⟨_, h', hk, opH_inv hcl hv, ⟨v, rfl⟩, fun K' hK' => ⟨hg, ?_⟩⟩
      rw [if_pos hw]
      rcases opH_ok hcl (d := o.dst) (ty := o.type) (pos := o.pos) (aft := o.after) (g := o.guard) hv with h1 | ⟨f, args, h1, h2⟩
      · exact .inr (.inr (.inl ⟨v, _, h1, hK'⟩))
      · refine .inr (.inr (.inr ⟨f, args, _, h1, h2, ?_⟩))
        rintro u k ⟨rfl, rfl⟩
        exact hK'
  · refine ⟨_, h, hk, Inv.refl h, ⟨_, rfl⟩, fun K' hK' => ⟨hg, ?_⟩⟩
    rw [if_neg (by simp [hw])]
    exact hK'
theorem exOp_ok {P : Program} {tab : Tab} {cl : CL} (hcl : OkCL P cl) {ops : Array Oper} {o : Oper} {K : Tm → PH → R} {t : Tm} {h : PH} {r : Value × PH} (hx : exOp P tab cl ops o K t h = some r) :
    AOp P ops o (fun t' k => ∃ h', h'.abs = k ∧ Inv h h' ∧ (∃ d, t' = aput t o.dst d) ∧ K t' h' = some r) t h.abs := by
  obtain ⟨t', h', hk, hi, hd, hK⟩ := exOp_one hcl hx
  exact hK _ ⟨h', rfl, hi, hd, hk⟩
theorem no_read {P : Program} {o : Oper} {t : Tm} {h : Heap} (hc : isE o.op = true) : aread P o t h = none := by
  obtain ⟨dst, op, ty, pos, aft, grd⟩ := o
  dsimp only at hc
  unfold aread
  dsimp only
  cases op with
  | call c =>
    obtain ⟨callee, args, ats⟩ := c
    cases callee with
    | builtin b => cases b <;> first | rfl | ((simp [isE] at hc))
    | _ => rfl
  | _ => first | rfl | ((simp [isE] at hc))
/-- An operation that is not told of. -/
theorem AOpF.ofU {P : Program} {ops : Array Oper} {S : Heap → Prop} {o : Oper} {K : Tm → Heap → Prop} {t : Tm} {h : Heap} (ho : AOp P ops o K t h) : AOpF P ops S (o, false) K t h := by
  unfold AOp at ho
  unfold AOpF
  refine ⟨ho.1, ?_⟩
  replace ho := ho.2
  dsimp only
  split
  · rename_i hw
    rw [if_pos hw] at ho
    rcases ho with ⟨v, h1, h2⟩ | ⟨v, h1, h2⟩ | ⟨v, h', h1, h2⟩ | ⟨f, args, R, h1, h2, h3⟩
    · exact .inl ⟨v, h1, h2⟩
    · exact .inr (.inl ⟨v, h1, (fun hf => by cases hf), h2⟩)
    · exact .inr (.inr (.inl ⟨v, h', h1, (fun hf => by cases hf), h2⟩))
    · exact .inr (.inr (.inr ⟨f, args, R, h1, h2, fun v h' hr => ⟨(fun hf => by cases hf), h3 v h' hr⟩⟩))
  · rename_i hw
    rw [if_neg hw] at ho
    exact ho
theorem AOpF.ofE {P : Program} {ops : Array Oper} {S : Heap → Prop} {o : Oper} {K K' : Tm → Heap → Prop} {t : Tm} {h : Heap} (he : isE o.op = true) (hS : ∀ t k, K t k → S k ∧ K' t k) (ho : AOp P ops o K t h) : AOpF P ops S (o, true) K' t h := by
  unfold AOp at ho
  unfold AOpF
  refine ⟨ho.1, ?_⟩
  replace ho := ho.2
  dsimp only
  split
  · rename_i hw
    rw [if_pos hw] at ho
    rcases ho with ⟨v, h1, h2⟩ | ⟨v, h1, h2⟩ | ⟨v, h', h1, h2⟩ | ⟨f, args, R, h1, h2, h3⟩
    · exact .inl ⟨v, h1, (hS _ _ h2).2⟩
    · rw [no_read he] at h1; cases h1
    · exact .inr (.inr (.inl ⟨v, h', h1, (fun _ => (hS _ _ h2).1), (hS _ _ h2).2⟩))
    · exact .inr (.inr (.inr ⟨f, args, R, h1, h2, fun v h' hr => ⟨(fun _ => (hS _ _ (h3 v h' hr)).1), (hS _ _ (h3 v h' hr)).2⟩⟩))
  · rename_i hw
    rw [if_neg hw] at ho
    exact (hS _ _ ho).2

theorem aput_length (t : Tm) (d : Option Tmp) (v : Value) : (aput t d v).length = t.length := by cases d <;> simp [aput]

theorem exOps_ok {P : Program} {tab : Tab} {cl : CL} (hcl : OkCL P cl) {ops : Array Oper} {K : Tm → PH → R} {r : Value × PH} : ∀ {l : List Oper} {t : Tm} {h : PH}, exOps P tab cl ops l K t h = some r →
    AOps P ops (fun t' k => t'.length = t.length ∧ ∃ h', h'.abs = k ∧ K t' h' = some r) l t h.abs := by
  intro l
  induction l with
  | nil => intro t h hx; exact ⟨rfl, h, rfl, hx⟩
  | cons o l ih =>
    intro t h hx
    refine AOp.mono ?_ (exOp_ok hcl hx)
    rintro t' k ⟨h', rfl, _, ⟨d, rfl⟩, hk⟩
    have := ih hk
    rw [aput_length] at this
    exact this

theorem exOpsE_ok {P : Program} {tab : Tab} {cl : CL} (hcl : OkCL P cl) {ops : Array Oper} {ck : CK} {S : Heap → Prop} {K : Tm → PH → R} {r : Value × PH} (hck : ∀ h q r', ck h q = some r' → q = some r' ∧ S h.abs) : ∀ {l : List FOp} {t : Tm} {h : PH}, exOpsE P tab cl ops ck l K t h = some r →
    AOpsF P ops S (fun t' k => t'.length = t.length ∧ ∃ h', h'.abs = k ∧ K t' h' = some r) l t h.abs := by
  intro l
  induction l with
  | nil => intro t h hx; exact ⟨rfl, h, rfl, hx⟩
  | cons o l ih =>
    intro t h hx
    obtain ⟨o, f⟩ := o
    unfold exOpsE at hx
    dsimp only at hx
    cases f with
    | false =>
      dsimp only at hx
      refine AOpF.ofU (AOp.mono ?_ (exOp_ok hcl hx))
      rintro t' k ⟨h', rfl, _, ⟨d, rfl⟩, hk⟩
      have := ih hk
      rw [aput_length] at this
      exact this
    | true =>
      dsimp only at hx
      cases he : isE o.op with
      | false => rw [he] at hx; cases hx
      | true =>
        rw [he] at hx
        refine AOpF.ofE he ?_ (exOp_ok hcl hx)
        rintro t' k ⟨h', rfl, _, ⟨d, rfl⟩, hk⟩
        obtain ⟨hk, hS⟩ := hck _ _ _ hk
        have := ih hk
        rw [aput_length] at this
        exact ⟨hS, this⟩
/-- What was read is still so. -/
def stay (P : Program) (L : List (Oper × Tm × Value)) (k : Heap) : Prop := ∀ e ∈ L, aread P e.1 e.2.1 k = some e.2.2
theorem aread_load {P : Program} {pu : List Nat} {cl : CL} (hcl : OkCL P cl) {o : Oper} {t : Tm} {h : PH} {v : Value} (hl : isL o.op = true) (hx : opV P pu cl o.op o.type t h = some v) : aread P o t h.abs = some v := by
  rcases opV_ok hcl (d := o.dst) (pos := o.pos) (aft := o.after) (g := o.guard) hx with (h1 | h1) | ⟨f, args, h1, h2⟩
  · have : apure P o t = none := by
      obtain ⟨dst, op, ty, pos, aft, grd⟩ := o
      cases op <;> first | rfl | (simp [isL] at hl)
    have h1 : apure P o t = some v := h1
    rw [this] at h1; cases h1
  · exact h1
  · have : acallee P o t = none := by
      obtain ⟨dst, op, ty, pos, aft, grd⟩ := o
      cases op <;> first | rfl | (simp [isL] at hl)
    have h1 : acallee P o t = some (f, args) := h1
    rw [this] at h1; cases h1
theorem exOpsF_ok {P : Program} {tab : Tab} {cl : CL} (hcl : OkCL P cl) {ops : Array Oper} {K : Tm → PH → R} {r : Value × PH} : ∀ {l : List FOp} {ck : CK} {L : List (Oper × Tm × Value)} {t : Tm} {h : PH}, (∀ h q r', ck h q = some r' → q = some r' ∧ stay P L h.abs) → exOpsF P tab cl ops l ck K t h = some r →
    ∃ L', (∀ e ∈ L, e ∈ L') ∧ AOpsF P ops (stay P L') (fun t' k => t'.length = t.length ∧ ∃ h', h'.abs = k ∧ K t' h' = some r) l t h.abs := by
  intro l
  induction l with
  | nil => intro ck L t h _ hx; exact ⟨L, fun _ h => h, rfl, h, rfl, hx⟩
  | cons o l ih =>
    intro ck L t h hck hx
    obtain ⟨o, f⟩ := o
    unfold exOpsF at hx
    dsimp only at hx
    cases f with
    | false =>
      dsimp only at hx
      obtain ⟨t', h', hk, _, ⟨d, rfl⟩, hK⟩ := exOp_one hcl hx
      obtain ⟨L', h1, h2⟩ := ih hck hk
      rw [aput_length] at h2
      exact ⟨L', h1, AOpF.ofU (hK _ h2)⟩
    | true =>
      dsimp only at hx
      cases he : isE o.op with
      | true =>
        rw [he] at hx
        refine ⟨L, fun _ h => h, AOpF.ofE he ?_ (exOp_ok hcl hx)⟩
        rintro t' k ⟨h', rfl, _, ⟨d, rfl⟩, hk⟩
        obtain ⟨hk, hS⟩ := hck _ _ _ hk
        have := exOpsE_ok hcl hck hk
        rw [aput_length] at this
        exact ⟨hS, this⟩
      | false =>
        rw [he] at hx
        dsimp only at hx
        cases hl : isL o.op with
        | false => rw [hl] at hx; cases hx
        | true =>
          rw [hl] at hx
          dsimp only at hx
          cases hgd : o.guard with
          | none =>
            rw [hgd] at hx
            dsimp only at hx
            obtain ⟨v, hv, hx⟩ := vb_ok hx
            rw [putK_eq] at hx
            have hv' := aread_load hcl hl hv
            obtain ⟨L', h1, h2⟩ := ih (L := (o, t, v) :: L) (fun h q r' hq => by
              obtain ⟨q1, q2⟩ := hck _ _ _ hq
              obtain ⟨q3, q4⟩ := lchk_ok q1
              refine ⟨q4, fun e he => ?_⟩
              rcases List.mem_cons.1 he with rfl | he
              · exact aread_load hcl hl q3
              · exact q2 e he) hx
            rw [aput_length] at h2
            refine ⟨L', fun e he => h1 e (.tail _ he), ?_⟩
            unfold AOpsF AOpF
            dsimp only
            refine ⟨by simp [gok, hgd], ?_⟩
            rw [if_pos (by simp [Region.wanted, hgd])]
            exact .inr (.inl ⟨v, hv', fun _ k hk => hk _ (h1 _ (.head _)), h2⟩)
          | some q =>
            obtain ⟨j, w⟩ := q
            rw [hgd] at hx
            dsimp only at hx
            split at hx <;> try (cases hx; done)
            rename_i g hg
            obtain ⟨g1, g2⟩ := isB_ok hgd hg
            obtain ⟨v, hv, hx⟩ := vb_ok hx
            rw [putK_eq] at hx
            cases hb : isB w g with
            | true =>
              rw [hb] at hv g2
              have hv : opV P tab.pu cl o.op o.type t h = some v := hv
              have hv' := aread_load hcl hl hv
              obtain ⟨L', h1, h2⟩ := ih (L := (o, t, v) :: L) (fun h q r' hq => by
                obtain ⟨q1, q2⟩ := hck _ _ _ hq
                rw [hb] at q1
                obtain ⟨q3, q4⟩ := lchk_ok q1
                refine ⟨q4, fun e he => ?_⟩
                rcases List.mem_cons.1 he with rfl | he
                · exact aread_load (pu := tab.pu) hcl hl q3
                · exact q2 e he) hx
              rw [aput_length] at h2
              refine ⟨L', fun e he => h1 e (.tail _ he), ?_⟩
              unfold AOpsF AOpF
              dsimp only
              refine ⟨g1, ?_⟩
              rw [if_pos g2]
              exact .inr (.inl ⟨v, hv', fun _ k hk => hk _ (h1 _ (.head _)), h2⟩)
            | false =>
              rw [hb] at hv g2
              cases hv
              obtain ⟨L', h1, h2⟩ := ih (L := L) (fun h q r' hq => by
                obtain ⟨q1, q2⟩ := hck _ _ _ hq
                exact ⟨(lchk_ok q1).2, q2⟩) hx
              rw [aput_length] at h2
              refine ⟨L', h1, ?_⟩
              unfold AOpsF AOpF
              dsimp only
              refine ⟨g1, ?_⟩
              rw [if_neg (by simp [g2])]
              exact h2

/-- A run that leaves what was told. -/
def Leaves (K : Tm → PH → R) : Prop := ∀ t h r, K t h = some r → Inv h r.2
theorem exOpG_inv {vc : Bool} {mv : Option Operand} {fV : Option Value} {fH : R} {ops : Array Oper} {o : Oper} {K : Tm → PH → R} {t : Tm} {h : PH} {r : Value × PH} (hK : Leaves K) (hH : ∀ v h', fH = some (v, h') → Inv h h') (hx : exOpG vc mv fV fH ops o K t h = some r) : Inv h r.2 := by
  unfold exOpG at hx
  split at hx
  · split at hx
    · split at hx
      · split at hx <;> try (cases hx; done)
        rw [putK_eq] at hx; exact hK _ _ _ hx
      · obtain ⟨v, hv, hx⟩ := vb_ok hx
        rw [putK_eq] at hx; exact hK _ _ _ hx
    · split at hx <;> try (cases hx; done)
      obtain ⟨v, hv, hx⟩ := vb_ok hx
      rw [putK_eq] at hx; exact hK _ _ _ hx
  · split at hx
    · obtain ⟨v, h', hv, hx⟩ := hb_ok hx
      rw [putK_eq] at hx; exact (hH _ _ hv).trans (hK _ _ _ hx)
    · split at hx <;> try (cases hx; done)
      obtain ⟨v, h', hv, hx⟩ := hb_ok hx
      rw [putK_eq] at hx
      generalize isB _ _ = bb at hv
      cases bb with
      | true => exact (hH _ _ hv).trans (hK _ _ _ hx)
      | false => cases hv; exact hK _ _ _ hx
theorem exOp_inv {P : Program} {tab : Tab} {cl : CL} (hcl : OkCL P cl) {ops : Array Oper} {o : Oper} {K : Tm → PH → R} (hK : Leaves K) : Leaves (exOp P tab cl ops o K) :=
  fun t h r hx => exOpG_inv hK (fun v h' hv => opH_inv hcl hv) hx
theorem exOps_inv {P : Program} {tab : Tab} {cl : CL} (hcl : OkCL P cl) {ops : Array Oper} {K : Tm → PH → R} (hK : Leaves K) : ∀ l, Leaves (exOps P tab cl ops l K)
  | [] => hK
  | o :: l => exOp_inv hcl (exOps_inv hcl hK l)
theorem exOpsE_inv {P : Program} {tab : Tab} {cl : CL} (hcl : OkCL P cl) {ops : Array Oper} {ck : CK} (hck : ∀ h q r', ck h q = some r' → q = some r') {K : Tm → PH → R} (hK : Leaves K) : ∀ l, Leaves (exOpsE P tab cl ops ck l K)
  | [] => hK
  | (o, false) :: l => exOp_inv hcl (exOpsE_inv hcl hck hK l)
  | (o, true) :: l => by
    unfold exOpsE
    dsimp only
    cases isE o.op with
    | false => intro t h r hx; cases hx
    | true => exact exOp_inv hcl fun t h r hx => exOpsE_inv hcl hck hK l _ _ _ (hck _ _ _ hx)
theorem exOpsF_inv {P : Program} {tab : Tab} {cl : CL} (hcl : OkCL P cl) {ops : Array Oper} {K : Tm → PH → R} (hK : Leaves K) : ∀ (l : List FOp) (ck : CK), (∀ h q r', ck h q = some r' → q = some r') → Leaves (exOpsF P tab cl ops l ck K)
  | [], _, _ => hK
  | (o, false) :: l, ck, hck => exOp_inv hcl (exOpsF_inv hcl hK l ck hck)
  | (o, true) :: l, ck, hck => by
    unfold exOpsF
    dsimp only
    cases isE o.op with
    | true => exact exOp_inv hcl fun t h r hx => exOpsE_inv hcl hck hK l _ _ _ (hck _ _ _ hx)
    | false =>
      cases isL o.op with
      | false => intro t h r hx; cases hx
      | true =>
        intro t h r hx
        dsimp only at hx
        split at hx
        · obtain ⟨v, hv, hx⟩ := vb_ok hx
          rw [putK_eq] at hx
          exact exOpsF_inv hcl hK l _ (fun h q r' hq => (lchk_ok (hck _ _ _ hq)).2) _ _ _ hx
        · split at hx <;> try (cases hx; done)
          obtain ⟨v, hv, hx⟩ := vb_ok hx
          rw [putK_eq] at hx
          exact exOpsF_inv hcl hK l _ (fun h q r' hq => (lchk_ok (hck _ _ _ hq)).2) _ _ _ hx

/-- The operations of these numbers. -/
def pickOps (ops : Array Oper) (l : List Nat) : List Oper := l.filterMap fun i => ops[i]?

theorem AOpsF.of {P : Program} {ops : Array Oper} {K : Tm → Heap → Prop} (l : List Nat) : ∀ {t : Tm} {h : Heap}, AOps P ops K (pickOps ops l) t h → AOpsF P ops (fun _ => True) K (fops ops [] l) t h := by
  induction l with
  | nil => intro t h hk; exact hk
  | cons i l ih =>
    intro t h hk
    simp only [pickOps, fops, List.filterMap_cons, fop] at hk ih ⊢
    cases ho : ops[i]? with
    | none => rw [ho] at hk; exact ih hk
    | some o =>
      rw [ho] at hk
      dsimp only at hk ⊢
      have hk : AOp P ops o (AOps P ops K (l.filterMap fun i => ops[i]?)) t h := hk
      show AOpF P ops (fun _ => True) (o, List.contains [] i) _ t h
      unfold AOp at hk
      unfold AOpF
      refine ⟨hk.1, ?_⟩
      replace hk := hk.2
      split
      · rename_i hw
        rw [if_pos hw] at hk
        rcases hk with ⟨v, h1, h2⟩ | ⟨v, h1, h2⟩ | ⟨v, h', h1, h2⟩ | ⟨f, args, R, h1, h2, h3⟩
        · exact .inl ⟨v, h1, ih h2⟩
        · exact .inr (.inl ⟨v, h1, fun hf => by simp at hf, ih h2⟩)
        · exact .inr (.inr (.inl ⟨v, h', h1, fun hf => by simp at hf, ih h2⟩))
        · exact .inr (.inr (.inr ⟨f, args, R, h1, h2, fun v h' hr => ⟨fun hf => by simp at hf, ih (h3 v h' hr)⟩⟩))
      · rename_i hw
        rw [if_neg hw] at hk
        exact ih hk

/-! ### a piece of code -/
def nE : Code → Nat → Nat
  | .exit j, i => match Nat.beq i j with
    | true => 1
    | false => 0
  | .seq a b, i => nE a i + nE b i
  | .cond _ x y, i => nE x i + nE y i
  | .block _ c, i => nE c i
  | .loop c, i => nE c i
  | _, _ => 0
/-- In how many places a piece comes to its end. -/
def nN : Code → Nat
  | .skip => 1
  | .region .. => 1
  | .seq a b => match nN a with
    | 0 => 0
    | _ => nN b
  | .cond _ x y => nN x + nN y
  | .block i c => nN c + nE c i
  | _ => 0
def keyC : Code → Option Nat
  | .region i _ _ => some i
  | .seq a b => match keyC a with
    | some i => some i
    | none => keyC b
  | .cond _ x y => match keyC x with
    | some i => some i
    | none => keyC y
  | .block _ c => keyC c
  | .loop c => keyC c
  | _ => none
def lk : List (Nat × List Nat) → Nat → List Nat
  | [], _ => []
  | (j, l) :: xs, i => match Nat.beq i j with
    | true => l
    | false => lk xs i
def jkey (a b : Code) : Option Nat := match nN a with
  | 0 => none
  | 1 => none
  | _ => keyC b
def pickK : List Nat → Tm → (List Value → R) → R
  | [], _, K => K []
  | l :: ls, t, K => match tget t l with
    | some v => pickK ls t fun vs => K (v :: vs)
    | none => none
noncomputable def reload : List Nat → List Value → Tm → (Tm → R) → R
  | [], _, t, K => K t
  | l :: ls, ys, t, K => ucons ys fun y ys => lset t l y fun t => reload ls ys t K
def rep : Nat → Tm
  | 0 => []
  | .succ n => none :: rep n
abbrev KE := Exit → Tm → PH → R
def Kseq (kb : Tm → PH → R) (K : KE) : KE := fun e => match e with
  | .normal => kb
  | e => K e
def Kblk (i : Nat) (K : KE) : KE := fun e => match e with
  | .exit j => match Nat.beq j i with
    | true => K .normal
    | false => K (.exit j)
  | e => K e
def chkO (P : Program) (ops : Array Oper) (fl ord : List Nat) : Bool := chkD P ops fl ord
def nb (h : PH) (K : Nat → R) : R := K h.n

noncomputable def ex (P : Program) (n : Nat) (cl : CL) (tab : Tab) (nt : Nat) : Code → KE → Tm → PH → R
  | .skip, K => K .normal
  | .exit i, K => K (.exit i)
  | .ret, K => K .ret
  | .region i ops d, K => match memN tab.dd i with
    | true => fun _ _ => none
    | false => match d with
      | false => exOps P tab cl ops ops.toList (K .normal)
      | true => match chkO P ops (lk tab.fl i) (lk tab.ords i) with
        | true => match lk tab.fl i with
          | [] => exOps P tab cl ops (pickOps ops (lk tab.ords i)) (K .normal)
          | _ => exOpsF P tab cl ops (fops ops (lk tab.fl i) (lk tab.ords i)) (fun _ r => r) (K .normal)
        | false => fun _ _ => none
  | .seq a b, K => match jkey a b with
    | none => ex P n cl tab nt a (Kseq (ex P n cl tab nt b K) K)
    | some i => fun t h => jn (fun ys h => reload (lk tab.live i) ys (rep nt) fun t => ex P n cl tab nt b K t h)
        fun k => ex P n cl tab nt a (Kseq (fun t h => pickK (lk tab.live i) t fun ys => k ys h) K) t h
  | .cond c x y, K => fun t h => match ev t c with
    | some v => bite v (ex P n cl tab nt x K t h) (ex P n cl tab nt y K t h)
    | none => none
  | .block i c, K => ex P n cl tab nt c (Kblk i K)
  | .loop c, K => match keyC c with
    | some i => fun t h => pickK (lk tab.live i) t fun ys => lp n (fun rec ys h => reload (lk tab.live i) ys (rep nt) fun t => ex P n cl tab nt c (Kseq (fun t h => pickK (lk tab.live i) t fun ys => rec ys h) K) t h) ys h
    | none => fun _ _ => none
  | _, _ => fun _ _ => none

theorem rep_length (n : Nat) : (rep n).length = n := by induction n <;> simp_all [rep]
theorem rep_get (n i : Nat) (v : Value) : (rep n)[i]? ≠ some (some v) := by
  induction n generalizing i with
  | zero => simp [rep]
  | succ n ih => cases i with
    | zero => simp [rep]
    | succ i => simpa [rep] using ih i

theorem pickK_ok {r : Value × PH} {t : Tm} : ∀ {L : List Nat}, ∀ {K : List Value → R}, pickK L t K = some r → ∃ ys, L.map (tget t) = ys.map some ∧ K ys = some r := by
  intro L
  induction L with
  | nil => intro K h; exact ⟨[], rfl, h⟩
  | cons l L ih =>
    intro K h
    simp only [pickK] at h
    split at h <;> try (cases h; done)
    rename_i v hv
    obtain ⟨ys, h1, h2⟩ := ih h
    exact ⟨v :: ys, by simp [hv, h1], h2⟩

/-- What is picked and laid again. -/
theorem reload_ok {t : Tm} {K : Tm → R} {r : Value × PH} : ∀ {L : List Nat} {ys : List Value} {t0 : Tm}, L.map (tget t) = ys.map some → reload L ys t0 K = some r →
    t0.length = t.length → (∀ (i : Nat) v, t0[i]? = some (some v) → t[i]? = some (some v)) →
    ∃ t', t'.length = t.length ∧ (∀ (i : Nat) v, t'[i]? = some (some v) → t[i]? = some (some v)) ∧ K t' = some r := by
  intro L
  induction L with
  | nil => intro ys t0 _ h hl hs; exact ⟨t0, hl, hs, h⟩
  | cons l L ih =>
    intro ys t0 hm h hl hs
    cases ys with
    | nil => simp at hm
    | cons y ys =>
      simp only [List.map_cons, List.cons.injEq] at hm
      simp only [reload, ucons, lset_eq] at h
      refine ih hm.2 h (by simp [hl]) fun i v hv => ?_
      by_cases hli : l = i
      · subst hli
        have hlt : l < t0.length := by
          have := (List.getElem?_eq_some_iff.1 hv).1
          simpa using this
        rw [List.getElem?_set_self hlt] at hv
        cases hv
        have h1 := hm.1
        unfold tget at h1
        split at h1 <;> simp at h1
        subst h1
        assumption
      · rw [List.getElem?_set_ne hli] at hv
        exact hs i v hv

theorem ex_ok {P : Program} {n : Nat} {cl : CL} {tab : Tab} {nt : Nat} (hcl : OkCL P cl) (hm : P.follows .mixedOrders = true) (c : Code) : ∀ {K : KE} {t : Tm} {h : PH} {r : Value × PH}, t.length = nt → ex P n cl tab nt c K t h = some r →
    AWp P c (fun e t' k => t'.length = nt ∧ ∃ h', h'.abs = k ∧ K e t' h' = some r) t h.abs := by
  induction c with
  | skip => intro K t h r hl hx; exact AWp.skip ⟨hl, h, rfl, hx⟩
  | exit i => intro K t h r hl hx; exact AWp.exit ⟨hl, h, rfl, hx⟩
  | ret => intro K t h r hl hx; exact AWp.ret ⟨hl, h, rfl, hx⟩
  | region i ops d =>
    intro K t h r hl hx
    simp only [ex] at hx
    cases hdd : memN tab.dd i with
    | true => rw [hdd] at hx; cases hx
    | false =>
    rw [hdd] at hx
    dsimp only at hx
    cases d with
    | false =>
      refine AWp.region ?_
      have := exOps_ok hcl hx
      rw [hl] at this
      exact this
    | true =>
      dsimp only at hx
      cases hchk : chkO P ops (lk tab.fl i) (lk tab.ords i) with
      | false => rw [hchk] at hx; cases hx
      | true =>
      rw [hchk] at hx
      dsimp only at hx
      cases hfl : lk tab.fl i with
      | nil =>
        rw [hfl] at hx hchk
        have := exOps_ok hcl hx
        rw [hl] at this
        exact AWp.drawn [] _ (fun _ => True) hm hchk (AOpsF.of _ this)
      | cons z zs =>
        rw [hfl] at hx hchk
        obtain ⟨L, _, this⟩ := exOpsF_ok hcl (L := []) (fun h q r' hq => ⟨hq, fun e he => by cases he⟩) hx
        rw [hl] at this
        exact AWp.drawn (z :: zs) _ _ hm hchk this
  | seq a b iha ihb =>
    intro K t h r hl hx
    simp only [ex] at hx
    refine AWp.seq ?_
    cases hj : jkey a b with
    | none =>
      rw [hj] at hx
      refine AWp.mono (iha hl hx) ?_
      rintro e t' k ⟨hl', h', rfl, hk⟩
      cases e with
      | normal => exact ihb hl' hk
      | _ => exact ⟨hl', h', rfl, hk⟩
    | some i =>
      rw [hj] at hx
      refine AWp.mono (iha hl hx) ?_
      rintro e t' k ⟨hl', h', rfl, hk⟩
      cases e with
      | normal =>
        simp only [Kseq] at hk
        obtain ⟨ys, h1, h2⟩ := pickK_ok hk
        obtain ⟨t2, h3, h4, h5⟩ := reload_ok h1 h2 (by rw [rep_length, hl']) (fun i v hv => absurd hv (rep_get _ _ _))
        exact AWp.weak h3 h4 (ihb (h3.trans hl') h5)
      | _ => exact ⟨hl', h', rfl, hk⟩
  | cond c x y ihx ihy =>
    intro K t h r hl hx
    simp only [ex] at hx
    split at hx <;> try (cases hx; done)
    rename_i v hv
    rcases bite_ok hx with ⟨rfl, hx⟩ | ⟨rfl, hx⟩
    · exact AWp.cond (b := true) hv (ihx hl hx)
    · exact AWp.cond (b := false) hv (ihy hl hx)
  | block i c ih =>
    intro K t h r hl hx
    simp only [ex] at hx
    refine AWp.block (AWp.mono (ih hl hx) ?_)
    rintro e t' k ⟨hl', h', rfl, hk⟩
    cases e with
    | exit j =>
      simp only [Kblk] at hk
      unfold blockQ
      dsimp only
      cases hj : Nat.beq j i with
      | true =>
        rw [hj] at hk
        rw [if_pos (Nat.eq_of_beq_eq_true hj)]
        exact ⟨hl', h', rfl, hk⟩
      | false =>
        rw [hj] at hk
        rw [if_neg (Nat.ne_of_beq_eq_false hj)]
        exact ⟨hl', h', rfl, hk⟩
    | _ => exact ⟨hl', h', rfl, hk⟩
  | loop c ih =>
    intro K t h r hl hx
    simp only [ex] at hx
    cases hi : keyC c with
    | none => rw [hi] at hx; cases hx
    | some i =>
    rw [hi] at hx
    dsimp only at hx
    generalize hL : lk tab.live i = L at hx
    generalize hbody : (fun (rec : Kt) (ys : List Value) (h : PH) => reload L ys (rep nt) fun t => ex P n cl tab nt c (Kseq (fun t h => pickK L t fun ys => rec ys h) K) t h) = body at hx
    have hx : pickK L t (fun ys => lp n body ys h) = some r := hx
    refine AWp.loop (fun m t' k => t'.length = nt ∧ ∃ h', h'.abs = k ∧ pickK L t' (fun ys => lp m body ys h') = some r) n ⟨hl, h, rfl, hx⟩ ?_
    rintro m t' k ⟨hl', h', rfl, hk⟩
    obtain ⟨ys, h1, h2⟩ := pickK_ok hk
    cases m with
    | zero => cases h2
    | succ m =>
      have h2 : body (lp m body) ys h' = some r := h2
      rw [← hbody] at h2
      dsimp only at h2
      obtain ⟨t2, h3, h4, h5⟩ := reload_ok h1 h2 (by rw [rep_length, hl']) (fun i v hv => absurd hv (rep_get _ _ _))
      refine AWp.weak h3 h4 (AWp.mono (ih (h3.trans hl') h5) ?_)
      rintro e t3 k ⟨hl3, h6, rfl, hk3⟩
      cases e with
      | normal =>
        simp only [Kseq] at hk3
        rw [hbody] at hk3
        exact ⟨m, Nat.lt_succ_self m, hl3, h6, rfl, hk3⟩
      | _ => exact ⟨hl3, h6, rfl, hk3⟩
  | _ => intro K t h r hl hx; simp [ex] at hx

theorem pickK_leaves {L : List Nat} {t : Tm} {h : PH} {r : Value × PH} {K : List Value → R} (hK : ∀ ys, K ys = some r → Inv h r.2) (hx : pickK L t K = some r) : Inv h r.2 := by
  obtain ⟨ys, _, h2⟩ := pickK_ok hx
  exact hK ys h2
theorem reload_leaves {h : PH} {r : Value × PH} : ∀ {L : List Nat} {ys : List Value} {t : Tm} {K : Tm → R}, (∀ t, K t = some r → Inv h r.2) → reload L ys t K = some r → Inv h r.2 := by
  intro L
  induction L with
  | nil => intro ys t K hK hx; exact hK t hx
  | cons l L ih =>
    intro ys t K hK hx
    cases ys with
    | nil => cases hx
    | cons y ys =>
      simp only [reload, ucons, lset_eq] at hx
      exact ih hK hx

theorem ex_inv {P : Program} {n : Nat} {cl : CL} {tab : Tab} {nt : Nat} (hcl : OkCL P cl) (c : Code) : ∀ {K : KE}, (∀ e, Leaves (K e)) → Leaves (ex P n cl tab nt c K) := by
  induction c with
  | skip => intro K hK; exact hK _
  | exit i => intro K hK; exact hK _
  | ret => intro K hK; exact hK _
  | region i ops d =>
    intro K hK t h r hx
    simp only [ex] at hx
    cases hdd : memN tab.dd i with
    | true => rw [hdd] at hx; cases hx
    | false =>
    rw [hdd] at hx
    dsimp only at hx
    cases d with
    | false => exact exOps_inv hcl (hK _) _ t h r hx
    | true =>
      dsimp only at hx
      cases hchk : chkO P ops (lk tab.fl i) (lk tab.ords i) with
      | false => rw [hchk] at hx; cases hx
      | true =>
      rw [hchk] at hx
      dsimp only at hx
      cases hfl : lk tab.fl i with
      | nil => rw [hfl] at hx; exact exOps_inv hcl (hK _) _ t h r hx
      | cons z zs => rw [hfl] at hx; exact exOpsF_inv hcl (hK _) _ _ (fun _ _ _ h => h) t h r hx
  | seq a b iha ihb =>
    intro K hK t h r hx
    simp only [ex] at hx
    cases hj : jkey a b with
    | none =>
      rw [hj] at hx
      refine iha (fun e => ?_) t h r hx
      cases e with
      | normal => exact ihb hK
      | _ => exact hK _
    | some i =>
      rw [hj] at hx
      refine iha (fun e => ?_) t h r hx
      cases e with
      | normal => exact fun t h r hx => pickK_leaves (fun ys hy => reload_leaves (fun t ht => ihb hK t h r ht) hy) hx
      | _ => exact hK _
  | cond c x y ihx ihy =>
    intro K hK t h r hx
    simp only [ex] at hx
    split at hx <;> try (cases hx; done)
    rcases bite_ok hx with ⟨rfl, hx⟩ | ⟨rfl, hx⟩
    · exact ihx hK t h r hx
    · exact ihy hK t h r hx
  | block i c ih =>
    intro K hK t h r hx
    simp only [ex] at hx
    refine ih (fun e => ?_) t h r hx
    cases e with
    | exit j =>
      simp only [Kblk]
      cases Nat.beq j i <;> exact hK _
    | _ => exact hK _
  | loop c ih =>
    intro K hK t h r hx
    simp only [ex] at hx
    cases hi : keyC c with
    | none => rw [hi] at hx; cases hx
    | some i =>
    rw [hi] at hx
    dsimp only at hx
    refine pickK_leaves (fun ys hy => ?_) hx
    clear hx
    revert hy
    generalize hbody : (fun (rec : Kt) (ys : List Value) (h : PH) => reload (lk tab.live i) ys (rep nt) fun t => ex P n cl tab nt c (Kseq (fun t h => pickK (lk tab.live i) t fun ys => rec ys h) K) t h) = body
    have key : ∀ m ys h r, lp m body ys h = some r → Inv h r.2 := by
      intro m
      induction m with
      | zero => intro ys h r hx; cases hx
      | succ m ihm =>
        intro ys h r hx
        have hx : body (lp m body) ys h = some r := hx
        rw [← hbody] at hx
        dsimp only at hx
        rw [hbody] at hx
        refine reload_leaves (fun t ht => ih (fun e => ?_) t h r ht) hx
        cases e with
        | normal => exact fun t h r hx => pickK_leaves (fun ys hy => ihm ys h r hy) hx
        | _ => exact hK _
    intro hy
    exact key n ys h r hy
  | _ => intro K hK t h r hx; simp [ex] at hx

/-! ### a function -/
noncomputable def fin1 (P : Program) (t : Tm) (h : PH) : ResultVar → Option Value
  | .tmp i => tget t i
  | .cell a T => match tget t a with
    | some v => match scal P T with
      | true => xLd v h
      | false => match aggSz P T with
        | some (.succ n) => xLdA (.succ n) v h
        | _ => none
    | none => none
noncomputable def finL (P : Program) (t : Tm) (h : PH) : List ResultVar → (List Value → R) → R
  | [], K => K []
  | .tmp i :: rs, K => match tget t i with
    | some v => finL P t h rs fun vs => K (v :: vs)
    | none => none
  | r :: rs, K => vb (fin1 P t h r) fun v => finL P t h rs fun vs => K (v :: vs)
def fin2 (h : PH) (vs : List Value) : R := match vs with
  | [v] => some (v, h)
  | vs => some (.tuple ⟨vs⟩, h)
noncomputable def Kfin (P : Program) (fn : Func) : KE := fun e t h => match e with
  | .normal => finL P t h fn.results.toList (fin2 h)
  | .ret => finL P t h fn.results.toList (fin2 h)
  | _ => none
def frame : List Value → Nat → Tm
  | [], n => rep n
  | x :: xs, n => match n with
    | 0 => []
    | .succ n => some x :: frame xs n
noncomputable def exF (P : Program) (n : Nat) (cl : CL) (tab : Tab) (fn : Func) (args : List Value) (h : PH) : R := match fn.body with
  | some c => match Nat.ble args.length fn.ntmps with
    | true => ex P n cl tab fn.ntmps c (Kfin P fn) (frame args fn.ntmps) h
    | false => none
  | none => none

theorem frame_eq (xs : List Value) (n : Nat) (h : xs.length ≤ n) : frame xs n = xs.map some ++ List.replicate (n - xs.length) none := by
  induction xs generalizing n with
  | nil =>
    simp only [frame, List.map_nil, List.nil_append, List.length_nil, Nat.sub_zero]
    induction n with
    | zero => rfl
    | succ n ih => simp [rep, List.replicate_succ]; exact ih (Nat.zero_le _)
  | cons x xs ih =>
    cases n with
    | zero => simp at h
    | succ n => simp [frame]; exact ih n (by simpa using h)

theorem fin1_ok {P : Program} {t : Tm} {h : PH} {rv : ResultVar} {v : Value} (hx : fin1 P t h rv = some v) : aresult1 P t h.abs rv = some v := by
  cases rv with
  | tmp i => exact hx
  | cell a T =>
    simp only [fin1] at hx
    simp only [aresult1]
    split at hx <;> try (cases hx; done)
    rename_i hv
    simp only [hv]
    split at hx
    · exact xLd_ok ‹_› hx
    · split at hx <;> try (cases hx; done)
      exact xLdA_ok ‹_› (Nat.succ_pos _) hx
theorem finL_ok {P : Program} {t : Tm} {h : PH} {r : Value × PH} : ∀ {rs : List ResultVar} {K : List Value → R}, finL P t h rs K = some r → ∃ vs, aresultL P t h.abs rs = some vs ∧ K vs = some r := by
  intro rs
  induction rs with
  | nil => intro K hx; exact ⟨[], rfl, hx⟩
  | cons rv rs ih =>
    intro K hx
    have : ∃ v, fin1 P t h rv = some v ∧ (finL P t h rs fun vs => K (v :: vs)) = some r := by
      cases rv with
      | tmp i =>
        simp only [finL] at hx
        split at hx <;> try (cases hx; done)
        rename_i v hv
        exact ⟨v, hv, hx⟩
      | cell a T => exact vb_ok hx
    obtain ⟨v, hv, hx⟩ := this
    obtain ⟨vs, h1, h2⟩ := ih hx
    exact ⟨v :: vs, by simp [aresultL, fin1_ok hv, h1], h2⟩

theorem finL_leaves {P : Program} {t : Tm} {h : PH} {r : Value × PH} : ∀ {rs : List ResultVar} {K : List Value → R}, (∀ vs, K vs = some r → Inv h r.2) → finL P t h rs K = some r → Inv h r.2 := by
  intro rs K hK hx
  obtain ⟨vs, _, h2⟩ := finL_ok hx
  exact hK vs h2
theorem fin2_leaves {h : PH} {vs : List Value} {r : Value × PH} (hx : fin2 h vs = some r) : Inv h r.2 := by
  unfold fin2 at hx
  split at hx <;> (cases hx; exact Inv.refl h)
theorem Kfin_leaves (P : Program) (fn : Func) (e : Exit) : Leaves (Kfin P fn e) := by
  intro t h r hx
  cases e with
  | normal => exact finL_leaves (fun vs => fin2_leaves) hx
  | ret => exact finL_leaves (fun vs => fin2_leaves) hx
  | _ => cases hx

theorem exF_ok {P : Program} {n : Nat} {cl : CL} {tab : Tab} (hcl : OkCL P cl) (hm : P.follows .mixedOrders = true) {f : FuncId} {fn : Func} (hf : P.funcs[f]? = some fn) (hnm : (fn.name == "runtime.NumGoroutine") = false) {args : List Value} {h h' : PH} {v : Value}
    (hx : exF P n cl tab fn args h = some (v, h')) : (enterable P f = true ∧ ACall P f args h.abs (fun u k => u = v ∧ k = h'.abs)) ∧ Inv h h' := by
  unfold exF at hx
  split at hx <;> try (cases hx; done)
  rename_i c hb
  split at hx <;> try (cases hx; done)
  rename_i hle
  have hle := Nat.le_of_ble_eq_true hle
  refine ⟨⟨by simp [enterable, hf, hb, hnm], ACall.of hf hb ?_⟩, ex_inv hcl c (Kfin_leaves P fn) _ _ _ hx⟩
  rw [← frame_eq _ _ hle]
  refine AWp.mono (ex_ok hcl hm c (by rw [frame_eq _ _ hle]; simp; omega) hx) ?_
  rintro e t' k ⟨hl, h2, rfl, hk⟩
  have fin : finL P t' h2 fn.results.toList (fin2 h2) = some (v, h') → ∃ u, aresults P fn t' h2.abs = some u ∧ u = v ∧ h2.abs = h'.abs := by
    intro hk
    obtain ⟨vs, h1, h3⟩ := finL_ok hk
    unfold aresults
    rw [h1]
    unfold fin2 at h3
    split at h3
    · cases h3; exact ⟨_, rfl, rfl, rfl⟩
    · rename_i hne
      cases h3
      match vs, hne with
      | [], _ => exact ⟨_, rfl, rfl, rfl⟩
      | [a], hne => exact absurd rfl (hne a)
      | a :: b :: l, _ => exact ⟨_, rfl, rfl, rfl⟩
  cases e with
  | normal => exact fin hk
  | ret => exact fin hk
  | _ => simp [Kfin] at hk
end Go.Am

set_option linter.unusedSimpArgs false
set_option linter.unusedVariables false
namespace Go.Am
open Go Go.RowKit
/-- A whole number as it stands in a text. -/
def vN (n : Nat) : Value := .int .i64 (.ofNat n)
def vM (n : Nat) : Value := .int .i64 (.negSucc n)
def tt : Value := .bool true
def ff : Value := .bool false
def nils : Value := .slice none 0 0
def fnV (f : Nat) (a b : List Value) : Value := .func (.func f) ⟨a⟩ ⟨b⟩
/-- A call is told by the function of this number. -/
noncomputable def sw (g k : Nat) (x y : R) : R := Bool.rec (motive := fun _ => R) y x (Nat.beq g k)
theorem sw_ok {g k : Nat} {x y : R} {r : Value × PH} (h : sw g k x y = some r) : (g = k ∧ x = some r) ∨ y = some r := by
  unfold sw at h
  cases hb : Nat.beq g k with
  | true => rw [hb] at h; exact .inl ⟨Nat.eq_of_beq_eq_true hb, h⟩
  | false => rw [hb] at h; exact .inr h
def u0 (as : List Value) (x : R) : R := match as with
  | [] => x
  | _ => none
theorem ucons_ok {as : List Value} {K : Value → List Value → R} {r : Value × PH} (h : ucons as K = some r) : ∃ a bs, as = a :: bs ∧ K a bs = some r := by
  cases as with
  | nil => cases h
  | cons a bs => exact ⟨a, bs, rfl, h⟩
theorem u0_ok {as : List Value} {x : R} {r : Value × PH} (h : u0 as x = some r) : as = [] ∧ x = some r := by
  cases as with
  | nil => exact ⟨rfl, h⟩
  | cons a bs => cases h
end Go.Am

set_option linter.unusedSimpArgs false
set_option linter.unusedVariables false
namespace Go.Am
open Go Go.RowKit Go.ChangeShapes Go.WideShapes Go.ChangeAt
/-- Nothing is there yet. -/
def h00 : PH := ⟨0, 0, .leaf⟩
def CNo : CL := fun _ _ _ => none
theorem CNo_ok (P : Program) : OkCL P CNo := fun _ _ _ _ _ hx => by cases hx
/-- Is the answer yes? -/
noncomputable def isT (r : R) : Bool := Option.rec (motive := fun _ => Bool) false (fun p => isB true p.1) r
theorem isB_true {v : Value} (h : isB true v = true) : v = .bool true := by
  unfold isB at h
  split at h
  · rename_i b; simp at h; rw [h]
  · cases h
theorem isT_ok {r : R} (h : isT r = true) : ∃ k, r = some (.bool true, k) := by
  cases r with
  | none => cases h
  | some p =>
    have := isB_true h
    exact ⟨p.2, by rw [← this]⟩
/-- All of so many numbers, from one on. -/
noncomputable def allR (lo n : Nat) (f : Nat → Bool) : Bool := Nat.rec (motive := fun _ => Bool) true (fun m ih => Bool.rec (motive := fun _ => Bool) false ih (seqN (Nat.add lo m) f)) n
theorem allR_ok {lo n : Nat} {f : Nat → Bool} (h : allR lo n f = true) : ∀ m, lo ≤ m → m < lo + n → f m = true := by
  induction n with
  | zero => intro m h1 h2; omega
  | succ n ih =>
    intro m h1 h2
    have h : Bool.rec (motive := fun _ => Bool) false (allR lo n f) (seqN (Nat.add lo n) f) = true := h
    rw [seqN_eq] at h
    cases hf : f (Nat.add lo n) with
    | false => rw [hf] at h; cases h
    | true =>
      rw [hf] at h
      by_cases he : m = lo + n
      · rw [he]; exact hf
      · exact ih h m h1 (by omega)

theorem rel0 (w : World) : Rel w.heap.size w (fun _ => none) [] w where
  below := Below.refl _ _
  base := Nat.le_refl _
  fin := fun b L hb => by cases hb
  lt := fun b L o hb => by cases hb
  obj := fun b o ho => by simp at ho
  sep := fun b b' o o' L L' _ ho => by simp at ho

/-- A call over nothing, told of the true world. -/
theorem calls_of {P : Program} {f : FuncId} {args : List Value} {v : Value} {Q : Heap → Prop} (hp : plainV.plainVs args = true) (hv : plainV v = true) (h : ACall P f args [] (fun u k => u = v ∧ Q k)) (w : World) :
    Calls P f ⟨args⟩ w fun e w' => e = .returned v ∧ Below w.heap.size w w' := by
  refine (h w.heap.size w (fun _ => none) args w (rel0 w) (VRs.plain hp)).mono ?_
  rintro e w' ⟨u, v', h', ρ', rfl, ⟨rfl, _⟩, _, hr, hvr⟩
  exact ⟨by rw [hvr.plain_eq hv], hr.below⟩

/-- What a row asks of a call that leaves old memory as it was. -/
theorem post_of_below {P : Program} {H : Type} {enc : TypeId × Value → H} {f : Func} {s : ChangeSpec} {apart fresh handsOn again : Bool} {W W' : World} {args : Array Value} {v : Value} {ds gs : List (DataW H)} {before pa pv : List MemPlace}
    (hW : DataW.Whole enc P f.params.toList s.vars apart W args.toList ds gs before)
    (hres : ∀ (b : Nat) (sp : Nat → Bool) (hd : Bool), DataW.TrodAll enc P W' b sp hd f.resultTypes.toList (v.resultList f.resultTypes.size) (s.fn H (ds ++ gs)).results [])
    (hargs : ∀ sp : Nat → Bool, (∀ p ∈ before, sp p.block = true) → DataW.TrodAll enc P W' 0 sp true f.params.toList args.toList (s.fn H (ds ++ gs)).args pa)
    (hvars : ∀ sp : Nat → Bool, (∀ p ∈ before, sp p.block = true) → DataW.TrodVars enc P W' sp s.vars (s.fn H (ds ++ gs)).vars pv)
    (hps : before = pa ++ pv) (hb : Below W.heap.size W W')
    (hok : ∀ (j : Nat) (t : TypeId) (r : Value), f.resultTypes[j]? = some t → (v.resultList f.resultTypes.size)[j]? = some r → Value.okWide P W' .any 0 t r) :
    s.post enc P f apart fresh handsOn again W args v W' := by
  have hlt : ∀ p ∈ before, p.block < W.heap.size := fun p hp => hW.lt p hp
  have hsp : ∀ p ∈ before, (fun b => decide (b < W.heap.size)) p.block = true := fun p hp => by simpa using hlt p hp
  refine ⟨ds, gs, before, [], pa, pv, hW, hres _ _ _, hargs _ hsp, hvars _ hsp, World.keptBut_mono (fun p hp => ⟨hp, ?_⟩) (hb.frame _), fun _ => ?_⟩
  · rw [hps, List.mem_append] at hp
    exact Or.inr hp
  · obtain ⟨_, _, _, _, _, hz, hn⟩ := hW
    refine ⟨hok, _, _, ([] ++ pa) ++ pv, ⟨[] ++ pa, pv, trodAll_append (hargs _ (fun _ _ => rfl)) (hres _ _ _), hvars _ (fun _ _ => rfl), rfl, ?_, ?_⟩, ?_⟩
    · intro b off hp
      have hp : MemPlace.cell b off ∈ before := by rw [hps]; simpa using hp
      rw [hb.frozen (p := ⟨b, off, none⟩) (hlt _ hp)]
      exact hz b off hp
    · intro ha
      have := hn ha
      rw [hps] at this
      simpa using this
    · intro p hp _
      rw [hps]
      simpa using hp
end Go.Am

set_option linter.unusedSimpArgs false
set_option linter.unusedVariables false
namespace Go.Am
open Go Go.RowKit
/-! ### the words, worked out -/
section
variable {K : Value → R} {K2 : Value → PH → R} {h : PH} {v : Value}
@[simp] theorem vb_some : vb (some v) K = K v := Eq.trans rfl rfl
@[simp] theorem vb_none : vb none K = none := Eq.trans rfl rfl
@[simp] theorem hb_some : hb (some (v, h)) K2 = K2 v h := Eq.trans rfl rfl
@[simp] theorem hb_none : hb none K2 = none := Eq.trans rfl rfl
@[simp] theorem gd_true {o : Option Value} : gd true o = o := Eq.trans rfl rfl
@[simp] theorem gd_false {o : Option Value} : gd false o = some undef := Eq.trans rfl rfl
@[simp] theorem gh_true {o : R} : gh true h o = o := Eq.trans rfl rfl
@[simp] theorem gh_false {o : R} : gh false h o = some (undef, h) := Eq.trans rfl rfl
@[simp] theorem isB_t (b : Bool) : isB true (.bool b) = b := Eq.trans rfl rfl
@[simp] theorem isB_f (b : Bool) : isB false (.bool b) = !b := by cases b <;> exact Eq.trans rfl rfl
@[simp] theorem bite_t {x y : R} : bite (.bool true) x y = x := Eq.trans rfl rfl
@[simp] theorem bite_f {x y : R} : bite (.bool false) x y = y := Eq.trans rfl rfl
theorem bite_d {x y : R} {p : Prop} [Decidable p] : bite (.bool (decide p)) x y = if p then x else y := by by_cases hp : p <;> simp [hp]
theorem bite_b {x y : R} {b : Bool} : bite (.bool b) x y = if b = true then x else y := by cases b <;> simp
@[simp] theorem ucons_cons {y : Value} {ys : List Value} {K : Value → List Value → R} : ucons (y :: ys) K = K y ys := Eq.trans rfl rfl
theorem jn_eq {k : Kt} {b : Kt → R} : jn k b = b k := Eq.trans rfl rfl
theorem lp_succ {n : Nat} {b : Kt → Kt} : lp (n + 1) b = b (lp n b) := Eq.trans rfl rfl
@[simp] theorem nb_eq {K : Nat → R} : nb h K = K h.n := Eq.trans rfl rfl
@[simp] theorem xPick_t {a b : Value} : xPick (.bool true) a b = some a := Eq.trans rfl rfl
@[simp] theorem xPick_f {a b : Value} : xPick (.bool false) a b = some b := Eq.trans rfl rfl
@[simp] theorem xNot_b (b : Bool) : xNot (.bool b) = some (.bool !b) := by cases b <;> exact Eq.trans rfl rfl
@[simp] theorem pcall_some {p : Value × PH} (hp : plainV p.1 = true) : pcall (some p) = some p.1 := by
  show Bool.rec (motive := fun _ => Option Value) none (some p.1) (plainV p.1) = _
  rw [hp]
@[simp] theorem kb_self (k : IntKind) : kb k k = true := by cases k <;> rfl
@[simp] theorem xAdd_i {k : IntKind} {a b : Int} : xAri Int.add (.int k a) (.int k b) = some (.int k (k.wrap (a + b))) := by
  simp only [xAri, two_i, mkI_eq, wr_eq]; rfl
@[simp] theorem xSub_i {k : IntKind} {a b : Int} : xAri Int.sub (.int k a) (.int k b) = some (.int k (k.wrap (a - b))) := by
  simp only [xAri, two_i, mkI_eq, wr_eq]; rfl
@[simp] theorem xMul_i {k : IntKind} {a b : Int} : xAri Int.mul (.int k a) (.int k b) = some (.int k (k.wrap (a * b))) := by
  simp only [xAri, two_i, mkI_eq, wr_eq]; rfl
@[simp] theorem xLt_i {k : IntKind} {a b : Int} : xCmp ilt (.int k a) (.int k b) = some (.bool (decide (a < b))) := by
  simp only [xCmp, two_i, ilt_eq]
@[simp] theorem xLe_i {k : IntKind} {a b : Int} : xCmp ile (.int k a) (.int k b) = some (.bool (decide (a ≤ b))) := by
  simp only [xCmp, two_i, ile_eq]
@[simp] theorem xGt_i {k : IntKind} {a b : Int} : xCmp (fun x y => ilt y x) (.int k a) (.int k b) = some (.bool (decide (b < a))) := by
  simp only [xCmp, two_i, ilt_eq]
@[simp] theorem xGe_i {k : IntKind} {a b : Int} : xCmp (fun x y => ile y x) (.int k a) (.int k b) = some (.bool (decide (b ≤ a))) := by
  simp only [xCmp, two_i, ile_eq]
@[simp] theorem xEq_i {k : IntKind} {a b : Int} : xCmp ieq (.int k a) (.int k b) = some (.bool (decide (a = b))) := by
  simp only [xCmp, two_i, ieq_eq]
@[simp] theorem xNe_i {k : IntKind} {a b : Int} : xCmp ine (.int k a) (.int k b) = some (.bool (!decide (a = b))) := by
  simp only [xCmp, two_i, ine_eq]
end
@[simp] theorem vN_eq (n : Nat) : vN n = .int .i64 n := Eq.trans rfl rfl
@[simp] theorem vM_eq (n : Nat) : vM n = .int .i64 (Int.negSucc n) := Eq.trans rfl rfl
@[simp] theorem tt_eq : tt = .bool true := Eq.trans rfl rfl
@[simp] theorem ff_eq : ff = .bool false := Eq.trans rfl rfl
end Go.Am
