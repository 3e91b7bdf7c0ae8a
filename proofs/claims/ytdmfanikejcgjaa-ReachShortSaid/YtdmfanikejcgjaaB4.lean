import Derived.Test.YtdmfanikejcgjaaB3
set_option linter.unusedSimpArgs false
set_option linter.unusedVariables false
namespace Go.Am
open Go Go.RowKit

/-! ### build -/
def setsL (cs : List Value) (i : Nat) : List Value → List Value
  | [] => cs
  | v :: vs => setsL (cs.set i v) (i + 1) vs

def cellsL : Value → List Value
  | .agg ⟨cs⟩ => cs
  | v => [v]

theorem cellsL_eq (v : Value) : cellsL v = v.cells.toList := by cases v <;> rfl

/-- Parts (place, size of the place, value) laid over cells. -/
def afill (place : Nat → Option (Nat × Nat)) (cells : List Value) : List (Nat × Value) → Option (List Value)
  | [] => some cells
  | (i, v) :: rest =>
    match place i with
    | none => none
    | some (off, size) =>
      if (cellsL v).length ≠ size || off + (cellsL v).length > cells.length then none
      else afill place (setsL cells off (cellsL v)) rest

inductive PRs (ρ : RMap) : List (Nat × Value) → List (Nat × Value) → Prop
  | nil : PRs ρ [] []
  | cons {i : Nat} {x y : Value} {xs ys : List (Nat × Value)} : VR ρ x y → PRs ρ xs ys → PRs ρ ((i, x) :: xs) ((i, y) :: ys)

section
variable {P : Program} {ρ : RMap}

theorem setsL_length (vs cs : List Value) (i : Nat) : (setsL cs i vs).length = cs.length := by
  induction vs generalizing cs i with
  | nil => rfl
  | cons v vs ih => simp [setsL, ih]

theorem setsL_ok {vs us : List Value} (hv : VRs ρ vs us) {cs ds : List Value} (hc : VRs ρ cs ds) (i : Nat) : VRs ρ (setsL cs i vs) (setsL ds i us) := by
  induction vs generalizing us cs ds i with
  | nil => cases hv; exact hc
  | cons v vs ih => cases hv with | cons h1 h2 => exact ih h2 (hc.set h1 i) (i + 1)

theorem foldl_sets (vs : List Value) (ds : List Value) (off k : Nat) :
    (vs.zipIdx k).foldl (fun (cs : Array Value) (x : Value × Nat) => cs.setIfInBounds (off + x.2) x.1) ⟨ds⟩ = ⟨setsL ds (off + k) vs⟩ := by
  induction vs generalizing ds k with
  | nil => simp [setsL]
  | cons v vs ih =>
    simp only [List.zipIdx_cons, List.foldl_cons, setsL]
    have : (Array.mk ds).setIfInBounds (off + k) v = ⟨ds.set (off + k) v⟩ := by
      apply Array.ext'
      simp
    rw [this, ih]; rfl

theorem fill_sets (v : Value) (ds : List Value) (off : Nat) :
    v.cells.zipIdx.foldl (fun (cs : Array Value) (x : Value × Nat) => cs.setIfInBounds (off + x.2) x.1) ⟨ds⟩ = ⟨setsL ds off v.cells.toList⟩ := by
  rw [← Array.foldl_toList, Array.toList_zipIdx]
  simpa using foldl_sets v.cells.toList ds off 0

theorem VR.cellsL {x y : Value} (h : VR ρ x y) : VRs ρ (cellsL x) (Go.Am.cellsL y) := by
  rw [cellsL_eq, cellsL_eq]; exact h.cells

theorem afill_ok (place : Nat → Option (Nat × Nat)) {parts qarts : List (Nat × Value)} (hp : PRs ρ parts qarts) {cs ds r : List Value} (hc : VRs ρ cs ds) (h : afill place cs parts = some r) :
    ∃ r', Instr.fill place ⟨ds⟩ qarts = some ⟨r'⟩ ∧ VRs ρ r r' := by
  induction hp generalizing cs ds with
  | nil => simp [afill] at h; subst h; exact ⟨ds, rfl, hc⟩
  | @cons i x y xs ys hxy _ ih =>
    simp only [afill] at h
    simp only [Instr.fill]
    split at h
    · cases h
    · rename_i off size hpl
      simp only [hpl]
      split at h
      · cases h
      · rename_i hcond
        have hlen := hxy.cellsL.length
        have hsz : y.cells.size = (cellsL y).length := by rw [cellsL_eq]; simp
        have hcond' : ¬ ((decide (y.cells.size ≠ size) || decide (off + y.cells.size > (Array.mk ds).size)) = true) := by
          have := hc.length
          simp only [Bool.or_eq_true, decide_eq_true_eq, not_or, List.size_toArray] at hcond ⊢
          rw [hsz, ← hlen]
          refine ⟨hcond.1, ?_⟩
          have h2 := hcond.2
          rw [hc.length] at h2
          exact h2
        rw [if_neg hcond']
        have := fill_sets y ds off
        simp only [this]
        rw [← cellsL_eq]
        exact ih (setsL_ok hxy.cellsL hc off) h

def placesB (P : Program) (fs : Array Field) : Bool := fs.toList.all fun f => (P.info? f.type).isSome
def placeOf (P : Program) (fs : Array Field) (i : Nat) : Option (Nat × Nat) :=
  match fs[i]? with
  | some f => match P.info? f.type with
    | some i => some (f.offset, i.size)
    | none => none
  | none => none

theorem mapM_places (l : List Field) (h : (l.all fun f => (P.info? f.type).isSome) = true) :
    ∃ r : List (Nat × Nat), (∀ w, (l.mapM (m := Sem) fun f => do pure (f.offset, ← sizeOf f.type)).run P w = .ok r w) ∧ ∀ i : Nat, r[i]? = (l[i]?).bind fun f => (P.info? f.type).map fun i => (f.offset, i.size) := by
  induction l with
  | nil => exact ⟨[], fun w => rfl, fun i => by simp⟩
  | cons f l ih =>
    simp only [List.all_cons, Bool.and_eq_true] at h
    obtain ⟨r, h1, h2⟩ := ih h.2
    obtain ⟨i, hi⟩ := Option.isSome_iff_exists.1 h.1
    refine ⟨(f.offset, i.size) :: r, fun w => ?_, fun j => ?_⟩
    · simp only [List.mapM_cons, Sem.run_bind, run_sizeOf' hi, Result.andThen_ok, Sem.run_pure, h1]
    · cases j with
      | zero => simp [hi]
      | succ j => simpa using h2 j

/-- A struct or an array built of parts. -/
def abuild (P : Program) (T : TypeId) (parts : List (Nat × Value)) : Option Value :=
  match P.info? T with
  | none => none
  | some i => match i.zero with
    | none => none
    | some z =>
      if plainV z then
        match P.underlying T with
        | some (.struct fs) => if placesB P fs then (afill (placeOf P fs) (cellsL z) parts).map fun cs => .agg ⟨cs⟩ else none
        | some (.array _ e) => match P.info? e with
          | some ie => (afill (fun i => some (i * ie.size, ie.size)) (cellsL z) parts).map fun cs => .agg ⟨cs⟩
          | none => none
        | _ => none
      else none

theorem abuild_ok {T : TypeId} {parts qarts : List (Nat × Value)} {v : Value} (h : abuild P T parts = some v) (hp : PRs ρ parts qarts) :
    ∃ v', VR ρ v v' ∧ ∀ w, (Instr.build T ⟨qarts⟩).run P w = .ok v' w := by
  unfold abuild at h
  split at h
  · cases h
  · rename_i i hi
    split at h
    · cases h
    · rename_i z hz
      split at h
      · rename_i hpl
        have hcz : VRs ρ (cellsL z) (cellsL z) := (VR.plain hpl).cellsL
        have hzc : z.cells = ⟨cellsL z⟩ := by rw [cellsL_eq]
        split at h
        · rename_i fs hu
          split at h
          · rename_i hb
            simp only [Option.map_eq_some_iff] at h
            obtain ⟨cs, h, rfl⟩ := h
            obtain ⟨r, hr, hvr⟩ := afill_ok _ hp hcz h
            obtain ⟨pl, hpl1, hpl2⟩ := mapM_places (P := P) fs.toList hb
            refine ⟨_, .agg hvr, fun w => ?_⟩
            simp only [Instr.build, Sem.run_bind, run_zeroValue' hi hz, Result.andThen_ok, run_underlying' hu]
            rw [Array.mapM_eq_mapM_toList]
            simp only [Sem.run_map, hpl1, Result.andThen_ok]
            have hplace : (fun x : Nat => pl.toArray[x]?) = placeOf P fs := by
              funext x
              simp only [List.getElem?_toArray, hpl2 x, placeOf]
              rw [Array.getElem?_toList]
              cases fs[x]? with
              | none => rfl
              | some f => simp only [Option.bind_some]; cases P.info? f.type <;> rfl
            simp only [hplace, hzc, hr]
            rfl
          · cases h
        · rename_i n e hu
          split at h
          · rename_i ie hie
            simp only [Option.map_eq_some_iff] at h
            obtain ⟨cs, h, rfl⟩ := h
            obtain ⟨r, hr, hvr⟩ := afill_ok _ hp hcz h
            refine ⟨_, .agg hvr, fun w => ?_⟩
            simp only [Instr.build, Sem.run_bind, run_zeroValue' hi hz, Result.andThen_ok, run_underlying' hu, run_sizeOf' hie, hzc, hr]
            rfl
          · cases h
        · cases h
      · cases h
end
end Go.Am
