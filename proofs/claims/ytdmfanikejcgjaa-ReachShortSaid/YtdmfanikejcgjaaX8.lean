import Derived.Test.YtdmfanikejcgjaaX7
import Derived.Below
import Derived.WalkKit
import Derived.ProofKit
import Derived.OpenShut
import Derived.Carry
set_option linter.unusedSimpArgs false
set_option linter.unusedVariables false
namespace Go.Am
open Go Go.RowKit Go.ChangeShapes Go.WideShapes Go.ChangeAt
/-- Nothing is there yet. -/
def h00 : PH := ⟨0, 0, .leaf⟩
def CNo : CL := fun _ _ _ => none
theorem CNo_ok (P : Program) : OkCL P CNo := fun _ _ _ _ _ hx => by cases hx
/-- Is the answer yes? -/
noncomputable def isT (r : R) : Bool := Option.rec (motive := fun _ => Bool) false (fun p => isB true p.1) r
theorem isB_true {v : Value} (h : isB true v = true) : v = .bool true := by
  unfold isB at h
  split at h
  · rename_i b; simp at h; rw [h]
  · cases h
theorem isT_ok {r : R} (h : isT r = true) : ∃ k, r = some (.bool true, k) := by
  cases r with
  | none => cases h
  | some p =>
    have := isB_true h
    exact ⟨p.2, by rw [← this]⟩
/-- All of so many numbers, from one on. -/
noncomputable def allR (lo n : Nat) (f : Nat → Bool) : Bool := Nat.rec (motive := fun _ => Bool) true (fun m ih => Bool.rec (motive := fun _ => Bool) false ih (seqN (Nat.add lo m) f)) n
theorem allR_ok {lo n : Nat} {f : Nat → Bool} (h : allR lo n f = true) : ∀ m, lo ≤ m → m < lo + n → f m = true := by
  induction n with
  | zero => intro m h1 h2; omega
  | succ n ih =>
    intro m h1 h2
    have h : Bool.rec (motive := fun _ => Bool) false (allR lo n f) (seqN (Nat.add lo n) f) = true := h
    rw [seqN_eq] at h
    cases hf : f (Nat.add lo n) with
    | false => rw [hf] at h; cases h
    | true =>
      rw [hf] at h
      by_cases he : m = lo + n
      · rw [he]; exact hf
      · exact ih h m h1 (by omega)

theorem rel0 (w : World) : Rel w.heap.size w (fun _ => none) [] w where
  below := Below.refl _ _
  base := Nat.le_refl _
  fin := fun b L hb => by cases hb
  lt := fun b L o hb => by cases hb
  obj := fun b o ho => by simp at ho
  sep := fun b b' o o' L L' _ ho => by simp at ho

/-- A call over nothing, told of the true world. -/
theorem calls_of {P : Program} {f : FuncId} {args : List Value} {v : Value} {Q : Heap → Prop} (hp : plainV.plainVs args = true) (hv : plainV v = true) (h : ACall P f args [] (fun u k => u = v ∧ Q k)) (w : World) :
    Calls P f ⟨args⟩ w fun e w' => e = .returned v ∧ Below w.heap.size w w' := by
  refine (h w.heap.size w (fun _ => none) args w (rel0 w) (VRs.plain hp)).mono ?_
  rintro e w' ⟨u, v', h', ρ', rfl, ⟨rfl, _⟩, _, hr, hvr⟩
  exact ⟨by rw [hvr.plain_eq hv], hr.below⟩

/-- What a row asks of a call that leaves old memory as it was. -/
theorem post_of_below {P : Program} {H : Type} {enc : TypeId × Value → H} {f : Func} {s : ChangeSpec} {apart fresh handsOn again : Bool} {W W' : World} {args : Array Value} {v : Value} {ds gs : List (DataW H)} {before pa pv : List MemPlace}
    (hW : DataW.Whole enc P f.params.toList s.vars apart W args.toList ds gs before)
    (hres : ∀ (b : Nat) (sp : Nat → Bool) (hd : Bool), DataW.TrodAll enc P W' b sp hd f.resultTypes.toList (v.resultList f.resultTypes.size) (s.fn H (ds ++ gs)).results [])
    (hargs : ∀ sp : Nat → Bool, (∀ p ∈ before, sp p.block = true) → DataW.TrodAll enc P W' 0 sp true f.params.toList args.toList (s.fn H (ds ++ gs)).args pa)
    (hvars : ∀ sp : Nat → Bool, (∀ p ∈ before, sp p.block = true) → DataW.TrodVars enc P W' sp s.vars (s.fn H (ds ++ gs)).vars pv)
    (hps : before = pa ++ pv) (hb : Below W.heap.size W W')
    (hok : ∀ (j : Nat) (t : TypeId) (r : Value), f.resultTypes[j]? = some t → (v.resultList f.resultTypes.size)[j]? = some r → Value.okWide P W' .any 0 t r) :
    s.post enc P f apart fresh handsOn again W args v W' := by
  have hlt : ∀ p ∈ before, p.block < W.heap.size := fun p hp => hW.lt p hp
  have hsp : ∀ p ∈ before, (fun b => decide (b < W.heap.size)) p.block = true := fun p hp => by simpa using hlt p hp
  refine ⟨ds, gs, before, [], pa, pv, hW, hres _ _ _, hargs _ hsp, hvars _ hsp, World.keptBut_mono (fun p hp => ⟨hp, ?_⟩) (hb.frame _), fun _ => ?_⟩
  · rw [hps, List.mem_append] at hp
    exact Or.inr hp
  · obtain ⟨_, _, _, _, _, hz, hn⟩ := hW
    refine ⟨hok, _, _, ([] ++ pa) ++ pv, ⟨[] ++ pa, pv, trodAll_append (hargs _ (fun _ _ => rfl)) (hres _ _ _), hvars _ (fun _ _ => rfl), rfl, ?_, ?_⟩, ?_⟩
    · intro b off hp
      have hp : MemPlace.cell b off ∈ before := by rw [hps]; simpa using hp
      rw [hb.frozen (p := ⟨b, off, none⟩) (hlt _ hp)]
      exact hz b off hp
    · intro ha
      have := hn ha
      rw [hps] at this
      simpa using this
    · intro p hp _
      rw [hps]
      simpa using hp
end Go.Am
