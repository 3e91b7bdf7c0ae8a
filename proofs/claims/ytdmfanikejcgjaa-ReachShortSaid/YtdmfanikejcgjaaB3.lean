import Derived.Test.YtdmfanikejcgjaaB2
set_option linter.unusedSimpArgs false
set_option linter.unusedVariables false
namespace Go.Am
open Go Go.RowKit

/-- A computation that asks the program's tables alone. -/
def pureRun (P : Program) {α : Type} : Sem α → Option α
  | .pure a => some a
  | .program k => pureRun P (k P)
  | _ => none

theorem pureRun_ok {P : Program} {α : Type} {s : Sem α} {a : α} (h : pureRun P s = some a) (w : World) : s.run P w = .ok a w := by
  induction s generalizing w with
  | pure b => simp [pureRun] at h; subst h; rfl
  | program k ih => simp only [pureRun] at h; simp only [Sem.run]; exact ih P h w
  | _ => simp [pureRun] at h

/-- What an operand holds. -/
def ev (t : Tm) : Operand → Option Value
  | .tmp i => tget t i
  | .const v => if plainV v then some v else none
  | .func f => some (.func (.func f) #[] #[])
  | .global _ => none

def evs (t : Tm) : List Operand → Option (List Value)
  | [] => some []
  | x :: xs => match ev t x, evs t xs with
    | some v, some vs => some (v :: vs)
    | _, _ => none

section
variable {ρ : RMap} {t : Tm} {ts : List Value}

/-- The true frame's operand. -/
abbrev tev (ts : List Value) : Operand → Value := Act.eval ⟨⟨ts⟩, []⟩

theorem getD_toArray (ts : List Value) (i : Nat) (d : Value) : (Array.mk ts).getD i d = ts.getD i d := by
  simp [Array.getD, List.getD]
  split
  · rename_i h; simp [List.getElem?_eq_getElem h]
  · rename_i h; simp [List.getElem?_eq_none (Nat.le_of_not_lt h)]

theorem ev_ok (h : TRs ρ t ts) {x : Operand} {v : Value} (he : ev t x = some v) : VR ρ v (tev ts x) := by
  cases x with
  | tmp i =>
    simp only [ev] at he
    obtain ⟨v', h1, h2⟩ := h.tget he
    simp only [tev, Act.eval, getD_toArray, List.getD_eq_getElem?_getD, h1]
    exact h2
  | const c => simp only [ev] at he; split at he <;> simp at he; subst he; exact VR.plain ‹_›
  | func f => simp only [ev, Option.some.injEq] at he; subst he; exact .func .nil .nil
  | global g => simp [ev] at he

theorem evs_ok (h : TRs ρ t ts) {xs : List Operand} {vs : List Value} (he : evs t xs = some vs) : VRs ρ vs (xs.map (tev ts)) := by
  induction xs generalizing vs with
  | nil => simp [evs] at he; subst he; exact .nil
  | cons x xs ih =>
    simp only [evs] at he
    split at he
    · rename_i v vs' h1 h2
      simp at he; subst he
      exact .cons (ev_ok h h1) (ih h2)
    · cases he

theorem VR.cells {x y : Value} (h : VR ρ x y) : VRs ρ x.cells.toList y.cells.toList := by
  cases h with
  | agg h => exact h
  | sl0 h => exact .cons (.sl0 h) .nil
  | _ => exact .cons (by constructor <;> assumption) .nil

end

/-! ### a part of a struct's or an array's cells -/
def aggT (P : Program) (T : TypeId) : Bool :=
  match P.underlying T with
  | some (.struct _) | some (.array _ _) => true
  | _ => false

/-- The cells of a value of type T that lie from a place on. -/
def apart (P : Program) (T : TypeId) (cs : List Value) (off : Nat) : Option Value :=
  match P.underlying T with
  | some (.struct _) | some (.array _ _) => match P.info? T with
    | some i => if off + i.size ≤ cs.length then some (.agg ⟨(cs.drop off).take i.size⟩) else none
    | none => none
  | some _ => cs[off]?
  | none => none

section
variable {P : Program} {ρ : RMap}

theorem run_underlying' {T : TypeId} {d : TypeDesc} (h : P.underlying T = some d) (w : World) : (underlying T).run P w = .ok d w := by
  simp [underlying, h]

theorem run_typeInfo' {T : TypeId} {i : TypeInfo} (h : P.info? T = some i) (w : World) : (typeInfo T).run P w = .ok i w := by
  simp [typeInfo, h]

theorem run_sizeOf' {T : TypeId} {i : TypeInfo} (h : P.info? T = some i) (w : World) : (sizeOf T).run P w = .ok i.size w := by
  simp [sizeOf, run_typeInfo' h]

theorem run_zeroValue' {T : TypeId} {i : TypeInfo} {z : Value} (h : P.info? T = some i) (hz : i.zero = some z) (w : World) : (zeroValue T).run P w = .ok z w := by
  simp [zeroValue, run_typeInfo' h, hz]

theorem run_isAgg' {T : TypeId} {d : TypeDesc} (h : P.underlying T = some d) (w : World) : (isAgg T).run P w = .ok (aggT P T) w := by
  simp only [isAgg, Sem.run_bind, run_underlying' h, Result.andThen_ok, aggT, h]
  cases d <;> rfl

theorem mk_extract (ds : List Value) (a b : Nat) : (Array.mk ds).extract a b = ⟨(ds.drop a).take (b - a)⟩ := by
  have : (Array.mk ds) = ds.toArray := rfl
  rw [this, List.extract_toArray, List.extract_eq_take_drop]

theorem apart_ok {T : TypeId} {cs ds : List Value} {off : Nat} {v : Value} (h : apart P T cs off = some v) (hc : VRs ρ cs ds) :
    ∃ v', VR ρ v v' ∧ ∀ w, (part T ⟨ds⟩ off).run P w = .ok v' w := by
  unfold apart at h
  split at h
  · rename_i fs hu
    split at h
    · rename_i i hi
      split at h <;> simp at h
      subst h
      rename_i hle
      refine ⟨_, .agg ((hc.drop off).take i.size), fun w => ?_⟩
      simp only [part, Sem.run_bind, run_isAgg' hu, Result.andThen_ok, aggT, hu, if_true, run_sizeOf' hi, Sem.run_pure]
      rw [mk_extract, Nat.add_sub_cancel_left]
    · cases h
  · rename_i n e hu
    split at h
    · rename_i i hi
      split at h <;> simp at h
      subst h
      refine ⟨_, .agg ((hc.drop off).take i.size), fun w => ?_⟩
      simp only [part, Sem.run_bind, run_isAgg' hu, Result.andThen_ok, aggT, hu, if_true, run_sizeOf' hi, Sem.run_pure]
      rw [mk_extract, Nat.add_sub_cancel_left]
    · cases h
  · rename_i d hu1 hu2 hu
    obtain ⟨v', h1, h2⟩ := hc.get h
    refine ⟨v', h2, fun w => ?_⟩
    have hn : aggT P T = false := by
      unfold aggT
      rw [hu]
      cases d <;> first | rfl | (exact (hu1 _ rfl).elim) | (exact (hu2 _ _ rfl).elim)
    simp only [part, Sem.run_bind, run_isAgg' hu, Result.andThen_ok, hn, Bool.false_eq_true, if_false]
    simp [h1]
  · cases h
end
end Go.Am
