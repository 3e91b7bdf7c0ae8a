import Derived.Test.YtdmfanikejcgjaaX6
set_option linter.unusedSimpArgs false
set_option linter.unusedVariables false
namespace Go.Am
open Go Go.RowKit
/-- A whole number as it stands in a text. -/
def vN (n : Nat) : Value := .int .i64 (.ofNat n)
def vM (n : Nat) : Value := .int .i64 (.negSucc n)
def tt : Value := .bool true
def ff : Value := .bool false
def nils : Value := .slice none 0 0
def fnV (f : Nat) (a b : List Value) : Value := .func (.func f) ⟨a⟩ ⟨b⟩
/-- A call is told by the function of this number. -/
noncomputable def sw (g k : Nat) (x y : R) : R := Bool.rec (motive := fun _ => R) y x (Nat.beq g k)
theorem sw_ok {g k : Nat} {x y : R} {r : Value × PH} (h : sw g k x y = some r) : (g = k ∧ x = some r) ∨ y = some r := by
  unfold sw at h
  cases hb : Nat.beq g k with
  | true => rw [hb] at h; exact .inl ⟨Nat.eq_of_beq_eq_true hb, h⟩
  | false => rw [hb] at h; exact .inr h
def u0 (as : List Value) (x : R) : R := match as with
  | [] => x
  | _ => none
theorem ucons_ok {as : List Value} {K : Value → List Value → R} {r : Value × PH} (h : ucons as K = some r) : ∃ a bs, as = a :: bs ∧ K a bs = some r := by
  cases as with
  | nil => cases h
  | cons a bs => exact ⟨a, bs, rfl, h⟩
theorem u0_ok {as : List Value} {x : R} {r : Value × PH} (h : u0 as x = some r) : as = [] ∧ x = some r := by
  cases as with
  | nil => exact ⟨rfl, h⟩
  | cons a bs => cases h
end Go.Am
