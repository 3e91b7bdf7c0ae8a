import Derived.Test.YtdmfanikejcgjaaX8
set_option linter.unusedSimpArgs false
set_option linter.unusedVariables false
namespace Go.Am
open Go Go.RowKit
/-! ### the words, worked out -/
section
variable {K : Value → R} {K2 : Value → PH → R} {h : PH} {v : Value}
@[simp] theorem vb_some : vb (some v) K = K v := Eq.trans rfl rfl
@[simp] theorem vb_none : vb none K = none := Eq.trans rfl rfl
@[simp] theorem hb_some : hb (some (v, h)) K2 = K2 v h := Eq.trans rfl rfl
@[simp] theorem hb_none : hb none K2 = none := Eq.trans rfl rfl
@[simp] theorem gd_true {o : Option Value} : gd true o = o := Eq.trans rfl rfl
@[simp] theorem gd_false {o : Option Value} : gd false o = some undef := Eq.trans rfl rfl
@[simp] theorem gh_true {o : R} : gh true h o = o := Eq.trans rfl rfl
@[simp] theorem gh_false {o : R} : gh false h o = some (undef, h) := Eq.trans rfl rfl
@[simp] theorem isB_t (b : Bool) : isB true (.bool b) = b := Eq.trans rfl rfl
@[simp] theorem isB_f (b : Bool) : isB false (.bool b) = !b := by cases b <;> exact Eq.trans rfl rfl
@[simp] theorem bite_t {x y : R} : bite (.bool true) x y = x := Eq.trans rfl rfl
@[simp] theorem bite_f {x y : R} : bite (.bool false) x y = y := Eq.trans rfl rfl
theorem bite_d {x y : R} {p : Prop} [Decidable p] : bite (.bool (decide p)) x y = if p then x else y := by by_cases hp : p <;> simp [hp]
theorem bite_b {x y : R} {b : Bool} : bite (.bool b) x y = if b = true then x else y := by cases b <;> simp
@[simp] theorem ucons_cons {y : Value} {ys : List Value} {K : Value → List Value → R} : ucons (y :: ys) K = K y ys := Eq.trans rfl rfl
theorem jn_eq {k : Kt} {b : Kt → R} : jn k b = b k := Eq.trans rfl rfl
theorem lp_succ {n : Nat} {b : Kt → Kt} : lp (n + 1) b = b (lp n b) := Eq.trans rfl rfl
@[simp] theorem nb_eq {K : Nat → R} : nb h K = K h.n := Eq.trans rfl rfl
@[simp] theorem xPick_t {a b : Value} : xPick (.bool true) a b = some a := Eq.trans rfl rfl
@[simp] theorem xPick_f {a b : Value} : xPick (.bool false) a b = some b := Eq.trans rfl rfl
@[simp] theorem xNot_b (b : Bool) : xNot (.bool b) = some (.bool !b) := by cases b <;> exact Eq.trans rfl rfl
@[simp] theorem pcall_some {p : Value × PH} (hp : plainV p.1 = true) : pcall (some p) = some p.1 := by
  show Bool.rec (motive := fun _ => Option Value) none (some p.1) (plainV p.1) = _
  rw [hp]
@[simp] theorem kb_self (k : IntKind) : kb k k = true := by cases k <;> rfl
@[simp] theorem xAdd_i {k : IntKind} {a b : Int} : xAri Int.add (.int k a) (.int k b) = some (.int k (k.wrap (a + b))) := by
  simp only [xAri, two_i, mkI_eq, wr_eq]; rfl
@[simp] theorem xSub_i {k : IntKind} {a b : Int} : xAri Int.sub (.int k a) (.int k b) = some (.int k (k.wrap (a - b))) := by
  simp only [xAri, two_i, mkI_eq, wr_eq]; rfl
@[simp] theorem xMul_i {k : IntKind} {a b : Int} : xAri Int.mul (.int k a) (.int k b) = some (.int k (k.wrap (a * b))) := by
  simp only [xAri, two_i, mkI_eq, wr_eq]; rfl
@[simp] theorem xLt_i {k : IntKind} {a b : Int} : xCmp ilt (.int k a) (.int k b) = some (.bool (decide (a < b))) := by
  simp only [xCmp, two_i, ilt_eq]
@[simp] theorem xLe_i {k : IntKind} {a b : Int} : xCmp ile (.int k a) (.int k b) = some (.bool (decide (a ≤ b))) := by
  simp only [xCmp, two_i, ile_eq]
@[simp] theorem xGt_i {k : IntKind} {a b : Int} : xCmp (fun x y => ilt y x) (.int k a) (.int k b) = some (.bool (decide (b < a))) := by
  simp only [xCmp, two_i, ilt_eq]
@[simp] theorem xGe_i {k : IntKind} {a b : Int} : xCmp (fun x y => ile y x) (.int k a) (.int k b) = some (.bool (decide (b ≤ a))) := by
  simp only [xCmp, two_i, ile_eq]
@[simp] theorem xEq_i {k : IntKind} {a b : Int} : xCmp ieq (.int k a) (.int k b) = some (.bool (decide (a = b))) := by
  simp only [xCmp, two_i, ieq_eq]
@[simp] theorem xNe_i {k : IntKind} {a b : Int} : xCmp ine (.int k a) (.int k b) = some (.bool (!decide (a = b))) := by
  simp only [xCmp, two_i, ine_eq]
end
@[simp] theorem vN_eq (n : Nat) : vN n = .int .i64 n := Eq.trans rfl rfl
@[simp] theorem vM_eq (n : Nat) : vM n = .int .i64 (Int.negSucc n) := Eq.trans rfl rfl
@[simp] theorem tt_eq : tt = .bool true := Eq.trans rfl rfl
@[simp] theorem ff_eq : ff = .bool false := Eq.trans rfl rfl
end Go.Am
