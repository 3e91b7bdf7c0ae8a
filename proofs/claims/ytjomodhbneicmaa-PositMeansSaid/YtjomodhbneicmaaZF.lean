import Derived.Test.YtjomodhbneicmaaZY
import Derived.Test.YtjomodhbneicmaaProg
set_option linter.unusedVariables false
set_option maxRecDepth 100000
namespace Go.Am
open Go Go.RowKit Go.Proofs
theorem hmx : Try.prog.follows .mixedOrders = true := by kernel_rfl
-- (*undergrowth/dfa.patterns).words
-- (undergrowth/dfa.bits).add
-- (*undergrowth/dfa.patterns).places
-- (undergrowth/dfa.bits).join
-- (undergrowth/regex.set).has
noncomputable def F103 (n : Nat) (cl : CL) (a0 a1 : Value) (h : PH) : R :=
 hb (xBox a0 h) fun v1 h =>
 vb (xQuo a1 (vN 64)) fun v2 =>
 vb (xIdxA 4 1 v1 v2) fun v3 =>
 vb (xLd v3 h) fun v4 =>
 vb (xRem a1 (vN 64)) fun v5 =>
 vb (xShr v4 v5) fun v6 =>
 vb (xBit Nat.land v6 (Value.int .u64 (.ofNat 1))) fun v7 =>
 vb (xCmp ieq v7 (Value.int .u64 (.ofNat 1))) fun v8 =>
 some (v8, h)
theorem E103 (n : Nat) (cl : CL) (a0 a1 : Value) (h : PH) : exF Try.prog n cl ⟨[], [], [], [], [], [], [], []⟩ Try.f103 [a0, a1] h = F103 n cl a0 a1 h := by kernel_rfl
theorem S103 {n : Nat} {cl : CL} (hcl : OkCL Try.prog cl) {a0 a1 : Value} {h h' : PH} {v : Value} (hx : F103 n cl a0 a1 h = some (v, h')) : (enterable Try.prog 103 = true ∧ ACall Try.prog 103 [a0, a1] h.abs (fun u k => u = v ∧ k = h'.abs)) ∧ Inv h h' :=
  exF_ok hcl hmx Try.func103 (by kernel_rfl) ((E103 n cl a0 a1 h).trans hx)
-- undergrowth/regex.Has
noncomputable def F84 (n : Nat) (cl : CL) (a0 a1 : Value) (h : PH) : R :=
 hb (xBox a0 h) fun v1 h =>
 vb (xLdA 4 v1 h) fun v2 =>
 vb (xConvI .i64 a1) fun v3 =>
 vb (pcall (F103 n cl v2 v3 (h.fzn))) fun v4 =>
 some (v4, h)
noncomputable def D84 (n : Nat) (cl : CL) : CL := fun f xs h => sw f 103 (ucons xs fun b0 xs => ucons xs fun b1 xs => u0 xs (F103 n cl b0 b1 h)) (cl f xs h)
theorem Dk84 {n : Nat} {cl : CL} (hcl : OkCL Try.prog cl) : OkCL Try.prog (D84 n cl) := by
  intro f xs h v h' hx
  rcases sw_ok hx with ⟨rfl, hx⟩ | hx
  · obtain ⟨_, _, rfl, hx⟩ := ucons_ok hx; obtain ⟨_, _, rfl, hx⟩ := ucons_ok hx; obtain ⟨rfl, hx⟩ := u0_ok hx; exact S103 (n := n) (cl := cl) hcl hx
  exact hcl _ _ _ _ _ hx
theorem E84 (n : Nat) (cl : CL) (a0 a1 : Value) (h : PH) : exF Try.prog n (D84 n cl) ⟨[103], [], [], [], [], [], [], []⟩ Try.f84 [a0, a1] h = F84 n cl a0 a1 h := by kernel_rfl
theorem S84 {n : Nat} {cl : CL} (hcl : OkCL Try.prog cl) {a0 a1 : Value} {h h' : PH} {v : Value} (hx : F84 n cl a0 a1 h = some (v, h')) : (enterable Try.prog 84 = true ∧ ACall Try.prog 84 [a0, a1] h.abs (fun u k => u = v ∧ k = h'.abs)) ∧ Inv h h' :=
  exF_ok (Dk84 hcl) hmx Try.func84 (by kernel_rfl) ((E84 n cl a0 a1 h).trans hx)
-- (*undergrowth/dfa.patterns).pattern
-- undergrowth/dfa.read
-- slices.Index[[]bool,bool]
-- (undergrowth/dfa.bits).has
-- (*undergrowth/dfa.patterns).after
-- slices.Clone[undergrowth/dfa.bits,uint64]
noncomputable def F98_0 (n : Nat) (cl : CL) (a0 : Value) (h : PH) : R :=
 hb (xBS 0 (bsRow Try.prog 82 0 []) h) fun v2 h =>
 hb (xApp (appInfo Try.prog #[82, 82]) v2 a0 h) fun v3 h =>
 some (v3, h)
noncomputable def F98 (n : Nat) (cl : CL) (a0 : Value) (h : PH) : R :=
 vb (abin Try.prog .eql 82 (Operand.tmp 3) (Operand.const (Value.slice none 0 0)) a0 nils) fun v1 =>
 bite v1 (some (nils, h)) (F98_0 n cl a0 h)
theorem E98 (n : Nat) (cl : CL) (a0 : Value) (h : PH) : exF Try.prog n cl ⟨[], [], [], [], [], [], [], []⟩ Try.f98 [a0] h = F98 n cl a0 h := by kernel_rfl
theorem S98 {n : Nat} {cl : CL} (hcl : OkCL Try.prog cl) {a0 : Value} {h h' : PH} {v : Value} (hx : F98 n cl a0 h = some (v, h')) : (enterable Try.prog 98 = true ∧ ACall Try.prog 98 [a0] h.abs (fun u k => u = v ∧ k = h'.abs)) ∧ Inv h h' :=
  exF_ok hcl hmx Try.func98 (by kernel_rfl) ((E98 n cl a0 h).trans hx)
-- (undergrowth/dfa.bits).meet
noncomputable def F72_0 (n : Nat) (cl : CL) (v7 : Value) (v11 : Value) (v5 : Value) (r4 : Kt) (v9 : Value) (h : PH) : R :=
 vb (xIdxS 1 v7 v11) fun v14 =>
 vb (xIdxS 1 v5 v11) fun v15 =>
 vb (xLd v14 h) fun v16 =>
 vb (xLd v15 h) fun v17 =>
 vb (xBit Nat.land v16 v17) fun v18 =>
 vb (xIdxS 1 v7 v11) fun v19 =>
 hb (xSt1 v19 v18 h) fun _ h =>
 vb (xAri Int.add v11 (vN 1)) fun v20 =>
 r4 [v5, v7, v9, v20] h
noncomputable def F72_1 (n : Nat) (cl : CL) (v11 : Value) (v9 : Value) (v7 : Value) (v5 : Value) (r4 : Kt) (h : PH) : R :=
 vb (xCmp ilt v11 v9) fun v13 =>
 bite v13 (F72_0 n cl v7 v11 v5 r4 v9 h) (some (v7, h))
noncomputable def F72_2 (n : Nat) (cl : CL) (r4 : Kt) (y3 : List Value) (h : PH) : R :=
 ucons y3 fun v5 y6 => ucons y6 fun v7 y8 => ucons y8 fun v9 y10 => ucons y10 fun v11 y12 => F72_1 n cl v11 v9 v7 v5 r4 h
noncomputable def F72 (n : Nat) (cl : CL) (a0 a1 : Value) (h : PH) : R :=
 hb (fcall h (F98 n cl a0 (h.fzn))) fun v1 h =>
 vb (xLenS v1) fun v2 =>
 lp n (F72_2 n cl) [a1, v1, v2, (vN 0)] h
noncomputable def D72 (n : Nat) (cl : CL) : CL := fun f xs h => sw f 98 (ucons xs fun b0 xs => u0 xs (F98 n cl b0 h)) (cl f xs h)
theorem Dk72 {n : Nat} {cl : CL} (hcl : OkCL Try.prog cl) : OkCL Try.prog (D72 n cl) := by
  intro f xs h v h' hx
  rcases sw_ok hx with ⟨rfl, hx⟩ | hx
  · obtain ⟨_, _, rfl, hx⟩ := ucons_ok hx; obtain ⟨rfl, hx⟩ := u0_ok hx; exact S98 (n := n) (cl := cl) hcl hx
  exact hcl _ _ _ _ _ hx
theorem E72 (n : Nat) (cl : CL) (a0 a1 : Value) (h : PH) : exF Try.prog n (D72 n cl) ⟨[], [98], [(3, [1, 5, 10, 11])], [(5, [0, 1, 2, 4, 5, 6, 3, 7, 8, 9, 10])], [], [], [], []⟩ Try.f72 [a0, a1] h = F72 n cl a0 a1 h := by kernel_rfl
theorem S72 {n : Nat} {cl : CL} (hcl : OkCL Try.prog cl) {a0 a1 : Value} {h h' : PH} {v : Value} (hx : F72 n cl a0 a1 h = some (v, h')) : (enterable Try.prog 72 = true ∧ ACall Try.prog 72 [a0, a1] h.abs (fun u k => u = v ∧ k = h'.abs)) ∧ Inv h h' :=
  exF_ok (Dk72 hcl) hmx Try.func72 (by kernel_rfl) ((E72 n cl a0 a1 h).trans hx)
-- slices.IndexFunc[undergrowth/dfa.bits,uint64]
noncomputable def F122_0 (n : Nat) (cl : CL) (v10 : Value) (r3 : Kt) (v4 : Value) (v6 : Value) (v8 : Value) (h : PH) : R :=
 vb (xAri Int.add v10 (vN 1)) fun v16 =>
 r3 [v4, v6, v8, v16] h
noncomputable def F122_1 (n : Nat) (cl : CL) (v4 : Value) (v10 : Value) (v6 : Value) (r3 : Kt) (v8 : Value) (h : PH) : R :=
 vb (xIdxS 1 v4 v10) fun v13 =>
 vb (xLd v13 h) fun v14 =>
 hb (xCall cl v6 [v14] h) fun v15 h =>
 bite v15 (some (v10, h)) (F122_0 n cl v10 r3 v4 v6 v8 h)
noncomputable def F122_2 (n : Nat) (cl : CL) (v10 : Value) (v8 : Value) (v4 : Value) (v6 : Value) (r3 : Kt) (h : PH) : R :=
 vb (xCmp ilt v10 v8) fun v12 =>
 bite v12 (F122_1 n cl v4 v10 v6 r3 v8 h) (some ((vM 0), h))
noncomputable def F122_3 (n : Nat) (cl : CL) (r3 : Kt) (y2 : List Value) (h : PH) : R :=
 ucons y2 fun v4 y5 => ucons y5 fun v6 y7 => ucons y7 fun v8 y9 => ucons y9 fun v10 y11 => F122_2 n cl v10 v8 v4 v6 r3 h
noncomputable def F122 (n : Nat) (cl : CL) (a0 a1 : Value) (h : PH) : R :=
 vb (xLenS a0) fun v1 =>
 lp n (F122_3 n cl) [a0, a1, v1, (vN 0)] h
theorem E122 (n : Nat) (cl : CL) (a0 a1 : Value) (h : PH) : exF Try.prog n cl ⟨[], [], [(2, [0, 1, 7, 8])], [], [], [], [], []⟩ Try.f122 [a0, a1] h = F122 n cl a0 a1 h := by kernel_rfl
theorem S122 {n : Nat} {cl : CL} (hcl : OkCL Try.prog cl) {a0 a1 : Value} {h h' : PH} {v : Value} (hx : F122 n cl a0 a1 h = some (v, h')) : (enterable Try.prog 122 = true ∧ ACall Try.prog 122 [a0, a1] h.abs (fun u k => u = v ∧ k = h'.abs)) ∧ Inv h h' :=
  exF_ok hcl hmx Try.func122 (by kernel_rfl) ((E122 n cl a0 a1 h).trans hx)
-- slices.ContainsFunc[undergrowth/dfa.bits,uint64]
noncomputable def F106 (n : Nat) (cl : CL) (a0 a1 : Value) (h : PH) : R :=
 vb (pcall (F122 n cl a0 a1 (h.fzn))) fun v1 =>
 vb (xCmp (fun x y => ile y x) v1 (vN 0)) fun v2 =>
 some (v2, h)
noncomputable def D106 (n : Nat) (cl : CL) : CL := fun f xs h => sw f 122 (ucons xs fun b0 xs => ucons xs fun b1 xs => u0 xs (F122 n cl b0 b1 h)) (cl f xs h)
theorem Dk106 {n : Nat} {cl : CL} (hcl : OkCL Try.prog cl) : OkCL Try.prog (D106 n cl) := by
  intro f xs h v h' hx
  rcases sw_ok hx with ⟨rfl, hx⟩ | hx
  · obtain ⟨_, _, rfl, hx⟩ := ucons_ok hx; obtain ⟨_, _, rfl, hx⟩ := ucons_ok hx; obtain ⟨rfl, hx⟩ := u0_ok hx; exact S122 (n := n) (cl := cl) hcl hx
  exact hcl _ _ _ _ _ hx
theorem E106 (n : Nat) (cl : CL) (a0 a1 : Value) (h : PH) : exF Try.prog n (D106 n cl) ⟨[122], [], [], [], [], [], [], []⟩ Try.f106 [a0, a1] h = F106 n cl a0 a1 h := by kernel_rfl
theorem S106 {n : Nat} {cl : CL} (hcl : OkCL Try.prog cl) {a0 a1 : Value} {h h' : PH} {v : Value} (hx : F106 n cl a0 a1 h = some (v, h')) : (enterable Try.prog 106 = true ∧ ACall Try.prog 106 [a0, a1] h.abs (fun u k => u = v ∧ k = h'.abs)) ∧ Inv h h' :=
  exF_ok (Dk106 hcl) hmx Try.func106 (by kernel_rfl) ((E106 n cl a0 a1 h).trans hx)
-- (undergrowth/dfa.bits).empty$1
noncomputable def F107 (n : Nat) (cl : CL) (a0 : Value) (h : PH) : R :=
 vb (xCmp ine a0 (Value.int .u64 (.ofNat 0))) fun v1 =>
 some (v1, h)
theorem E107 (n : Nat) (cl : CL) (a0 : Value) (h : PH) : exF Try.prog n cl ⟨[], [], [], [], [], [], [], []⟩ Try.f107 [a0] h = F107 n cl a0 h := by kernel_rfl
theorem S107 {n : Nat} {cl : CL} (hcl : OkCL Try.prog cl) {a0 : Value} {h h' : PH} {v : Value} (hx : F107 n cl a0 h = some (v, h')) : (enterable Try.prog 107 = true ∧ ACall Try.prog 107 [a0] h.abs (fun u k => u = v ∧ k = h'.abs)) ∧ Inv h h' :=
  exF_ok hcl hmx Try.func107 (by kernel_rfl) ((E107 n cl a0 h).trans hx)
-- (undergrowth/dfa.bits).empty
noncomputable def F95 (n : Nat) (cl : CL) (a0 : Value) (h : PH) : R :=
 vb (pcall (F106 n cl a0 (fnV 107 [] []) (h.fzn))) fun v1 =>
 vb (xNot v1) fun v2 =>
 some (v2, h)
noncomputable def D95 (n : Nat) (cl : CL) : CL := fun f xs h => sw f 106 (ucons xs fun b0 xs => ucons xs fun b1 xs => u0 xs (F106 n cl b0 b1 h)) (cl f xs h)
theorem Dk95 {n : Nat} {cl : CL} (hcl : OkCL Try.prog cl) : OkCL Try.prog (D95 n cl) := by
  intro f xs h v h' hx
  rcases sw_ok hx with ⟨rfl, hx⟩ | hx
  · obtain ⟨_, _, rfl, hx⟩ := ucons_ok hx; obtain ⟨_, _, rfl, hx⟩ := ucons_ok hx; obtain ⟨rfl, hx⟩ := u0_ok hx; exact S106 (n := n) (cl := cl) hcl hx
  exact hcl _ _ _ _ _ hx
theorem E95 (n : Nat) (cl : CL) (a0 : Value) (h : PH) : exF Try.prog n (D95 n cl) ⟨[106], [], [], [], [], [], [], []⟩ Try.f95 [a0] h = F95 n cl a0 h := by kernel_rfl
theorem S95 {n : Nat} {cl : CL} (hcl : OkCL Try.prog cl) {a0 : Value} {h h' : PH} {v : Value} (hx : F95 n cl a0 h = some (v, h')) : (enterable Try.prog 95 = true ∧ ACall Try.prog 95 [a0] h.abs (fun u k => u = v ∧ k = h'.abs)) ∧ Inv h h' :=
  exF_ok (Dk95 hcl) hmx Try.func95 (by kernel_rfl) ((E95 n cl a0 h).trans hx)
-- (undergrowth/dfa.bits).key
-- (*undergrowth/dfa.patterns).accept$1
noncomputable def F109 (n : Nat) (cl : CL) (a0 a1 : Value) (h : PH) : R :=
 vb (xLd a1 h) fun v1 =>
 hb (fcall h (F72 n cl a0 v1 (h.fzn))) fun v2 h =>
 vb (pcall (F95 n cl v2 (h.fzn))) fun v3 =>
 vb (xNot v3) fun v4 =>
 some (v4, h)
noncomputable def D109 (n : Nat) (cl : CL) : CL := fun f xs h => sw f 72 (ucons xs fun b0 xs => ucons xs fun b1 xs => u0 xs (F72 n cl b0 b1 h)) (sw f 95 (ucons xs fun b0 xs => u0 xs (F95 n cl b0 h)) (cl f xs h))
theorem Dk109 {n : Nat} {cl : CL} (hcl : OkCL Try.prog cl) : OkCL Try.prog (D109 n cl) := by
  intro f xs h v h' hx
  rcases sw_ok hx with ⟨rfl, hx⟩ | hx
  · obtain ⟨_, _, rfl, hx⟩ := ucons_ok hx; obtain ⟨_, _, rfl, hx⟩ := ucons_ok hx; obtain ⟨rfl, hx⟩ := u0_ok hx; exact S72 (n := n) (cl := cl) hcl hx
  rcases sw_ok hx with ⟨rfl, hx⟩ | hx
  · obtain ⟨_, _, rfl, hx⟩ := ucons_ok hx; obtain ⟨rfl, hx⟩ := u0_ok hx; exact S95 (n := n) (cl := cl) hcl hx
  exact hcl _ _ _ _ _ hx
theorem E109 (n : Nat) (cl : CL) (a0 a1 : Value) (h : PH) : exF Try.prog n (D109 n cl) ⟨[95], [72], [], [], [], [], [], []⟩ Try.f109 [a0, a1] h = F109 n cl a0 a1 h := by kernel_rfl
theorem S109 {n : Nat} {cl : CL} (hcl : OkCL Try.prog cl) {a0 a1 : Value} {h h' : PH} {v : Value} (hx : F109 n cl a0 a1 h = some (v, h')) : (enterable Try.prog 109 = true ∧ ACall Try.prog 109 [a0, a1] h.abs (fun u k => u = v ∧ k = h'.abs)) ∧ Inv h h' :=
  exF_ok (Dk109 hcl) hmx Try.func109 (by kernel_rfl) ((E109 n cl a0 a1 h).trans hx)
-- slices.IndexFunc[[]undergrowth/dfa.bits,undergrowth/dfa.bits]
-- (*undergrowth/dfa.patterns).accept
-- (*undergrowth/dfa.sets).state
-- (*undergrowth/dfa.sets).make
-- slices.Clone[[]int,int]
-- (*undergrowth/dfa.sets).signature$1
noncomputable def F99 (n : Nat) (cl : CL) (a0 a1 : Value) (h : PH) : R :=
 vb (xLd a1 h) fun v1 =>
 vb (xConvI .u8 a0) fun v2 =>
 vb (xShr a0 (Value.int .u64 (.ofNat 8))) fun v3 =>
 vb (xConvI .u8 v3) fun v4 =>
 vb (xShr a0 (Value.int .u64 (.ofNat 16))) fun v5 =>
 vb (xConvI .u8 v5) fun v6 =>
 hb (xBS 3 (bsRow Try.prog 39 3 [(0, v2), (1, v4), (2, v6)]) h) fun v7 h =>
 hb (xApp (appInfo Try.prog #[39, 39]) v1 v7 h) fun v8 h =>
 hb (xSt1 a1 v8 h) fun _ h =>
 some (Value.tuple ⟨[]⟩, h)
theorem E99 (n : Nat) (cl : CL) (a0 a1 : Value) (h : PH) : exF Try.prog n cl ⟨[], [], [], [], [], [], [], []⟩ Try.f99 [a0, a1] h = F99 n cl a0 a1 h := by kernel_rfl
theorem S99 {n : Nat} {cl : CL} (hcl : OkCL Try.prog cl) {a0 a1 : Value} {h h' : PH} {v : Value} (hx : F99 n cl a0 a1 h = some (v, h')) : (enterable Try.prog 99 = true ∧ ACall Try.prog 99 [a0, a1] h.abs (fun u k => u = v ∧ k = h'.abs)) ∧ Inv h h' :=
  exF_ok hcl hmx Try.func99 (by kernel_rfl) ((E99 n cl a0 a1 h).trans hx)
-- (*undergrowth/dfa.sets).signature
-- (*undergrowth/dfa.sets).classes
-- (*undergrowth/dfa.sets).number
-- undergrowth/dfa.Of
-- (*undergrowth/undergrowthref1.reader).over
noncomputable def F56 (n : Nat) (cl : CL) (a0 : Value) (h : PH) : R :=
 vb (xNil a0) fun v1 =>
 vb (xFld 1 v1) fun v2 =>
 vb (xNil a0) fun v3 =>
 vb (xFld 0 v3) fun v4 =>
 vb (xLd v2 h) fun v5 =>
 vb (xLd v4 h) fun v6 =>
 vb (xLenT v6) fun v7 =>
 vb (xCmp (fun x y => ile y x) v5 v7) fun v8 =>
 some (v8, h)
theorem E56 (n : Nat) (cl : CL) (a0 : Value) (h : PH) : exF Try.prog n cl ⟨[], [], [], [(1, [0, 1, 2, 4, 5, 6, 3, 7, 8, 9, 10])], [], [], [], []⟩ Try.f56 [a0] h = F56 n cl a0 h := by kernel_rfl
theorem S56 {n : Nat} {cl : CL} (hcl : OkCL Try.prog cl) {a0 : Value} {h h' : PH} {v : Value} (hx : F56 n cl a0 h = some (v, h')) : (enterable Try.prog 56 = true ∧ ACall Try.prog 56 [a0] h.abs (fun u k => u = v ∧ k = h'.abs)) ∧ Inv h h' :=
  exF_ok hcl hmx Try.func56 (by kernel_rfl) ((E56 n cl a0 h).trans hx)
-- (*undergrowth/undergrowthref1.reader).is
noncomputable def F83 (n : Nat) (cl : CL) (a0 a1 : Value) (h : PH) : R :=
 vb (pcall (F56 n cl a0 (h.fzn))) fun v1 =>
 vb (xNot v1) fun v2 =>
 vb (gd (isB true v2) (some a0)) fun v3 =>
 vb (gd (isB true v2) (xNil v3)) fun v4 =>
 vb (gd (isB true v2) (xFld 0 v4)) fun v5 =>
 vb (gd (isB true v2) (some a0)) fun v6 =>
 vb (gd (isB true v2) (xNil v6)) fun v7 =>
 vb (gd (isB true v2) (xFld 1 v7)) fun v8 =>
 vb (gd (isB true v2) (some a1)) fun v9 =>
 vb (gd (isB true v2) (xLd v5 h)) fun v10 =>
 vb (gd (isB true v2) (xLd v8 h)) fun v11 =>
 vb (gd (isB true v2) (aindex Try.prog 9 v10 v11)) fun v12 =>
 vb (gd (isB true v2) (xCmp ieq v12 v9)) fun v13 =>
 vb (xPick v2 v13 ff) fun v14 =>
 some (v14, h)
noncomputable def D83 (n : Nat) (cl : CL) : CL := fun f xs h => sw f 56 (ucons xs fun b0 xs => u0 xs (F56 n cl b0 h)) (cl f xs h)
theorem Dk83 {n : Nat} {cl : CL} (hcl : OkCL Try.prog cl) : OkCL Try.prog (D83 n cl) := by
  intro f xs h v h' hx
  rcases sw_ok hx with ⟨rfl, hx⟩ | hx
  · obtain ⟨_, _, rfl, hx⟩ := ucons_ok hx; obtain ⟨rfl, hx⟩ := u0_ok hx; exact S56 (n := n) (cl := cl) hcl hx
  exact hcl _ _ _ _ _ hx
theorem E83 (n : Nat) (cl : CL) (a0 a1 : Value) (h : PH) : exF Try.prog n (D83 n cl) ⟨[56], [], [], [(1, [0, 1, 2, 3, 4, 5, 6, 8, 9, 10, 13, 7, 11, 12, 14, 15, 16])], [], [], [], []⟩ Try.f83 [a0, a1] h = F83 n cl a0 a1 h := by kernel_rfl
theorem S83 {n : Nat} {cl : CL} (hcl : OkCL Try.prog cl) {a0 a1 : Value} {h h' : PH} {v : Value} (hx : F83 n cl a0 a1 h = some (v, h')) : (enterable Try.prog 83 = true ∧ ACall Try.prog 83 [a0, a1] h.abs (fun u k => u = v ∧ k = h'.abs)) ∧ Inv h h' :=
  exF_ok (Dk83 hcl) hmx Try.func83 (by kernel_rfl) ((E83 n cl a0 a1 h).trans hx)
-- (*undergrowth/undergrowthref1.reader).fail
noncomputable def F57_0 (n : Nat) (cl : CL) (a0 : Value) (a1 : Value) (a2 : Value) (h : PH) : R :=
 vb (xNil a0) fun v5 =>
 vb (xFld 2 v5) fun v6 =>
 hb (xSt1 v6 a1 h) fun _ h =>
 vb (xNil a0) fun v7 =>
 vb (xFld 3 v7) fun v8 =>
 hb (xSt1 v8 a2 h) fun _ h =>
 some (Value.tuple ⟨[]⟩, h)
noncomputable def F57 (n : Nat) (cl : CL) (a0 a1 a2 : Value) (h : PH) : R :=
 vb (xNil a0) fun v1 =>
 vb (xFld 2 v1) fun v2 =>
 vb (xLd v2 h) fun v3 =>
 vb (xCmp ieq v3 (vN 0)) fun v4 =>
 bite v4 (F57_0 n cl a0 a1 a2 h) (some (Value.tuple ⟨[]⟩, h))
theorem E57 (n : Nat) (cl : CL) (a0 a1 a2 : Value) (h : PH) : exF Try.prog n cl ⟨[], [], [], [], [], [], [], []⟩ Try.f57 [a0, a1, a2] h = F57 n cl a0 a1 a2 h := by kernel_rfl
theorem S57 {n : Nat} {cl : CL} (hcl : OkCL Try.prog cl) {a0 a1 a2 : Value} {h h' : PH} {v : Value} (hx : F57 n cl a0 a1 a2 h = some (v, h')) : (enterable Try.prog 57 = true ∧ ACall Try.prog 57 [a0, a1, a2] h.abs (fun u k => u = v ∧ k = h'.abs)) ∧ Inv h h' :=
  exF_ok hcl hmx Try.func57 (by kernel_rfl) ((E57 n cl a0 a1 a2 h).trans hx)
-- undergrowth/undergrowthref1.With
noncomputable def F133 (n : Nat) (cl : CL) (a0 a1 : Value) (h : PH) : R :=
 hb (xBox a0 h) fun v1 h =>
 hb (xAlloc (zcells Try.prog 54) h) fun v2 h =>
 vb (xShr a1 (Value.int .u64 (.ofNat 6))) fun v3 =>
 vb (xShr a1 (Value.int .u64 (.ofNat 6))) fun v4 =>
 vb (xIdxA 4 1 v1 v4) fun v5 =>
 vb (xLd v5 h) fun v6 =>
 vb (xBit Nat.land a1 (Value.int .u8 (.ofNat 63))) fun v7 =>
 vb (xConvI .u64 v7) fun v8 =>
 vb (xShl (Value.int .u64 (.ofNat 1)) v8) fun v9 =>
 vb (xBit Nat.lor v6 v9) fun v10 =>
 vb (xIdxA 4 1 v1 v3) fun v11 =>
 hb (xSt1 v11 v10 h) fun _ h =>
 vb (xLdA 4 v1 h) fun v12 =>
 hb (xStA 4 v2 v12 h) fun _ h =>
 vb (xLdA 4 v2 h) fun v13 => some (v13, h)
theorem E133 (n : Nat) (cl : CL) (a0 a1 : Value) (h : PH) : exF Try.prog n cl ⟨[], [], [], [], [], [], [], []⟩ Try.f133 [a0, a1] h = F133 n cl a0 a1 h := by kernel_rfl
theorem S133 {n : Nat} {cl : CL} (hcl : OkCL Try.prog cl) {a0 a1 : Value} {h h' : PH} {v : Value} (hx : F133 n cl a0 a1 h = some (v, h')) : (enterable Try.prog 133 = true ∧ ACall Try.prog 133 [a0, a1] h.abs (fun u k => u = v ∧ k = h'.abs)) ∧ Inv h h' :=
  exF_ok hcl hmx Try.func133 (by kernel_rfl) ((E133 n cl a0 a1 h).trans hx)
-- undergrowth/undergrowthref1.dot
noncomputable def F123_0 (n : Nat) (cl : CL) (v18 : Value) (r4 : Kt) (v14 : Value) (v16 : Value) (h : PH) : R :=
 vb (xAri Int.add v18 (vN 1)) fun v20 =>
 r4 [v14, v16, v20] h
noncomputable def F123_1 (n : Nat) (cl : CL) (v7 : Value) (v9 : Value) (k13 : Kt) (v5 : Value) (h : PH) : R :=
 vb (xLdA 4 v7 h) fun v22 =>
 vb (xConvI .u8 v9) fun v23 =>
 vb (pcall (F133 n cl v22 v23 (h.fzn))) fun v24 =>
 hb (xStA 4 v7 v24 h) fun _ h =>
 k13 [v5, v7, v9] h
noncomputable def F123_2 (n : Nat) (cl : CL) (r4 : Kt) (y12 : List Value) (h : PH) : R :=
 ucons y12 fun v14 y15 => ucons y15 fun v16 y17 => ucons y17 fun v18 y19 => F123_0 n cl v18 r4 v14 v16 h
noncomputable def F123_3 (n : Nat) (cl : CL) (v9 : Value) (v7 : Value) (v5 : Value) (h : PH) (k13 : Kt) : R :=
 vb (xCmp ine v9 (vN 10)) fun v21 =>
 bite v21 (F123_1 n cl v7 v9 k13 v5 h) (k13 [v5, v7, v9] h)
noncomputable def F123_4 (n : Nat) (cl : CL) (v7 : Value) (v5 : Value) (h : PH) : R :=
 vb (xLdA 4 v7 h) fun v25 =>
 hb (xStA 4 v5 v25 h) fun _ h =>
 vb (xLdA 4 v5 h) fun v26 => some (v26, h)
noncomputable def F123_5 (n : Nat) (cl : CL) (v9 : Value) (r4 : Kt) (v7 : Value) (v5 : Value) (h : PH) : R :=
 vb (xCmp ilt v9 (vN 256)) fun v11 =>
 bite v11 (jn (F123_2 n cl r4) (F123_3 n cl v9 v7 v5 h)) (F123_4 n cl v7 v5 h)
noncomputable def F123_6 (n : Nat) (cl : CL) (r4 : Kt) (y3 : List Value) (h : PH) : R :=
 ucons y3 fun v5 y6 => ucons y6 fun v7 y8 => ucons y8 fun v9 y10 => F123_5 n cl v9 r4 v7 v5 h
noncomputable def F123 (n : Nat) (cl : CL) (h : PH) : R :=
 hb (xAlloc (zcells Try.prog 54) h) fun v1 h =>
 hb (xAlloc (zcells Try.prog 54) h) fun v2 h =>
 lp n (F123_6 n cl) [v1, v2, (vN 0)] h
noncomputable def D123 (n : Nat) (cl : CL) : CL := fun f xs h => sw f 133 (ucons xs fun b0 xs => ucons xs fun b1 xs => u0 xs (F133 n cl b0 b1 h)) (cl f xs h)
theorem Dk123 {n : Nat} {cl : CL} (hcl : OkCL Try.prog cl) : OkCL Try.prog (D123 n cl) := by
  intro f xs h v h' hx
  rcases sw_ok hx with ⟨rfl, hx⟩ | hx
  · obtain ⟨_, _, rfl, hx⟩ := ucons_ok hx; obtain ⟨_, _, rfl, hx⟩ := ucons_ok hx; obtain ⟨rfl, hx⟩ := u0_ok hx; exact S133 (n := n) (cl := cl) hcl hx
  exact hcl _ _ _ _ _ hx
theorem E123 (n : Nat) (cl : CL) (h : PH) : exF Try.prog n (D123 n cl) ⟨[133], [], [(3, [0, 1, 2]), (4, [0, 1, 2])], [], [], [], [], []⟩ Try.f123 [] h = F123 n cl  h := by kernel_rfl
theorem S123 {n : Nat} {cl : CL} (hcl : OkCL Try.prog cl) {h h' : PH} {v : Value} (hx : F123 n cl h = some (v, h')) : (enterable Try.prog 123 = true ∧ ACall Try.prog 123 [] h.abs (fun u k => u = v ∧ k = h'.abs)) ∧ Inv h h' :=
  exF_ok (Dk123 hcl) hmx Try.func123 (by kernel_rfl) ((E123 n cl h).trans hx)
-- undergrowth/undergrowthref1.one
noncomputable def F124 (n : Nat) (cl : CL) (a0 : Value) (h : PH) : R :=
 hb (xAlloc (zcells Try.prog 57) h) fun v1 h =>
 hb (xAlloc (zcells Try.prog 54) h) fun v2 h =>
 vb (xLdA 4 v2 h) fun v3 =>
 vb (pcall (F133 n cl v3 a0 (h.fzn))) fun v4 =>
 vb (abuild Try.prog 57 [(0, (vN 1)), (1, v4)]) fun v5 =>
 hb (xStA 6 v1 v5 h) fun _ h =>
 vb (xLdA 6 v1 h) fun v6 => some (v6, h)
noncomputable def D124 (n : Nat) (cl : CL) : CL := fun f xs h => sw f 133 (ucons xs fun b0 xs => ucons xs fun b1 xs => u0 xs (F133 n cl b0 b1 h)) (cl f xs h)
theorem Dk124 {n : Nat} {cl : CL} (hcl : OkCL Try.prog cl) : OkCL Try.prog (D124 n cl) := by
  intro f xs h v h' hx
  rcases sw_ok hx with ⟨rfl, hx⟩ | hx
  · obtain ⟨_, _, rfl, hx⟩ := ucons_ok hx; obtain ⟨_, _, rfl, hx⟩ := ucons_ok hx; obtain ⟨rfl, hx⟩ := u0_ok hx; exact S133 (n := n) (cl := cl) hcl hx
  exact hcl _ _ _ _ _ hx
theorem E124 (n : Nat) (cl : CL) (a0 : Value) (h : PH) : exF Try.prog n (D124 n cl) ⟨[133], [], [], [], [], [], [], []⟩ Try.f124 [a0] h = F124 n cl a0 h := by kernel_rfl
theorem S124 {n : Nat} {cl : CL} (hcl : OkCL Try.prog cl) {a0 : Value} {h h' : PH} {v : Value} (hx : F124 n cl a0 h = some (v, h')) : (enterable Try.prog 124 = true ∧ ACall Try.prog 124 [a0] h.abs (fun u k => u = v ∧ k = h'.abs)) ∧ Inv h h' :=
  exF_ok (Dk124 hcl) hmx Try.func124 (by kernel_rfl) ((E124 n cl a0 h).trans hx)
-- (*undergrowth/undergrowthref1.reader).byte1
noncomputable def F134_0 (n : Nat) (cl : CL) (v3 : Value) (h : PH) : R :=
 vb (xNil v3) fun v6 =>
 vb (xFld 1 v6) fun v7 =>
 vb (xLd v7 h) fun v8 =>
 hb (F57 n cl v3 (vN 2) v8 h) fun v9 h =>
 some ((Value.int .u8 (.ofNat 0)), h)
noncomputable def F134_1 (n : Nat) (cl : CL) (v3 : Value) (h : PH) : R :=
 vb (xNil v3) fun v10 =>
 vb (xFld 1 v10) fun v11 =>
 vb (xLd v11 h) fun v12 =>
 vb (xAri Int.add v12 (vN 1)) fun v13 =>
 vb (xNil v3) fun v14 =>
 vb (xFld 1 v14) fun v15 =>
 hb (xSt1 v15 v13 h) fun _ h =>
 vb (xNil v3) fun v16 =>
 vb (xFld 0 v16) fun v17 =>
 vb (xNil v3) fun v18 =>
 vb (xFld 1 v18) fun v19 =>
 vb (xLd v17 h) fun v20 =>
 vb (xLd v19 h) fun v21 =>
 vb (xAri Int.sub v21 (vN 1)) fun v22 =>
 vb (aindex Try.prog 9 v20 v22) fun v23 =>
 some (v23, h)
noncomputable def F134_2 (n : Nat) (cl : CL) (v3 : Value) (h : PH) : R :=
 vb (pcall (F56 n cl v3 (h.fzn))) fun v5 =>
 bite v5 (F134_0 n cl v3 h) (F134_1 n cl v3 h)
noncomputable def F134_3 (n : Nat) (cl : CL) (a0 : Value) (k2 : Kt) (h : PH) : R :=
 vb (xNil a0) fun v25 =>
 vb (xFld 1 v25) fun v26 =>
 vb (xLd v26 h) fun v27 =>
 vb (xAri Int.add v27 (vN 1)) fun v28 =>
 vb (xNil a0) fun v29 =>
 vb (xFld 1 v29) fun v30 =>
 hb (xSt1 v30 v28 h) fun _ h =>
 k2 [a0] h
noncomputable def F134_4 (n : Nat) (cl : CL) (a0 : Value) (h : PH) (k2 : Kt) : R :=
 vb (pcall (F83 n cl a0 (Value.int .u8 (.ofNat 92)) (h.fzn))) fun v24 =>
 bite v24 (F134_3 n cl a0 k2 h) (k2 [a0] h)
noncomputable def F134 (n : Nat) (cl : CL) (a0 : Value) (h : PH) : R :=
 jn (fun y1 h => ucons y1 fun v3 y4 => F134_2 n cl v3 h) (F134_4 n cl a0 h)
noncomputable def D134 (n : Nat) (cl : CL) : CL := fun f xs h => sw f 56 (ucons xs fun b0 xs => u0 xs (F56 n cl b0 h)) (sw f 57 (ucons xs fun b0 xs => ucons xs fun b1 xs => ucons xs fun b2 xs => u0 xs (F57 n cl b0 b1 b2 h)) (sw f 83 (ucons xs fun b0 xs => ucons xs fun b1 xs => u0 xs (F83 n cl b0 b1 h)) (cl f xs h)))
theorem Dk134 {n : Nat} {cl : CL} (hcl : OkCL Try.prog cl) : OkCL Try.prog (D134 n cl) := by
  intro f xs h v h' hx
  rcases sw_ok hx with ⟨rfl, hx⟩ | hx
  · obtain ⟨_, _, rfl, hx⟩ := ucons_ok hx; obtain ⟨rfl, hx⟩ := u0_ok hx; exact S56 (n := n) (cl := cl) hcl hx
  rcases sw_ok hx with ⟨rfl, hx⟩ | hx
  · obtain ⟨_, _, rfl, hx⟩ := ucons_ok hx; obtain ⟨_, _, rfl, hx⟩ := ucons_ok hx; obtain ⟨_, _, rfl, hx⟩ := ucons_ok hx; obtain ⟨rfl, hx⟩ := u0_ok hx; exact S57 (n := n) (cl := cl) hcl hx
  rcases sw_ok hx with ⟨rfl, hx⟩ | hx
  · obtain ⟨_, _, rfl, hx⟩ := ucons_ok hx; obtain ⟨_, _, rfl, hx⟩ := ucons_ok hx; obtain ⟨rfl, hx⟩ := u0_ok hx; exact S83 (n := n) (cl := cl) hcl hx
  exact hcl _ _ _ _ _ hx
theorem E134 (n : Nat) (cl : CL) (a0 : Value) (h : PH) : exF Try.prog n (D134 n cl) ⟨[56, 83], [], [(3, [0])], [(7, [0, 1, 2, 4, 5, 6, 3, 7, 8, 9, 10])], [], [], [], []⟩ Try.f134 [a0] h = F134 n cl a0 h := by kernel_rfl
theorem S134 {n : Nat} {cl : CL} (hcl : OkCL Try.prog cl) {a0 : Value} {h h' : PH} {v : Value} (hx : F134 n cl a0 h = some (v, h')) : (enterable Try.prog 134 = true ∧ ACall Try.prog 134 [a0] h.abs (fun u k => u = v ∧ k = h'.abs)) ∧ Inv h h' :=
  exF_ok (Dk134 hcl) hmx Try.func134 (by kernel_rfl) ((E134 n cl a0 h).trans hx)
-- (*undergrowth/undergrowthref1.reader).class
noncomputable def F125_0 (n : Nat) (cl : CL) (v34 : Value) (v32 : Value) (h : PH) : R :=
 vb (xLdA 4 v34 h) fun v36 =>
 vb (abuild Try.prog 57 [(0, (vN 1)), (1, v36)]) fun v37 =>
 hb (xStA 6 v32 v37 h) fun _ h =>
 vb (xLdA 6 v32 h) fun v38 => some (v38, h)
noncomputable def F125_1 (n : Nat) (cl : CL) (v43 : Value) (v45 : Value) (r40 : Kt) (v41 : Value) (h : PH) : R :=
 vb (xIdxA 4 1 v43 v45) fun v48 =>
 vb (xLd v48 h) fun v49 =>
 vb (xUn Try.prog .xor v49) fun v50 =>
 vb (xIdxA 4 1 v43 v45) fun v51 =>
 hb (xSt1 v51 v50 h) fun _ h =>
 vb (xAri Int.add v45 (vN 1)) fun v52 =>
 r40 [v41, v43, v52] h
noncomputable def F125_2 (n : Nat) (cl : CL) (v45 : Value) (v43 : Value) (r40 : Kt) (v41 : Value) (k31 : Kt) (h : PH) : R :=
 vb (xCmp ilt v45 (vN 4)) fun v47 =>
 bite v47 (F125_1 n cl v43 v45 r40 v41 h) (k31 [v41, v43] h)
noncomputable def F125_3 (n : Nat) (cl : CL) (k31 : Kt) (r40 : Kt) (y39 : List Value) (h : PH) : R :=
 ucons y39 fun v41 y42 => ucons y42 fun v43 y44 => ucons y44 fun v45 y46 => F125_2 n cl v45 v43 r40 v41 k31 h
noncomputable def F125_4 (n : Nat) (cl : CL) (v16 : Value) (v22 : Value) (v18 : Value) (v20 : Value) (h : PH) : R :=
 vb (xNil v16) fun v24 =>
 vb (xFld 1 v24) fun v25 =>
 vb (xLd v25 h) fun v26 =>
 vb (xAri Int.add v26 (vN 1)) fun v27 =>
 vb (xNil v16) fun v28 =>
 vb (xFld 1 v28) fun v29 =>
 hb (xSt1 v29 v27 h) fun _ h =>
 jn (fun y30 h => ucons y30 fun v32 y33 => ucons y33 fun v34 y35 => F125_0 n cl v34 v32 h) (fun k31 => bite v22 (lp n (F125_3 n cl k31) [v18, v20, (vN 0)] h) (k31 [v18, v20] h))
noncomputable def F125_5 (n : Nat) (cl : CL) (v55 : Value) (k15 : Kt) (v57 : Value) (v59 : Value) (v61 : Value) (h : PH) : R :=
 vb (xNil v55) fun v81 =>
 vb (xFld 1 v81) fun v82 =>
 vb (xLd v82 h) fun v83 =>
 hb (F57 n cl v55 (vN 2) v83 h) fun v84 h =>
 k15 [v55, v57, v59, v61] h
noncomputable def F125_6 (n : Nat) (cl : CL) (v109 : Value) (v117 : Value) (r104 : Kt) (v105 : Value) (v107 : Value) (v111 : Value) (v113 : Value) (v115 : Value) (h : PH) : R :=
 vb (xLdA 4 v109 h) fun v121 =>
 vb (xConvI .u8 v117) fun v122 =>
 vb (pcall (F133 n cl v121 v122 (h.fzn))) fun v123 =>
 hb (xStA 4 v109 v123 h) fun _ h =>
 vb (xAri Int.add v117 (vN 1)) fun v124 =>
 r104 [v105, v107, v109, v111, v113, v115, v124] h
noncomputable def F125_7 (n : Nat) (cl : CL) (v113 : Value) (r54 : Kt) (v105 : Value) (v107 : Value) (v109 : Value) (v111 : Value) (h : PH) : R :=
 vb (xAri Int.add v113 (vN 1)) fun v125 =>
 r54 [v105, v107, v109, v111, v125] h
noncomputable def F125_8 (n : Nat) (cl : CL) (v115 : Value) (v117 : Value) (v109 : Value) (r104 : Kt) (v105 : Value) (v107 : Value) (v111 : Value) (v113 : Value) (r54 : Kt) (h : PH) : R :=
 vb (xConvI .i64 v115) fun v119 =>
 vb (xCmp ile v117 v119) fun v120 =>
 bite v120 (F125_6 n cl v109 v117 r104 v105 v107 v111 v113 v115 h) (F125_7 n cl v113 r54 v105 v107 v109 v111 h)
noncomputable def F125_9 (n : Nat) (cl : CL) (r54 : Kt) (r104 : Kt) (y103 : List Value) (h : PH) : R :=
 ucons y103 fun v105 y106 => ucons y106 fun v107 y108 => ucons y108 fun v109 y110 => ucons y110 fun v111 y112 => ucons y112 fun v113 y114 => ucons y114 fun v115 y116 => ucons y116 fun v117 y118 => F125_8 n cl v115 v117 v109 r104 v105 v107 v111 v113 r54 h
noncomputable def F125_10 (n : Nat) (cl : CL) (v98 : Value) (r54 : Kt) (v88 : Value) (v90 : Value) (v92 : Value) (v94 : Value) (v96 : Value) (v100 : Value) (h : PH) : R :=
 vb (xConvI .i64 v98) fun v102 =>
 lp n (F125_9 n cl r54) [v88, v90, v92, v94, v96, v100, v102] h
noncomputable def F125_11 (n : Nat) (cl : CL) (v55 : Value) (v165 : Value) (k87 : Kt) (v57 : Value) (v59 : Value) (v61 : Value) (v63 : Value) (v85 : Value) (v166 : Value) (h : PH) : R :=
 hb (F57 n cl v55 (vN 2) v165 h) fun v175 h =>
 k87 [v55, v57, v59, v61, v63, v85, v166] h
noncomputable def F125_12 (n : Nat) (cl : CL) (v55 : Value) (v85 : Value) (k87 : Kt) (v57 : Value) (v59 : Value) (v61 : Value) (v63 : Value) (h : PH) : R :=
 vb (xNil v55) fun v157 =>
 vb (xFld 1 v157) fun v158 =>
 vb (xLd v158 h) fun v159 =>
 vb (xAri Int.add v159 (vN 1)) fun v160 =>
 vb (xNil v55) fun v161 =>
 vb (xFld 1 v161) fun v162 =>
 hb (xSt1 v162 v160 h) fun _ h =>
 vb (xNil v55) fun v163 =>
 vb (xFld 1 v163) fun v164 =>
 vb (xLd v164 h) fun v165 =>
 hb (F134 n cl v55 h) fun v166 h =>
 vb (xNil v55) fun v167 =>
 vb (xFld 2 v167) fun v168 =>
 vb (xLd v168 h) fun v169 =>
 vb (xCmp ieq v169 (vN 0)) fun v170 =>
 vb (gd (isB true v170) (some v166)) fun v171 =>
 vb (gd (isB true v170) (some v85)) fun v172 =>
 vb (gd (isB true v170) (xCmp ilt v171 v172)) fun v173 =>
 vb (xPick v170 v173 ff) fun v174 =>
 bite v174 (F125_11 n cl v55 v165 k87 v57 v59 v61 v63 v85 v166 h) (k87 [v55, v57, v59, v61, v63, v85, v166] h)
noncomputable def F125_13 (n : Nat) (cl : CL) (r54 : Kt) (y86 : List Value) (h : PH) : R :=
 ucons y86 fun v88 y89 => ucons y89 fun v90 y91 => ucons y91 fun v92 y93 => ucons y93 fun v94 y95 => ucons y95 fun v96 y97 => ucons y97 fun v98 y99 => ucons y99 fun v100 y101 => F125_10 n cl v98 r54 v88 v90 v92 v94 v96 v100 h
noncomputable def F125_14 (n : Nat) (cl : CL) (v55 : Value) (v85 : Value) (v57 : Value) (v59 : Value) (v61 : Value) (v63 : Value) (h : PH) (k87 : Kt) : R :=
 vb (xNil v55) fun v126 =>
 vb (xFld 2 v126) fun v127 =>
 vb (xLd v127 h) fun v128 =>
 vb (xCmp ieq v128 (vN 0)) fun v129 =>
 vb (gd (isB true v129) (some v55)) fun v130 =>
 vb (gd (isB true v129) (pcall (F83 n cl v130 (Value.int .u8 (.ofNat 45)) (h.fzn)))) fun v131 =>
 vb (xPick v129 v131 ff) fun v132 =>
 vb (gd (isB true v132) (some v55)) fun v133 =>
 vb (gd (isB true v132) (xNil v133)) fun v134 =>
 vb (gd (isB true v132) (xFld 1 v134)) fun v135 =>
 vb (gd (isB true v132) (some v55)) fun v136 =>
 vb (gd (isB true v132) (xNil v136)) fun v137 =>
 vb (gd (isB true v132) (xFld 0 v137)) fun v138 =>
 vb (gd (isB true v132) (xLd v135 h)) fun v139 =>
 vb (gd (isB true v132) (xAri Int.add v139 (vN 1))) fun v140 =>
 vb (gd (isB true v132) (xLd v138 h)) fun v141 =>
 vb (gd (isB true v132) (xLenT v141)) fun v142 =>
 vb (gd (isB true v132) (xCmp ilt v140 v142)) fun v143 =>
 vb (xPick v132 v143 ff) fun v144 =>
 vb (gd (isB true v144) (some v55)) fun v145 =>
 vb (gd (isB true v144) (xNil v145)) fun v146 =>
 vb (gd (isB true v144) (xFld 0 v146)) fun v147 =>
 vb (gd (isB true v144) (some v55)) fun v148 =>
 vb (gd (isB true v144) (xNil v148)) fun v149 =>
 vb (gd (isB true v144) (xFld 1 v149)) fun v150 =>
 vb (gd (isB true v144) (xLd v147 h)) fun v151 =>
 vb (gd (isB true v144) (xLd v150 h)) fun v152 =>
 vb (gd (isB true v144) (xAri Int.add v152 (vN 1))) fun v153 =>
 vb (gd (isB true v144) (aindex Try.prog 9 v151 v153)) fun v154 =>
 vb (gd (isB true v144) (xCmp ine v154 (Value.int .u8 (.ofNat 93)))) fun v155 =>
 vb (xPick v144 v155 ff) fun v156 =>
 bite v156 (F125_12 n cl v55 v85 k87 v57 v59 v61 v63 h) (k87 [v55, v57, v59, v61, v63, v85, v85] h)
noncomputable def F125_15 (n : Nat) (cl : CL) (v55 : Value) (r54 : Kt) (v57 : Value) (v59 : Value) (v61 : Value) (v63 : Value) (h : PH) : R :=
 hb (F134 n cl v55 h) fun v85 h =>
 jn (F125_13 n cl r54) (F125_14 n cl v55 v85 v57 v59 v61 v63 h)
noncomputable def F125_16 (n : Nat) (cl : CL) (v55 : Value) (k15 : Kt) (v57 : Value) (v59 : Value) (v61 : Value) (r54 : Kt) (v63 : Value) (h : PH) : R :=
 vb (pcall (F83 n cl v55 (Value.int .u8 (.ofNat 93)) (h.fzn))) fun v77 =>
 vb (gd (isB false v77) (some v55)) fun v78 =>
 vb (gd (isB false v77) (pcall (F56 n cl v78 (h.fzn)))) fun v79 =>
 vb (xPick v77 tt v79) fun v80 =>
 bite v80 (F125_5 n cl v55 k15 v57 v59 v61 h) (F125_15 n cl v55 r54 v57 v59 v61 v63 h)
noncomputable def F125_17 (n : Nat) (cl : CL) (v55 : Value) (v63 : Value) (k15 : Kt) (v57 : Value) (v59 : Value) (v61 : Value) (r54 : Kt) (h : PH) : R :=
 vb (xNil v55) fun v65 =>
 vb (xFld 2 v65) fun v66 =>
 vb (xLd v66 h) fun v67 =>
 vb (xCmp ieq v67 (vN 0)) fun v68 =>
 vb (gd (isB true v68) (some v55)) fun v69 =>
 vb (gd (isB true v68) (pcall (F83 n cl v69 (Value.int .u8 (.ofNat 93)) (h.fzn)))) fun v70 =>
 vb (gd (isB true v68) (some v70)) fun v71 =>
 vb (gd (isB true v71) (some v63)) fun v72 =>
 vb (gd (isB true v71) (xCmp (fun x y => ilt y x) v72 (vN 0))) fun v73 =>
 vb (gd (isB true v68) (xPick v71 v73 ff)) fun v74 =>
 vb (gd (isB true v68) (xNot v74)) fun v75 =>
 vb (xPick v68 v75 ff) fun v76 =>
 bite v76 (F125_16 n cl v55 k15 v57 v59 v61 r54 v63 h) (k15 [v55, v57, v59, v61] h)
noncomputable def F125_18 (n : Nat) (cl : CL) (k15 : Kt) (r54 : Kt) (y53 : List Value) (h : PH) : R :=
 ucons y53 fun v55 y56 => ucons y56 fun v57 y58 => ucons y58 fun v59 y60 => ucons y60 fun v61 y62 => ucons y62 fun v63 y64 => F125_17 n cl v55 v63 k15 v57 v59 v61 r54 h
noncomputable def F125_19 (n : Nat) (cl : CL) (y14 : List Value) (h : PH) : R :=
 ucons y14 fun v16 y17 => ucons y17 fun v18 y19 => ucons y19 fun v20 y21 => ucons y21 fun v22 y23 => F125_4 n cl v16 v22 v18 v20 h
noncomputable def F125_20 (n : Nat) (cl : CL) (a0 : Value) (k5 : Kt) (v1 : Value) (v2 : Value) (v3 : Value) (h : PH) : R :=
 vb (xNil a0) fun v176 =>
 vb (xFld 1 v176) fun v177 =>
 vb (xLd v177 h) fun v178 =>
 vb (xAri Int.add v178 (vN 1)) fun v179 =>
 vb (xNil a0) fun v180 =>
 vb (xFld 1 v180) fun v181 =>
 hb (xSt1 v181 v179 h) fun _ h =>
 k5 [a0, v1, v2, v3] h
noncomputable def F125_21 (n : Nat) (cl : CL) (y4 : List Value) (h : PH) : R :=
 ucons y4 fun v6 y7 => ucons y7 fun v8 y9 => ucons y9 fun v10 y11 => ucons y11 fun v12 y13 => jn (F125_19 n cl) (fun k15 => lp n (F125_18 n cl k15) [v6, v8, v10, v12, (vN 0)] h)
noncomputable def F125 (n : Nat) (cl : CL) (a0 : Value) (h : PH) : R :=
 hb (xAlloc (zcells Try.prog 57) h) fun v1 h =>
 hb (xAlloc (zcells Try.prog 54) h) fun v2 h =>
 vb (pcall (F83 n cl a0 (Value.int .u8 (.ofNat 94)) (h.fzn))) fun v3 =>
 jn (F125_21 n cl) (fun k5 => bite v3 (F125_20 n cl a0 k5 v1 v2 v3 h) (k5 [a0, v1, v2, v3] h))
noncomputable def D125 (n : Nat) (cl : CL) : CL := fun f xs h => sw f 83 (ucons xs fun b0 xs => ucons xs fun b1 xs => u0 xs (F83 n cl b0 b1 h)) (sw f 56 (ucons xs fun b0 xs => u0 xs (F56 n cl b0 h)) (sw f 57 (ucons xs fun b0 xs => ucons xs fun b1 xs => ucons xs fun b2 xs => u0 xs (F57 n cl b0 b1 b2 h)) (sw f 134 (ucons xs fun b0 xs => u0 xs (F134 n cl b0 h)) (sw f 133 (ucons xs fun b0 xs => ucons xs fun b1 xs => u0 xs (F133 n cl b0 b1 h)) (cl f xs h)))))
theorem Dk125 {n : Nat} {cl : CL} (hcl : OkCL Try.prog cl) : OkCL Try.prog (D125 n cl) := by
  intro f xs h v h' hx
  rcases sw_ok hx with ⟨rfl, hx⟩ | hx
  · obtain ⟨_, _, rfl, hx⟩ := ucons_ok hx; obtain ⟨_, _, rfl, hx⟩ := ucons_ok hx; obtain ⟨rfl, hx⟩ := u0_ok hx; exact S83 (n := n) (cl := cl) hcl hx
  rcases sw_ok hx with ⟨rfl, hx⟩ | hx
  · obtain ⟨_, _, rfl, hx⟩ := ucons_ok hx; obtain ⟨rfl, hx⟩ := u0_ok hx; exact S56 (n := n) (cl := cl) hcl hx
  rcases sw_ok hx with ⟨rfl, hx⟩ | hx
  · obtain ⟨_, _, rfl, hx⟩ := ucons_ok hx; obtain ⟨_, _, rfl, hx⟩ := ucons_ok hx; obtain ⟨_, _, rfl, hx⟩ := ucons_ok hx; obtain ⟨rfl, hx⟩ := u0_ok hx; exact S57 (n := n) (cl := cl) hcl hx
  rcases sw_ok hx with ⟨rfl, hx⟩ | hx
  · obtain ⟨_, _, rfl, hx⟩ := ucons_ok hx; obtain ⟨rfl, hx⟩ := u0_ok hx; exact S134 (n := n) (cl := cl) hcl hx
  rcases sw_ok hx with ⟨rfl, hx⟩ | hx
  · obtain ⟨_, _, rfl, hx⟩ := ucons_ok hx; obtain ⟨_, _, rfl, hx⟩ := ucons_ok hx; obtain ⟨rfl, hx⟩ := u0_ok hx; exact S133 (n := n) (cl := cl) hcl hx
  exact hcl _ _ _ _ _ hx
theorem E125 (n : Nat) (cl : CL) (a0 : Value) (h : PH) : exF Try.prog n (D125 n cl) ⟨[56, 83, 133], [], [(5, [0, 2, 3, 4]), (6, [0, 2, 3, 4, 5]), (17, [0, 2, 3, 4, 5, 6, 7]), (18, [0, 2, 3, 4, 5, 7, 9]), (22, [0, 2, 3, 4]), (25, [2, 3, 10]), (28, [2, 3])], [(11, [0, 1, 2, 3, 4, 5, 6, 7, 8, 9, 10, 11, 12, 15, 16, 17, 13, 14, 18, 19, 20, 21, 22, 23, 24, 25, 27, 28, 29, 26, 30, 31, 32, 33, 34])], [], [], [], []⟩ Try.f125 [a0] h = F125 n cl a0 h := by kernel_rfl
theorem S125 {n : Nat} {cl : CL} (hcl : OkCL Try.prog cl) {a0 : Value} {h h' : PH} {v : Value} (hx : F125 n cl a0 h = some (v, h')) : (enterable Try.prog 125 = true ∧ ACall Try.prog 125 [a0] h.abs (fun u k => u = v ∧ k = h'.abs)) ∧ Inv h h' :=
  exF_ok (Dk125 hcl) hmx Try.func125 (by kernel_rfl) ((E125 n cl a0 h).trans hx)
-- undergrowth/undergrowthref1.special
noncomputable def F126 (n : Nat) (cl : CL) (a0 : Value) (h : PH) : R :=
 vb (xCmp ieq a0 (Value.int .u8 (.ofNat 124))) fun v1 =>
 vb (gd (isB false v1) (some a0)) fun v2 =>
 vb (gd (isB false v1) (xCmp ieq v2 (Value.int .u8 (.ofNat 42)))) fun v3 =>
 vb (xPick v1 tt v3) fun v4 =>
 vb (gd (isB false v4) (some a0)) fun v5 =>
 vb (gd (isB false v4) (xCmp ieq v5 (Value.int .u8 (.ofNat 43)))) fun v6 =>
 vb (xPick v4 tt v6) fun v7 =>
 vb (gd (isB false v7) (some a0)) fun v8 =>
 vb (gd (isB false v7) (xCmp ieq v8 (Value.int .u8 (.ofNat 63)))) fun v9 =>
 vb (xPick v7 tt v9) fun v10 =>
 vb (gd (isB false v10) (some a0)) fun v11 =>
 vb (gd (isB false v10) (xCmp ieq v11 (Value.int .u8 (.ofNat 40)))) fun v12 =>
 vb (xPick v10 tt v12) fun v13 =>
 vb (gd (isB false v13) (some a0)) fun v14 =>
 vb (gd (isB false v13) (xCmp ieq v14 (Value.int .u8 (.ofNat 41)))) fun v15 =>
 vb (xPick v13 tt v15) fun v16 =>
 vb (gd (isB false v16) (some a0)) fun v17 =>
 vb (gd (isB false v16) (xCmp ieq v17 (Value.int .u8 (.ofNat 91)))) fun v18 =>
 vb (xPick v16 tt v18) fun v19 =>
 vb (gd (isB false v19) (some a0)) fun v20 =>
 vb (gd (isB false v19) (xCmp ieq v20 (Value.int .u8 (.ofNat 93)))) fun v21 =>
 vb (xPick v19 tt v21) fun v22 =>
 some (v22, h)
theorem E126 (n : Nat) (cl : CL) (a0 : Value) (h : PH) : exF Try.prog n cl ⟨[], [], [], [], [], [], [], []⟩ Try.f126 [a0] h = F126 n cl a0 h := by kernel_rfl
theorem S126 {n : Nat} {cl : CL} (hcl : OkCL Try.prog cl) {a0 : Value} {h h' : PH} {v : Value} (hx : F126 n cl a0 h = some (v, h')) : (enterable Try.prog 126 = true ∧ ACall Try.prog 126 [a0] h.abs (fun u k => u = v ∧ k = h'.abs)) ∧ Inv h h' :=
  exF_ok hcl hmx Try.func126 (by kernel_rfl) ((E126 n cl a0 h).trans hx)
-- (*undergrowth/undergrowthref1.reader).atom
noncomputable def F110_0 (n : Nat) (cl : CL) (a0 : Value) (v4 : Value) (v1 : Value) (h : PH) : R :=
 hb (F57 n cl a0 (vN 4) v4 h) fun v11 h =>
 vb (abuild Try.prog 57 []) fun v12 =>
 hb (xStA 6 v1 v12 h) fun _ h =>
 vb (xLdA 6 v1 h) fun v13 => some (v13, h)
noncomputable def F110_1 (n : Nat) (cl : CL) (v25 : Value) (v29 : Value) (v27 : Value) (h : PH) : R :=
 vb (xNil v25) fun v31 =>
 vb (xFld 1 v31) fun v32 =>
 vb (xLd v32 h) fun v33 =>
 vb (xAri Int.add v33 (vN 1)) fun v34 =>
 vb (xNil v25) fun v35 =>
 vb (xFld 1 v35) fun v36 =>
 hb (xSt1 v36 v34 h) fun _ h =>
 vb (xLdA 6 v29 h) fun v37 =>
 hb (xStA 6 v27 v37 h) fun _ h =>
 vb (xLdA 6 v27 h) fun v38 => some (v38, h)
noncomputable def F110_2 (n : Nat) (cl : CL) (a0 : Value) (k24 : Kt) (v1 : Value) (v22 : Value) (h : PH) : R :=
 vb (xNil a0) fun v47 =>
 vb (xFld 1 v47) fun v48 =>
 vb (xLd v48 h) fun v49 =>
 hb (F57 n cl a0 (vN 2) v49 h) fun v50 h =>
 k24 [a0, v1, v22] h
noncomputable def F110_3 (n : Nat) (cl : CL) (y23 : List Value) (h : PH) : R :=
 ucons y23 fun v25 y26 => ucons y26 fun v27 y28 => ucons y28 fun v29 y30 => F110_1 n cl v25 v29 v27 h
noncomputable def F110_4 (n : Nat) (cl : CL) (a0 : Value) (v1 : Value) (v22 : Value) (h : PH) (k24 : Kt) : R :=
 vb (xNil a0) fun v39 =>
 vb (xFld 2 v39) fun v40 =>
 vb (xLd v40 h) fun v41 =>
 vb (xCmp ieq v41 (vN 0)) fun v42 =>
 vb (gd (isB true v42) (some a0)) fun v43 =>
 vb (gd (isB true v42) (pcall (F83 n cl v43 (Value.int .u8 (.ofNat 41)) (h.fzn)))) fun v44 =>
 vb (gd (isB true v42) (xNot v44)) fun v45 =>
 vb (xPick v42 v45 ff) fun v46 =>
 bite v46 (F110_2 n cl a0 k24 v1 v22 h) (k24 [a0, v1, v22] h)
noncomputable def F110_5 (n : Nat) (cl : CL) (a0 : Value) (a1 : Value) (v1 : Value) (h : PH) : R :=
 vb (xNil a0) fun v14 =>
 vb (xFld 1 v14) fun v15 =>
 vb (xLd v15 h) fun v16 =>
 vb (xAri Int.add v16 (vN 1)) fun v17 =>
 vb (xNil a0) fun v18 =>
 vb (xFld 1 v18) fun v19 =>
 hb (xSt1 v19 v17 h) fun _ h =>
 vb (xAri Int.add a1 (vN 1)) fun v20 =>
 hb (cl 55 [a0, v20] h) fun v21 h =>
 hb (xAlloc (zcells Try.prog 57) h) fun v22 h =>
 hb (xStA 6 v22 v21 h) fun _ h =>
 jn (F110_3 n cl) (F110_4 n cl a0 v1 v22 h)
noncomputable def F110_6 (n : Nat) (cl : CL) (a1 : Value) (a0 : Value) (v4 : Value) (v1 : Value) (h : PH) : R :=
 vb (xCmp (fun x y => ile y x) a1 (vN 20)) fun v10 =>
 bite v10 (F110_0 n cl a0 v4 v1 h) (F110_5 n cl a0 a1 v1 h)
noncomputable def F110_7 (n : Nat) (cl : CL) (a0 : Value) (v1 : Value) (h : PH) : R :=
 vb (xNil a0) fun v52 =>
 vb (xFld 1 v52) fun v53 =>
 vb (xLd v53 h) fun v54 =>
 vb (xAri Int.add v54 (vN 1)) fun v55 =>
 vb (xNil a0) fun v56 =>
 vb (xFld 1 v56) fun v57 =>
 hb (xSt1 v57 v55 h) fun _ h =>
 vb (pcall (F123 n cl (h.fzn))) fun v58 =>
 vb (abuild Try.prog 57 [(0, (vN 1)), (1, v58)]) fun v59 =>
 hb (xStA 6 v1 v59 h) fun _ h =>
 vb (xLdA 6 v1 h) fun v60 => some (v60, h)
noncomputable def F110_8 (n : Nat) (cl : CL) (a0 : Value) (v1 : Value) (h : PH) : R :=
 vb (xNil a0) fun v69 =>
 vb (xFld 1 v69) fun v70 =>
 vb (xLd v70 h) fun v71 =>
 hb (F57 n cl a0 (vN 2) v71 h) fun v72 h =>
 vb (abuild Try.prog 57 []) fun v73 =>
 hb (xStA 6 v1 v73 h) fun _ h =>
 vb (xLdA 6 v1 h) fun v74 => some (v74, h)
noncomputable def F110_9 (n : Nat) (cl : CL) (a0 : Value) (v1 : Value) (h : PH) : R :=
 vb (xNil a0) fun v75 =>
 vb (xFld 1 v75) fun v76 =>
 vb (xLd v76 h) fun v77 =>
 vb (xAri Int.add v77 (vN 1)) fun v78 =>
 vb (xNil a0) fun v79 =>
 vb (xFld 1 v79) fun v80 =>
 hb (xSt1 v80 v78 h) fun _ h =>
 vb (xNil a0) fun v81 =>
 vb (xFld 0 v81) fun v82 =>
 vb (xNil a0) fun v83 =>
 vb (xFld 1 v83) fun v84 =>
 vb (xLd v82 h) fun v85 =>
 vb (xLd v84 h) fun v86 =>
 vb (xAri Int.sub v86 (vN 1)) fun v87 =>
 vb (aindex Try.prog 9 v85 v87) fun v88 =>
 hb (fcall h (F124 n cl v88 (h.fzn))) fun v89 h =>
 hb (xStA 6 v1 v89 h) fun _ h =>
 vb (xLdA 6 v1 h) fun v90 => some (v90, h)
noncomputable def F110_10 (n : Nat) (cl : CL) (a0 : Value) (v1 : Value) (h : PH) : R :=
 vb (xNil a0) fun v62 =>
 vb (xFld 1 v62) fun v63 =>
 vb (xLd v63 h) fun v64 =>
 vb (xAri Int.add v64 (vN 1)) fun v65 =>
 vb (xNil a0) fun v66 =>
 vb (xFld 1 v66) fun v67 =>
 hb (xSt1 v67 v65 h) fun _ h =>
 vb (pcall (F56 n cl a0 (h.fzn))) fun v68 =>
 bite v68 (F110_8 n cl a0 v1 h) (F110_9 n cl a0 v1 h)
noncomputable def F110_11 (n : Nat) (cl : CL) (a0 : Value) (v1 : Value) (h : PH) : R :=
 vb (xNil a0) fun v92 =>
 vb (xFld 1 v92) fun v93 =>
 vb (xLd v93 h) fun v94 =>
 vb (xAri Int.add v94 (vN 1)) fun v95 =>
 vb (xNil a0) fun v96 =>
 vb (xFld 1 v96) fun v97 =>
 hb (xSt1 v97 v95 h) fun _ h =>
 hb (F125 n cl a0 h) fun v98 h =>
 hb (xStA 6 v1 v98 h) fun _ h =>
 vb (xLdA 6 v1 h) fun v99 => some (v99, h)
noncomputable def F110_12 (n : Nat) (cl : CL) (a0 : Value) (v4 : Value) (v1 : Value) (h : PH) : R :=
 hb (F57 n cl a0 (vN 2) v4 h) fun v101 h =>
 vb (abuild Try.prog 57 []) fun v102 =>
 hb (xStA 6 v1 v102 h) fun _ h =>
 vb (xLdA 6 v1 h) fun v103 => some (v103, h)
noncomputable def F110_13 (n : Nat) (cl : CL) (a0 : Value) (v8 : Value) (v1 : Value) (h : PH) : R :=
 vb (xNil a0) fun v104 =>
 vb (xFld 1 v104) fun v105 =>
 vb (xLd v105 h) fun v106 =>
 vb (xAri Int.add v106 (vN 1)) fun v107 =>
 vb (xNil a0) fun v108 =>
 vb (xFld 1 v108) fun v109 =>
 hb (xSt1 v109 v107 h) fun _ h =>
 hb (fcall h (F124 n cl v8 (h.fzn))) fun v110 h =>
 hb (xStA 6 v1 v110 h) fun _ h =>
 vb (xLdA 6 v1 h) fun v111 => some (v111, h)
noncomputable def F110_14 (n : Nat) (cl : CL) (v8 : Value) (a0 : Value) (v4 : Value) (v1 : Value) (h : PH) : R :=
 vb (pcall (F126 n cl v8 (h.fzn))) fun v100 =>
 bite v100 (F110_12 n cl a0 v4 v1 h) (F110_13 n cl a0 v8 v1 h)
noncomputable def F110_15 (n : Nat) (cl : CL) (v8 : Value) (a0 : Value) (v1 : Value) (v4 : Value) (h : PH) : R :=
 vb (xCmp ieq v8 (Value.int .u8 (.ofNat 91))) fun v91 =>
 bite v91 (F110_11 n cl a0 v1 h) (F110_14 n cl v8 a0 v4 v1 h)
noncomputable def F110_16 (n : Nat) (cl : CL) (v8 : Value) (a0 : Value) (v1 : Value) (v4 : Value) (h : PH) : R :=
 vb (xCmp ieq v8 (Value.int .u8 (.ofNat 92))) fun v61 =>
 bite v61 (F110_10 n cl a0 v1 h) (F110_15 n cl v8 a0 v1 v4 h)
noncomputable def F110_17 (n : Nat) (cl : CL) (v8 : Value) (a0 : Value) (v1 : Value) (v4 : Value) (h : PH) : R :=
 vb (xCmp ieq v8 (Value.int .u8 (.ofNat 46))) fun v51 =>
 bite v51 (F110_7 n cl a0 v1 h) (F110_16 n cl v8 a0 v1 v4 h)
noncomputable def F110 (n : Nat) (cl : CL) (a0 a1 : Value) (h : PH) : R :=
 hb (xAlloc (zcells Try.prog 57) h) fun v1 h =>
 vb (xNil a0) fun v2 =>
 vb (xFld 1 v2) fun v3 =>
 vb (xLd v3 h) fun v4 =>
 vb (xNil a0) fun v5 =>
 vb (xFld 0 v5) fun v6 =>
 vb (xLd v6 h) fun v7 =>
 vb (aindex Try.prog 9 v7 v4) fun v8 =>
 vb (xCmp ieq v8 (Value.int .u8 (.ofNat 40))) fun v9 =>
 bite v9 (F110_6 n cl a1 a0 v4 v1 h) (F110_17 n cl v8 a0 v1 v4 h)
noncomputable def D110 (n : Nat) (cl : CL) : CL := fun f xs h => sw f 57 (ucons xs fun b0 xs => ucons xs fun b1 xs => ucons xs fun b2 xs => u0 xs (F57 n cl b0 b1 b2 h)) (sw f 83 (ucons xs fun b0 xs => ucons xs fun b1 xs => u0 xs (F83 n cl b0 b1 h)) (sw f 123 (u0 xs (F123 n cl h)) (sw f 56 (ucons xs fun b0 xs => u0 xs (F56 n cl b0 h)) (sw f 124 (ucons xs fun b0 xs => u0 xs (F124 n cl b0 h)) (sw f 125 (ucons xs fun b0 xs => u0 xs (F125 n cl b0 h)) (sw f 126 (ucons xs fun b0 xs => u0 xs (F126 n cl b0 h)) (cl f xs h)))))))
theorem Dk110 {n : Nat} {cl : CL} (hcl : OkCL Try.prog cl) : OkCL Try.prog (D110 n cl) := by
  intro f xs h v h' hx
  rcases sw_ok hx with ⟨rfl, hx⟩ | hx
  · obtain ⟨_, _, rfl, hx⟩ := ucons_ok hx; obtain ⟨_, _, rfl, hx⟩ := ucons_ok hx; obtain ⟨_, _, rfl, hx⟩ := ucons_ok hx; obtain ⟨rfl, hx⟩ := u0_ok hx; exact S57 (n := n) (cl := cl) hcl hx
  rcases sw_ok hx with ⟨rfl, hx⟩ | hx
  · obtain ⟨_, _, rfl, hx⟩ := ucons_ok hx; obtain ⟨_, _, rfl, hx⟩ := ucons_ok hx; obtain ⟨rfl, hx⟩ := u0_ok hx; exact S83 (n := n) (cl := cl) hcl hx
  rcases sw_ok hx with ⟨rfl, hx⟩ | hx
  · obtain ⟨rfl, hx⟩ := u0_ok hx; exact S123 (n := n) (cl := cl) hcl hx
  rcases sw_ok hx with ⟨rfl, hx⟩ | hx
  · obtain ⟨_, _, rfl, hx⟩ := ucons_ok hx; obtain ⟨rfl, hx⟩ := u0_ok hx; exact S56 (n := n) (cl := cl) hcl hx
  rcases sw_ok hx with ⟨rfl, hx⟩ | hx
  · obtain ⟨_, _, rfl, hx⟩ := ucons_ok hx; obtain ⟨rfl, hx⟩ := u0_ok hx; exact S124 (n := n) (cl := cl) hcl hx
  rcases sw_ok hx with ⟨rfl, hx⟩ | hx
  · obtain ⟨_, _, rfl, hx⟩ := ucons_ok hx; obtain ⟨rfl, hx⟩ := u0_ok hx; exact S125 (n := n) (cl := cl) hcl hx
  rcases sw_ok hx with ⟨rfl, hx⟩ | hx
  · obtain ⟨_, _, rfl, hx⟩ := ucons_ok hx; obtain ⟨rfl, hx⟩ := u0_ok hx; exact S126 (n := n) (cl := cl) hcl hx
  exact hcl _ _ _ _ _ hx
theorem E110 (n : Nat) (cl : CL) (a0 a1 : Value) (h : PH) : exF Try.prog n (D110 n cl) ⟨[56, 83, 123, 126], [124], [(11, [0, 4, 7])], [(22, [0, 1, 2, 4, 5, 6, 3, 7, 8, 9, 10, 11])], [], [], [], []⟩ Try.f110 [a0, a1] h = F110 n cl a0 a1 h := by kernel_rfl
theorem S110 {n : Nat} {cl : CL} (hcl : OkCL Try.prog cl) {a0 a1 : Value} {h h' : PH} {v : Value} (hx : F110 n cl a0 a1 h = some (v, h')) : (enterable Try.prog 110 = true ∧ ACall Try.prog 110 [a0, a1] h.abs (fun u k => u = v ∧ k = h'.abs)) ∧ Inv h h' :=
  exF_ok (Dk110 hcl) hmx Try.func110 (by kernel_rfl) ((E110 n cl a0 a1 h).trans hx)
-- (*undergrowth/undergrowthref1.reader).rep
noncomputable def F102_0 (n : Nat) (cl : CL) (v39 : Value) (v43 : Value) (v45 : Value) (r5 : Kt) (v41 : Value) (h : PH) : R :=
 vb (xNil v39) fun v47 =>
 vb (xFld 1 v47) fun v48 =>
 vb (xLd v48 h) fun v49 =>
 vb (xAri Int.add v49 (vN 1)) fun v50 =>
 vb (xNil v39) fun v51 =>
 vb (xFld 1 v51) fun v52 =>
 hb (xSt1 v52 v50 h) fun _ h =>
 vb (xLdA 6 v43 h) fun v53 =>
 hb (xBS 1 (bsRow Try.prog 55 1 [(0, v53)]) h) fun v54 h =>
 vb (abuild Try.prog 57 [(0, v45), (2, v54)]) fun v55 =>
 hb (xStA 6 v43 v55 h) fun _ h =>
 r5 [v39, v41, v43] h
noncomputable def F102_1 (n : Nat) (cl : CL) (r5 : Kt) (y37 : List Value) (h : PH) : R :=
 ucons y37 fun v39 y40 => ucons y40 fun v41 y42 => ucons y42 fun v43 y44 => ucons y44 fun v45 y46 => F102_0 n cl v39 v43 v45 r5 v41 h
noncomputable def F102_2 (n : Nat) (cl : CL) (v29 : Value) (v31 : Value) (v33 : Value) (v35 : Value) (h : PH) (k38 : Kt) : R :=
 vb (pcall (F83 n cl v29 (Value.int .u8 (.ofNat 63)) (h.fzn))) fun v56 =>
 bite v56 (k38 [v29, v31, v33, (vN 6)] h) (k38 [v29, v31, v33, v35] h)
noncomputable def F102_3 (n : Nat) (cl : CL) (r5 : Kt) (y27 : List Value) (h : PH) : R :=
 ucons y27 fun v29 y30 => ucons y30 fun v31 y32 => ucons y32 fun v33 y34 => ucons y34 fun v35 y36 => jn (F102_1 n cl r5) (F102_2 n cl v29 v31 v33 v35 h)
noncomputable def F102_4 (n : Nat) (cl : CL) (v6 : Value) (v8 : Value) (v10 : Value) (h : PH) (k28 : Kt) : R :=
 vb (pcall (F83 n cl v6 (Value.int .u8 (.ofNat 43)) (h.fzn))) fun v57 =>
 bite v57 (k28 [v6, v8, v10, (vN 5)] h) (k28 [v6, v8, v10, (vN 4)] h)
noncomputable def F102_5 (n : Nat) (cl : CL) (v10 : Value) (v8 : Value) (h : PH) : R :=
 vb (xLdA 6 v10 h) fun v58 =>
 hb (xStA 6 v8 v58 h) fun _ h =>
 vb (xLdA 6 v8 h) fun v59 => some (v59, h)
noncomputable def F102_6 (n : Nat) (cl : CL) (v6 : Value) (r5 : Kt) (v8 : Value) (v10 : Value) (h : PH) : R :=
 vb (xNil v6) fun v12 =>
 vb (xFld 2 v12) fun v13 =>
 vb (xLd v13 h) fun v14 =>
 vb (xCmp ieq v14 (vN 0)) fun v15 =>
 vb (gd (isB true v15) (some v6)) fun v16 =>
 vb (gd (isB true v15) (pcall (F83 n cl v16 (Value.int .u8 (.ofNat 42)) (h.fzn)))) fun v17 =>
 vb (gd (isB true v15) (some v17)) fun v18 =>
 vb (gd (isB false v18) (some v6)) fun v19 =>
 vb (gd (isB false v18) (pcall (F83 n cl v19 (Value.int .u8 (.ofNat 43)) (h.fzn)))) fun v20 =>
 vb (gd (isB true v15) (xPick v18 tt v20)) fun v21 =>
 vb (gd (isB true v15) (some v21)) fun v22 =>
 vb (gd (isB false v22) (some v6)) fun v23 =>
 vb (gd (isB false v22) (pcall (F83 n cl v23 (Value.int .u8 (.ofNat 63)) (h.fzn)))) fun v24 =>
 vb (gd (isB true v15) (xPick v22 tt v24)) fun v25 =>
 vb (xPick v15 v25 ff) fun v26 =>
 bite v26 (jn (F102_3 n cl r5) (F102_4 n cl v6 v8 v10 h)) (F102_5 n cl v10 v8 h)
noncomputable def F102_7 (n : Nat) (cl : CL) (r5 : Kt) (y4 : List Value) (h : PH) : R :=
 ucons y4 fun v6 y7 => ucons y7 fun v8 y9 => ucons y9 fun v10 y11 => F102_6 n cl v6 r5 v8 v10 h
noncomputable def F102 (n : Nat) (cl : CL) (a0 a1 : Value) (h : PH) : R :=
 hb (xAlloc (zcells Try.prog 57) h) fun v1 h =>
 hb (F110 n cl a0 a1 h) fun v2 h =>
 hb (xAlloc (zcells Try.prog 57) h) fun v3 h =>
 hb (xStA 6 v3 v2 h) fun _ h =>
 lp n (F102_7 n cl) [a0, v1, v3] h
noncomputable def D102 (n : Nat) (cl : CL) : CL := fun f xs h => sw f 110 (ucons xs fun b0 xs => ucons xs fun b1 xs => u0 xs (F110 n cl b0 b1 h)) (sw f 83 (ucons xs fun b0 xs => ucons xs fun b1 xs => u0 xs (F83 n cl b0 b1 h)) (cl f xs h))
theorem Dk102 {n : Nat} {cl : CL} (hcl : OkCL Try.prog cl) : OkCL Try.prog (D102 n cl) := by
  intro f xs h v h' hx
  rcases sw_ok hx with ⟨rfl, hx⟩ | hx
  · obtain ⟨_, _, rfl, hx⟩ := ucons_ok hx; obtain ⟨_, _, rfl, hx⟩ := ucons_ok hx; obtain ⟨rfl, hx⟩ := u0_ok hx; exact S110 (n := n) (cl := cl) hcl hx
  rcases sw_ok hx with ⟨rfl, hx⟩ | hx
  · obtain ⟨_, _, rfl, hx⟩ := ucons_ok hx; obtain ⟨_, _, rfl, hx⟩ := ucons_ok hx; obtain ⟨rfl, hx⟩ := u0_ok hx; exact S83 (n := n) (cl := cl) hcl hx
  exact hcl _ _ _ _ _ hx
theorem E102 (n : Nat) (cl : CL) (a0 a1 : Value) (h : PH) : exF Try.prog n (D102 n cl) ⟨[83], [], [(2, [0, 4, 5]), (6, [0, 4, 5, 6]), (8, [0, 4, 5, 6])], [], [], [], [], []⟩ Try.f102 [a0, a1] h = F102 n cl a0 a1 h := by kernel_rfl
theorem S102 {n : Nat} {cl : CL} (hcl : OkCL Try.prog cl) {a0 a1 : Value} {h h' : PH} {v : Value} (hx : F102 n cl a0 a1 h = some (v, h')) : (enterable Try.prog 102 = true ∧ ACall Try.prog 102 [a0, a1] h.abs (fun u k => u = v ∧ k = h'.abs)) ∧ Inv h h' :=
  exF_ok (Dk102 hcl) hmx Try.func102 (by kernel_rfl) ((E102 n cl a0 a1 h).trans hx)
-- (*undergrowth/undergrowthref1.reader).seq
noncomputable def F82_0 (n : Nat) (cl : CL) (v4 : Value) (v6 : Value) (v10 : Value) (r3 : Kt) (v8 : Value) (h : PH) : R :=
 hb (F102 n cl v4 v6 h) fun v28 h =>
 hb (xBS 1 (bsRow Try.prog 55 1 [(0, v28)]) h) fun v29 h =>
 hb (xApp (appInfo Try.prog #[55, 55]) v10 v29 h) fun v30 h =>
 r3 [v4, v6, v8, v30] h
noncomputable def F82_1 (n : Nat) (cl : CL) (v8 : Value) (h : PH) : R :=
 vb (abuild Try.prog 57 []) fun v33 =>
 hb (xStA 6 v8 v33 h) fun _ h =>
 vb (xLdA 6 v8 h) fun v34 => some (v34, h)
noncomputable def F82_2 (n : Nat) (cl : CL) (v10 : Value) (v8 : Value) (h : PH) : R :=
 vb (xIdxS 6 v10 (vN 0)) fun v36 =>
 vb (xLdA 6 v36 h) fun v37 =>
 hb (xStA 6 v8 v37 h) fun _ h =>
 vb (xLdA 6 v8 h) fun v38 => some (v38, h)
noncomputable def F82_3 (n : Nat) (cl : CL) (v10 : Value) (v8 : Value) (h : PH) : R :=
 vb (abuild Try.prog 57 [(0, (vN 2)), (2, v10)]) fun v39 =>
 hb (xStA 6 v8 v39 h) fun _ h =>
 vb (xLdA 6 v8 h) fun v40 => some (v40, h)
noncomputable def F82_4 (n : Nat) (cl : CL) (v31 : Value) (v10 : Value) (v8 : Value) (h : PH) : R :=
 vb (xCmp ieq v31 (vN 1)) fun v35 =>
 bite v35 (F82_2 n cl v10 v8 h) (F82_3 n cl v10 v8 h)
noncomputable def F82_5 (n : Nat) (cl : CL) (v10 : Value) (v8 : Value) (h : PH) : R :=
 vb (xLenS v10) fun v31 =>
 vb (xCmp ieq v31 (vN 0)) fun v32 =>
 bite v32 (F82_1 n cl v8 h) (F82_4 n cl v31 v10 v8 h)
noncomputable def F82_6 (n : Nat) (cl : CL) (v4 : Value) (v6 : Value) (v10 : Value) (r3 : Kt) (v8 : Value) (h : PH) : R :=
 vb (xNil v4) fun v12 =>
 vb (xFld 2 v12) fun v13 =>
 vb (xLd v13 h) fun v14 =>
 vb (xCmp ieq v14 (vN 0)) fun v15 =>
 vb (gd (isB true v15) (some v4)) fun v16 =>
 vb (gd (isB true v15) (pcall (F56 n cl v16 (h.fzn)))) fun v17 =>
 vb (gd (isB true v15) (xNot v17)) fun v18 =>
 vb (xPick v15 v18 ff) fun v19 =>
 vb (gd (isB true v19) (some v4)) fun v20 =>
 vb (gd (isB true v19) (pcall (F83 n cl v20 (Value.int .u8 (.ofNat 124)) (h.fzn)))) fun v21 =>
 vb (gd (isB true v19) (xNot v21)) fun v22 =>
 vb (xPick v19 v22 ff) fun v23 =>
 vb (gd (isB true v23) (some v4)) fun v24 =>
 vb (gd (isB true v23) (pcall (F83 n cl v24 (Value.int .u8 (.ofNat 41)) (h.fzn)))) fun v25 =>
 vb (gd (isB true v23) (xNot v25)) fun v26 =>
 vb (xPick v23 v26 ff) fun v27 =>
 bite v27 (F82_0 n cl v4 v6 v10 r3 v8 h) (F82_5 n cl v10 v8 h)
noncomputable def F82_7 (n : Nat) (cl : CL) (r3 : Kt) (y2 : List Value) (h : PH) : R :=
 ucons y2 fun v4 y5 => ucons y5 fun v6 y7 => ucons y7 fun v8 y9 => ucons y9 fun v10 y11 => F82_6 n cl v4 v6 v10 r3 v8 h
noncomputable def F82 (n : Nat) (cl : CL) (a0 a1 : Value) (h : PH) : R :=
 hb (xAlloc (zcells Try.prog 57) h) fun v1 h =>
 lp n (F82_7 n cl) [a0, a1, v1, nils] h
noncomputable def D82 (n : Nat) (cl : CL) : CL := fun f xs h => sw f 56 (ucons xs fun b0 xs => u0 xs (F56 n cl b0 h)) (sw f 83 (ucons xs fun b0 xs => ucons xs fun b1 xs => u0 xs (F83 n cl b0 b1 h)) (sw f 102 (ucons xs fun b0 xs => ucons xs fun b1 xs => u0 xs (F102 n cl b0 b1 h)) (cl f xs h)))
theorem Dk82 {n : Nat} {cl : CL} (hcl : OkCL Try.prog cl) : OkCL Try.prog (D82 n cl) := by
  intro f xs h v h' hx
  rcases sw_ok hx with ⟨rfl, hx⟩ | hx
  · obtain ⟨_, _, rfl, hx⟩ := ucons_ok hx; obtain ⟨rfl, hx⟩ := u0_ok hx; exact S56 (n := n) (cl := cl) hcl hx
  rcases sw_ok hx with ⟨rfl, hx⟩ | hx
  · obtain ⟨_, _, rfl, hx⟩ := ucons_ok hx; obtain ⟨_, _, rfl, hx⟩ := ucons_ok hx; obtain ⟨rfl, hx⟩ := u0_ok hx; exact S83 (n := n) (cl := cl) hcl hx
  rcases sw_ok hx with ⟨rfl, hx⟩ | hx
  · obtain ⟨_, _, rfl, hx⟩ := ucons_ok hx; obtain ⟨_, _, rfl, hx⟩ := ucons_ok hx; obtain ⟨rfl, hx⟩ := u0_ok hx; exact S102 (n := n) (cl := cl) hcl hx
  exact hcl _ _ _ _ _ hx
theorem E82 (n : Nat) (cl : CL) (a0 a1 : Value) (h : PH) : exF Try.prog n (D82 n cl) ⟨[56, 83], [], [(2, [0, 1, 4, 5])], [], [], [], [], []⟩ Try.f82 [a0, a1] h = F82 n cl a0 a1 h := by kernel_rfl
theorem S82 {n : Nat} {cl : CL} (hcl : OkCL Try.prog cl) {a0 a1 : Value} {h h' : PH} {v : Value} (hx : F82 n cl a0 a1 h = some (v, h')) : (enterable Try.prog 82 = true ∧ ACall Try.prog 82 [a0, a1] h.abs (fun u k => u = v ∧ k = h'.abs)) ∧ Inv h h' :=
  exF_ok (Dk82 hcl) hmx Try.func82 (by kernel_rfl) ((E82 n cl a0 a1 h).trans hx)
-- (*undergrowth/undergrowthref1.reader).alt
noncomputable def F55_0 (n : Nat) (cl : CL) (v6 : Value) (v8 : Value) (v12 : Value) (r5 : Kt) (v10 : Value) (h : PH) : R :=
 vb (xNil v6) fun v21 =>
 vb (xFld 1 v21) fun v22 =>
 vb (xLd v22 h) fun v23 =>
 vb (xAri Int.add v23 (vN 1)) fun v24 =>
 vb (xNil v6) fun v25 =>
 vb (xFld 1 v25) fun v26 =>
 hb (xSt1 v26 v24 h) fun _ h =>
 hb (F82 n cl v6 v8 h) fun v27 h =>
 hb (xBS 1 (bsRow Try.prog 55 1 [(0, v27)]) h) fun v28 h =>
 hb (xApp (appInfo Try.prog #[55, 55]) v12 v28 h) fun v29 h =>
 r5 [v6, v8, v10, v29] h
noncomputable def F55_1 (n : Nat) (cl : CL) (v12 : Value) (v10 : Value) (h : PH) : R :=
 vb (xIdxS 6 v12 (vN 0)) fun v32 =>
 vb (xLdA 6 v32 h) fun v33 =>
 hb (xStA 6 v10 v33 h) fun _ h =>
 vb (xLdA 6 v10 h) fun v34 => some (v34, h)
noncomputable def F55_2 (n : Nat) (cl : CL) (v12 : Value) (v10 : Value) (h : PH) : R :=
 vb (abuild Try.prog 57 [(0, (vN 3)), (2, v12)]) fun v35 =>
 hb (xStA 6 v10 v35 h) fun _ h =>
 vb (xLdA 6 v10 h) fun v36 => some (v36, h)
noncomputable def F55_3 (n : Nat) (cl : CL) (v12 : Value) (v10 : Value) (h : PH) : R :=
 vb (xLenS v12) fun v30 =>
 vb (xCmp ieq v30 (vN 1)) fun v31 =>
 bite v31 (F55_1 n cl v12 v10 h) (F55_2 n cl v12 v10 h)
noncomputable def F55_4 (n : Nat) (cl : CL) (v6 : Value) (v8 : Value) (v12 : Value) (r5 : Kt) (v10 : Value) (h : PH) : R :=
 vb (xNil v6) fun v14 =>
 vb (xFld 2 v14) fun v15 =>
 vb (xLd v15 h) fun v16 =>
 vb (xCmp ieq v16 (vN 0)) fun v17 =>
 vb (gd (isB true v17) (some v6)) fun v18 =>
 vb (gd (isB true v17) (pcall (F83 n cl v18 (Value.int .u8 (.ofNat 124)) (h.fzn)))) fun v19 =>
 vb (xPick v17 v19 ff) fun v20 =>
 bite v20 (F55_0 n cl v6 v8 v12 r5 v10 h) (F55_3 n cl v12 v10 h)
noncomputable def F55_5 (n : Nat) (cl : CL) (r5 : Kt) (y4 : List Value) (h : PH) : R :=
 ucons y4 fun v6 y7 => ucons y7 fun v8 y9 => ucons y9 fun v10 y11 => ucons y11 fun v12 y13 => F55_4 n cl v6 v8 v12 r5 v10 h
noncomputable def F55 (n : Nat) (cl : CL) (a0 a1 : Value) (h : PH) : R :=
 hb (xAlloc (zcells Try.prog 57) h) fun v1 h =>
 hb (F82 n cl a0 a1 h) fun v2 h =>
 hb (xBS 1 (bsRow Try.prog 55 1 [(0, v2)]) h) fun v3 h =>
 lp n (F55_5 n cl) [a0, a1, v1, v3] h
noncomputable def D55 (n : Nat) (cl : CL) : CL := fun f xs h => sw f 82 (ucons xs fun b0 xs => ucons xs fun b1 xs => u0 xs (F82 n cl b0 b1 h)) (sw f 83 (ucons xs fun b0 xs => ucons xs fun b1 xs => u0 xs (F83 n cl b0 b1 h)) (cl f xs h))
theorem Dk55 {n : Nat} {cl : CL} (hcl : OkCL Try.prog cl) : OkCL Try.prog (D55 n cl) := by
  intro f xs h v h' hx
  rcases sw_ok hx with ⟨rfl, hx⟩ | hx
  · obtain ⟨_, _, rfl, hx⟩ := ucons_ok hx; obtain ⟨_, _, rfl, hx⟩ := ucons_ok hx; obtain ⟨rfl, hx⟩ := u0_ok hx; exact S82 (n := n) (cl := cl) hcl hx
  rcases sw_ok hx with ⟨rfl, hx⟩ | hx
  · obtain ⟨_, _, rfl, hx⟩ := ucons_ok hx; obtain ⟨_, _, rfl, hx⟩ := ucons_ok hx; obtain ⟨rfl, hx⟩ := u0_ok hx; exact S83 (n := n) (cl := cl) hcl hx
  exact hcl _ _ _ _ _ hx
theorem E55 (n : Nat) (cl : CL) (a0 a1 : Value) (h : PH) : exF Try.prog n (D55 n cl) ⟨[83], [], [(2, [0, 1, 4, 5])], [], [], [], [], []⟩ Try.f55 [a0, a1] h = F55 n cl a0 a1 h := by kernel_rfl
theorem S55 {n : Nat} {cl : CL} (hcl : OkCL Try.prog cl) {a0 a1 : Value} {h h' : PH} {v : Value} (hx : F55 n cl a0 a1 h = some (v, h')) : (enterable Try.prog 55 = true ∧ ACall Try.prog 55 [a0, a1] h.abs (fun u k => u = v ∧ k = h'.abs)) ∧ Inv h h' :=
  exF_ok (Dk55 hcl) hmx Try.func55 (by kernel_rfl) ((E55 n cl a0 a1 h).trans hx)
-- undergrowth/undergrowthref1.Parse
noncomputable def F30_0 (n : Nat) (cl : CL) (v1 : Value) (h : PH) : R :=
 vb (abuild Try.prog 57 []) fun v4 =>
 hb (xStA 6 v1 v4 h) fun _ h =>
 vb (xLdA 6 v1 h) fun v5 => some (Value.tuple ⟨[v5, (vN 0), (vN 3)]⟩, h)
noncomputable def F30_1 (n : Nat) (cl : CL) (v16 : Value) (v14 : Value) (h : PH) : R :=
 vb (abuild Try.prog 57 []) fun v24 =>
 vb (xNil v16) fun v25 =>
 vb (xFld 3 v25) fun v26 =>
 vb (xNil v16) fun v27 =>
 vb (xFld 2 v27) fun v28 =>
 vb (xLd v26 h) fun v29 =>
 vb (xLd v28 h) fun v30 =>
 hb (xStA 6 v14 v24 h) fun _ h =>
 lchk (xLd v26 h) v29 <|
 lchk (xLd v28 h) v30 <|
 vb (xLdA 6 v14 h) fun v31 => some (Value.tuple ⟨[v31, v29, v30]⟩, h)
noncomputable def F30_2 (n : Nat) (cl : CL) (v18 : Value) (v12 : Value) (v14 : Value) (h : PH) : R :=
 vb (xLdA 6 v18 h) fun v32 =>
 vb (xLenT v12) fun v33 =>
 hb (xStA 6 v14 v32 h) fun _ h =>
 vb (xLdA 6 v14 h) fun v34 => some (Value.tuple ⟨[v34, v33, (vN 0)]⟩, h)
noncomputable def F30_3 (n : Nat) (cl : CL) (v16 : Value) (v14 : Value) (v18 : Value) (v12 : Value) (h : PH) : R :=
 vb (xNil v16) fun v20 =>
 vb (xFld 2 v20) fun v21 =>
 vb (xLd v21 h) fun v22 =>
 vb (xCmp ine v22 (vN 0)) fun v23 =>
 bite v23 (F30_1 n cl v16 v14 h) (F30_2 n cl v18 v12 v14 h)
noncomputable def F30_4 (n : Nat) (cl : CL) (v7 : Value) (k11 : Kt) (a0 : Value) (v1 : Value) (v9 : Value) (h : PH) : R :=
 vb (xNil v7) fun v43 =>
 vb (xFld 1 v43) fun v44 =>
 vb (xLd v44 h) fun v45 =>
 hb (F57 n cl v7 (vN 2) v45 h) fun v46 h =>
 k11 [a0, v1, v7, v9] h
noncomputable def F30_5 (n : Nat) (cl : CL) (y10 : List Value) (h : PH) : R :=
 ucons y10 fun v12 y13 => ucons y13 fun v14 y15 => ucons y15 fun v16 y17 => ucons y17 fun v18 y19 => F30_3 n cl v16 v14 v18 v12 h
noncomputable def F30_6 (n : Nat) (cl : CL) (v7 : Value) (a0 : Value) (v1 : Value) (v9 : Value) (h : PH) (k11 : Kt) : R :=
 vb (xNil v7) fun v35 =>
 vb (xFld 2 v35) fun v36 =>
 vb (xLd v36 h) fun v37 =>
 vb (xCmp ieq v37 (vN 0)) fun v38 =>
 vb (gd (isB true v38) (some v7)) fun v39 =>
 vb (gd (isB true v38) (pcall (F56 n cl v39 (h.fzn)))) fun v40 =>
 vb (gd (isB true v38) (xNot v40)) fun v41 =>
 vb (xPick v38 v41 ff) fun v42 =>
 bite v42 (F30_4 n cl v7 k11 a0 v1 v9 h) (k11 [a0, v1, v7, v9] h)
noncomputable def F30_7 (n : Nat) (cl : CL) (a0 : Value) (v1 : Value) (h : PH) : R :=
 vb (abuild Try.prog 116 [(0, a0)]) fun v6 =>
 hb (xBox v6 h) fun v7 h =>
 hb (cl 55 [v7, (vN 0)] h) fun v8 h =>
 hb (xAlloc (zcells Try.prog 57) h) fun v9 h =>
 hb (xStA 6 v9 v8 h) fun _ h =>
 jn (F30_5 n cl) (F30_6 n cl v7 a0 v1 v9 h)
noncomputable def F30 (n : Nat) (cl : CL) (a0 : Value) (h : PH) : R :=
 hb (xAlloc (zcells Try.prog 57) h) fun v1 h =>
 vb (xLenT a0) fun v2 =>
 vb (xCmp (fun x y => ilt y x) v2 (vN 200)) fun v3 =>
 bite v3 (F30_0 n cl v1 h) (F30_7 n cl a0 v1 h)
noncomputable def D30 (n : Nat) (cl : CL) : CL := fun f xs h => sw f 56 (ucons xs fun b0 xs => u0 xs (F56 n cl b0 h)) (sw f 57 (ucons xs fun b0 xs => ucons xs fun b1 xs => ucons xs fun b2 xs => u0 xs (F57 n cl b0 b1 b2 h)) (cl f xs h))
theorem Dk30 {n : Nat} {cl : CL} (hcl : OkCL Try.prog cl) : OkCL Try.prog (D30 n cl) := by
  intro f xs h v h' hx
  rcases sw_ok hx with ⟨rfl, hx⟩ | hx
  · obtain ⟨_, _, rfl, hx⟩ := ucons_ok hx; obtain ⟨rfl, hx⟩ := u0_ok hx; exact S56 (n := n) (cl := cl) hcl hx
  rcases sw_ok hx with ⟨rfl, hx⟩ | hx
  · obtain ⟨_, _, rfl, hx⟩ := ucons_ok hx; obtain ⟨_, _, rfl, hx⟩ := ucons_ok hx; obtain ⟨_, _, rfl, hx⟩ := ucons_ok hx; obtain ⟨rfl, hx⟩ := u0_ok hx; exact S57 (n := n) (cl := cl) hcl hx
  exact hcl _ _ _ _ _ hx
theorem E30 (n : Nat) (cl : CL) (a0 : Value) (h : PH) : exF Try.prog n (D30 n cl) ⟨[56], [], [(7, [0, 2, 5, 6])], [(8, [0, 1, 2, 3, 5, 6, 7, 4, 8, 9, 10, 11])], [(8, [4, 8, 9])], [], [], []⟩ Try.f30 [a0] h = F30 n cl a0 h := by kernel_rfl
theorem S30 {n : Nat} {cl : CL} (hcl : OkCL Try.prog cl) {a0 : Value} {h h' : PH} {v : Value} (hx : F30 n cl a0 h = some (v, h')) : (enterable Try.prog 30 = true ∧ ACall Try.prog 30 [a0] h.abs (fun u k => u = v ∧ k = h'.abs)) ∧ Inv h h' :=
  exF_ok (Dk30 hcl) hmx Try.func30 (by kernel_rfl) ((E30 n cl a0 h).trans hx)
-- undergrowth/undergrowthref1.places
noncomputable def F53_0 (n : Nat) (cl : CL) (v14 : Value) (v18 : Value) (v16 : Value) (r13 : Kt) (h : PH) : R :=
 vb (xFld 5 v14) fun v35 =>
 vb (xLd v35 h) fun v36 =>
 vb (xIdxS 6 v36 v18) fun v37 =>
 vb (xLdA 6 v37 h) fun v38 =>
 vb (pcall (cl 53 [v38] (h.fzn))) fun v39 =>
 vb (xAri Int.add v16 v39) fun v40 =>
 vb (xAri Int.add v18 (vN 1)) fun v41 =>
 r13 [v14, v40, v41] h
noncomputable def F53_1 (n : Nat) (cl : CL) (v14 : Value) (v18 : Value) (v16 : Value) (r13 : Kt) (h : PH) : R :=
 vb (xFld 5 v14) fun v20 =>
 vb (xLd v20 h) fun v21 =>
 vb (xLenS v21) fun v22 =>
 vb (xCmp ilt v18 v22) fun v23 =>
 vb (gd (isB true v23) (some v18)) fun v24 =>
 vb (gd (isB true v23) (xCmp ieq v24 (vN 0))) fun v25 =>
 vb (gd (isB true v23) (some v25)) fun v26 =>
 vb (gd (isB false v26) (xFld 0 v14)) fun v27 =>
 vb (gd (isB false v26) (xLd v27 h)) fun v28 =>
 vb (gd (isB false v26) (xCmp ile v28 (vN 3))) fun v29 =>
 vb (gd (isB true v23) (xPick v26 tt v29)) fun v30 =>
 vb (xPick v23 v30 ff) fun v31 =>
 vb (gd (isB true v31) (some v16)) fun v32 =>
 vb (gd (isB true v31) (xCmp ile v32 (vN 150))) fun v33 =>
 vb (xPick v31 v33 ff) fun v34 =>
 bite v34 (F53_0 n cl v14 v18 v16 r13 h) (some (v16, h))
noncomputable def F53_2 (n : Nat) (cl : CL) (r13 : Kt) (y12 : List Value) (h : PH) : R :=
 ucons y12 fun v14 y15 => ucons y15 fun v16 y17 => ucons y17 fun v18 y19 => F53_1 n cl v14 v18 v16 r13 h
noncomputable def F53_3 (n : Nat) (cl : CL) (v1 : Value) (h : PH) : R :=
 vb (xFld 0 v1) fun v5 =>
 vb (xLd v5 h) fun v6 =>
 vb (xCmp ilt v6 (vN 2)) fun v7 =>
 vb (gd (isB false v7) (xFld 0 v1)) fun v8 =>
 vb (gd (isB false v7) (xLd v8 h)) fun v9 =>
 vb (gd (isB false v7) (xCmp (fun x y => ilt y x) v9 (vN 6))) fun v10 =>
 vb (xPick v7 tt v10) fun v11 =>
 bite v11 (some ((vN 0), h)) (lp n (F53_2 n cl) [v1, (vN 0), (vN 0)] h)
noncomputable def F53 (n : Nat) (cl : CL) (a0 : Value) (h : PH) : R :=
 hb (xBox a0 h) fun v1 h =>
 vb (xFld 0 v1) fun v2 =>
 vb (xLd v2 h) fun v3 =>
 vb (xCmp ieq v3 (vN 1)) fun v4 =>
 bite v4 (some ((vN 1), h)) (F53_3 n cl v1 h)
theorem E53 (n : Nat) (cl : CL) (a0 : Value) (h : PH) : exF Try.prog n cl ⟨[53], [], [(7, [1, 3, 4])], [], [], [], [], []⟩ Try.f53 [a0] h = F53 n cl a0 h := by kernel_rfl
theorem S53 {n : Nat} {cl : CL} (hcl : OkCL Try.prog cl) {a0 : Value} {h h' : PH} {v : Value} (hx : F53 n cl a0 h = some (v, h')) : (enterable Try.prog 53 = true ∧ ACall Try.prog 53 [a0] h.abs (fun u k => u = v ∧ k = h'.abs)) ∧ Inv h h' :=
  exF_ok hcl hmx Try.func53 (by kernel_rfl) ((E53 n cl a0 h).trans hx)
-- undergrowth/undergrowthref1.Deep
noncomputable def F25_0 (n : Nat) (cl : CL) (v36 : Value) (r3 : Kt) (v32 : Value) (v34 : Value) (h : PH) : R :=
 vb (xAri Int.add v36 (vN 1)) fun v38 =>
 r3 [v32, v34, v38] h
noncomputable def F25_1 (n : Nat) (cl : CL) (r3 : Kt) (y30 : List Value) (h : PH) : R :=
 ucons y30 fun v32 y33 => ucons y33 fun v34 y35 => ucons y35 fun v36 y37 => F25_0 n cl v36 r3 v32 v34 h
noncomputable def F25_2 (n : Nat) (cl : CL) (v4 : Value) (v8 : Value) (v6 : Value) (h : PH) (k31 : Kt) : R :=
 vb (xFld 5 v4) fun v39 =>
 vb (xLd v39 h) fun v40 =>
 vb (xIdxS 6 v40 v8) fun v41 =>
 vb (xLdA 6 v41 h) fun v42 =>
 vb (pcall (cl 25 [v42] (h.fzn))) fun v43 =>
 vb (xCmp (fun x y => ilt y x) v43 v6) fun v44 =>
 bite v44 (k31 [v4, v43, v8] h) (k31 [v4, v6, v8] h)
noncomputable def F25_3 (n : Nat) (cl : CL) (v6 : Value) (h : PH) : R :=
 vb (xAri Int.add v6 (vN 1)) fun v45 =>
 some (v45, h)
noncomputable def F25_4 (n : Nat) (cl : CL) (v4 : Value) (v8 : Value) (r3 : Kt) (v6 : Value) (h : PH) : R :=
 vb (xFld 5 v4) fun v10 =>
 vb (xLd v10 h) fun v11 =>
 vb (xLenS v11) fun v12 =>
 vb (xCmp ilt v8 v12) fun v13 =>
 vb (gd (isB true v13) (xFld 0 v4)) fun v14 =>
 vb (gd (isB true v13) (xLd v14 h)) fun v15 =>
 vb (gd (isB true v13) (xCmp (fun x y => ile y x) v15 (vN 2))) fun v16 =>
 vb (xPick v13 v16 ff) fun v17 =>
 vb (gd (isB true v17) (xFld 0 v4)) fun v18 =>
 vb (gd (isB true v17) (xLd v18 h)) fun v19 =>
 vb (gd (isB true v17) (xCmp ile v19 (vN 6))) fun v20 =>
 vb (xPick v17 v20 ff) fun v21 =>
 vb (gd (isB true v21) (some v8)) fun v22 =>
 vb (gd (isB true v21) (xCmp ieq v22 (vN 0))) fun v23 =>
 vb (gd (isB true v21) (some v23)) fun v24 =>
 vb (gd (isB false v24) (xFld 0 v4)) fun v25 =>
 vb (gd (isB false v24) (xLd v25 h)) fun v26 =>
 vb (gd (isB false v24) (xCmp ile v26 (vN 3))) fun v27 =>
 vb (gd (isB true v21) (xPick v24 tt v27)) fun v28 =>
 vb (xPick v21 v28 ff) fun v29 =>
 bite v29 (jn (F25_1 n cl r3) (F25_2 n cl v4 v8 v6 h)) (F25_3 n cl v6 h)
noncomputable def F25_5 (n : Nat) (cl : CL) (r3 : Kt) (y2 : List Value) (h : PH) : R :=
 ucons y2 fun v4 y5 => ucons y5 fun v6 y7 => ucons y7 fun v8 y9 => F25_4 n cl v4 v8 r3 v6 h
noncomputable def F25 (n : Nat) (cl : CL) (a0 : Value) (h : PH) : R :=
 hb (xBox a0 h) fun v1 h =>
 lp n (F25_5 n cl) [v1, (vN 0), (vN 0)] h
theorem E25 (n : Nat) (cl : CL) (a0 : Value) (h : PH) : exF Try.prog n cl ⟨[25], [], [(3, [1, 3, 4]), (4, [1, 3, 4])], [], [], [], [], []⟩ Try.f25 [a0] h = F25 n cl a0 h := by kernel_rfl
theorem S25 {n : Nat} {cl : CL} (hcl : OkCL Try.prog cl) {a0 : Value} {h h' : PH} {v : Value} (hx : F25 n cl a0 h = some (v, h')) : (enterable Try.prog 25 = true ∧ ACall Try.prog 25 [a0] h.abs (fun u k => u = v ∧ k = h'.abs)) ∧ Inv h h' :=
  exF_ok hcl hmx Try.func25 (by kernel_rfl) ((E25 n cl a0 h).trans hx)
-- undergrowth/undergrowthref1.union
noncomputable def F45_0 (n : Nat) (cl : CL) (v3 : Value) (v9 : Value) (v7 : Value) (r2 : Kt) (v5 : Value) (v11 : Value) (h : PH) : R :=
 vb (xIdxS 1 v3 v9) fun v38 =>
 vb (xLd v38 h) fun v39 =>
 hb (xBS 1 (bsRow Try.prog 28 1 [(0, v39)]) h) fun v40 h =>
 hb (xApp (appInfo Try.prog #[28, 28]) v7 v40 h) fun v41 h =>
 vb (xAri Int.add v9 (vN 1)) fun v42 =>
 r2 [v3, v5, v41, v42, v11] h
noncomputable def F45_1 (n : Nat) (cl : CL) (v5 : Value) (v11 : Value) (v7 : Value) (r2 : Kt) (v3 : Value) (v9 : Value) (h : PH) : R :=
 vb (xIdxS 1 v5 v11) fun v55 =>
 vb (xLd v55 h) fun v56 =>
 hb (xBS 1 (bsRow Try.prog 28 1 [(0, v56)]) h) fun v57 h =>
 hb (xApp (appInfo Try.prog #[28, 28]) v7 v57 h) fun v58 h =>
 vb (xAri Int.add v11 (vN 1)) fun v59 =>
 r2 [v3, v5, v58, v9, v59] h
noncomputable def F45_2 (n : Nat) (cl : CL) (v3 : Value) (v9 : Value) (v7 : Value) (v11 : Value) (r2 : Kt) (v5 : Value) (h : PH) : R :=
 vb (xIdxS 1 v3 v9) fun v60 =>
 vb (xLd v60 h) fun v61 =>
 hb (xBS 1 (bsRow Try.prog 28 1 [(0, v61)]) h) fun v62 h =>
 hb (xApp (appInfo Try.prog #[28, 28]) v7 v62 h) fun v63 h =>
 vb (xAri Int.add v9 (vN 1)) fun v64 =>
 vb (xAri Int.add v11 (vN 1)) fun v65 =>
 r2 [v3, v5, v63, v64, v65] h
noncomputable def F45_3 (n : Nat) (cl : CL) (v3 : Value) (v9 : Value) (v5 : Value) (v11 : Value) (v7 : Value) (r2 : Kt) (h : PH) : R :=
 vb (xLenS v3) fun v43 =>
 vb (xCmp (fun x y => ile y x) v9 v43) fun v44 =>
 vb (gd (isB false v44) (some v5)) fun v45 =>
 vb (gd (isB false v44) (some v11)) fun v46 =>
 vb (gd (isB false v44) (xIdxS 1 v45 v46)) fun v47 =>
 vb (gd (isB false v44) (some v3)) fun v48 =>
 vb (gd (isB false v44) (some v9)) fun v49 =>
 vb (gd (isB false v44) (xIdxS 1 v48 v49)) fun v50 =>
 vb (gd (isB false v44) (xLd v47 h)) fun v51 =>
 vb (gd (isB false v44) (xLd v50 h)) fun v52 =>
 vb (gd (isB false v44) (xCmp ilt v51 v52)) fun v53 =>
 vb (xPick v44 tt v53) fun v54 =>
 bite v54 (F45_1 n cl v5 v11 v7 r2 v3 v9 h) (F45_2 n cl v3 v9 v7 v11 r2 v5 h)
noncomputable def F45_4 (n : Nat) (cl : CL) (v5 : Value) (v11 : Value) (v9 : Value) (v3 : Value) (v7 : Value) (r2 : Kt) (h : PH) : R :=
 vb (xLenS v5) fun v20 =>
 vb (xCmp (fun x y => ile y x) v11 v20) fun v21 =>
 vb (gd (isB false v21) (some v9)) fun v22 =>
 vb (gd (isB false v21) (some v3)) fun v23 =>
 vb (gd (isB false v21) (xLenS v23)) fun v24 =>
 vb (gd (isB false v21) (xCmp ilt v22 v24)) fun v25 =>
 vb (gd (isB false v21) (some v25)) fun v26 =>
 vb (gd (isB true v26) (some v3)) fun v27 =>
 vb (gd (isB true v26) (some v9)) fun v28 =>
 vb (gd (isB true v26) (xIdxS 1 v27 v28)) fun v29 =>
 vb (gd (isB true v26) (some v5)) fun v30 =>
 vb (gd (isB true v26) (some v11)) fun v31 =>
 vb (gd (isB true v26) (xIdxS 1 v30 v31)) fun v32 =>
 vb (gd (isB true v26) (xLd v29 h)) fun v33 =>
 vb (gd (isB true v26) (xLd v32 h)) fun v34 =>
 vb (gd (isB true v26) (xCmp ilt v33 v34)) fun v35 =>
 vb (gd (isB false v21) (xPick v26 v35 ff)) fun v36 =>
 vb (xPick v21 tt v36) fun v37 =>
 bite v37 (F45_0 n cl v3 v9 v7 r2 v5 v11 h) (F45_3 n cl v3 v9 v5 v11 v7 r2 h)
noncomputable def F45_5 (n : Nat) (cl : CL) (v3 : Value) (v9 : Value) (v11 : Value) (v5 : Value) (v7 : Value) (r2 : Kt) (h : PH) : R :=
 vb (xLenS v3) fun v13 =>
 vb (xCmp ilt v9 v13) fun v14 =>
 vb (gd (isB false v14) (some v11)) fun v15 =>
 vb (gd (isB false v14) (some v5)) fun v16 =>
 vb (gd (isB false v14) (xLenS v16)) fun v17 =>
 vb (gd (isB false v14) (xCmp ilt v15 v17)) fun v18 =>
 vb (xPick v14 tt v18) fun v19 =>
 bite v19 (F45_4 n cl v5 v11 v9 v3 v7 r2 h) (some (v7, h))
noncomputable def F45_6 (n : Nat) (cl : CL) (r2 : Kt) (y1 : List Value) (h : PH) : R :=
 ucons y1 fun v3 y4 => ucons y4 fun v5 y6 => ucons y6 fun v7 y8 => ucons y8 fun v9 y10 => ucons y10 fun v11 y12 => F45_5 n cl v3 v9 v11 v5 v7 r2 h
noncomputable def F45 (n : Nat) (cl : CL) (a0 a1 : Value) (h : PH) : R :=
 lp n (F45_6 n cl) [a0, a1, nils, (vN 0), (vN 0)] h
theorem E45 (n : Nat) (cl : CL) (a0 a1 : Value) (h : PH) : exF Try.prog n cl ⟨[], [], [(4, [0, 1, 5, 6, 7])], [(8, [0, 1, 2, 3, 4, 5, 6, 7, 8, 9, 10, 11, 12, 14, 15, 16, 13, 17, 18, 19, 20, 21]), (11, [0, 1, 2, 3, 4, 5, 6, 7, 9, 10, 11, 8, 12, 13, 14, 15])], [], [], [], []⟩ Try.f45 [a0, a1] h = F45 n cl a0 a1 h := by kernel_rfl
theorem S45 {n : Nat} {cl : CL} (hcl : OkCL Try.prog cl) {a0 a1 : Value} {h h' : PH} {v : Value} (hx : F45 n cl a0 a1 h = some (v, h')) : (enterable Try.prog 45 = true ∧ ACall Try.prog 45 [a0, a1] h.abs (fun u k => u = v ∧ k = h'.abs)) ∧ Inv h h' :=
  exF_ok hcl hmx Try.func45 (by kernel_rfl) ((E45 n cl a0 a1 h).trans hx)
-- (*undergrowth/undergrowthref1.maker).link
noncomputable def F81_0 (n : Nat) (cl : CL) (v3 : Value) (v5 : Value) (v9 : Value) (v7 : Value) (r2 : Kt) (h : PH) : R :=
 vb (xNil v3) fun v13 =>
 vb (xFld 0 v13) fun v14 =>
 vb (xFld 4 v14) fun v15 =>
 vb (xIdxS 1 v5 v9) fun v16 =>
 vb (xNil v3) fun v17 =>
 vb (xFld 0 v17) fun v18 =>
 vb (xFld 4 v18) fun v19 =>
 vb (xIdxS 1 v5 v9) fun v20 =>
 vb (xLd v15 h) fun v21 =>
 vb (xLd v16 h) fun v22 =>
 vb (xLd v19 h) fun v23 =>
 vb (xLd v20 h) fun v24 =>
 vb (xIdxS 1 v23 v24) fun v25 =>
 vb (xLd v25 h) fun v26 =>
 hb (fcall h (F45 n cl v26 v7 (h.fzn))) fun v27 h =>
 lchk (xLd v15 h) v21 <|
 lchk (xLd v16 h) v22 <|
 vb (xIdxS 1 v21 v22) fun v28 =>
 hb (xSt1 v28 v27 h) fun _ h =>
 vb (xAri Int.add v9 (vN 1)) fun v29 =>
 r2 [v3, v5, v7, v29] h
noncomputable def F81_1 (n : Nat) (cl : CL) (v5 : Value) (v9 : Value) (v3 : Value) (v7 : Value) (r2 : Kt) (h : PH) : R :=
 vb (xLenS v5) fun v11 =>
 vb (xCmp ilt v9 v11) fun v12 =>
 bite v12 (F81_0 n cl v3 v5 v9 v7 r2 h) (some (Value.tuple ⟨[]⟩, h))
noncomputable def F81_2 (n : Nat) (cl : CL) (r2 : Kt) (y1 : List Value) (h : PH) : R :=
 ucons y1 fun v3 y4 => ucons y4 fun v5 y6 => ucons y6 fun v7 y8 => ucons y8 fun v9 y10 => F81_1 n cl v5 v9 v3 v7 r2 h
noncomputable def F81 (n : Nat) (cl : CL) (a0 a1 a2 : Value) (h : PH) : R :=
 lp n (F81_2 n cl) [a0, a1, a2, (vN 0)] h
noncomputable def D81 (n : Nat) (cl : CL) : CL := fun f xs h => sw f 45 (ucons xs fun b0 xs => ucons xs fun b1 xs => u0 xs (F45 n cl b0 b1 h)) (cl f xs h)
theorem Dk81 {n : Nat} {cl : CL} (hcl : OkCL Try.prog cl) : OkCL Try.prog (D81 n cl) := by
  intro f xs h v h' hx
  rcases sw_ok hx with ⟨rfl, hx⟩ | hx
  · obtain ⟨_, _, rfl, hx⟩ := ucons_ok hx; obtain ⟨_, _, rfl, hx⟩ := ucons_ok hx; obtain ⟨rfl, hx⟩ := u0_ok hx; exact S45 (n := n) (cl := cl) hcl hx
  exact hcl _ _ _ _ _ hx
theorem E81 (n : Nat) (cl : CL) (a0 a1 a2 : Value) (h : PH) : exF Try.prog n (D81 n cl) ⟨[], [45], [(1, [0, 1, 2, 6])], [(3, [0, 1, 2, 3, 5, 6, 7, 9, 10, 11, 12, 14, 15, 16, 20, 4, 8, 13, 17, 18, 19, 21, 22, 23])], [(3, [4, 8, 21])], [], [], []⟩ Try.f81 [a0, a1, a2] h = F81 n cl a0 a1 a2 h := by kernel_rfl
theorem S81 {n : Nat} {cl : CL} (hcl : OkCL Try.prog cl) {a0 a1 a2 : Value} {h h' : PH} {v : Value} (hx : F81 n cl a0 a1 a2 h = some (v, h')) : (enterable Try.prog 81 = true ∧ ACall Try.prog 81 [a0, a1, a2] h.abs (fun u k => u = v ∧ k = h'.abs)) ∧ Inv h h' :=
  exF_ok (Dk81 hcl) hmx Try.func81 (by kernel_rfl) ((E81 n cl a0 a1 a2 h).trans hx)
-- (*undergrowth/undergrowthref1.maker).walk
noncomputable def F54_0 (n : Nat) (cl : CL) (v65 : Value) (v69 : Value) (v67 : Value) (r17 : Kt) (v59 : Value) (v61 : Value) (v63 : Value) (h : PH) : R :=
 vb (xFld 0 v65) fun v71 =>
 vb (xLd v71 h) fun v72 =>
 vb (gd (isB true v72) (xFld 0 v69)) fun v73 =>
 vb (gd (isB true v72) (xLd v73 h)) fun v74 =>
 vb (xPick v72 v74 ff) fun v75 =>
 vb (xFld 0 v65) fun v76 =>
 hb (xSt1 v76 v75 h) fun _ h =>
 vb (xAri Int.add v67 (vN 1)) fun v77 =>
 r17 [v59, v61, v63, v65, v77] h
noncomputable def F54_1 (n : Nat) (cl : CL) (v51 : Value) (v55 : Value) (k58 : Kt) (v45 : Value) (v47 : Value) (v49 : Value) (v53 : Value) (h : PH) : R :=
 vb (xFld 2 v51) fun v80 =>
 vb (xLd v80 h) fun v81 =>
 vb (xFld 2 v55) fun v82 =>
 vb (xLd v82 h) fun v83 =>
 hb (fcall h (F45 n cl v81 v83 (h.fzn))) fun v84 h =>
 vb (xFld 2 v51) fun v85 =>
 hb (xSt1 v85 v84 h) fun _ h =>
 k58 [v45, v47, v49, v51, v53, v55] h
noncomputable def F54_2 (n : Nat) (cl : CL) (v55 : Value) (v51 : Value) (k58 : Kt) (v45 : Value) (v47 : Value) (v49 : Value) (v53 : Value) (h : PH) : R :=
 vb (xFld 2 v55) fun v86 =>
 vb (xLd v86 h) fun v87 =>
 vb (xFld 2 v51) fun v88 =>
 hb (xSt1 v88 v87 h) fun _ h =>
 k58 [v45, v47, v49, v51, v53, v55] h
noncomputable def F54_3 (n : Nat) (cl : CL) (r17 : Kt) (y57 : List Value) (h : PH) : R :=
 ucons y57 fun v59 y60 => ucons y60 fun v61 y62 => ucons y62 fun v63 y64 => ucons y64 fun v65 y66 => ucons y66 fun v67 y68 => ucons y68 fun v69 y70 => F54_0 n cl v65 v69 v67 r17 v59 v61 v63 h
noncomputable def F54_4 (n : Nat) (cl : CL) (v55 : Value) (v51 : Value) (v45 : Value) (v47 : Value) (v49 : Value) (v53 : Value) (h : PH) (k58 : Kt) : R :=
 vb (xFld 0 v55) fun v78 =>
 vb (xLd v78 h) fun v79 =>
 bite v79 (F54_1 n cl v51 v55 k58 v45 v47 v49 v53 h) (F54_2 n cl v55 v51 k58 v45 v47 v49 v53 h)
noncomputable def F54_5 (n : Nat) (cl : CL) (v24 : Value) (v37 : Value) (k44 : Kt) (v18 : Value) (v20 : Value) (v22 : Value) (v26 : Value) (h : PH) : R :=
 vb (xFld 1 v24) fun v91 =>
 vb (xLd v91 h) fun v92 =>
 vb (xFld 1 v37) fun v93 =>
 vb (xLd v93 h) fun v94 =>
 hb (fcall h (F45 n cl v92 v94 (h.fzn))) fun v95 h =>
 vb (xFld 1 v24) fun v96 =>
 hb (xSt1 v96 v95 h) fun _ h =>
 k44 [v18, v20, v22, v24, v26, v37] h
noncomputable def F54_6 (n : Nat) (cl : CL) (r17 : Kt) (y43 : List Value) (h : PH) : R :=
 ucons y43 fun v45 y46 => ucons y46 fun v47 y48 => ucons y48 fun v49 y50 => ucons y50 fun v51 y52 => ucons y52 fun v53 y54 => ucons y54 fun v55 y56 => jn (F54_3 n cl r17) (F54_4 n cl v55 v51 v45 v47 v49 v53 h)
noncomputable def F54_7 (n : Nat) (cl : CL) (v24 : Value) (v37 : Value) (v18 : Value) (v20 : Value) (v22 : Value) (v26 : Value) (h : PH) (k44 : Kt) : R :=
 vb (xFld 0 v24) fun v89 =>
 vb (xLd v89 h) fun v90 =>
 bite v90 (F54_5 n cl v24 v37 k44 v18 v20 v22 v26 h) (k44 [v18, v20, v22, v24, v26, v37] h)
noncomputable def F54_8 (n : Nat) (cl : CL) (v20 : Value) (v26 : Value) (v18 : Value) (v24 : Value) (r17 : Kt) (v22 : Value) (h : PH) : R :=
 vb (xFld 5 v20) fun v32 =>
 vb (xLd v32 h) fun v33 =>
 vb (xIdxS 6 v33 v26) fun v34 =>
 vb (xLdA 6 v34 h) fun v35 =>
 hb (cl 54 [v18, v35] h) fun v36 h =>
 hb (xAlloc (zcells Try.prog 112) h) fun v37 h =>
 hb (xStA 3 v37 v36 h) fun _ h =>
 vb (xFld 2 v24) fun v38 =>
 vb (xLd v38 h) fun v39 =>
 vb (xFld 1 v37) fun v40 =>
 vb (xLd v40 h) fun v41 =>
 hb (F81 n cl v18 v39 v41 h) fun v42 h =>
 jn (F54_6 n cl r17) (F54_7 n cl v24 v37 v18 v20 v22 v26 h)
noncomputable def F54_9 (n : Nat) (cl : CL) (v24 : Value) (v22 : Value) (h : PH) : R :=
 vb (xLdA 3 v24 h) fun v97 =>
 hb (xStA 3 v22 v97 h) fun _ h =>
 vb (xLdA 3 v22 h) fun v98 => some (v98, h)
noncomputable def F54_10 (n : Nat) (cl : CL) (v20 : Value) (v26 : Value) (v18 : Value) (v24 : Value) (r17 : Kt) (v22 : Value) (h : PH) : R :=
 vb (xFld 5 v20) fun v28 =>
 vb (xLd v28 h) fun v29 =>
 vb (xLenS v29) fun v30 =>
 vb (xCmp ilt v26 v30) fun v31 =>
 bite v31 (F54_8 n cl v20 v26 v18 v24 r17 v22 h) (F54_9 n cl v24 v22 h)
noncomputable def F54_11 (n : Nat) (cl : CL) (r17 : Kt) (y16 : List Value) (h : PH) : R :=
 ucons y16 fun v18 y19 => ucons y19 fun v20 y21 => ucons y21 fun v22 y23 => ucons y23 fun v24 y25 => ucons y25 fun v26 y27 => F54_10 n cl v20 v26 v18 v24 r17 v22 h
noncomputable def F54_12 (n : Nat) (cl : CL) (v5 : Value) (v7 : Value) (v9 : Value) (h : PH) : R :=
 vb (abuild Try.prog 112 [(0, tt)]) fun v14 =>
 hb (xAlloc (zcells Try.prog 112) h) fun v15 h =>
 hb (xStA 3 v15 v14 h) fun _ h =>
 lp n (F54_11 n cl) [v5, v7, v9, v15, (vN 0)] h
noncomputable def F54_13 (n : Nat) (cl : CL) (v105 : Value) (v111 : Value) (v103 : Value) (v109 : Value) (r102 : Kt) (v107 : Value) (h : PH) : R :=
 vb (xFld 5 v105) fun v117 =>
 vb (xLd v117 h) fun v118 =>
 vb (xIdxS 6 v118 v111) fun v119 =>
 vb (xLdA 6 v119 h) fun v120 =>
 hb (cl 54 [v103, v120] h) fun v121 h =>
 hb (xAlloc (zcells Try.prog 112) h) fun v122 h =>
 hb (xStA 3 v122 v121 h) fun _ h =>
 vb (xFld 1 v109) fun v123 =>
 vb (xLd v123 h) fun v124 =>
 vb (xFld 1 v122) fun v125 =>
 vb (xLd v125 h) fun v126 =>
 hb (fcall h (F45 n cl v124 v126 (h.fzn))) fun v127 h =>
 vb (xFld 1 v109) fun v128 =>
 hb (xSt1 v128 v127 h) fun _ h =>
 vb (xFld 2 v109) fun v129 =>
 vb (xLd v129 h) fun v130 =>
 vb (xFld 2 v122) fun v131 =>
 vb (xLd v131 h) fun v132 =>
 hb (fcall h (F45 n cl v130 v132 (h.fzn))) fun v133 h =>
 vb (xFld 2 v109) fun v134 =>
 hb (xSt1 v134 v133 h) fun _ h =>
 vb (xFld 0 v109) fun v135 =>
 vb (xLd v135 h) fun v136 =>
 vb (gd (isB false v136) (xFld 0 v122)) fun v137 =>
 vb (gd (isB false v136) (xLd v137 h)) fun v138 =>
 vb (xPick v136 tt v138) fun v139 =>
 vb (xFld 0 v109) fun v140 =>
 hb (xSt1 v140 v139 h) fun _ h =>
 vb (xAri Int.add v111 (vN 1)) fun v141 =>
 r102 [v103, v105, v107, v109, v141] h
noncomputable def F54_14 (n : Nat) (cl : CL) (v109 : Value) (v107 : Value) (h : PH) : R :=
 vb (xLdA 3 v109 h) fun v142 =>
 hb (xStA 3 v107 v142 h) fun _ h =>
 vb (xLdA 3 v107 h) fun v143 => some (v143, h)
noncomputable def F54_15 (n : Nat) (cl : CL) (v105 : Value) (v111 : Value) (v103 : Value) (v109 : Value) (r102 : Kt) (v107 : Value) (h : PH) : R :=
 vb (xFld 5 v105) fun v113 =>
 vb (xLd v113 h) fun v114 =>
 vb (xLenS v114) fun v115 =>
 vb (xCmp ilt v111 v115) fun v116 =>
 bite v116 (F54_13 n cl v105 v111 v103 v109 r102 v107 h) (F54_14 n cl v109 v107 h)
noncomputable def F54_16 (n : Nat) (cl : CL) (r102 : Kt) (y101 : List Value) (h : PH) : R :=
 ucons y101 fun v103 y104 => ucons y104 fun v105 y106 => ucons y106 fun v107 y108 => ucons y108 fun v109 y110 => ucons y110 fun v111 y112 => F54_15 n cl v105 v111 v103 v109 r102 v107 h
noncomputable def F54_17 (n : Nat) (cl : CL) (v5 : Value) (v7 : Value) (v9 : Value) (h : PH) : R :=
 hb (xAlloc (zcells Try.prog 112) h) fun v100 h =>
 lp n (F54_16 n cl) [v5, v7, v9, v100, (vN 0)] h
noncomputable def F54_18 (n : Nat) (cl : CL) (v150 : Value) (h : PH) : R :=
 vb (abuild Try.prog 112 [(0, tt)]) fun v158 =>
 hb (xStA 3 v150 v158 h) fun _ h =>
 vb (xLdA 3 v150 h) fun v159 => some (v159, h)
noncomputable def F54_19 (n : Nat) (cl : CL) (v178 : Value) (v176 : Value) (h : PH) : R :=
 vb (xLdA 3 v178 h) fun v180 =>
 hb (xStA 3 v176 v180 h) fun _ h =>
 vb (xLdA 3 v176 h) fun v181 => some (v181, h)
noncomputable def F54_20 (n : Nat) (cl : CL) (v172 : Value) (k175 : Kt) (v170 : Value) (h : PH) : R :=
 vb (xFld 0 v172) fun v185 =>
 hb (xSt1 v185 tt h) fun _ h =>
 k175 [v170, v172] h
noncomputable def F54_21 (n : Nat) (cl : CL) (v168 : Value) (v172 : Value) (v170 : Value) (h : PH) (k175 : Kt) : R :=
 vb (xFld 0 v168) fun v182 =>
 vb (xLd v182 h) fun v183 =>
 vb (xCmp ine v183 (vN 5)) fun v184 =>
 bite v184 (F54_20 n cl v172 k175 v170 h) (k175 [v170, v172] h)
noncomputable def F54_22 (n : Nat) (cl : CL) (v168 : Value) (v172 : Value) (v170 : Value) (h : PH) : R :=
 jn (fun y174 h => ucons y174 fun v176 y177 => ucons y177 fun v178 y179 => F54_19 n cl v178 v176 h) (F54_21 n cl v168 v172 v170 h)
noncomputable def F54_23 (n : Nat) (cl : CL) (v165 : Value) (v146 : Value) (k167 : Kt) (v148 : Value) (v150 : Value) (h : PH) : R :=
 vb (xFld 2 v165) fun v189 =>
 vb (xLd v189 h) fun v190 =>
 vb (xFld 1 v165) fun v191 =>
 vb (xLd v191 h) fun v192 =>
 hb (F81 n cl v146 v190 v192 h) fun v193 h =>
 k167 [v148, v150, v165] h
noncomputable def F54_24 (n : Nat) (cl : CL) (y166 : List Value) (h : PH) : R :=
 ucons y166 fun v168 y169 => ucons y169 fun v170 y171 => ucons y171 fun v172 y173 => F54_22 n cl v168 v172 v170 h
noncomputable def F54_25 (n : Nat) (cl : CL) (v148 : Value) (v165 : Value) (v146 : Value) (v150 : Value) (h : PH) (k167 : Kt) : R :=
 vb (xFld 0 v148) fun v186 =>
 vb (xLd v186 h) fun v187 =>
 vb (xCmp ine v187 (vN 6)) fun v188 =>
 bite v188 (F54_23 n cl v165 v146 k167 v148 v150 h) (k167 [v148, v150, v165] h)
noncomputable def F54_26 (n : Nat) (cl : CL) (v148 : Value) (v146 : Value) (v150 : Value) (h : PH) : R :=
 vb (xFld 5 v148) fun v160 =>
 vb (xLd v160 h) fun v161 =>
 vb (xIdxS 6 v161 (vN 0)) fun v162 =>
 vb (xLdA 6 v162 h) fun v163 =>
 hb (cl 54 [v146, v163] h) fun v164 h =>
 hb (xAlloc (zcells Try.prog 112) h) fun v165 h =>
 hb (xStA 3 v165 v164 h) fun _ h =>
 jn (F54_24 n cl) (F54_25 n cl v148 v165 v146 v150 h)
noncomputable def F54_27 (n : Nat) (cl : CL) (v148 : Value) (v150 : Value) (v146 : Value) (h : PH) : R :=
 vb (xFld 5 v148) fun v154 =>
 vb (xLd v154 h) fun v155 =>
 vb (xLenS v155) fun v156 =>
 vb (xCmp ieq v156 (vN 0)) fun v157 =>
 bite v157 (F54_18 n cl v150 h) (F54_26 n cl v148 v146 v150 h)
noncomputable def F54_28 (n : Nat) (cl : CL) (v150 : Value) (h : PH) : R :=
 vb (abuild Try.prog 112 [(0, tt)]) fun v194 =>
 hb (xStA 3 v150 v194 h) fun _ h =>
 vb (xLdA 3 v150 h) fun v195 => some (v195, h)
noncomputable def F54_29 (n : Nat) (cl : CL) (v12 : Value) (k145 : Kt) (v5 : Value) (v7 : Value) (v9 : Value) (h : PH) : R :=
 vb (xCmp ieq v12 (vN 6)) fun v198 =>
 k145 [v5, v7, v9, v198] h
noncomputable def F54_30 (n : Nat) (cl : CL) (v12 : Value) (k145 : Kt) (v5 : Value) (v7 : Value) (v9 : Value) (h : PH) : R :=
 vb (xCmp ieq v12 (vN 5)) fun v197 =>
 bite v197 (k145 [v5, v7, v9, v197] h) (F54_29 n cl v12 k145 v5 v7 v9 h)
noncomputable def F54_31 (n : Nat) (cl : CL) (y144 : List Value) (h : PH) : R :=
 ucons y144 fun v146 y147 => ucons y147 fun v148 y149 => ucons y149 fun v150 y151 => ucons y151 fun v152 y153 => bite v152 (F54_27 n cl v148 v150 v146 h) (F54_28 n cl v150 h)
noncomputable def F54_32 (n : Nat) (cl : CL) (v12 : Value) (v5 : Value) (v7 : Value) (v9 : Value) (h : PH) (k145 : Kt) : R :=
 vb (xCmp ieq v12 (vN 4)) fun v196 =>
 bite v196 (k145 [v5, v7, v9, v196] h) (F54_30 n cl v12 k145 v5 v7 v9 h)
noncomputable def F54_33 (n : Nat) (cl : CL) (v12 : Value) (v5 : Value) (v7 : Value) (v9 : Value) (h : PH) : R :=
 vb (xCmp ieq v12 (vN 3)) fun v99 =>
 bite v99 (F54_17 n cl v5 v7 v9 h) (jn (F54_31 n cl) (F54_32 n cl v12 v5 v7 v9 h))
noncomputable def F54_34 (n : Nat) (cl : CL) (v7 : Value) (v5 : Value) (v9 : Value) (h : PH) : R :=
 vb (xFld 0 v7) fun v11 =>
 vb (xLd v11 h) fun v12 =>
 vb (xCmp ieq v12 (vN 2)) fun v13 =>
 bite v13 (F54_12 n cl v5 v7 v9 h) (F54_33 n cl v12 v5 v7 v9 h)
noncomputable def F54_35 (n : Nat) (cl : CL) (a0 : Value) (v1 : Value) (v2 : Value) (h : PH) : R :=
 vb (xNil a0) fun v202 =>
 vb (xFld 0 v202) fun v203 =>
 vb (xFld 0 v203) fun v204 =>
 vb (xLd v204 h) fun v205 =>
 vb (xLenS v205) fun v206 =>
 vb (xNil a0) fun v207 =>
 vb (xFld 0 v207) fun v208 =>
 vb (xFld 0 v208) fun v209 =>
 vb (xFld 1 v1) fun v210 =>
 vb (xLd v209 h) fun v211 =>
 vb (xLdA 4 v210 h) fun v212 =>
 hb (xBS 1 (bsRow Try.prog 41 1 [(0, v212)]) h) fun v213 h =>
 hb (xApp (appInfo Try.prog #[41, 41]) v211 v213 h) fun v214 h =>
 vb (xNil a0) fun v215 =>
 vb (xFld 0 v215) fun v216 =>
 vb (xFld 0 v216) fun v217 =>
 hb (xSt1 v217 v214 h) fun _ h =>
 vb (xNil a0) fun v218 =>
 vb (xFld 0 v218) fun v219 =>
 vb (xFld 4 v219) fun v220 =>
 vb (xLd v220 h) fun v221 =>
 hb (xBS 1 (bsRow Try.prog 27 1 [(0, nils)]) h) fun v222 h =>
 hb (xApp (appInfo Try.prog #[27, 27]) v221 v222 h) fun v223 h =>
 vb (xNil a0) fun v224 =>
 vb (xFld 0 v224) fun v225 =>
 vb (xFld 4 v225) fun v226 =>
 hb (xSt1 v226 v223 h) fun _ h =>
 hb (xBS 1 (bsRow Try.prog 28 1 [(0, v206)]) h) fun v227 h =>
 hb (xBS 1 (bsRow Try.prog 28 1 [(0, v206)]) h) fun v228 h =>
 vb (abuild Try.prog 112 [(1, v227), (2, v228)]) fun v229 =>
 hb (xStA 3 v2 v229 h) fun _ h =>
 vb (xLdA 3 v2 h) fun v230 => some (v230, h)
noncomputable def F54_36 (n : Nat) (cl : CL) (v237 : Value) (h : PH) : R :=
 vb (abuild Try.prog 112 [(0, tt)]) fun v245 =>
 hb (xStA 3 v237 v245 h) fun _ h =>
 vb (xLdA 3 v237 h) fun v246 => some (v246, h)
noncomputable def F54_37 (n : Nat) (cl : CL) (v235 : Value) (v237 : Value) (k4 : Kt) (v233 : Value) (h : PH) : R :=
 vb (xFld 5 v235) fun v241 =>
 vb (xLd v241 h) fun v242 =>
 vb (xLenS v242) fun v243 =>
 vb (xCmp ieq v243 (vN 0)) fun v244 =>
 bite v244 (F54_36 n cl v237 h) (k4 [v233, v235, v237] h)
noncomputable def F54_38 (n : Nat) (cl : CL) (v200 : Value) (k232 : Kt) (a0 : Value) (v1 : Value) (v2 : Value) (h : PH) : R :=
 vb (xCmp ieq v200 (vN 3)) fun v248 =>
 k232 [a0, v1, v2, v248] h
noncomputable def F54_39 (n : Nat) (cl : CL) (k4 : Kt) (y231 : List Value) (h : PH) : R :=
 ucons y231 fun v233 y234 => ucons y234 fun v235 y236 => ucons y236 fun v237 y238 => ucons y238 fun v239 y240 => bite v239 (F54_37 n cl v235 v237 k4 v233 h) (k4 [v233, v235, v237] h)
noncomputable def F54_40 (n : Nat) (cl : CL) (v200 : Value) (a0 : Value) (v1 : Value) (v2 : Value) (h : PH) (k232 : Kt) : R :=
 vb (xCmp ieq v200 (vN 2)) fun v247 =>
 bite v247 (k232 [a0, v1, v2, v247] h) (F54_38 n cl v200 k232 a0 v1 v2 h)
noncomputable def F54_41 (n : Nat) (cl : CL) (v1 : Value) (a0 : Value) (v2 : Value) (h : PH) (k4 : Kt) : R :=
 vb (xFld 0 v1) fun v199 =>
 vb (xLd v199 h) fun v200 =>
 vb (xCmp ieq v200 (vN 1)) fun v201 =>
 bite v201 (F54_35 n cl a0 v1 v2 h) (jn (F54_39 n cl k4) (F54_40 n cl v200 a0 v1 v2 h))
noncomputable def F54 (n : Nat) (cl : CL) (a0 a1 : Value) (h : PH) : R :=
 hb (xBox a1 h) fun v1 h =>
 hb (xAlloc (zcells Try.prog 112) h) fun v2 h =>
 jn (fun y3 h => ucons y3 fun v5 y6 => ucons y6 fun v7 y8 => ucons y8 fun v9 y10 => F54_34 n cl v7 v5 v9 h) (F54_41 n cl v1 a0 v2 h)
noncomputable def D54 (n : Nat) (cl : CL) : CL := fun f xs h => sw f 81 (ucons xs fun b0 xs => ucons xs fun b1 xs => ucons xs fun b2 xs => u0 xs (F81 n cl b0 b1 b2 h)) (sw f 45 (ucons xs fun b0 xs => ucons xs fun b1 xs => u0 xs (F45 n cl b0 b1 h)) (cl f xs h))
theorem Dk54 {n : Nat} {cl : CL} (hcl : OkCL Try.prog cl) : OkCL Try.prog (D54 n cl) := by
  intro f xs h v h' hx
  rcases sw_ok hx with ⟨rfl, hx⟩ | hx
  · obtain ⟨_, _, rfl, hx⟩ := ucons_ok hx; obtain ⟨_, _, rfl, hx⟩ := ucons_ok hx; obtain ⟨_, _, rfl, hx⟩ := ucons_ok hx; obtain ⟨rfl, hx⟩ := u0_ok hx; exact S81 (n := n) (cl := cl) hcl hx
  rcases sw_ok hx with ⟨rfl, hx⟩ | hx
  · obtain ⟨_, _, rfl, hx⟩ := ucons_ok hx; obtain ⟨_, _, rfl, hx⟩ := ucons_ok hx; obtain ⟨rfl, hx⟩ := u0_ok hx; exact S45 (n := n) (cl := cl) hcl hx
  exact hcl _ _ _ _ _ hx
theorem E54 (n : Nat) (cl : CL) (a0 a1 : Value) (h : PH) : exF Try.prog n (D54 n cl) ⟨[], [45], [(9, [0, 3, 4, 52]), (11, [0, 3, 4]), (15, [0, 3, 4, 6, 7]), (21, [0, 3, 4, 6, 7, 8]), (24, [0, 3, 4, 6, 7, 8]), (29, [0, 3, 4, 9, 10]), (39, [0, 3, 4, 148]), (44, [3, 4, 12]), (46, [4, 12])], [(4, [0, 1, 2, 3, 4, 6, 5, 7, 8, 9, 10, 11, 12, 13])], [], [], [], []⟩ Try.f54 [a0, a1] h = F54 n cl a0 a1 h := by kernel_rfl
theorem S54 {n : Nat} {cl : CL} (hcl : OkCL Try.prog cl) {a0 a1 : Value} {h h' : PH} {v : Value} (hx : F54 n cl a0 a1 h = some (v, h')) : (enterable Try.prog 54 = true ∧ ACall Try.prog 54 [a0, a1] h.abs (fun u k => u = v ∧ k = h'.abs)) ∧ Inv h h' :=
  exF_ok (Dk54 hcl) hmx Try.func54 (by kernel_rfl) ((E54 n cl a0 a1 h).trans hx)
-- undergrowth/undergrowthref1.Posits
-- undergrowth/dfa.is
-- undergrowth/dfa.Step
-- undergrowth/dfa.Accepts
-- undergrowth/dfa.Run
-- undergrowth/undergrowthlaw5.num
-- undergrowth/undergrowthlaw5.alive
-- undergrowth/undergrowthlaw5.Patterns
-- undergrowth/undergrowthref1.less
-- undergrowth/undergrowthref1.add
-- undergrowth/undergrowthref1.Has
noncomputable def F44 (n : Nat) (cl : CL) (a0 a1 : Value) (h : PH) : R :=
 hb (xBox a0 h) fun v1 h =>
 vb (xShr a1 (Value.int .u64 (.ofNat 6))) fun v2 =>
 vb (xIdxA 4 1 v1 v2) fun v3 =>
 vb (xLd v3 h) fun v4 =>
 vb (xBit Nat.land a1 (Value.int .u8 (.ofNat 63))) fun v5 =>
 vb (xConvI .u64 v5) fun v6 =>
 vb (xShr v4 v6) fun v7 =>
 vb (xBit Nat.land v7 (Value.int .u64 (.ofNat 1))) fun v8 =>
 vb (xCmp ieq v8 (Value.int .u64 (.ofNat 1))) fun v9 =>
 some (v9, h)
theorem E44 (n : Nat) (cl : CL) (a0 a1 : Value) (h : PH) : exF Try.prog n cl ⟨[], [], [], [], [], [], [], []⟩ Try.f44 [a0, a1] h = F44 n cl a0 a1 h := by kernel_rfl
theorem S44 {n : Nat} {cl : CL} (hcl : OkCL Try.prog cl) {a0 a1 : Value} {h h' : PH} {v : Value} (hx : F44 n cl a0 a1 h = some (v, h')) : (enterable Try.prog 44 = true ∧ ACall Try.prog 44 [a0, a1] h.abs (fun u k => u = v ∧ k = h'.abs)) ∧ Inv h h' :=
  exF_ok hcl hmx Try.func44 (by kernel_rfl) ((E44 n cl a0 a1 h).trans hx)
-- undergrowth/undergrowthref1.step
-- undergrowth/undergrowthref1.same
-- undergrowth/undergrowthref1.in
-- undergrowth/undergrowthref1.accepts
-- undergrowth/undergrowthref1.subsets
-- undergrowth/undergrowthref1.useful
-- undergrowth/undergrowthref1.alike
-- undergrowth/undergrowthref1.parts
-- undergrowth/undergrowthref1.classes
-- undergrowth/undergrowthref1.DFA
-- undergrowth/undergrowthref1.SameInts
-- undergrowth/undergrowthref1.SameLists
-- undergrowth/undergrowthref1.SameDFA
-- undergrowth/undergrowthlaw5.DfaOf
-- undergrowth/undergrowthref1.Takes
-- undergrowth/undergrowthlaw5.DfaRuns
-- undergrowth/undergrowthref1.move
-- undergrowth/undergrowthref1.Run
-- undergrowth/undergrowthlaw5.DfaRun
-- undergrowth/undergrowthlaw5.DfaWords
-- undergrowth/posit.looked
noncomputable def F75_0 (n : Nat) (cl : CL) (v6 : Value) (h : PH) : R :=
 vb (xFld 5 v6) fun v12 =>
 vb (xLd v12 h) fun v13 =>
 some (v13, h)
noncomputable def F75_1 (n : Nat) (cl : CL) (v16 : Value) (h : PH) : R :=
 vb (xFld 5 v16) fun v20 =>
 vb (xLd v20 h) fun v21 =>
 vb (xFld 5 v16) fun v22 =>
 vb (xLd v22 h) fun v23 =>
 vb (xLenS v23) fun v24 =>
 vb ((if plainV.plainVs [(vN 1), v24] then prun Try.prog (Builtin.min_ #[3, 3] 3 ⟨[(vN 1), v24]⟩) else none)) fun v25 =>
 vb (acut Try.prog 55 v21 none (some v25) none) fun v26 =>
 some (v26, h)
noncomputable def F75_2 (n : Nat) (cl : CL) (v8 : Value) (k15 : Kt) (v6 : Value) (h : PH) : R :=
 vb (xCmp ieq v8 (vN 6)) fun v29 =>
 k15 [v6, v29] h
noncomputable def F75_3 (n : Nat) (cl : CL) (v8 : Value) (k15 : Kt) (v6 : Value) (h : PH) : R :=
 vb (xCmp ieq v8 (vN 5)) fun v28 =>
 bite v28 (k15 [v6, v28] h) (F75_2 n cl v8 k15 v6 h)
noncomputable def F75_4 (n : Nat) (cl : CL) (y14 : List Value) (h : PH) : R :=
 ucons y14 fun v16 y17 => ucons y17 fun v18 y19 => bite v18 (F75_1 n cl v16 h) (some (nils, h))
noncomputable def F75_5 (n : Nat) (cl : CL) (v8 : Value) (v6 : Value) (h : PH) (k15 : Kt) : R :=
 vb (xCmp ieq v8 (vN 4)) fun v27 =>
 bite v27 (k15 [v6, v27] h) (F75_3 n cl v8 k15 v6 h)
noncomputable def F75_6 (n : Nat) (cl : CL) (v3 : Value) (k5 : Kt) (v1 : Value) (h : PH) : R :=
 vb (xCmp ieq v3 (vN 3)) fun v31 =>
 k5 [v1, v3, v31] h
noncomputable def F75_7 (n : Nat) (cl : CL) (y4 : List Value) (h : PH) : R :=
 ucons y4 fun v6 y7 => ucons y7 fun v8 y9 => ucons y9 fun v10 y11 => bite v10 (F75_0 n cl v6 h) (jn (F75_4 n cl) (F75_5 n cl v8 v6 h))
noncomputable def F75_8 (n : Nat) (cl : CL) (v3 : Value) (v1 : Value) (h : PH) (k5 : Kt) : R :=
 vb (xCmp ieq v3 (vN 2)) fun v30 =>
 bite v30 (k5 [v1, v3, v30] h) (F75_6 n cl v3 k5 v1 h)
noncomputable def F75 (n : Nat) (cl : CL) (a0 : Value) (h : PH) : R :=
 hb (xBox a0 h) fun v1 h =>
 vb (xFld 0 v1) fun v2 =>
 vb (xLd v2 h) fun v3 =>
 jn (F75_7 n cl) (F75_8 n cl v3 v1 h)
theorem E75 (n : Nat) (cl : CL) (a0 : Value) (h : PH) : exF Try.prog n cl ⟨[], [], [(4, [1, 4, 5]), (8, [1, 10])], [], [], [], [], []⟩ Try.f75 [a0] h = F75 n cl a0 h := by kernel_rfl
theorem S75 {n : Nat} {cl : CL} (hcl : OkCL Try.prog cl) {a0 : Value} {h h' : PH} {v : Value} (hx : F75 n cl a0 h = some (v, h')) : (enterable Try.prog 75 = true ∧ ACall Try.prog 75 [a0] h.abs (fun u k => u = v ∧ k = h'.abs)) ∧ Inv h h' :=
  exF_ok hcl hmx Try.func75 (by kernel_rfl) ((E75 n cl a0 h).trans hx)
-- undergrowth/posit.measure
noncomputable def F50_0 (n : Nat) (cl : CL) (v19 : Value) (v23 : Value) (v15 : Value) (v17 : Value) (r14 : Kt) (v21 : Value) (h : PH) : R :=
 vb (xIdxS 6 v19 v23) fun v26 =>
 vb (xLdA 6 v26 h) fun v27 =>
 hb (xAlloc (zcells Try.prog 57) h) fun v28 h =>
 hb (xStA 6 v28 v27 h) fun _ h =>
 vb (xLdA 6 v28 h) fun v29 =>
 vb (pcall (cl 50 [v29] (h.fzn))) fun v30 =>
 vb (xExt 0 v30) fun v31 =>
 vb (xExt 1 v30) fun v32 =>
 vb (xAri Int.add v15 v31) fun v33 =>
 vb ((if plainV.plainVs [v17, v32] then prun Try.prog (Builtin.max_ #[3, 3] 3 ⟨[v17, v32]⟩) else none)) fun v34 =>
 vb (xAri Int.add v23 (vN 1)) fun v35 =>
 r14 [v33, v34, v19, v21, v35] h
noncomputable def F50_1 (n : Nat) (cl : CL) (v17 : Value) (v15 : Value) (h : PH) : R :=
 vb (xAri Int.add v17 (vN 1)) fun v36 =>
 some (Value.tuple ⟨[v15, v36]⟩, h)
noncomputable def F50_2 (n : Nat) (cl : CL) (v23 : Value) (v21 : Value) (v19 : Value) (v15 : Value) (v17 : Value) (r14 : Kt) (h : PH) : R :=
 vb (xCmp ilt v23 v21) fun v25 =>
 bite v25 (F50_0 n cl v19 v23 v15 v17 r14 v21 h) (F50_1 n cl v17 v15 h)
noncomputable def F50_3 (n : Nat) (cl : CL) (r14 : Kt) (y13 : List Value) (h : PH) : R :=
 ucons y13 fun v15 y16 => ucons y16 fun v17 y18 => ucons y18 fun v19 y20 => ucons y20 fun v21 y22 => ucons y22 fun v23 y24 => F50_2 n cl v23 v21 v19 v15 v17 r14 h
noncomputable def F50_4 (n : Nat) (cl : CL) (v4 : Value) (v6 : Value) (v8 : Value) (h : PH) : R :=
 vb (xLdA 6 v4 h) fun v10 =>
 hb (fcall h (F75 n cl v10 (h.fzn))) fun v11 h =>
 vb (xLenS v11) fun v12 =>
 lp n (F50_3 n cl) [v6, v8, v11, v12, (vN 0)] h
noncomputable def F50_5 (n : Nat) (cl : CL) (v1 : Value) (h : PH) (k3 : Kt) : R :=
 vb (xFld 0 v1) fun v37 =>
 vb (xLd v37 h) fun v38 =>
 vb (xCmp ieq v38 (vN 1)) fun v39 =>
 bite v39 (k3 [v1, (vN 1), (vN 0)] h) (k3 [v1, (vN 0), (vN 0)] h)
noncomputable def F50 (n : Nat) (cl : CL) (a0 : Value) (h : PH) : R :=
 hb (xBox a0 h) fun v1 h =>
 jn (fun y2 h => ucons y2 fun v4 y5 => ucons y5 fun v6 y7 => ucons y7 fun v8 y9 => F50_4 n cl v4 v6 v8 h) (F50_5 n cl v1 h)
noncomputable def D50 (n : Nat) (cl : CL) : CL := fun f xs h => sw f 75 (ucons xs fun b0 xs => u0 xs (F75 n cl b0 h)) (cl f xs h)
theorem Dk50 {n : Nat} {cl : CL} (hcl : OkCL Try.prog cl) : OkCL Try.prog (D50 n cl) := by
  intro f xs h v h' hx
  rcases sw_ok hx with ⟨rfl, hx⟩ | hx
  · obtain ⟨_, _, rfl, hx⟩ := ucons_ok hx; obtain ⟨rfl, hx⟩ := u0_ok hx; exact S75 (n := n) (cl := cl) hcl hx
  exact hcl _ _ _ _ _ hx
theorem E50 (n : Nat) (cl : CL) (a0 : Value) (h : PH) : exF Try.prog n (D50 n cl) ⟨[50], [75], [(4, [1, 4, 5]), (5, [4, 5, 14, 15, 16])], [], [], [], [], []⟩ Try.f50 [a0] h = F50 n cl a0 h := by kernel_rfl
theorem S50 {n : Nat} {cl : CL} (hcl : OkCL Try.prog cl) {a0 : Value} {h h' : PH} {v : Value} (hx : F50 n cl a0 h = some (v, h')) : (enterable Try.prog 50 = true ∧ ACall Try.prog 50 [a0] h.abs (fun u k => u = v ∧ k = h'.abs)) ∧ Inv h h' :=
  exF_ok (Dk50 hcl) hmx Try.func50 (by kernel_rfl) ((E50 n cl a0 h).trans hx)
-- (*undergrowth/posit.maker).none
noncomputable def F77 (n : Nat) (cl : CL) (a0 : Value) (h : PH) : R :=
 hb (xAlloc (zcells Try.prog 105) h) fun v1 h =>
 kp 2 h fun q2 h =>
 vb (xNil a0) fun v3 =>
 vb (xFld 2 v3) fun v4 =>
 vb (xNil a0) fun v5 =>
 vb (xFld 2 v5) fun v6 =>
 vb (xLd v4 h) fun v7 =>
 vb (xLd v6 h) fun v8 =>
 hb (xfill (Nat.add q2 0) h (xMk (zinfo Try.prog 49) v7 v7 hE)) fun v9 h =>
 hb (xfill (Nat.add q2 1) h (xMk (zinfo Try.prog 49) v8 v8 hE)) fun v10 h =>
 vb (abuild Try.prog 105 [(0, tt), (1, v9), (2, v10)]) fun v11 =>
 hb (xStA 3 v1 v11 h) fun _ h =>
 vb (xLdA 3 v1 h) fun v12 => some (v12, h)
theorem E77 (n : Nat) (cl : CL) (a0 : Value) (h : PH) : exF Try.prog n cl ⟨[], [], [], [(1, [0, 1, 2, 5, 6, 7, 3, 8, 4, 9, 10, 11])], [], [], [(1, [4, 9])], []⟩ Try.f77 [a0] h = F77 n cl a0 h := by kernel_rfl
theorem S77 {n : Nat} {cl : CL} (hcl : OkCL Try.prog cl) {a0 : Value} {h h' : PH} {v : Value} (hx : F77 n cl a0 h = some (v, h')) : (enterable Try.prog 77 = true ∧ ACall Try.prog 77 [a0] h.abs (fun u k => u = v ∧ k = h'.abs)) ∧ Inv h h' :=
  exF_ok hcl hmx Try.func77 (by kernel_rfl) ((E77 n cl a0 h).trans hx)
-- (*undergrowth/posit.maker).place
noncomputable def F76 (n : Nat) (cl : CL) (a0 a1 : Value) (h : PH) : R :=
 hb (xBox a1 h) fun v1 h =>
 hb (xAlloc (zcells Try.prog 105) h) fun v2 h =>
 vb (xNil a0) fun v3 =>
 vb (xFld 0 v3) fun v4 =>
 vb (xLd v4 h) fun v5 =>
 vb (xLenS v5) fun v6 =>
 vb (xNil a0) fun v7 =>
 vb (xFld 0 v7) fun v8 =>
 vb (xFld 1 v1) fun v9 =>
 vb (xLd v8 h) fun v10 =>
 vb (xLdA 4 v9 h) fun v11 =>
 hb (xBS 1 (bsRow Try.prog 41 1 [(0, v11)]) h) fun v12 h =>
 hb (xApp (appInfo Try.prog #[41, 41]) v10 v12 h) fun v13 h =>
 vb (xNil a0) fun v14 =>
 vb (xFld 0 v14) fun v15 =>
 hb (xSt1 v15 v13 h) fun _ h =>
 hb (fcall h (F77 n cl a0 (h.fzn))) fun v16 h =>
 hb (xAlloc (zcells Try.prog 105) h) fun v17 h =>
 hb (xStA 3 v17 v16 h) fun _ h =>
 vb (xFld 1 v17) fun v18 =>
 vb (xLd v18 h) fun v19 =>
 vb (xFld 2 v17) fun v20 =>
 vb (xLd v20 h) fun v21 =>
 vb (xFld 0 v17) fun v22 =>
 hb (xSt1 v22 ff h) fun _ h =>
 vb (xIdxS 1 v19 v6) fun v23 =>
 hb (xSt1 v23 tt h) fun _ h =>
 vb (xIdxS 1 v21 v6) fun v24 =>
 hb (xSt1 v24 tt h) fun _ h =>
 vb (xLdA 3 v17 h) fun v25 =>
 hb (xStA 3 v2 v25 h) fun _ h =>
 vb (xLdA 3 v2 h) fun v26 => some (v26, h)
noncomputable def D76 (n : Nat) (cl : CL) : CL := fun f xs h => sw f 77 (ucons xs fun b0 xs => u0 xs (F77 n cl b0 h)) (cl f xs h)
theorem Dk76 {n : Nat} {cl : CL} (hcl : OkCL Try.prog cl) : OkCL Try.prog (D76 n cl) := by
  intro f xs h v h' hx
  rcases sw_ok hx with ⟨rfl, hx⟩ | hx
  · obtain ⟨_, _, rfl, hx⟩ := ucons_ok hx; obtain ⟨rfl, hx⟩ := u0_ok hx; exact S77 (n := n) (cl := cl) hcl hx
  exact hcl _ _ _ _ _ hx
theorem E76 (n : Nat) (cl : CL) (a0 a1 : Value) (h : PH) : exF Try.prog n (D76 n cl) ⟨[], [77], [], [(2, [0, 1, 2, 3, 5, 4, 6, 7, 8, 9, 10, 11])], [], [], [], []⟩ Try.f76 [a0, a1] h = F76 n cl a0 a1 h := by kernel_rfl
theorem S76 {n : Nat} {cl : CL} (hcl : OkCL Try.prog cl) {a0 a1 : Value} {h h' : PH} {v : Value} (hx : F76 n cl a0 a1 h = some (v, h')) : (enterable Try.prog 76 = true ∧ ACall Try.prog 76 [a0, a1] h.abs (fun u k => u = v ∧ k = h'.abs)) ∧ Inv h h' :=
  exF_ok (Dk76 hcl) hmx Try.func76 (by kernel_rfl) ((E76 n cl a0 a1 h).trans hx)
-- undergrowth/posit.join
noncomputable def F101_0 (n : Nat) (cl : CL) (v6 : Value) (v10 : Value) (v4 : Value) (r3 : Kt) (v8 : Value) (h : PH) : R :=
 vb (xIdxS 1 v6 v10) fun v13 =>
 vb (xLd v13 h) fun v14 =>
 vb (xIdxS 1 v4 v10) fun v15 =>
 vb (xLd v15 h) fun v16 =>
 vb (gd (isB false v16) (some v14)) fun v17 =>
 vb (xPick v16 tt v17) fun v18 =>
 vb (xIdxS 1 v4 v10) fun v19 =>
 hb (xSt1 v19 v18 h) fun _ h =>
 vb (xAri Int.add v10 (vN 1)) fun v20 =>
 r3 [v4, v6, v8, v20] h
noncomputable def F101_1 (n : Nat) (cl : CL) (v10 : Value) (v8 : Value) (v6 : Value) (v4 : Value) (r3 : Kt) (h : PH) : R :=
 vb (xCmp ilt v10 v8) fun v12 =>
 bite v12 (F101_0 n cl v6 v10 v4 r3 v8 h) (some (Value.tuple ⟨[]⟩, h))
noncomputable def F101_2 (n : Nat) (cl : CL) (r3 : Kt) (y2 : List Value) (h : PH) : R :=
 ucons y2 fun v4 y5 => ucons y5 fun v6 y7 => ucons y7 fun v8 y9 => ucons y9 fun v10 y11 => F101_1 n cl v10 v8 v6 v4 r3 h
noncomputable def F101 (n : Nat) (cl : CL) (a0 a1 : Value) (h : PH) : R :=
 vb (xLenS a1) fun v1 =>
 lp n (F101_2 n cl) [a0, a1, v1, (vN 0)] h
theorem E101 (n : Nat) (cl : CL) (a0 a1 : Value) (h : PH) : exF Try.prog n cl ⟨[], [], [(1, [0, 6, 7, 8])], [], [], [], [], []⟩ Try.f101 [a0, a1] h = F101 n cl a0 a1 h := by kernel_rfl
theorem S101 {n : Nat} {cl : CL} (hcl : OkCL Try.prog cl) {a0 a1 : Value} {h h' : PH} {v : Value} (hx : F101 n cl a0 a1 h = some (v, h')) : (enterable Try.prog 101 = true ∧ ACall Try.prog 101 [a0, a1] h.abs (fun u k => u = v ∧ k = h'.abs)) ∧ Inv h h' :=
  exF_ok hcl hmx Try.func101 (by kernel_rfl) ((E101 n cl a0 a1 h).trans hx)
-- (*undergrowth/posit.maker).link
noncomputable def F80_0 (n : Nat) (cl : CL) (v25 : Value) (r3 : Kt) (v17 : Value) (v19 : Value) (v21 : Value) (v23 : Value) (h : PH) : R :=
 vb (xAri Int.add v25 (vN 1)) fun v27 =>
 r3 [v17, v19, v21, v23, v27] h
noncomputable def F80_1 (n : Nat) (cl : CL) (v4 : Value) (v12 : Value) (v6 : Value) (k16 : Kt) (v8 : Value) (v10 : Value) (h : PH) : R :=
 vb (xNil v4) fun v30 =>
 vb (xFld 1 v30) fun v31 =>
 vb (xLd v31 h) fun v32 =>
 vb (xIdxS 1 v32 v12) fun v33 =>
 vb (xLd v33 h) fun v34 =>
 hb (F101 n cl v34 v6 h) fun v35 h =>
 k16 [v4, v6, v8, v10, v12] h
noncomputable def F80_2 (n : Nat) (cl : CL) (r3 : Kt) (y15 : List Value) (h : PH) : R :=
 ucons y15 fun v17 y18 => ucons y18 fun v19 y20 => ucons y20 fun v21 y22 => ucons y22 fun v23 y24 => ucons y24 fun v25 y26 => F80_0 n cl v25 r3 v17 v19 v21 v23 h
noncomputable def F80_3 (n : Nat) (cl : CL) (v8 : Value) (v12 : Value) (v4 : Value) (v6 : Value) (v10 : Value) (h : PH) (k16 : Kt) : R :=
 vb (xIdxS 1 v8 v12) fun v28 =>
 vb (xLd v28 h) fun v29 =>
 bite v29 (F80_1 n cl v4 v12 v6 k16 v8 v10 h) (k16 [v4, v6, v8, v10, v12] h)
noncomputable def F80_4 (n : Nat) (cl : CL) (v12 : Value) (v10 : Value) (r3 : Kt) (v8 : Value) (v4 : Value) (v6 : Value) (h : PH) : R :=
 vb (xCmp ilt v12 v10) fun v14 =>
 bite v14 (jn (F80_2 n cl r3) (F80_3 n cl v8 v12 v4 v6 v10 h)) (some (Value.tuple ⟨[]⟩, h))
noncomputable def F80_5 (n : Nat) (cl : CL) (r3 : Kt) (y2 : List Value) (h : PH) : R :=
 ucons y2 fun v4 y5 => ucons y5 fun v6 y7 => ucons y7 fun v8 y9 => ucons y9 fun v10 y11 => ucons y11 fun v12 y13 => F80_4 n cl v12 v10 r3 v8 v4 v6 h
noncomputable def F80 (n : Nat) (cl : CL) (a0 a1 a2 : Value) (h : PH) : R :=
 vb (xLenS a1) fun v1 =>
 lp n (F80_5 n cl) [a0, a2, a1, v1, (vN 0)] h
noncomputable def D80 (n : Nat) (cl : CL) : CL := fun f xs h => sw f 101 (ucons xs fun b0 xs => ucons xs fun b1 xs => u0 xs (F101 n cl b0 b1 h)) (cl f xs h)
theorem Dk80 {n : Nat} {cl : CL} (hcl : OkCL Try.prog cl) : OkCL Try.prog (D80 n cl) := by
  intro f xs h v h' hx
  rcases sw_ok hx with ⟨rfl, hx⟩ | hx
  · obtain ⟨_, _, rfl, hx⟩ := ucons_ok hx; obtain ⟨_, _, rfl, hx⟩ := ucons_ok hx; obtain ⟨rfl, hx⟩ := u0_ok hx; exact S101 (n := n) (cl := cl) hcl hx
  exact hcl _ _ _ _ _ hx
theorem E80 (n : Nat) (cl : CL) (a0 a1 a2 : Value) (h : PH) : exF Try.prog n (D80 n cl) ⟨[], [], [(1, [0, 2, 8, 9, 10]), (5, [0, 2, 8, 9, 10])], [], [], [], [], []⟩ Try.f80 [a0, a1, a2] h = F80 n cl a0 a1 a2 h := by kernel_rfl
theorem S80 {n : Nat} {cl : CL} (hcl : OkCL Try.prog cl) {a0 a1 a2 : Value} {h h' : PH} {v : Value} (hx : F80 n cl a0 a1 a2 h = some (v, h')) : (enterable Try.prog 80 = true ∧ ACall Try.prog 80 [a0, a1, a2] h.abs (fun u k => u = v ∧ k = h'.abs)) ∧ Inv h h' :=
  exF_ok (Dk80 hcl) hmx Try.func80 (by kernel_rfl) ((E80 n cl a0 a1 a2 h).trans hx)
-- slices.Clone[[]bool,bool]
noncomputable def F100_0 (n : Nat) (cl : CL) (a0 : Value) (h : PH) : R :=
 hb (xBS 0 (bsRow Try.prog 49 0 []) h) fun v2 h =>
 hb (xApp (appInfo Try.prog #[49, 49]) v2 a0 h) fun v3 h =>
 some (v3, h)
noncomputable def F100 (n : Nat) (cl : CL) (a0 : Value) (h : PH) : R :=
 vb (abin Try.prog .eql 49 (Operand.tmp 3) (Operand.const (Value.slice none 0 0)) a0 nils) fun v1 =>
 bite v1 (some (nils, h)) (F100_0 n cl a0 h)
theorem E100 (n : Nat) (cl : CL) (a0 : Value) (h : PH) : exF Try.prog n cl ⟨[], [], [], [], [], [], [], []⟩ Try.f100 [a0] h = F100 n cl a0 h := by kernel_rfl
theorem S100 {n : Nat} {cl : CL} (hcl : OkCL Try.prog cl) {a0 : Value} {h h' : PH} {v : Value} (hx : F100 n cl a0 h = some (v, h')) : (enterable Try.prog 100 = true ∧ ACall Try.prog 100 [a0] h.abs (fun u k => u = v ∧ k = h'.abs)) ∧ Inv h h' :=
  exF_ok hcl hmx Try.func100 (by kernel_rfl) ((E100 n cl a0 h).trans hx)
-- (*undergrowth/posit.maker).cat
noncomputable def F78_0 (n : Nat) (cl : CL) (v37 : Value) (v35 : Value) (h : PH) : R :=
 vb (xLdA 3 v37 h) fun v39 =>
 hb (xStA 3 v35 v39 h) fun _ h =>
 vb (xLdA 3 v35 h) fun v40 => some (v40, h)
noncomputable def F78_1 (n : Nat) (cl : CL) (v31 : Value) (v25 : Value) (k34 : Kt) (v29 : Value) (h : PH) : R :=
 vb (xFld 2 v31) fun v43 =>
 vb (xLd v43 h) fun v44 =>
 vb (xFld 2 v25) fun v45 =>
 vb (xLd v45 h) fun v46 =>
 hb (F101 n cl v44 v46 h) fun v47 h =>
 k34 [v29, v31] h
noncomputable def F78_2 (n : Nat) (cl : CL) (v27 : Value) (v31 : Value) (v25 : Value) (v29 : Value) (h : PH) (k34 : Kt) : R :=
 vb (xFld 0 v27) fun v41 =>
 vb (xLd v41 h) fun v42 =>
 bite v42 (F78_1 n cl v31 v25 k34 v29 h) (k34 [v29, v31] h)
noncomputable def F78_3 (n : Nat) (cl : CL) (v27 : Value) (v31 : Value) (v25 : Value) (v29 : Value) (h : PH) : R :=
 jn (fun y33 h => ucons y33 fun v35 y36 => ucons y36 fun v37 y38 => F78_0 n cl v37 v35 h) (F78_2 n cl v27 v31 v25 v29 h)
noncomputable def F78_4 (n : Nat) (cl : CL) (v22 : Value) (v2 : Value) (k24 : Kt) (v1 : Value) (v3 : Value) (h : PH) : R :=
 vb (xFld 1 v22) fun v50 =>
 vb (xLd v50 h) fun v51 =>
 vb (xFld 1 v2) fun v52 =>
 vb (xLd v52 h) fun v53 =>
 hb (F101 n cl v51 v53 h) fun v54 h =>
 k24 [v1, v2, v3, v22] h
noncomputable def F78_5 (n : Nat) (cl : CL) (y23 : List Value) (h : PH) : R :=
 ucons y23 fun v25 y26 => ucons y26 fun v27 y28 => ucons y28 fun v29 y30 => ucons y30 fun v31 y32 => F78_3 n cl v27 v31 v25 v29 h
noncomputable def F78_6 (n : Nat) (cl : CL) (v1 : Value) (v22 : Value) (v2 : Value) (v3 : Value) (h : PH) (k24 : Kt) : R :=
 vb (xFld 0 v1) fun v48 =>
 vb (xLd v48 h) fun v49 =>
 bite v49 (F78_4 n cl v22 v2 k24 v1 v3 h) (k24 [v1, v2, v3, v22] h)
noncomputable def F78 (n : Nat) (cl : CL) (a0 a1 a2 : Value) (h : PH) : R :=
 hb (xBox a1 h) fun v1 h =>
 hb (xBox a2 h) fun v2 h =>
 hb (xAlloc (zcells Try.prog 105) h) fun v3 h =>
 vb (xFld 2 v1) fun v4 =>
 vb (xLd v4 h) fun v5 =>
 vb (xFld 1 v2) fun v6 =>
 vb (xLd v6 h) fun v7 =>
 hb (F80 n cl a0 v5 v7 h) fun v8 h =>
 kp 1 h fun q9 h =>
 vb (xFld 0 v1) fun v10 =>
 vb (xFld 1 v1) fun v11 =>
 vb (xFld 2 v2) fun v12 =>
 vb (xLd v10 h) fun v13 =>
 vb (gd (isB true v13) (xFld 0 v2)) fun v14 =>
 vb (gd (isB true v13) (xLd v14 h)) fun v15 =>
 vb (xPick v13 v15 ff) fun v16 =>
 vb (xLd v11 h) fun v17 =>
 vb (xLd v12 h) fun v18 =>
 avk q9 1 [v17] <|
 hb (fcall h (F100 n cl v17 (h.fzn))) fun v19 h =>
 avk q9 1 [v18] <|
 hb (fcall h (F100 n cl v18 (h.fzn))) fun v20 h =>
 vb (abuild Try.prog 105 [(0, v16), (1, v19), (2, v20)]) fun v21 =>
 hb (xfill (Nat.add q9 0) h (xAlloc (zcells Try.prog 105) hE)) fun v22 h =>
 hb (xStA 3 v22 v21 h) fun _ h =>
 jn (F78_5 n cl) (F78_6 n cl v1 v22 v2 v3 h)
noncomputable def D78 (n : Nat) (cl : CL) : CL := fun f xs h => sw f 80 (ucons xs fun b0 xs => ucons xs fun b1 xs => ucons xs fun b2 xs => u0 xs (F80 n cl b0 b1 b2 h)) (sw f 100 (ucons xs fun b0 xs => u0 xs (F100 n cl b0 h)) (sw f 101 (ucons xs fun b0 xs => ucons xs fun b1 xs => u0 xs (F101 n cl b0 b1 h)) (cl f xs h)))
theorem Dk78 {n : Nat} {cl : CL} (hcl : OkCL Try.prog cl) : OkCL Try.prog (D78 n cl) := by
  intro f xs h v h' hx
  rcases sw_ok hx with ⟨rfl, hx⟩ | hx
  · obtain ⟨_, _, rfl, hx⟩ := ucons_ok hx; obtain ⟨_, _, rfl, hx⟩ := ucons_ok hx; obtain ⟨_, _, rfl, hx⟩ := ucons_ok hx; obtain ⟨rfl, hx⟩ := u0_ok hx; exact S80 (n := n) (cl := cl) hcl hx
  rcases sw_ok hx with ⟨rfl, hx⟩ | hx
  · obtain ⟨_, _, rfl, hx⟩ := ucons_ok hx; obtain ⟨rfl, hx⟩ := u0_ok hx; exact S100 (n := n) (cl := cl) hcl hx
  rcases sw_ok hx with ⟨rfl, hx⟩ | hx
  · obtain ⟨_, _, rfl, hx⟩ := ucons_ok hx; obtain ⟨_, _, rfl, hx⟩ := ucons_ok hx; obtain ⟨rfl, hx⟩ := u0_ok hx; exact S101 (n := n) (cl := cl) hcl hx
  exact hcl _ _ _ _ _ hx
theorem E78 (n : Nat) (cl : CL) (a0 a1 a2 : Value) (h : PH) : exF Try.prog n (D78 n cl) ⟨[], [100], [(5, [4, 5, 6, 7]), (7, [6, 7])], [(2, [0, 6, 9, 1, 2, 3, 4, 5, 7, 10, 8, 11, 12, 13, 14])], [], [], [(2, [13])], []⟩ Try.f78 [a0, a1, a2] h = F78 n cl a0 a1 a2 h := by kernel_rfl
theorem S78 {n : Nat} {cl : CL} (hcl : OkCL Try.prog cl) {a0 a1 a2 : Value} {h h' : PH} {v : Value} (hx : F78 n cl a0 a1 a2 h = some (v, h')) : (enterable Try.prog 78 = true ∧ ACall Try.prog 78 [a0, a1, a2] h.abs (fun u k => u = v ∧ k = h'.abs)) ∧ Inv h h' :=
  exF_ok (Dk78 hcl) hmx Try.func78 (by kernel_rfl) ((E78 n cl a0 a1 a2 h).trans hx)
-- undergrowth/posit.either
noncomputable def F79 (n : Nat) (cl : CL) (a0 a1 : Value) (h : PH) : R :=
 hb (xBox a0 h) fun v1 h =>
 hb (xBox a1 h) fun v2 h =>
 hb (xAlloc (zcells Try.prog 105) h) fun v3 h =>
 kp 1 h fun q4 h =>
 vb (xFld 0 v1) fun v5 =>
 vb (xFld 1 v1) fun v6 =>
 vb (xFld 2 v1) fun v7 =>
 vb (xLd v5 h) fun v8 =>
 vb (gd (isB false v8) (xFld 0 v2)) fun v9 =>
 vb (gd (isB false v8) (xLd v9 h)) fun v10 =>
 vb (xPick v8 tt v10) fun v11 =>
 vb (xLd v6 h) fun v12 =>
 vb (xLd v7 h) fun v13 =>
 avk q4 1 [v12] <|
 hb (fcall h (F100 n cl v12 (h.fzn))) fun v14 h =>
 avk q4 1 [v13] <|
 hb (fcall h (F100 n cl v13 (h.fzn))) fun v15 h =>
 vb (abuild Try.prog 105 [(0, v11), (1, v14), (2, v15)]) fun v16 =>
 hb (xfill (Nat.add q4 0) h (xAlloc (zcells Try.prog 105) hE)) fun v17 h =>
 hb (xStA 3 v17 v16 h) fun _ h =>
 vb (xFld 1 v17) fun v18 =>
 vb (xLd v18 h) fun v19 =>
 vb (xFld 1 v2) fun v20 =>
 vb (xLd v20 h) fun v21 =>
 hb (F101 n cl v19 v21 h) fun v22 h =>
 vb (xFld 2 v17) fun v23 =>
 vb (xLd v23 h) fun v24 =>
 vb (xFld 2 v2) fun v25 =>
 vb (xLd v25 h) fun v26 =>
 hb (F101 n cl v24 v26 h) fun v27 h =>
 vb (xLdA 3 v17 h) fun v28 =>
 hb (xStA 3 v3 v28 h) fun _ h =>
 vb (xLdA 3 v3 h) fun v29 => some (v29, h)
noncomputable def D79 (n : Nat) (cl : CL) : CL := fun f xs h => sw f 100 (ucons xs fun b0 xs => u0 xs (F100 n cl b0 h)) (sw f 101 (ucons xs fun b0 xs => ucons xs fun b1 xs => u0 xs (F101 n cl b0 b1 h)) (cl f xs h))
theorem Dk79 {n : Nat} {cl : CL} (hcl : OkCL Try.prog cl) : OkCL Try.prog (D79 n cl) := by
  intro f xs h v h' hx
  rcases sw_ok hx with ⟨rfl, hx⟩ | hx
  · obtain ⟨_, _, rfl, hx⟩ := ucons_ok hx; obtain ⟨rfl, hx⟩ := u0_ok hx; exact S100 (n := n) (cl := cl) hcl hx
  rcases sw_ok hx with ⟨rfl, hx⟩ | hx
  · obtain ⟨_, _, rfl, hx⟩ := ucons_ok hx; obtain ⟨_, _, rfl, hx⟩ := ucons_ok hx; obtain ⟨rfl, hx⟩ := u0_ok hx; exact S101 (n := n) (cl := cl) hcl hx
  exact hcl _ _ _ _ _ hx
theorem E79 (n : Nat) (cl : CL) (a0 a1 : Value) (h : PH) : exF Try.prog n (D79 n cl) ⟨[], [100], [], [(1, [0, 6, 9, 1, 2, 3, 4, 5, 7, 10, 8, 11, 12, 13, 14])], [], [], [(1, [13])], []⟩ Try.f79 [a0, a1] h = F79 n cl a0 a1 h := by kernel_rfl
theorem S79 {n : Nat} {cl : CL} (hcl : OkCL Try.prog cl) {a0 a1 : Value} {h h' : PH} {v : Value} (hx : F79 n cl a0 a1 h = some (v, h')) : (enterable Try.prog 79 = true ∧ ACall Try.prog 79 [a0, a1] h.abs (fun u k => u = v ∧ k = h'.abs)) ∧ Inv h h' :=
  exF_ok (Dk79 hcl) hmx Try.func79 (by kernel_rfl) ((E79 n cl a0 a1 h).trans hx)
-- (*undergrowth/posit.maker).of
noncomputable def F51_0 (n : Nat) (cl : CL) (v1 : Value) (a0 : Value) (v2 : Value) (h : PH) : R :=
 vb (xLdA 6 v1 h) fun v8 =>
 hb (F76 n cl a0 v8 h) fun v9 h =>
 hb (xStA 3 v2 v9 h) fun _ h =>
 vb (xLdA 3 v2 h) fun v10 => some (v10, h)
noncomputable def F51_1 (n : Nat) (cl : CL) (a0 : Value) (v2 : Value) (h : PH) : R :=
 hb (fcall h (F77 n cl a0 (h.fzn))) fun v13 h =>
 hb (xStA 3 v2 v13 h) fun _ h =>
 vb (xLdA 3 v2 h) fun v14 => some (v14, h)
noncomputable def F51_2 (n : Nat) (cl : CL) (v52 : Value) (r22 : Kt) (v40 : Value) (v42 : Value) (v44 : Value) (v46 : Value) (v48 : Value) (v50 : Value) (h : PH) : R :=
 vb (xAri Int.add v52 (vN 1)) fun v54 =>
 r22 [v40, v42, v44, v46, v48, v50, v54] h
noncomputable def F51_3 (n : Nat) (cl : CL) (v29 : Value) (v60 : Value) (v23 : Value) (k39 : Kt) (v25 : Value) (v27 : Value) (v31 : Value) (v33 : Value) (v35 : Value) (h : PH) : R :=
 vb (xLdA 3 v29 h) fun v64 =>
 vb (xLdA 3 v60 h) fun v65 =>
 hb (F78 n cl v23 v64 v65 h) fun v66 h =>
 hb (xStA 3 v29 v66 h) fun _ h =>
 k39 [v23, v25, v27, v29, v31, v33, v35] h
noncomputable def F51_4 (n : Nat) (cl : CL) (v29 : Value) (v60 : Value) (k39 : Kt) (v23 : Value) (v25 : Value) (v27 : Value) (v31 : Value) (v33 : Value) (v35 : Value) (h : PH) : R :=
 vb (xLdA 3 v29 h) fun v67 =>
 vb (xLdA 3 v60 h) fun v68 =>
 hb (F79 n cl v67 v68 h) fun v69 h =>
 hb (xStA 3 v29 v69 h) fun _ h =>
 k39 [v23, v25, v27, v29, v31, v33, v35] h
noncomputable def F51_5 (n : Nat) (cl : CL) (r22 : Kt) (y38 : List Value) (h : PH) : R :=
 ucons y38 fun v40 y41 => ucons y41 fun v42 y43 => ucons y43 fun v44 y45 => ucons y45 fun v46 y47 => ucons y47 fun v48 y49 => ucons y49 fun v50 y51 => ucons y51 fun v52 y53 => F51_2 n cl v52 r22 v40 v42 v44 v46 v48 v50 h
noncomputable def F51_6 (n : Nat) (cl : CL) (v31 : Value) (v35 : Value) (v23 : Value) (v25 : Value) (v29 : Value) (v27 : Value) (v33 : Value) (h : PH) (k39 : Kt) : R :=
 vb (xIdxS 6 v31 v35) fun v55 =>
 vb (xLdA 6 v55 h) fun v56 =>
 hb (xAlloc (zcells Try.prog 57) h) fun v57 h =>
 hb (xStA 6 v57 v56 h) fun _ h =>
 vb (xLdA 6 v57 h) fun v58 =>
 hb (cl 51 [v23, v58] h) fun v59 h =>
 hb (xAlloc (zcells Try.prog 105) h) fun v60 h =>
 hb (xStA 3 v60 v59 h) fun _ h =>
 vb (xFld 0 v25) fun v61 =>
 vb (xLd v61 h) fun v62 =>
 vb (xCmp ieq v62 (vN 2)) fun v63 =>
 bite v63 (F51_3 n cl v29 v60 v23 k39 v25 v27 v31 v33 v35 h) (F51_4 n cl v29 v60 k39 v23 v25 v27 v31 v33 v35 h)
noncomputable def F51_7 (n : Nat) (cl : CL) (v76 : Value) (v72 : Value) (v74 : Value) (h : PH) : R :=
 vb (xFld 0 v76) fun v78 =>
 vb (xLd v78 h) fun v79 =>
 vb (gd (isB false v79) (xFld 0 v72)) fun v80 =>
 vb (gd (isB false v79) (xLd v80 h)) fun v81 =>
 vb (gd (isB false v79) (xCmp ieq v81 (vN 4))) fun v82 =>
 vb (xPick v79 tt v82) fun v83 =>
 vb (gd (isB false v83) (xFld 0 v72)) fun v84 =>
 vb (gd (isB false v83) (xLd v84 h)) fun v85 =>
 vb (gd (isB false v83) (xCmp ieq v85 (vN 6))) fun v86 =>
 vb (xPick v83 tt v86) fun v87 =>
 vb (xFld 0 v76) fun v88 =>
 hb (xSt1 v88 v87 h) fun _ h =>
 vb (xLdA 3 v76 h) fun v89 =>
 hb (xStA 3 v74 v89 h) fun _ h =>
 vb (xLdA 3 v74 h) fun v90 => some (v90, h)
noncomputable def F51_8 (n : Nat) (cl : CL) (v29 : Value) (v23 : Value) (k71 : Kt) (v25 : Value) (v27 : Value) (h : PH) : R :=
 vb (xFld 2 v29) fun v98 =>
 vb (xLd v98 h) fun v99 =>
 vb (xFld 1 v29) fun v100 =>
 vb (xLd v100 h) fun v101 =>
 hb (F80 n cl v23 v99 v101 h) fun v102 h =>
 k71 [v25, v27, v29] h
noncomputable def F51_9 (n : Nat) (cl : CL) (y70 : List Value) (h : PH) : R :=
 ucons y70 fun v72 y73 => ucons y73 fun v74 y75 => ucons y75 fun v76 y77 => F51_7 n cl v76 v72 v74 h
noncomputable def F51_10 (n : Nat) (cl : CL) (v25 : Value) (v29 : Value) (v23 : Value) (v27 : Value) (h : PH) (k71 : Kt) : R :=
 vb (xFld 0 v25) fun v91 =>
 vb (xLd v91 h) fun v92 =>
 vb (xCmp ieq v92 (vN 4)) fun v93 =>
 vb (gd (isB false v93) (xFld 0 v25)) fun v94 =>
 vb (gd (isB false v93) (xLd v94 h)) fun v95 =>
 vb (gd (isB false v93) (xCmp ieq v95 (vN 5))) fun v96 =>
 vb (xPick v93 tt v96) fun v97 =>
 bite v97 (F51_8 n cl v29 v23 k71 v25 v27 h) (k71 [v25, v27, v29] h)
noncomputable def F51_11 (n : Nat) (cl : CL) (v35 : Value) (v33 : Value) (r22 : Kt) (v31 : Value) (v23 : Value) (v25 : Value) (v29 : Value) (v27 : Value) (h : PH) : R :=
 vb (xCmp ilt v35 v33) fun v37 =>
 bite v37 (jn (F51_5 n cl r22) (F51_6 n cl v31 v35 v23 v25 v29 v27 v33 h)) (jn (F51_9 n cl) (F51_10 n cl v25 v29 v23 v27 h))
noncomputable def F51_12 (n : Nat) (cl : CL) (r22 : Kt) (y21 : List Value) (h : PH) : R :=
 ucons y21 fun v23 y24 => ucons y24 fun v25 y26 => ucons y26 fun v27 y28 => ucons y28 fun v29 y30 => ucons y30 fun v31 y32 => ucons y32 fun v33 y34 => ucons y34 fun v35 y36 => F51_11 n cl v35 v33 r22 v31 v23 v25 v29 v27 h
noncomputable def F51_13 (n : Nat) (cl : CL) (v4 : Value) (a0 : Value) (v1 : Value) (v2 : Value) (h : PH) : R :=
 vb (xIdxS 6 v4 (vN 0)) fun v15 =>
 vb (xLdA 6 v15 h) fun v16 =>
 hb (cl 51 [a0, v16] h) fun v17 h =>
 hb (xAlloc (zcells Try.prog 105) h) fun v18 h =>
 hb (xStA 3 v18 v17 h) fun _ h =>
 vb (acut Try.prog 55 v4 (some (vN 1)) none none) fun v19 =>
 vb (xLenS v19) fun v20 =>
 lp n (F51_12 n cl) [a0, v1, v2, v18, v19, v20, (vN 0)] h
noncomputable def F51_14 (n : Nat) (cl : CL) (v4 : Value) (a0 : Value) (v2 : Value) (v1 : Value) (h : PH) : R :=
 vb (xLenS v4) fun v11 =>
 vb (xCmp ieq v11 (vN 0)) fun v12 =>
 bite v12 (F51_1 n cl a0 v2 h) (F51_13 n cl v4 a0 v1 v2 h)
noncomputable def F51 (n : Nat) (cl : CL) (a0 a1 : Value) (h : PH) : R :=
 hb (xBox a1 h) fun v1 h =>
 hb (xAlloc (zcells Try.prog 105) h) fun v2 h =>
 vb (xLdA 6 v1 h) fun v3 =>
 hb (fcall h (F75 n cl v3 (h.fzn))) fun v4 h =>
 vb (xFld 0 v1) fun v5 =>
 vb (xLd v5 h) fun v6 =>
 vb (xCmp ieq v6 (vN 1)) fun v7 =>
 bite v7 (F51_0 n cl v1 a0 v2 h) (F51_14 n cl v4 a0 v2 v1 h)
noncomputable def D51 (n : Nat) (cl : CL) : CL := fun f xs h => sw f 75 (ucons xs fun b0 xs => u0 xs (F75 n cl b0 h)) (sw f 76 (ucons xs fun b0 xs => ucons xs fun b1 xs => u0 xs (F76 n cl b0 b1 h)) (sw f 77 (ucons xs fun b0 xs => u0 xs (F77 n cl b0 h)) (sw f 78 (ucons xs fun b0 xs => ucons xs fun b1 xs => ucons xs fun b2 xs => u0 xs (F78 n cl b0 b1 b2 h)) (sw f 79 (ucons xs fun b0 xs => ucons xs fun b1 xs => u0 xs (F79 n cl b0 b1 h)) (sw f 80 (ucons xs fun b0 xs => ucons xs fun b1 xs => ucons xs fun b2 xs => u0 xs (F80 n cl b0 b1 b2 h)) (cl f xs h))))))
theorem Dk51 {n : Nat} {cl : CL} (hcl : OkCL Try.prog cl) : OkCL Try.prog (D51 n cl) := by
  intro f xs h v h' hx
  rcases sw_ok hx with ⟨rfl, hx⟩ | hx
  · obtain ⟨_, _, rfl, hx⟩ := ucons_ok hx; obtain ⟨rfl, hx⟩ := u0_ok hx; exact S75 (n := n) (cl := cl) hcl hx
  rcases sw_ok hx with ⟨rfl, hx⟩ | hx
  · obtain ⟨_, _, rfl, hx⟩ := ucons_ok hx; obtain ⟨_, _, rfl, hx⟩ := ucons_ok hx; obtain ⟨rfl, hx⟩ := u0_ok hx; exact S76 (n := n) (cl := cl) hcl hx
  rcases sw_ok hx with ⟨rfl, hx⟩ | hx
  · obtain ⟨_, _, rfl, hx⟩ := ucons_ok hx; obtain ⟨rfl, hx⟩ := u0_ok hx; exact S77 (n := n) (cl := cl) hcl hx
  rcases sw_ok hx with ⟨rfl, hx⟩ | hx
  · obtain ⟨_, _, rfl, hx⟩ := ucons_ok hx; obtain ⟨_, _, rfl, hx⟩ := ucons_ok hx; obtain ⟨_, _, rfl, hx⟩ := ucons_ok hx; obtain ⟨rfl, hx⟩ := u0_ok hx; exact S78 (n := n) (cl := cl) hcl hx
  rcases sw_ok hx with ⟨rfl, hx⟩ | hx
  · obtain ⟨_, _, rfl, hx⟩ := ucons_ok hx; obtain ⟨_, _, rfl, hx⟩ := ucons_ok hx; obtain ⟨rfl, hx⟩ := u0_ok hx; exact S79 (n := n) (cl := cl) hcl hx
  rcases sw_ok hx with ⟨rfl, hx⟩ | hx
  · obtain ⟨_, _, rfl, hx⟩ := ucons_ok hx; obtain ⟨_, _, rfl, hx⟩ := ucons_ok hx; obtain ⟨_, _, rfl, hx⟩ := ucons_ok hx; obtain ⟨rfl, hx⟩ := u0_ok hx; exact S80 (n := n) (cl := cl) hcl hx
  exact hcl _ _ _ _ _ hx
theorem E51 (n : Nat) (cl : CL) (a0 a1 : Value) (h : PH) : exF Try.prog n (D51 n cl) ⟨[], [75, 77], [(8, [0, 3, 4, 6, 31, 32, 33]), (14, [0, 3, 4, 6, 31, 32, 33]), (17, [3, 4, 6])], [], [], [], [], []⟩ Try.f51 [a0, a1] h = F51 n cl a0 a1 h := by kernel_rfl
theorem S51 {n : Nat} {cl : CL} (hcl : OkCL Try.prog cl) {a0 a1 : Value} {h h' : PH} {v : Value} (hx : F51 n cl a0 a1 h = some (v, h')) : (enterable Try.prog 51 = true ∧ ACall Try.prog 51 [a0, a1] h.abs (fun u k => u = v ∧ k = h'.abs)) ∧ Inv h h' :=
  exF_ok (Dk51 hcl) hmx Try.func51 (by kernel_rfl) ((E51 n cl a0 a1 h).trans hx)
-- undergrowth/posit.list
noncomputable def F52_0 (n : Nat) (cl : CL) (v21 : Value) (r3 : Kt) (v15 : Value) (v17 : Value) (v19 : Value) (h : PH) : R :=
 vb (xAri Int.add v21 (vN 1)) fun v23 =>
 r3 [v15, v17, v19, v23] h
noncomputable def F52_1 (n : Nat) (cl : CL) (v10 : Value) (v4 : Value) (k14 : Kt) (v6 : Value) (v8 : Value) (h : PH) : R :=
 hb (xBS 1 (bsRow Try.prog 28 1 [(0, v10)]) h) fun v26 h =>
 hb (xApp (appInfo Try.prog #[28, 28]) v4 v26 h) fun v27 h =>
 k14 [v27, v6, v8, v10] h
noncomputable def F52_2 (n : Nat) (cl : CL) (r3 : Kt) (y13 : List Value) (h : PH) : R :=
 ucons y13 fun v15 y16 => ucons y16 fun v17 y18 => ucons y18 fun v19 y20 => ucons y20 fun v21 y22 => F52_0 n cl v21 r3 v15 v17 v19 h
noncomputable def F52_3 (n : Nat) (cl : CL) (v6 : Value) (v10 : Value) (v4 : Value) (v8 : Value) (h : PH) (k14 : Kt) : R :=
 vb (xIdxS 1 v6 v10) fun v24 =>
 vb (xLd v24 h) fun v25 =>
 bite v25 (F52_1 n cl v10 v4 k14 v6 v8 h) (k14 [v4, v6, v8, v10] h)
noncomputable def F52_4 (n : Nat) (cl : CL) (v10 : Value) (v8 : Value) (r3 : Kt) (v6 : Value) (v4 : Value) (h : PH) : R :=
 vb (xCmp ilt v10 v8) fun v12 =>
 bite v12 (jn (F52_2 n cl r3) (F52_3 n cl v6 v10 v4 v8 h)) (some (v4, h))
noncomputable def F52_5 (n : Nat) (cl : CL) (r3 : Kt) (y2 : List Value) (h : PH) : R :=
 ucons y2 fun v4 y5 => ucons y5 fun v6 y7 => ucons y7 fun v8 y9 => ucons y9 fun v10 y11 => F52_4 n cl v10 v8 r3 v6 v4 h
noncomputable def F52 (n : Nat) (cl : CL) (a0 : Value) (h : PH) : R :=
 vb (xLenS a0) fun v1 =>
 lp n (F52_5 n cl) [nils, a0, v1, (vN 0)] h
theorem E52 (n : Nat) (cl : CL) (a0 : Value) (h : PH) : exF Try.prog n cl ⟨[], [], [(3, [3, 6, 7, 8]), (7, [3, 6, 7, 8])], [], [], [], [], []⟩ Try.f52 [a0] h = F52 n cl a0 h := by kernel_rfl
theorem S52 {n : Nat} {cl : CL} (hcl : OkCL Try.prog cl) {a0 : Value} {h h' : PH} {v : Value} (hx : F52 n cl a0 h = some (v, h')) : (enterable Try.prog 52 = true ∧ ACall Try.prog 52 [a0] h.abs (fun u k => u = v ∧ k = h'.abs)) ∧ Inv h h' :=
  exF_ok hcl hmx Try.func52 (by kernel_rfl) ((E52 n cl a0 h).trans hx)
-- undergrowth/posit.Of
noncomputable def F26_0 (n : Nat) (cl : CL) (v2 : Value) (h : PH) : R :=
 vb (abuild Try.prog 43 []) fun v8 =>
 hb (xStA 5 v2 v8 h) fun _ h =>
 vb (xLdA 5 v2 h) fun v9 => some (Value.tuple ⟨[v9, (vN 3)]⟩, h)
noncomputable def F26_1 (n : Nat) (cl : CL) (v2 : Value) (h : PH) : R :=
 vb (abuild Try.prog 43 []) fun v11 =>
 hb (xStA 5 v2 v11 h) fun _ h =>
 vb (xLdA 5 v2 h) fun v12 => some (Value.tuple ⟨[v12, (vN 4)]⟩, h)
noncomputable def F26_2 (n : Nat) (cl : CL) (v23 : Value) (v21 : Value) (v27 : Value) (r16 : Kt) (v17 : Value) (v19 : Value) (v25 : Value) (h : PH) : R :=
 vb (xNil v23) fun v30 =>
 vb (xFld 1 v30) fun v31 =>
 vb (xLd v31 h) fun v32 =>
 hb (xMk (zinfo Try.prog 49) v21 v21 h) fun v33 h =>
 hb (xBS 1 (bsRow Try.prog 48 1 [(0, v33)]) h) fun v34 h =>
 hb (xApp (appInfo Try.prog #[48, 48]) v32 v34 h) fun v35 h =>
 vb (xNil v23) fun v36 =>
 vb (xFld 1 v36) fun v37 =>
 hb (xSt1 v37 v35 h) fun _ h =>
 vb (xAri Int.add v27 (vN 1)) fun v38 =>
 r16 [v17, v19, v21, v23, v25, v38] h
noncomputable def F26_3 (n : Nat) (cl : CL) (v66 : Value) (v70 : Value) (v64 : Value) (r61 : Kt) (v62 : Value) (v68 : Value) (h : PH) : R :=
 vb (xIdxS 1 v66 v70) fun v73 =>
 vb (xLd v73 h) fun v74 =>
 vb (xFld 4 v64) fun v75 =>
 vb (xLd v75 h) fun v76 =>
 hb (fcall h (F52 n cl v74 (h.fzn))) fun v77 h =>
 lchk (xLd v75 h) v76 <|
 hb (xBS 1 (bsRow Try.prog 27 1 [(0, v77)]) h) fun v78 h =>
 hb (xApp (appInfo Try.prog #[27, 27]) v76 v78 h) fun v79 h =>
 vb (xFld 4 v64) fun v80 =>
 hb (xSt1 v80 v79 h) fun _ h =>
 vb (xAri Int.add v70 (vN 1)) fun v81 =>
 r61 [v62, v64, v66, v68, v81] h
noncomputable def F26_4 (n : Nat) (cl : CL) (v64 : Value) (v62 : Value) (h : PH) : R :=
 vb (xLdA 5 v64 h) fun v82 =>
 hb (xStA 5 v62 v82 h) fun _ h =>
 vb (xLdA 5 v62 h) fun v83 => some (Value.tuple ⟨[v83, (vN 0)]⟩, h)
noncomputable def F26_5 (n : Nat) (cl : CL) (v70 : Value) (v68 : Value) (v66 : Value) (v64 : Value) (r61 : Kt) (v62 : Value) (h : PH) : R :=
 vb (xCmp ilt v70 v68) fun v72 =>
 bite v72 (F26_3 n cl v66 v70 v64 r61 v62 v68 h) (F26_4 n cl v64 v62 h)
noncomputable def F26_6 (n : Nat) (cl : CL) (r61 : Kt) (y60 : List Value) (h : PH) : R :=
 ucons y60 fun v62 y63 => ucons y63 fun v64 y65 => ucons y65 fun v66 y67 => ucons y67 fun v68 y69 => ucons y69 fun v70 y71 => F26_5 n cl v70 v68 v66 v64 r61 v62 h
noncomputable def F26_7 (n : Nat) (cl : CL) (v17 : Value) (v23 : Value) (v19 : Value) (h : PH) : R :=
 vb (xLdA 6 v17 h) fun v39 =>
 hb (cl 51 [v23, v39] h) fun v40 h =>
 hb (xAlloc (zcells Try.prog 105) h) fun v41 h =>
 hb (xStA 3 v41 v40 h) fun _ h =>
 kp 1 h fun q42 h =>
 vb (xNil v23) fun v43 =>
 vb (xFld 0 v43) fun v44 =>
 vb (xFld 0 v41) fun v45 =>
 vb (xFld 1 v41) fun v46 =>
 vb (xFld 2 v41) fun v47 =>
 vb (xLd v44 h) fun v48 =>
 vb (xLd v45 h) fun v49 =>
 vb (xLd v46 h) fun v50 =>
 vb (xLd v47 h) fun v51 =>
 avk q42 1 [v50] <|
 hb (fcall h (F52 n cl v50 (h.fzn))) fun v52 h =>
 avk q42 1 [v51] <|
 hb (fcall h (F52 n cl v51 (h.fzn))) fun v53 h =>
 vb (abuild Try.prog 43 [(0, v48), (1, v49), (2, v52), (3, v53)]) fun v54 =>
 hb (xfill (Nat.add q42 0) h (xAlloc (zcells Try.prog 43) hE)) fun v55 h =>
 hb (xStA 5 v55 v54 h) fun _ h =>
 vb (xNil v23) fun v56 =>
 vb (xFld 1 v56) fun v57 =>
 vb (xLd v57 h) fun v58 =>
 vb (xLenS v58) fun v59 =>
 lp n (F26_6 n cl) [v19, v55, v58, v59, (vN 0)] h
noncomputable def F26_8 (n : Nat) (cl : CL) (v27 : Value) (v25 : Value) (v23 : Value) (v21 : Value) (r16 : Kt) (v17 : Value) (v19 : Value) (h : PH) : R :=
 vb (xCmp ilt v27 v25) fun v29 =>
 bite v29 (F26_2 n cl v23 v21 v27 r16 v17 v19 v25 h) (F26_7 n cl v17 v23 v19 h)
noncomputable def F26_9 (n : Nat) (cl : CL) (r16 : Kt) (y15 : List Value) (h : PH) : R :=
 ucons y15 fun v17 y18 => ucons y18 fun v19 y20 => ucons y20 fun v21 y22 => ucons y22 fun v23 y24 => ucons y24 fun v25 y26 => ucons y26 fun v27 y28 => F26_8 n cl v27 v25 v23 v21 r16 v17 v19 h
noncomputable def F26_10 (n : Nat) (cl : CL) (v5 : Value) (v1 : Value) (v2 : Value) (h : PH) : R :=
 vb (abuild Try.prog 103 [(2, v5)]) fun v13 =>
 hb (xBox v13 h) fun v14 h =>
 lp n (F26_9 n cl) [v1, v2, v5, v14, v5, (vN 0)] h
noncomputable def F26_11 (n : Nat) (cl : CL) (v6 : Value) (v2 : Value) (v5 : Value) (v1 : Value) (h : PH) : R :=
 vb (xCmp (fun x y => ilt y x) v6 (vN 200)) fun v10 =>
 bite v10 (F26_1 n cl v2 h) (F26_10 n cl v5 v1 v2 h)
noncomputable def F26 (n : Nat) (cl : CL) (a0 : Value) (h : PH) : R :=
 hb (xBox a0 h) fun v1 h =>
 hb (xAlloc (zcells Try.prog 43) h) fun v2 h =>
 vb (xLdA 6 v1 h) fun v3 =>
 vb (pcall (cl 50 [v3] (h.fzn))) fun v4 =>
 vb (xExt 0 v4) fun v5 =>
 vb (xExt 1 v4) fun v6 =>
 vb (xCmp (fun x y => ilt y x) v5 (vN 150)) fun v7 =>
 bite v7 (F26_0 n cl v2 h) (F26_11 n cl v6 v2 v5 v1 h)
noncomputable def D26 (n : Nat) (cl : CL) : CL := fun f xs h => sw f 52 (ucons xs fun b0 xs => u0 xs (F52 n cl b0 h)) (cl f xs h)
theorem Dk26 {n : Nat} {cl : CL} (hcl : OkCL Try.prog cl) : OkCL Try.prog (D26 n cl) := by
  intro f xs h v h' hx
  rcases sw_ok hx with ⟨rfl, hx⟩ | hx
  · obtain ⟨_, _, rfl, hx⟩ := ucons_ok hx; obtain ⟨rfl, hx⟩ := u0_ok hx; exact S52 (n := n) (cl := cl) hcl hx
  exact hcl _ _ _ _ _ hx
theorem E26 (n : Nat) (cl : CL) (a0 : Value) (h : PH) : exF Try.prog n (D26 n cl) ⟨[50], [52], [(8, [1, 2, 4, 6, 27, 28]), (14, [2, 8, 61, 62, 63])], [(9, [0, 1, 2, 3, 5, 4, 6, 7, 8, 9, 10, 11]), (12, [0, 1, 2, 4, 6, 9, 3, 5, 7, 10, 8, 11, 12, 13, 14]), (16, [0, 2, 1, 3, 4, 5, 6, 7])], [(16, [1, 3])], [], [(12, [13])], []⟩ Try.f26 [a0] h = F26 n cl a0 h := by kernel_rfl
theorem S26 {n : Nat} {cl : CL} (hcl : OkCL Try.prog cl) {a0 : Value} {h h' : PH} {v : Value} (hx : F26 n cl a0 h = some (v, h')) : (enterable Try.prog 26 = true ∧ ACall Try.prog 26 [a0] h.abs (fun u k => u = v ∧ k = h'.abs)) ∧ Inv h h' :=
  exF_ok (Dk26 hcl) hmx Try.func26 (by kernel_rfl) ((E26 n cl a0 h).trans hx)
-- undergrowth/undergrowthlaw4.num
noncomputable def F29 (n : Nat) (cl : CL) (a0 : Value) (h : PH) : R :=
 some (a0, h)
theorem E29 (n : Nat) (cl : CL) (a0 : Value) (h : PH) : exF Try.prog n cl ⟨[], [], [], [], [], [], [], []⟩ Try.f29 [a0] h = F29 n cl a0 h := by kernel_rfl
theorem S29 {n : Nat} {cl : CL} (hcl : OkCL Try.prog cl) {a0 : Value} {h h' : PH} {v : Value} (hx : F29 n cl a0 h = some (v, h')) : (enterable Try.prog 29 = true ∧ ACall Try.prog 29 [a0] h.abs (fun u k => u = v ∧ k = h'.abs)) ∧ Inv h h' :=
  exF_ok hcl hmx Try.func29 (by kernel_rfl) ((E29 n cl a0 h).trans hx)
-- undergrowth/posit.taking
noncomputable def F58_0 (n : Nat) (cl : CL) (v30 : Value) (r4 : Kt) (v20 : Value) (v22 : Value) (v24 : Value) (v26 : Value) (v28 : Value) (h : PH) : R :=
 vb (xAri Int.add v30 (vN 1)) fun v32 =>
 r4 [v20, v22, v24, v26, v28, v32] h
noncomputable def F58_1 (n : Nat) (cl : CL) (v34 : Value) (v9 : Value) (k19 : Kt) (v5 : Value) (v7 : Value) (v11 : Value) (v13 : Value) (v15 : Value) (h : PH) : R :=
 hb (xBS 1 (bsRow Try.prog 28 1 [(0, v34)]) h) fun v50 h =>
 hb (xApp (appInfo Try.prog #[28, 28]) v9 v50 h) fun v51 h =>
 k19 [v5, v7, v51, v11, v13, v15] h
noncomputable def F58_2 (n : Nat) (cl : CL) (r4 : Kt) (y18 : List Value) (h : PH) : R :=
 ucons y18 fun v20 y21 => ucons y21 fun v22 y23 => ucons y23 fun v24 y25 => ucons y25 fun v26 y27 => ucons y27 fun v28 y29 => ucons y29 fun v30 y31 => F58_0 n cl v30 r4 v20 v22 v24 v26 v28 h
noncomputable def F58_3 (n : Nat) (cl : CL) (v11 : Value) (v15 : Value) (v7 : Value) (v5 : Value) (v9 : Value) (v13 : Value) (h : PH) (k19 : Kt) : R :=
 vb (xIdxS 1 v11 v15) fun v33 =>
 vb (xLd v33 h) fun v34 =>
 vb (xCmp (fun x y => ile y x) v34 (vN 0)) fun v35 =>
 vb (gd (isB true v35) (some v34)) fun v36 =>
 vb (gd (isB true v35) (xFld 0 v7)) fun v37 =>
 vb (gd (isB true v35) (xLd v37 h)) fun v38 =>
 vb (gd (isB true v35) (xLenS v38)) fun v39 =>
 vb (gd (isB true v35) (xCmp ilt v36 v39)) fun v40 =>
 vb (xPick v35 v40 ff) fun v41 =>
 vb (gd (isB true v41) (xFld 0 v7)) fun v42 =>
 vb (gd (isB true v41) (xLd v42 h)) fun v43 =>
 vb (gd (isB true v41) (some v34)) fun v44 =>
 vb (gd (isB true v41) (xIdxS 4 v43 v44)) fun v45 =>
 vb (gd (isB true v41) (xLdA 4 v45 h)) fun v46 =>
 vb (gd (isB true v41) (some v5)) fun v47 =>
 vb (gd (isB true v41) (pcall (F84 n cl v46 v47 (h.fzn)))) fun v48 =>
 vb (xPick v41 v48 ff) fun v49 =>
 bite v49 (F58_1 n cl v34 v9 k19 v5 v7 v11 v13 v15 h) (k19 [v5, v7, v9, v11, v13, v15] h)
noncomputable def F58_4 (n : Nat) (cl : CL) (v15 : Value) (v13 : Value) (r4 : Kt) (v11 : Value) (v7 : Value) (v5 : Value) (v9 : Value) (h : PH) : R :=
 vb (xCmp ilt v15 v13) fun v17 =>
 bite v17 (jn (F58_2 n cl r4) (F58_3 n cl v11 v15 v7 v5 v9 v13 h)) (some (v9, h))
noncomputable def F58_5 (n : Nat) (cl : CL) (r4 : Kt) (y3 : List Value) (h : PH) : R :=
 ucons y3 fun v5 y6 => ucons y6 fun v7 y8 => ucons y8 fun v9 y10 => ucons y10 fun v11 y12 => ucons y12 fun v13 y14 => ucons y14 fun v15 y16 => F58_4 n cl v15 v13 r4 v11 v7 v5 v9 h
noncomputable def F58 (n : Nat) (cl : CL) (a0 a1 a2 : Value) (h : PH) : R :=
 hb (xBox a0 h) fun v1 h =>
 vb (xLenS a1) fun v2 =>
 lp n (F58_5 n cl) [a2, v1, nils, a1, v2, (vN 0)] h
noncomputable def D58 (n : Nat) (cl : CL) : CL := fun f xs h => sw f 84 (ucons xs fun b0 xs => ucons xs fun b1 xs => u0 xs (F84 n cl b0 b1 h)) (cl f xs h)
theorem Dk58 {n : Nat} {cl : CL} (hcl : OkCL Try.prog cl) : OkCL Try.prog (D58 n cl) := by
  intro f xs h v h' hx
  rcases sw_ok hx with ⟨rfl, hx⟩ | hx
  · obtain ⟨_, _, rfl, hx⟩ := ucons_ok hx; obtain ⟨_, _, rfl, hx⟩ := ucons_ok hx; obtain ⟨rfl, hx⟩ := u0_ok hx; exact S84 (n := n) (cl := cl) hcl hx
  exact hcl _ _ _ _ _ hx
theorem E58 (n : Nat) (cl : CL) (a0 a1 a2 : Value) (h : PH) : exF Try.prog n (D58 n cl) ⟨[84], [], [(3, [2, 3, 7, 10, 11, 12]), (7, [2, 3, 7, 10, 11, 12])], [], [], [], [], []⟩ Try.f58 [a0, a1, a2] h = F58 n cl a0 a1 a2 h := by kernel_rfl
theorem S58 {n : Nat} {cl : CL} (hcl : OkCL Try.prog cl) {a0 a1 a2 : Value} {h h' : PH} {v : Value} (hx : F58 n cl a0 a1 a2 h = some (v, h')) : (enterable Try.prog 58 = true ∧ ACall Try.prog 58 [a0, a1, a2] h.abs (fun u k => u = v ∧ k = h'.abs)) ∧ Inv h h' :=
  exF_ok (Dk58 hcl) hmx Try.func58 (by kernel_rfl) ((E58 n cl a0 a1 a2 h).trans hx)
-- math/bits.Len32
noncomputable def F120_0 (n : Nat) (cl : CL) (v9 : Value) (v11 : Value) (h : PH) : R :=
 vb (xConvI .u8 v9) fun v13 =>
 vb (aindex Try.prog 9 (Value.string { data := #[0, 1, 2, 2, 3, 3, 3, 3, 4, 4, 4, 4, 4, 4, 4, 4, 5, 5, 5, 5, 5, 5, 5, 5, 5, 5, 5, 5, 5, 5, 5, 5, 6, 6, 6, 6, 6, 6, 6, 6, 6, 6, 6, 6, 6, 6, 6, 6, 6, 6, 6, 6, 6, 6, 6, 6, 6, 6, 6, 6, 6, 6, 6, 6, 7, 7, 7, 7, 7, 7, 7, 7, 7, 7, 7, 7, 7, 7, 7, 7, 7, 7, 7, 7, 7, 7, 7, 7, 7, 7, 7, 7, 7, 7, 7, 7, 7, 7, 7, 7, 7, 7, 7, 7, 7, 7, 7, 7, 7, 7, 7, 7, 7, 7, 7, 7, 7, 7, 7, 7, 7, 7, 7, 7, 7, 7, 7, 7, 8, 8, 8, 8, 8, 8, 8, 8, 8, 8, 8, 8, 8, 8, 8, 8, 8, 8, 8, 8, 8, 8, 8, 8, 8, 8, 8, 8, 8, 8, 8, 8, 8, 8, 8, 8, 8, 8, 8, 8, 8, 8, 8, 8, 8, 8, 8, 8, 8, 8, 8, 8, 8, 8, 8, 8, 8, 8, 8, 8, 8, 8, 8, 8, 8, 8, 8, 8, 8, 8, 8, 8, 8, 8, 8, 8, 8, 8, 8, 8, 8, 8, 8, 8, 8, 8, 8, 8, 8, 8, 8, 8, 8, 8, 8, 8, 8, 8, 8, 8, 8, 8, 8, 8, 8, 8, 8, 8, 8, 8, 8, 8, 8, 8, 8, 8, 8, 8, 8, 8, 8, 8, 8, 8, 8, 8, 8, 8] }) v13) fun v14 =>
 vb (xConvI .i64 v14) fun v15 =>
 vb (xAri Int.add v11 v15) fun v16 =>
 some (v16, h)
noncomputable def F120_1 (n : Nat) (cl : CL) (v3 : Value) (v5 : Value) (k8 : Kt) (h : PH) : R :=
 vb (xShr v3 (Value.int .u64 (.ofNat 8))) fun v18 =>
 vb (xAri Int.add v5 (vN 8)) fun v19 =>
 k8 [v18, v19] h
noncomputable def F120_2 (n : Nat) (cl : CL) (v3 : Value) (v5 : Value) (h : PH) (k8 : Kt) : R :=
 vb (xCmp (fun x y => ile y x) v3 (Value.int .u32 (.ofNat 256))) fun v17 =>
 bite v17 (F120_1 n cl v3 v5 k8 h) (k8 [v3, v5] h)
noncomputable def F120_3 (n : Nat) (cl : CL) (v3 : Value) (v5 : Value) (h : PH) : R :=
 jn (fun y7 h => ucons y7 fun v9 y10 => ucons y10 fun v11 y12 => F120_0 n cl v9 v11 h) (F120_2 n cl v3 v5 h)
noncomputable def F120_4 (n : Nat) (cl : CL) (a0 : Value) (k2 : Kt) (h : PH) : R :=
 vb (xShr a0 (Value.int .u64 (.ofNat 16))) fun v21 =>
 k2 [v21, (vN 16)] h
noncomputable def F120_5 (n : Nat) (cl : CL) (a0 : Value) (h : PH) (k2 : Kt) : R :=
 vb (xCmp (fun x y => ile y x) a0 (Value.int .u32 (.ofNat 65536))) fun v20 =>
 bite v20 (F120_4 n cl a0 k2 h) (k2 [a0, (vN 0)] h)
noncomputable def F120 (n : Nat) (cl : CL) (a0 : Value) (h : PH) : R :=
 jn (fun y1 h => ucons y1 fun v3 y4 => ucons y4 fun v5 y6 => F120_3 n cl v3 v5 h) (F120_5 n cl a0 h)
theorem E120 (n : Nat) (cl : CL) (a0 : Value) (h : PH) : exF Try.prog n cl ⟨[], [], [(4, [0, 2]), (7, [0, 2])], [], [], [], [], []⟩ Try.f120 [a0] h = F120 n cl a0 h := by kernel_rfl
theorem S120 {n : Nat} {cl : CL} (hcl : OkCL Try.prog cl) {a0 : Value} {h h' : PH} {v : Value} (hx : F120 n cl a0 h = some (v, h')) : (enterable Try.prog 120 = true ∧ ACall Try.prog 120 [a0] h.abs (fun u k => u = v ∧ k = h'.abs)) ∧ Inv h h' :=
  exF_ok hcl hmx Try.func120 (by kernel_rfl) ((E120 n cl a0 h).trans hx)
-- math/bits.Len64
noncomputable def F121_0 (n : Nat) (cl : CL) (v15 : Value) (v17 : Value) (h : PH) : R :=
 vb (xConvI .u8 v15) fun v19 =>
 vb (aindex Try.prog 9 (Value.string { data := #[0, 1, 2, 2, 3, 3, 3, 3, 4, 4, 4, 4, 4, 4, 4, 4, 5, 5, 5, 5, 5, 5, 5, 5, 5, 5, 5, 5, 5, 5, 5, 5, 6, 6, 6, 6, 6, 6, 6, 6, 6, 6, 6, 6, 6, 6, 6, 6, 6, 6, 6, 6, 6, 6, 6, 6, 6, 6, 6, 6, 6, 6, 6, 6, 7, 7, 7, 7, 7, 7, 7, 7, 7, 7, 7, 7, 7, 7, 7, 7, 7, 7, 7, 7, 7, 7, 7, 7, 7, 7, 7, 7, 7, 7, 7, 7, 7, 7, 7, 7, 7, 7, 7, 7, 7, 7, 7, 7, 7, 7, 7, 7, 7, 7, 7, 7, 7, 7, 7, 7, 7, 7, 7, 7, 7, 7, 7, 7, 8, 8, 8, 8, 8, 8, 8, 8, 8, 8, 8, 8, 8, 8, 8, 8, 8, 8, 8, 8, 8, 8, 8, 8, 8, 8, 8, 8, 8, 8, 8, 8, 8, 8, 8, 8, 8, 8, 8, 8, 8, 8, 8, 8, 8, 8, 8, 8, 8, 8, 8, 8, 8, 8, 8, 8, 8, 8, 8, 8, 8, 8, 8, 8, 8, 8, 8, 8, 8, 8, 8, 8, 8, 8, 8, 8, 8, 8, 8, 8, 8, 8, 8, 8, 8, 8, 8, 8, 8, 8, 8, 8, 8, 8, 8, 8, 8, 8, 8, 8, 8, 8, 8, 8, 8, 8, 8, 8, 8, 8, 8, 8, 8, 8, 8, 8, 8, 8, 8, 8, 8, 8, 8, 8, 8, 8, 8, 8] }) v19) fun v20 =>
 vb (xConvI .i64 v20) fun v21 =>
 vb (xAri Int.add v17 v21) fun v22 =>
 some (v22, h)
noncomputable def F121_1 (n : Nat) (cl : CL) (v9 : Value) (v11 : Value) (k14 : Kt) (h : PH) : R :=
 vb (xShr v9 (Value.int .u64 (.ofNat 8))) fun v24 =>
 vb (xAri Int.add v11 (vN 8)) fun v25 =>
 k14 [v24, v25] h
noncomputable def F121_2 (n : Nat) (cl : CL) (v9 : Value) (v11 : Value) (h : PH) (k14 : Kt) : R :=
 vb (xCmp (fun x y => ile y x) v9 (Value.int .u64 (.ofNat 256))) fun v23 =>
 bite v23 (F121_1 n cl v9 v11 k14 h) (k14 [v9, v11] h)
noncomputable def F121_3 (n : Nat) (cl : CL) (v9 : Value) (v11 : Value) (h : PH) : R :=
 jn (fun y13 h => ucons y13 fun v15 y16 => ucons y16 fun v17 y18 => F121_0 n cl v15 v17 h) (F121_2 n cl v9 v11 h)
noncomputable def F121_4 (n : Nat) (cl : CL) (v3 : Value) (v5 : Value) (k8 : Kt) (h : PH) : R :=
 vb (xShr v3 (Value.int .u64 (.ofNat 16))) fun v27 =>
 vb (xAri Int.add v5 (vN 16)) fun v28 =>
 k8 [v27, v28] h
noncomputable def F121_5 (n : Nat) (cl : CL) (v3 : Value) (v5 : Value) (h : PH) (k8 : Kt) : R :=
 vb (xCmp (fun x y => ile y x) v3 (Value.int .u64 (.ofNat 65536))) fun v26 =>
 bite v26 (F121_4 n cl v3 v5 k8 h) (k8 [v3, v5] h)
noncomputable def F121_6 (n : Nat) (cl : CL) (v3 : Value) (v5 : Value) (h : PH) : R :=
 jn (fun y7 h => ucons y7 fun v9 y10 => ucons y10 fun v11 y12 => F121_3 n cl v9 v11 h) (F121_5 n cl v3 v5 h)
noncomputable def F121_7 (n : Nat) (cl : CL) (a0 : Value) (k2 : Kt) (h : PH) : R :=
 vb (xShr a0 (Value.int .u64 (.ofNat 32))) fun v30 =>
 k2 [v30, (vN 32)] h
noncomputable def F121_8 (n : Nat) (cl : CL) (a0 : Value) (h : PH) (k2 : Kt) : R :=
 vb (xCmp (fun x y => ile y x) a0 (Value.int .u64 (.ofNat 4294967296))) fun v29 =>
 bite v29 (F121_7 n cl a0 k2 h) (k2 [a0, (vN 0)] h)
noncomputable def F121 (n : Nat) (cl : CL) (a0 : Value) (h : PH) : R :=
 jn (fun y1 h => ucons y1 fun v3 y4 => ucons y4 fun v5 y6 => F121_6 n cl v3 v5 h) (F121_8 n cl a0 h)
theorem E121 (n : Nat) (cl : CL) (a0 : Value) (h : PH) : exF Try.prog n cl ⟨[], [], [(4, [0, 2]), (7, [0, 2]), (10, [0, 2])], [], [], [], [], []⟩ Try.f121 [a0] h = F121 n cl a0 h := by kernel_rfl
theorem S121 {n : Nat} {cl : CL} (hcl : OkCL Try.prog cl) {a0 : Value} {h h' : PH} {v : Value} (hx : F121 n cl a0 h = some (v, h')) : (enterable Try.prog 121 = true ∧ ACall Try.prog 121 [a0] h.abs (fun u k => u = v ∧ k = h'.abs)) ∧ Inv h h' :=
  exF_ok hcl hmx Try.func121 (by kernel_rfl) ((E121 n cl a0 h).trans hx)
-- math/bits.Len
noncomputable def F105_0 (n : Nat) (cl : CL) (a0 : Value) (h : PH) : R :=
 vb (xConvI .u32 a0) fun v1 =>
 vb (pcall (F120 n cl v1 (h.fzn))) fun v2 =>
 some (v2, h)
noncomputable def F105_1 (n : Nat) (cl : CL) (a0 : Value) (h : PH) : R :=
 vb (pcall (F121 n cl a0 (h.fzn))) fun v3 =>
 some (v3, h)
noncomputable def F105 (n : Nat) (cl : CL) (a0 : Value) (h : PH) : R :=
 bite ff (F105_0 n cl a0 h) (F105_1 n cl a0 h)
noncomputable def D105 (n : Nat) (cl : CL) : CL := fun f xs h => sw f 120 (ucons xs fun b0 xs => u0 xs (F120 n cl b0 h)) (sw f 121 (ucons xs fun b0 xs => u0 xs (F121 n cl b0 h)) (cl f xs h))
theorem Dk105 {n : Nat} {cl : CL} (hcl : OkCL Try.prog cl) : OkCL Try.prog (D105 n cl) := by
  intro f xs h v h' hx
  rcases sw_ok hx with ⟨rfl, hx⟩ | hx
  · obtain ⟨_, _, rfl, hx⟩ := ucons_ok hx; obtain ⟨rfl, hx⟩ := u0_ok hx; exact S120 (n := n) (cl := cl) hcl hx
  rcases sw_ok hx with ⟨rfl, hx⟩ | hx
  · obtain ⟨_, _, rfl, hx⟩ := ucons_ok hx; obtain ⟨rfl, hx⟩ := u0_ok hx; exact S121 (n := n) (cl := cl) hcl hx
  exact hcl _ _ _ _ _ hx
theorem E105 (n : Nat) (cl : CL) (a0 : Value) (h : PH) : exF Try.prog n (D105 n cl) ⟨[120, 121], [], [], [], [], [], [], []⟩ Try.f105 [a0] h = F105 n cl a0 h := by kernel_rfl
theorem S105 {n : Nat} {cl : CL} (hcl : OkCL Try.prog cl) {a0 : Value} {h h' : PH} {v : Value} (hx : F105 n cl a0 h = some (v, h')) : (enterable Try.prog 105 = true ∧ ACall Try.prog 105 [a0] h.abs (fun u k => u = v ∧ k = h'.abs)) ∧ Inv h h' :=
  exF_ok (Dk105 hcl) hmx Try.func105 (by kernel_rfl) ((E105 n cl a0 h).trans hx)
-- cmp.isNaN[int]
noncomputable def F132 (n : Nat) (cl : CL) (a0 : Value) (h : PH) : R :=
 vb (xCmp ine a0 a0) fun v1 =>
 some (v1, h)
theorem E132 (n : Nat) (cl : CL) (a0 : Value) (h : PH) : exF Try.prog n cl ⟨[], [], [], [], [], [], [], []⟩ Try.f132 [a0] h = F132 n cl a0 h := by kernel_rfl
theorem S132 {n : Nat} {cl : CL} (hcl : OkCL Try.prog cl) {a0 : Value} {h h' : PH} {v : Value} (hx : F132 n cl a0 h = some (v, h')) : (enterable Try.prog 132 = true ∧ ACall Try.prog 132 [a0] h.abs (fun u k => u = v ∧ k = h'.abs)) ∧ Inv h h' :=
  exF_ok hcl hmx Try.func132 (by kernel_rfl) ((E132 n cl a0 h).trans hx)
-- cmp.Less[int]
noncomputable def F117 (n : Nat) (cl : CL) (a0 a1 : Value) (h : PH) : R :=
 vb (pcall (F132 n cl a0 (h.fzn))) fun v1 =>
 vb (gd (isB true v1) (some a1)) fun v2 =>
 vb (gd (isB true v1) (pcall (F132 n cl v2 (h.fzn)))) fun v3 =>
 vb (gd (isB true v1) (xNot v3)) fun v4 =>
 vb (xPick v1 v4 ff) fun v5 =>
 vb (gd (isB false v5) (some a0)) fun v6 =>
 vb (gd (isB false v5) (some a1)) fun v7 =>
 vb (gd (isB false v5) (xCmp ilt v6 v7)) fun v8 =>
 vb (xPick v5 tt v8) fun v9 =>
 some (v9, h)
noncomputable def D117 (n : Nat) (cl : CL) : CL := fun f xs h => sw f 132 (ucons xs fun b0 xs => u0 xs (F132 n cl b0 h)) (cl f xs h)
theorem Dk117 {n : Nat} {cl : CL} (hcl : OkCL Try.prog cl) : OkCL Try.prog (D117 n cl) := by
  intro f xs h v h' hx
  rcases sw_ok hx with ⟨rfl, hx⟩ | hx
  · obtain ⟨_, _, rfl, hx⟩ := ucons_ok hx; obtain ⟨rfl, hx⟩ := u0_ok hx; exact S132 (n := n) (cl := cl) hcl hx
  exact hcl _ _ _ _ _ hx
theorem E117 (n : Nat) (cl : CL) (a0 a1 : Value) (h : PH) : exF Try.prog n (D117 n cl) ⟨[132], [], [], [], [], [], [], []⟩ Try.f117 [a0, a1] h = F117 n cl a0 a1 h := by kernel_rfl
theorem S117 {n : Nat} {cl : CL} (hcl : OkCL Try.prog cl) {a0 a1 : Value} {h h' : PH} {v : Value} (hx : F117 n cl a0 a1 h = some (v, h')) : (enterable Try.prog 117 = true ∧ ACall Try.prog 117 [a0, a1] h.abs (fun u k => u = v ∧ k = h'.abs)) ∧ Inv h h' :=
  exF_ok (Dk117 hcl) hmx Try.func117 (by kernel_rfl) ((E117 n cl a0 a1 h).trans hx)
-- slices.insertionSortOrdered[int]
noncomputable def F111_0 (n : Nat) (cl : CL) (v23 : Value) (v15 : Value) (r14 : Kt) (v17 : Value) (v19 : Value) (v21 : Value) (h : PH) : R :=
 vb (xAri Int.sub v23 (vN 1)) fun v37 =>
 vb (xAri Int.sub v23 (vN 1)) fun v38 =>
 vb (xIdxS 1 v15 v38) fun v39 =>
 vb (xIdxS 1 v15 v23) fun v40 =>
 vb (xLd v39 h) fun v41 =>
 vb (xLd v40 h) fun v42 =>
 vb (xIdxS 1 v15 v23) fun v43 =>
 hb (xSt1 v43 v41 h) fun _ h =>
 vb (xIdxS 1 v15 v37) fun v44 =>
 hb (xSt1 v44 v42 h) fun _ h =>
 vb (xAri Int.sub v23 (vN 1)) fun v45 =>
 r14 [v15, v17, v19, v21, v45] h
noncomputable def F111_1 (n : Nat) (cl : CL) (v21 : Value) (r3 : Kt) (v15 : Value) (v17 : Value) (v19 : Value) (h : PH) : R :=
 vb (xAri Int.add v21 (vN 1)) fun v46 =>
 r3 [v15, v17, v19, v46] h
noncomputable def F111_2 (n : Nat) (cl : CL) (v23 : Value) (v17 : Value) (v15 : Value) (r14 : Kt) (v19 : Value) (v21 : Value) (r3 : Kt) (h : PH) : R :=
 vb (xCmp (fun x y => ilt y x) v23 v17) fun v25 =>
 vb (gd (isB true v25) (some v15)) fun v26 =>
 vb (gd (isB true v25) (some v23)) fun v27 =>
 vb (gd (isB true v25) (xIdxS 1 v26 v27)) fun v28 =>
 vb (gd (isB true v25) (some v15)) fun v29 =>
 vb (gd (isB true v25) (some v23)) fun v30 =>
 vb (gd (isB true v25) (xAri Int.sub v30 (vN 1))) fun v31 =>
 vb (gd (isB true v25) (xIdxS 1 v29 v31)) fun v32 =>
 vb (gd (isB true v25) (xLd v28 h)) fun v33 =>
 vb (gd (isB true v25) (xLd v32 h)) fun v34 =>
 vb (gd (isB true v25) (pcall (F117 n cl v33 v34 (h.fzn)))) fun v35 =>
 vb (xPick v25 v35 ff) fun v36 =>
 bite v36 (F111_0 n cl v23 v15 r14 v17 v19 v21 h) (F111_1 n cl v21 r3 v15 v17 v19 h)
noncomputable def F111_3 (n : Nat) (cl : CL) (r3 : Kt) (r14 : Kt) (y13 : List Value) (h : PH) : R :=
 ucons y13 fun v15 y16 => ucons y16 fun v17 y18 => ucons y18 fun v19 y20 => ucons y20 fun v21 y22 => ucons y22 fun v23 y24 => F111_2 n cl v23 v17 v15 r14 v19 v21 r3 h
noncomputable def F111_4 (n : Nat) (cl : CL) (v10 : Value) (v8 : Value) (r3 : Kt) (v4 : Value) (v6 : Value) (h : PH) : R :=
 vb (xCmp ilt v10 v8) fun v12 =>
 bite v12 (lp n (F111_3 n cl r3) [v4, v6, v8, v10, v10] h) (some (Value.tuple ⟨[]⟩, h))
noncomputable def F111_5 (n : Nat) (cl : CL) (r3 : Kt) (y2 : List Value) (h : PH) : R :=
 ucons y2 fun v4 y5 => ucons y5 fun v6 y7 => ucons y7 fun v8 y9 => ucons y9 fun v10 y11 => F111_4 n cl v10 v8 r3 v4 v6 h
noncomputable def F111 (n : Nat) (cl : CL) (a0 a1 a2 : Value) (h : PH) : R :=
 vb (xAri Int.add a1 (vN 1)) fun v1 =>
 lp n (F111_5 n cl) [a0, a1, a2, v1] h
noncomputable def D111 (n : Nat) (cl : CL) : CL := fun f xs h => sw f 117 (ucons xs fun b0 xs => ucons xs fun b1 xs => u0 xs (F117 n cl b0 b1 h)) (cl f xs h)
theorem Dk111 {n : Nat} {cl : CL} (hcl : OkCL Try.prog cl) : OkCL Try.prog (D111 n cl) := by
  intro f xs h v h' hx
  rcases sw_ok hx with ⟨rfl, hx⟩ | hx
  · obtain ⟨_, _, rfl, hx⟩ := ucons_ok hx; obtain ⟨_, _, rfl, hx⟩ := ucons_ok hx; obtain ⟨rfl, hx⟩ := u0_ok hx; exact S117 (n := n) (cl := cl) hcl hx
  exact hcl _ _ _ _ _ hx
theorem E111 (n : Nat) (cl : CL) (a0 a1 a2 : Value) (h : PH) : exF Try.prog n (D111 n cl) ⟨[117], [], [(1, [0, 1, 2, 6]), (4, [0, 1, 2, 6, 7])], [(4, [0, 1, 2, 3, 4, 5, 6, 8, 9, 10, 11, 7, 12, 13, 14]), (6, [0, 1, 2, 3, 4, 5, 6, 7, 8, 10, 11, 12, 9, 13, 14, 15, 16, 17])], [], [], [], []⟩ Try.f111 [a0, a1, a2] h = F111 n cl a0 a1 a2 h := by kernel_rfl
theorem S111 {n : Nat} {cl : CL} (hcl : OkCL Try.prog cl) {a0 a1 a2 : Value} {h h' : PH} {v : Value} (hx : F111 n cl a0 a1 a2 h = some (v, h')) : (enterable Try.prog 111 = true ∧ ACall Try.prog 111 [a0, a1, a2] h.abs (fun u k => u = v ∧ k = h'.abs)) ∧ Inv h h' :=
  exF_ok (Dk111 hcl) hmx Try.func111 (by kernel_rfl) ((E111 n cl a0 a1 a2 h).trans hx)
-- slices.siftDownOrdered[int]
noncomputable def F127_0 (n : Nat) (cl : CL) (v20 : Value) (v22 : Value) (v24 : Value) (v16 : Value) (r2 : Kt) (v18 : Value) (h : PH) : R :=
 vb (xAri Int.add v20 v22) fun v34 =>
 vb (xAri Int.add v20 v24) fun v35 =>
 vb (xAri Int.add v20 v24) fun v36 =>
 vb (xIdxS 1 v16 v36) fun v37 =>
 vb (xAri Int.add v20 v22) fun v38 =>
 vb (xIdxS 1 v16 v38) fun v39 =>
 vb (xLd v37 h) fun v40 =>
 vb (xLd v39 h) fun v41 =>
 vb (xIdxS 1 v16 v34) fun v42 =>
 hb (xSt1 v42 v40 h) fun _ h =>
 vb (xIdxS 1 v16 v35) fun v43 =>
 hb (xSt1 v43 v41 h) fun _ h =>
 r2 [v16, v18, v20, v24] h
noncomputable def F127_1 (n : Nat) (cl : CL) (v20 : Value) (v22 : Value) (v16 : Value) (v24 : Value) (r2 : Kt) (v18 : Value) (h : PH) : R :=
 vb (xAri Int.add v20 v22) fun v26 =>
 vb (xIdxS 1 v16 v26) fun v27 =>
 vb (xAri Int.add v20 v24) fun v28 =>
 vb (xIdxS 1 v16 v28) fun v29 =>
 vb (xLd v27 h) fun v30 =>
 vb (xLd v29 h) fun v31 =>
 vb (pcall (F117 n cl v30 v31 (h.fzn))) fun v32 =>
 vb (xNot v32) fun v33 =>
 bite v33 (some (Value.tuple ⟨[]⟩, h)) (F127_0 n cl v20 v22 v24 v16 r2 v18 h)
noncomputable def F127_2 (n : Nat) (cl : CL) (v12 : Value) (k15 : Kt) (v3 : Value) (v5 : Value) (v7 : Value) (v9 : Value) (h : PH) : R :=
 vb (xAri Int.add v12 (vN 1)) fun v61 =>
 k15 [v3, v5, v7, v9, v61] h
noncomputable def F127_3 (n : Nat) (cl : CL) (r2 : Kt) (y14 : List Value) (h : PH) : R :=
 ucons y14 fun v16 y17 => ucons y17 fun v18 y19 => ucons y19 fun v20 y21 => ucons y21 fun v22 y23 => ucons y23 fun v24 y25 => F127_1 n cl v20 v22 v16 v24 r2 v18 h
noncomputable def F127_4 (n : Nat) (cl : CL) (v12 : Value) (v5 : Value) (v3 : Value) (v7 : Value) (v9 : Value) (h : PH) (k15 : Kt) : R :=
 vb (xAri Int.add v12 (vN 1)) fun v44 =>
 vb (xCmp ilt v44 v5) fun v45 =>
 vb (gd (isB true v45) (some v3)) fun v46 =>
 vb (gd (isB true v45) (some v7)) fun v47 =>
 vb (gd (isB true v45) (some v12)) fun v48 =>
 vb (gd (isB true v45) (xAri Int.add v47 v48)) fun v49 =>
 vb (gd (isB true v45) (xIdxS 1 v46 v49)) fun v50 =>
 vb (gd (isB true v45) (some v3)) fun v51 =>
 vb (gd (isB true v45) (some v7)) fun v52 =>
 vb (gd (isB true v45) (some v12)) fun v53 =>
 vb (gd (isB true v45) (xAri Int.add v52 v53)) fun v54 =>
 vb (gd (isB true v45) (xAri Int.add v54 (vN 1))) fun v55 =>
 vb (gd (isB true v45) (xIdxS 1 v51 v55)) fun v56 =>
 vb (gd (isB true v45) (xLd v50 h)) fun v57 =>
 vb (gd (isB true v45) (xLd v56 h)) fun v58 =>
 vb (gd (isB true v45) (pcall (F117 n cl v57 v58 (h.fzn)))) fun v59 =>
 vb (xPick v45 v59 ff) fun v60 =>
 bite v60 (F127_2 n cl v12 k15 v3 v5 v7 v9 h) (k15 [v3, v5, v7, v9, v12] h)
noncomputable def F127_5 (n : Nat) (cl : CL) (v9 : Value) (v5 : Value) (r2 : Kt) (v3 : Value) (v7 : Value) (h : PH) : R :=
 vb (xAri Int.mul (vN 2) v9) fun v11 =>
 vb (xAri Int.add v11 (vN 1)) fun v12 =>
 vb (xCmp (fun x y => ile y x) v12 v5) fun v13 =>
 bite v13 (some (Value.tuple ⟨[]⟩, h)) (jn (F127_3 n cl r2) (F127_4 n cl v12 v5 v3 v7 v9 h))
noncomputable def F127_6 (n : Nat) (cl : CL) (r2 : Kt) (y1 : List Value) (h : PH) : R :=
 ucons y1 fun v3 y4 => ucons y4 fun v5 y6 => ucons y6 fun v7 y8 => ucons y8 fun v9 y10 => F127_5 n cl v9 v5 r2 v3 v7 h
noncomputable def F127 (n : Nat) (cl : CL) (a0 a1 a2 a3 : Value) (h : PH) : R :=
 lp n (F127_6 n cl) [a0, a2, a3, a1] h
noncomputable def D127 (n : Nat) (cl : CL) : CL := fun f xs h => sw f 117 (ucons xs fun b0 xs => ucons xs fun b1 xs => u0 xs (F117 n cl b0 b1 h)) (cl f xs h)
theorem Dk127 {n : Nat} {cl : CL} (hcl : OkCL Try.prog cl) : OkCL Try.prog (D127 n cl) := by
  intro f xs h v h' hx
  rcases sw_ok hx with ⟨rfl, hx⟩ | hx
  · obtain ⟨_, _, rfl, hx⟩ := ucons_ok hx; obtain ⟨_, _, rfl, hx⟩ := ucons_ok hx; obtain ⟨rfl, hx⟩ := u0_ok hx; exact S117 (n := n) (cl := cl) hcl hx
  exact hcl _ _ _ _ _ hx
theorem E127 (n : Nat) (cl : CL) (a0 a1 a2 a3 : Value) (h : PH) : exF Try.prog n (D127 n cl) ⟨[117], [], [(1, [0, 2, 3, 8]), (5, [0, 2, 3, 8, 9])], [(3, [0, 1, 2, 3, 4, 5, 6, 7, 8, 9, 11, 12, 13, 14, 15, 16, 10, 17, 18, 19]), (5, [0, 1, 2, 3, 4, 6, 7, 8, 9, 10, 5, 11, 12, 13]), (6, [0, 1, 2, 3, 4, 5, 6, 7, 8, 9, 10, 11, 12, 14, 15, 16, 17, 18, 13, 19, 20, 21, 22, 23])], [], [], [], []⟩ Try.f127 [a0, a1, a2, a3] h = F127 n cl a0 a1 a2 a3 h := by kernel_rfl
theorem S127 {n : Nat} {cl : CL} (hcl : OkCL Try.prog cl) {a0 a1 a2 a3 : Value} {h h' : PH} {v : Value} (hx : F127 n cl a0 a1 a2 a3 h = some (v, h')) : (enterable Try.prog 127 = true ∧ ACall Try.prog 127 [a0, a1, a2, a3] h.abs (fun u k => u = v ∧ k = h'.abs)) ∧ Inv h h' :=
  exF_ok (Dk127 hcl) hmx Try.func127 (by kernel_rfl) ((E127 n cl a0 a1 a2 a3 h).trans hx)
-- slices.heapSortOrdered[int]
noncomputable def F112_0 (n : Nat) (cl : CL) (v6 : Value) (v14 : Value) (v12 : Value) (v8 : Value) (r5 : Kt) (v10 : Value) (h : PH) : R :=
 hb (F127 n cl v6 v14 v12 v8 h) fun v17 h =>
 vb (xAri Int.sub v14 (vN 1)) fun v18 =>
 r5 [v6, v8, v10, v12, v18] h
noncomputable def F112_1 (n : Nat) (cl : CL) (v24 : Value) (v28 : Value) (v22 : Value) (v26 : Value) (r21 : Kt) (h : PH) : R :=
 vb (xAri Int.add v24 v28) fun v31 =>
 vb (xAri Int.add v24 v28) fun v32 =>
 vb (xIdxS 1 v22 v32) fun v33 =>
 vb (xIdxS 1 v22 v24) fun v34 =>
 vb (xLd v33 h) fun v35 =>
 vb (xLd v34 h) fun v36 =>
 vb (xIdxS 1 v22 v24) fun v37 =>
 hb (xSt1 v37 v35 h) fun _ h =>
 vb (xIdxS 1 v22 v31) fun v38 =>
 hb (xSt1 v38 v36 h) fun _ h =>
 hb (F127 n cl v22 v26 v28 v24 h) fun v39 h =>
 vb (xAri Int.sub v28 (vN 1)) fun v40 =>
 r21 [v22, v24, v26, v40] h
noncomputable def F112_2 (n : Nat) (cl : CL) (v28 : Value) (v24 : Value) (v22 : Value) (v26 : Value) (r21 : Kt) (h : PH) : R :=
 vb (xCmp (fun x y => ile y x) v28 (vN 0)) fun v30 =>
 bite v30 (F112_1 n cl v24 v28 v22 v26 r21 h) (some (Value.tuple ⟨[]⟩, h))
noncomputable def F112_3 (n : Nat) (cl : CL) (r21 : Kt) (y20 : List Value) (h : PH) : R :=
 ucons y20 fun v22 y23 => ucons y23 fun v24 y25 => ucons y25 fun v26 y27 => ucons y27 fun v28 y29 => F112_2 n cl v28 v24 v22 v26 r21 h
noncomputable def F112_4 (n : Nat) (cl : CL) (v12 : Value) (v6 : Value) (v8 : Value) (v10 : Value) (h : PH) : R :=
 vb (xAri Int.sub v12 (vN 1)) fun v19 =>
 lp n (F112_3 n cl) [v6, v8, v10, v19] h
noncomputable def F112_5 (n : Nat) (cl : CL) (v14 : Value) (v6 : Value) (v12 : Value) (v8 : Value) (r5 : Kt) (v10 : Value) (h : PH) : R :=
 vb (xCmp (fun x y => ile y x) v14 (vN 0)) fun v16 =>
 bite v16 (F112_0 n cl v6 v14 v12 v8 r5 v10 h) (F112_4 n cl v12 v6 v8 v10 h)
noncomputable def F112_6 (n : Nat) (cl : CL) (r5 : Kt) (y4 : List Value) (h : PH) : R :=
 ucons y4 fun v6 y7 => ucons y7 fun v8 y9 => ucons y9 fun v10 y11 => ucons y11 fun v12 y13 => ucons y13 fun v14 y15 => F112_5 n cl v14 v6 v12 v8 r5 v10 h
noncomputable def F112 (n : Nat) (cl : CL) (a0 a1 a2 : Value) (h : PH) : R :=
 vb (xAri Int.sub a2 a1) fun v1 =>
 vb (xAri Int.sub v1 (vN 1)) fun v2 =>
 vb (xQuo v2 (vN 2)) fun v3 =>
 lp n (F112_6 n cl) [a0, a1, (vN 0), v1, v3] h
noncomputable def D112 (n : Nat) (cl : CL) : CL := fun f xs h => sw f 127 (ucons xs fun b0 xs => ucons xs fun b1 xs => ucons xs fun b2 xs => ucons xs fun b3 xs => u0 xs (F127 n cl b0 b1 b2 b3 h)) (cl f xs h)
theorem Dk112 {n : Nat} {cl : CL} (hcl : OkCL Try.prog cl) : OkCL Try.prog (D112 n cl) := by
  intro f xs h v h' hx
  rcases sw_ok hx with ⟨rfl, hx⟩ | hx
  · obtain ⟨_, _, rfl, hx⟩ := ucons_ok hx; obtain ⟨_, _, rfl, hx⟩ := ucons_ok hx; obtain ⟨_, _, rfl, hx⟩ := ucons_ok hx; obtain ⟨_, _, rfl, hx⟩ := ucons_ok hx; obtain ⟨rfl, hx⟩ := u0_ok hx; exact S127 (n := n) (cl := cl) hcl hx
  exact hcl _ _ _ _ _ hx
theorem E112 (n : Nat) (cl : CL) (a0 a1 a2 : Value) (h : PH) : exF Try.prog n (D112 n cl) ⟨[], [], [(4, [0, 6, 7, 8, 9]), (8, [0, 6, 7, 10])], [(10, [0, 1, 2, 3, 4, 5, 6, 7, 8, 9, 10, 12, 13, 14, 11, 15, 16, 17, 18, 19])], [], [], [], []⟩ Try.f112 [a0, a1, a2] h = F112 n cl a0 a1 a2 h := by kernel_rfl
theorem S112 {n : Nat} {cl : CL} (hcl : OkCL Try.prog cl) {a0 a1 a2 : Value} {h h' : PH} {v : Value} (hx : F112 n cl a0 a1 a2 h = some (v, h')) : (enterable Try.prog 112 = true ∧ ACall Try.prog 112 [a0, a1, a2] h.abs (fun u k => u = v ∧ k = h'.abs)) ∧ Inv h h' :=
  exF_ok (Dk112 hcl) hmx Try.func112 (by kernel_rfl) ((E112 n cl a0 a1 a2 h).trans hx)
-- slices.nextPowerOfTwo
noncomputable def F128 (n : Nat) (cl : CL) (a0 : Value) (h : PH) : R :=
 vb (xConvI .u64 a0) fun v1 =>
 vb (pcall (F105 n cl v1 (h.fzn))) fun v2 =>
 vb (xShl (Value.int .u64 (.ofNat 1)) v2) fun v3 =>
 some (v3, h)
noncomputable def D128 (n : Nat) (cl : CL) : CL := fun f xs h => sw f 105 (ucons xs fun b0 xs => u0 xs (F105 n cl b0 h)) (cl f xs h)
theorem Dk128 {n : Nat} {cl : CL} (hcl : OkCL Try.prog cl) : OkCL Try.prog (D128 n cl) := by
  intro f xs h v h' hx
  rcases sw_ok hx with ⟨rfl, hx⟩ | hx
  · obtain ⟨_, _, rfl, hx⟩ := ucons_ok hx; obtain ⟨rfl, hx⟩ := u0_ok hx; exact S105 (n := n) (cl := cl) hcl hx
  exact hcl _ _ _ _ _ hx
theorem E128 (n : Nat) (cl : CL) (a0 : Value) (h : PH) : exF Try.prog n (D128 n cl) ⟨[105], [], [], [], [], [], [], []⟩ Try.f128 [a0] h = F128 n cl a0 h := by kernel_rfl
theorem S128 {n : Nat} {cl : CL} (hcl : OkCL Try.prog cl) {a0 : Value} {h h' : PH} {v : Value} (hx : F128 n cl a0 h = some (v, h')) : (enterable Try.prog 128 = true ∧ ACall Try.prog 128 [a0] h.abs (fun u k => u = v ∧ k = h'.abs)) ∧ Inv h h' :=
  exF_ok (Dk128 hcl) hmx Try.func128 (by kernel_rfl) ((E128 n cl a0 h).trans hx)
-- (*slices.xorshift).Next
noncomputable def F129 (n : Nat) (cl : CL) (a0 : Value) (h : PH) : R :=
 vb (xNil a0) fun v1 =>
 vb (xNil a0) fun v2 =>
 vb (xLd v1 h) fun v3 =>
 vb (xLd v2 h) fun v4 =>
 vb (xShl v4 (Value.int .u64 (.ofNat 13))) fun v5 =>
 vb (xBit Nat.xor v3 v5) fun v6 =>
 vb (xNil a0) fun v7 =>
 hb (xSt1 v7 v6 h) fun _ h =>
 vb (xNil a0) fun v8 =>
 vb (xNil a0) fun v9 =>
 vb (xLd v8 h) fun v10 =>
 vb (xLd v9 h) fun v11 =>
 vb (xShr v11 (Value.int .u64 (.ofNat 7))) fun v12 =>
 vb (xBit Nat.xor v10 v12) fun v13 =>
 vb (xNil a0) fun v14 =>
 hb (xSt1 v14 v13 h) fun _ h =>
 vb (xNil a0) fun v15 =>
 vb (xNil a0) fun v16 =>
 vb (xLd v15 h) fun v17 =>
 vb (xLd v16 h) fun v18 =>
 vb (xShl v18 (Value.int .u64 (.ofNat 17))) fun v19 =>
 vb (xBit Nat.xor v17 v19) fun v20 =>
 vb (xNil a0) fun v21 =>
 hb (xSt1 v21 v20 h) fun _ h =>
 vb (xNil a0) fun v22 =>
 vb (xLd v22 h) fun v23 =>
 some (v23, h)
theorem E129 (n : Nat) (cl : CL) (a0 : Value) (h : PH) : exF Try.prog n cl ⟨[], [], [], [(1, [0, 1, 3, 4, 2, 5, 6, 7, 8, 9]), (2, [0, 1, 3, 4, 2, 5, 6, 7, 8, 9]), (3, [0, 1, 3, 4, 2, 5, 6, 7, 8, 9])], [], [], [], []⟩ Try.f129 [a0] h = F129 n cl a0 h := by kernel_rfl
theorem S129 {n : Nat} {cl : CL} (hcl : OkCL Try.prog cl) {a0 : Value} {h h' : PH} {v : Value} (hx : F129 n cl a0 h = some (v, h')) : (enterable Try.prog 129 = true ∧ ACall Try.prog 129 [a0] h.abs (fun u k => u = v ∧ k = h'.abs)) ∧ Inv h h' :=
  exF_ok hcl hmx Try.func129 (by kernel_rfl) ((E129 n cl a0 h).trans hx)
-- slices.breakPatternsOrdered[int]
noncomputable def F113_0 (n : Nat) (cl : CL) (v37 : Value) (v47 : Value) (v35 : Value) (v45 : Value) (r11 : Kt) (v39 : Value) (v41 : Value) (v43 : Value) (h : PH) : R :=
 vb (xAri Int.add v37 v47) fun v49 =>
 vb (xAri Int.add v37 v47) fun v50 =>
 vb (xIdxS 1 v35 v50) fun v51 =>
 vb (xIdxS 1 v35 v45) fun v52 =>
 vb (xLd v51 h) fun v53 =>
 vb (xLd v52 h) fun v54 =>
 vb (xIdxS 1 v35 v45) fun v55 =>
 hb (xSt1 v55 v53 h) fun _ h =>
 vb (xIdxS 1 v35 v49) fun v56 =>
 hb (xSt1 v56 v54 h) fun _ h =>
 vb (xAri Int.add v45 (vN 1)) fun v57 =>
 r11 [v35, v37, v39, v41, v43, v57] h
noncomputable def F113_1 (n : Nat) (cl : CL) (v32 : Value) (v16 : Value) (k34 : Kt) (v12 : Value) (v14 : Value) (v18 : Value) (v20 : Value) (v22 : Value) (h : PH) : R :=
 vb (xAri Int.sub v32 v16) fun v59 =>
 k34 [v12, v14, v16, v18, v20, v22, v59] h
noncomputable def F113_2 (n : Nat) (cl : CL) (r11 : Kt) (y33 : List Value) (h : PH) : R :=
 ucons y33 fun v35 y36 => ucons y36 fun v37 y38 => ucons y38 fun v39 y40 => ucons y40 fun v41 y42 => ucons y42 fun v43 y44 => ucons y44 fun v45 y46 => ucons y46 fun v47 y48 => F113_0 n cl v37 v47 v35 v45 r11 v39 v41 v43 h
noncomputable def F113_3 (n : Nat) (cl : CL) (v32 : Value) (v16 : Value) (v12 : Value) (v14 : Value) (v18 : Value) (v20 : Value) (v22 : Value) (h : PH) (k34 : Kt) : R :=
 vb (xCmp (fun x y => ile y x) v32 v16) fun v58 =>
 bite v58 (F113_1 n cl v32 v16 k34 v12 v14 v18 v20 v22 h) (k34 [v12, v14, v16, v18, v20, v22, v32] h)
noncomputable def F113_4 (n : Nat) (cl : CL) (v18 : Value) (v20 : Value) (r11 : Kt) (v16 : Value) (v12 : Value) (v14 : Value) (v22 : Value) (h : PH) : R :=
 hb (F129 n cl v18 h) fun v29 h =>
 vb (xAri Int.sub v20 (Value.int .u64 (.ofNat 1))) fun v30 =>
 vb (xBit Nat.land v29 v30) fun v31 =>
 vb (xConvI .i64 v31) fun v32 =>
 jn (F113_2 n cl r11) (F113_3 n cl v32 v16 v12 v14 v18 v20 v22 h)
noncomputable def F113_5 (n : Nat) (cl : CL) (v16 : Value) (v14 : Value) (v22 : Value) (v18 : Value) (v20 : Value) (r11 : Kt) (v12 : Value) (h : PH) : R :=
 vb (xQuo v16 (vN 4)) fun v24 =>
 vb (xAri Int.mul v24 (vN 2)) fun v25 =>
 vb (xAri Int.add v14 v25) fun v26 =>
 vb (xAri Int.add v26 (vN 1)) fun v27 =>
 vb (xCmp ile v22 v27) fun v28 =>
 bite v28 (F113_4 n cl v18 v20 r11 v16 v12 v14 v22 h) (some (Value.tuple ⟨[]⟩, h))
noncomputable def F113_6 (n : Nat) (cl : CL) (r11 : Kt) (y10 : List Value) (h : PH) : R :=
 ucons y10 fun v12 y13 => ucons y13 fun v14 y15 => ucons y15 fun v16 y17 => ucons y17 fun v18 y19 => ucons y19 fun v20 y21 => ucons y21 fun v22 y23 => F113_5 n cl v16 v14 v22 v18 v20 r11 v12 h
noncomputable def F113_7 (n : Nat) (cl : CL) (v1 : Value) (a1 : Value) (a0 : Value) (h : PH) : R :=
 vb (xConvI .u64 v1) fun v3 =>
 hb (xAlloc (zcells Try.prog 178) h) fun v4 h =>
 hb (xSt1 v4 v3 h) fun _ h =>
 vb (pcall (F128 n cl v1 (h.fzn))) fun v5 =>
 vb (xQuo v1 (vN 4)) fun v6 =>
 vb (xAri Int.mul v6 (vN 2)) fun v7 =>
 vb (xAri Int.add a1 v7) fun v8 =>
 vb (xAri Int.sub v8 (vN 1)) fun v9 =>
 lp n (F113_6 n cl) [a0, a1, v1, v4, v5, v9] h
noncomputable def F113 (n : Nat) (cl : CL) (a0 a1 a2 : Value) (h : PH) : R :=
 vb (xAri Int.sub a2 a1) fun v1 =>
 vb (xCmp (fun x y => ile y x) v1 (vN 8)) fun v2 =>
 bite v2 (F113_7 n cl v1 a1 a0 h) (some (Value.tuple ⟨[]⟩, h))
noncomputable def D113 (n : Nat) (cl : CL) : CL := fun f xs h => sw f 128 (ucons xs fun b0 xs => u0 xs (F128 n cl b0 h)) (sw f 129 (ucons xs fun b0 xs => u0 xs (F129 n cl b0 h)) (cl f xs h))
theorem Dk113 {n : Nat} {cl : CL} (hcl : OkCL Try.prog cl) : OkCL Try.prog (D113 n cl) := by
  intro f xs h v h' hx
  rcases sw_ok hx with ⟨rfl, hx⟩ | hx
  · obtain ⟨_, _, rfl, hx⟩ := ucons_ok hx; obtain ⟨rfl, hx⟩ := u0_ok hx; exact S128 (n := n) (cl := cl) hcl hx
  rcases sw_ok hx with ⟨rfl, hx⟩ | hx
  · obtain ⟨_, _, rfl, hx⟩ := ucons_ok hx; obtain ⟨rfl, hx⟩ := u0_ok hx; exact S129 (n := n) (cl := cl) hcl hx
  exact hcl _ _ _ _ _ hx
theorem E113 (n : Nat) (cl : CL) (a0 a1 a2 : Value) (h : PH) : exF Try.prog n (D113 n cl) ⟨[128], [], [(5, [0, 1, 6, 7, 8, 9]), (10, [0, 1, 6, 7, 8, 9, 10])], [(10, [0, 1, 2, 3, 4, 5, 6, 7, 8, 9, 10, 12, 13, 14, 11, 15, 16, 17, 18, 19])], [], [], [], []⟩ Try.f113 [a0, a1, a2] h = F113 n cl a0 a1 a2 h := by kernel_rfl
theorem S113 {n : Nat} {cl : CL} (hcl : OkCL Try.prog cl) {a0 a1 a2 : Value} {h h' : PH} {v : Value} (hx : F113 n cl a0 a1 a2 h = some (v, h')) : (enterable Try.prog 113 = true ∧ ACall Try.prog 113 [a0, a1, a2] h.abs (fun u k => u = v ∧ k = h'.abs)) ∧ Inv h h' :=
  exF_ok (Dk113 hcl) hmx Try.func113 (by kernel_rfl) ((E113 n cl a0 a1 a2 h).trans hx)
-- slices.order2Ordered[int]
noncomputable def F135_0 (n : Nat) (cl : CL) (a3 : Value) (a2 : Value) (a1 : Value) (h : PH) : R :=
 vb (xNil a3) fun v6 =>
 vb (xLd v6 h) fun v7 =>
 vb (xAri Int.add v7 (vN 1)) fun v8 =>
 vb (xNil a3) fun v9 =>
 hb (xSt1 v9 v8 h) fun _ h =>
 some (Value.tuple ⟨[a2, a1]⟩, h)
noncomputable def F135 (n : Nat) (cl : CL) (a0 a1 a2 a3 : Value) (h : PH) : R :=
 vb (xIdxS 1 a0 a2) fun v1 =>
 vb (xIdxS 1 a0 a1) fun v2 =>
 vb (xLd v1 h) fun v3 =>
 vb (xLd v2 h) fun v4 =>
 vb (pcall (F117 n cl v3 v4 (h.fzn))) fun v5 =>
 bite v5 (F135_0 n cl a3 a2 a1 h) (some (Value.tuple ⟨[a1, a2]⟩, h))
noncomputable def D135 (n : Nat) (cl : CL) : CL := fun f xs h => sw f 117 (ucons xs fun b0 xs => ucons xs fun b1 xs => u0 xs (F117 n cl b0 b1 h)) (cl f xs h)
theorem Dk135 {n : Nat} {cl : CL} (hcl : OkCL Try.prog cl) : OkCL Try.prog (D135 n cl) := by
  intro f xs h v h' hx
  rcases sw_ok hx with ⟨rfl, hx⟩ | hx
  · obtain ⟨_, _, rfl, hx⟩ := ucons_ok hx; obtain ⟨_, _, rfl, hx⟩ := ucons_ok hx; obtain ⟨rfl, hx⟩ := u0_ok hx; exact S117 (n := n) (cl := cl) hcl hx
  exact hcl _ _ _ _ _ hx
theorem E135 (n : Nat) (cl : CL) (a0 a1 a2 a3 : Value) (h : PH) : exF Try.prog n (D135 n cl) ⟨[117], [], [], [(1, [0, 1, 2, 4, 5, 6, 3, 7, 8])], [], [], [], []⟩ Try.f135 [a0, a1, a2, a3] h = F135 n cl a0 a1 a2 a3 h := by kernel_rfl
theorem S135 {n : Nat} {cl : CL} (hcl : OkCL Try.prog cl) {a0 a1 a2 a3 : Value} {h h' : PH} {v : Value} (hx : F135 n cl a0 a1 a2 a3 h = some (v, h')) : (enterable Try.prog 135 = true ∧ ACall Try.prog 135 [a0, a1, a2, a3] h.abs (fun u k => u = v ∧ k = h'.abs)) ∧ Inv h h' :=
  exF_ok (Dk135 hcl) hmx Try.func135 (by kernel_rfl) ((E135 n cl a0 a1 a2 a3 h).trans hx)
-- slices.medianOrdered[int]
noncomputable def F131 (n : Nat) (cl : CL) (a0 a1 a2 a3 a4 : Value) (h : PH) : R :=
 hb (F135 n cl a0 a1 a2 a4 h) fun v1 h =>
 vb (xExt 0 v1) fun v2 =>
 vb (xExt 1 v1) fun v3 =>
 hb (F135 n cl a0 v3 a3 a4 h) fun v4 h =>
 vb (xExt 0 v4) fun v5 =>
 vb (xExt 1 v4) fun v6 =>
 hb (F135 n cl a0 v2 v5 a4 h) fun v7 h =>
 vb (xExt 0 v7) fun v8 =>
 vb (xExt 1 v7) fun v9 =>
 some (v9, h)
noncomputable def D131 (n : Nat) (cl : CL) : CL := fun f xs h => sw f 135 (ucons xs fun b0 xs => ucons xs fun b1 xs => ucons xs fun b2 xs => ucons xs fun b3 xs => u0 xs (F135 n cl b0 b1 b2 b3 h)) (cl f xs h)
theorem Dk131 {n : Nat} {cl : CL} (hcl : OkCL Try.prog cl) : OkCL Try.prog (D131 n cl) := by
  intro f xs h v h' hx
  rcases sw_ok hx with ⟨rfl, hx⟩ | hx
  · obtain ⟨_, _, rfl, hx⟩ := ucons_ok hx; obtain ⟨_, _, rfl, hx⟩ := ucons_ok hx; obtain ⟨_, _, rfl, hx⟩ := ucons_ok hx; obtain ⟨_, _, rfl, hx⟩ := ucons_ok hx; obtain ⟨rfl, hx⟩ := u0_ok hx; exact S135 (n := n) (cl := cl) hcl hx
  exact hcl _ _ _ _ _ hx
theorem E131 (n : Nat) (cl : CL) (a0 a1 a2 a3 a4 : Value) (h : PH) : exF Try.prog n (D131 n cl) ⟨[], [], [], [], [], [], [], []⟩ Try.f131 [a0, a1, a2, a3, a4] h = F131 n cl a0 a1 a2 a3 a4 h := by kernel_rfl
theorem S131 {n : Nat} {cl : CL} (hcl : OkCL Try.prog cl) {a0 a1 a2 a3 a4 : Value} {h h' : PH} {v : Value} (hx : F131 n cl a0 a1 a2 a3 a4 h = some (v, h')) : (enterable Try.prog 131 = true ∧ ACall Try.prog 131 [a0, a1, a2, a3, a4] h.abs (fun u k => u = v ∧ k = h'.abs)) ∧ Inv h h' :=
  exF_ok (Dk131 hcl) hmx Try.func131 (by kernel_rfl) ((E131 n cl a0 a1 a2 a3 a4 h).trans hx)
-- slices.medianAdjacentOrdered[int]
noncomputable def F130 (n : Nat) (cl : CL) (a0 a1 a2 : Value) (h : PH) : R :=
 vb (xAri Int.sub a1 (vN 1)) fun v1 =>
 vb (xAri Int.add a1 (vN 1)) fun v2 =>
 hb (F131 n cl a0 v1 a1 v2 a2 h) fun v3 h =>
 some (v3, h)
noncomputable def D130 (n : Nat) (cl : CL) : CL := fun f xs h => sw f 131 (ucons xs fun b0 xs => ucons xs fun b1 xs => ucons xs fun b2 xs => ucons xs fun b3 xs => ucons xs fun b4 xs => u0 xs (F131 n cl b0 b1 b2 b3 b4 h)) (cl f xs h)
theorem Dk130 {n : Nat} {cl : CL} (hcl : OkCL Try.prog cl) : OkCL Try.prog (D130 n cl) := by
  intro f xs h v h' hx
  rcases sw_ok hx with ⟨rfl, hx⟩ | hx
  · obtain ⟨_, _, rfl, hx⟩ := ucons_ok hx; obtain ⟨_, _, rfl, hx⟩ := ucons_ok hx; obtain ⟨_, _, rfl, hx⟩ := ucons_ok hx; obtain ⟨_, _, rfl, hx⟩ := ucons_ok hx; obtain ⟨_, _, rfl, hx⟩ := ucons_ok hx; obtain ⟨rfl, hx⟩ := u0_ok hx; exact S131 (n := n) (cl := cl) hcl hx
  exact hcl _ _ _ _ _ hx
theorem E130 (n : Nat) (cl : CL) (a0 a1 a2 : Value) (h : PH) : exF Try.prog n (D130 n cl) ⟨[], [], [], [], [], [], [], []⟩ Try.f130 [a0, a1, a2] h = F130 n cl a0 a1 a2 h := by kernel_rfl
theorem S130 {n : Nat} {cl : CL} (hcl : OkCL Try.prog cl) {a0 a1 a2 : Value} {h h' : PH} {v : Value} (hx : F130 n cl a0 a1 a2 h = some (v, h')) : (enterable Try.prog 130 = true ∧ ACall Try.prog 130 [a0, a1, a2] h.abs (fun u k => u = v ∧ k = h'.abs)) ∧ Inv h h' :=
  exF_ok (Dk130 hcl) hmx Try.func130 (by kernel_rfl) ((E130 n cl a0 a1 a2 h).trans hx)
-- slices.choosePivotOrdered[int]
noncomputable def F114_0 (n : Nat) (cl : CL) (v18 : Value) (v16 : Value) (h : PH) : R :=
 vb (xCmp ieq v18 (vN 12)) fun v20 =>
 bite v20 (some (Value.tuple ⟨[v16, (vN 2)]⟩, h)) (some (Value.tuple ⟨[v16, (vN 0)]⟩, h))
noncomputable def F114_1 (n : Nat) (cl : CL) (v14 : Value) (v16 : Value) (h : PH) : R :=
 vb (xLd v14 h) fun v18 =>
 vb (xCmp ieq v18 (vN 0)) fun v19 =>
 bite v19 (some (Value.tuple ⟨[v16, (vN 1)]⟩, h)) (F114_0 n cl v18 v16 h)
noncomputable def F114_2 (n : Nat) (cl : CL) (v24 : Value) (v28 : Value) (v30 : Value) (v32 : Value) (v26 : Value) (k13 : Kt) (h : PH) : R :=
 hb (F131 n cl v24 v28 v30 v32 v26 h) fun v34 h =>
 k13 [v26, v34] h
noncomputable def F114_3 (n : Nat) (cl : CL) (a0 : Value) (v5 : Value) (v2 : Value) (v8 : Value) (v11 : Value) (k23 : Kt) (h : PH) : R :=
 hb (F130 n cl a0 v5 v2 h) fun v36 h =>
 hb (F130 n cl a0 v8 v2 h) fun v37 h =>
 hb (F130 n cl a0 v11 v2 h) fun v38 h =>
 k23 [a0, v2, v36, v37, v38] h
noncomputable def F114_4 (n : Nat) (cl : CL) (k13 : Kt) (y22 : List Value) (h : PH) : R :=
 ucons y22 fun v24 y25 => ucons y25 fun v26 y27 => ucons y27 fun v28 y29 => ucons y29 fun v30 y31 => ucons y31 fun v32 y33 => F114_2 n cl v24 v28 v30 v32 v26 k13 h
noncomputable def F114_5 (n : Nat) (cl : CL) (v1 : Value) (a0 : Value) (v5 : Value) (v2 : Value) (v8 : Value) (v11 : Value) (h : PH) (k23 : Kt) : R :=
 vb (xCmp (fun x y => ile y x) v1 (vN 50)) fun v35 =>
 bite v35 (F114_3 n cl a0 v5 v2 v8 v11 k23 h) (k23 [a0, v2, v5, v8, v11] h)
noncomputable def F114_6 (n : Nat) (cl : CL) (v1 : Value) (a0 : Value) (v5 : Value) (v2 : Value) (v8 : Value) (v11 : Value) (h : PH) (k13 : Kt) : R :=
 vb (xCmp (fun x y => ile y x) v1 (vN 8)) fun v21 =>
 bite v21 (jn (F114_4 n cl k13) (F114_5 n cl v1 a0 v5 v2 v8 v11 h)) (k13 [v2, v8] h)
noncomputable def F114 (n : Nat) (cl : CL) (a0 a1 a2 : Value) (h : PH) : R :=
 vb (xAri Int.sub a2 a1) fun v1 =>
 hb (xAlloc (zcells Try.prog 3) h) fun v2 h =>
 vb (xQuo v1 (vN 4)) fun v3 =>
 vb (xAri Int.mul v3 (vN 1)) fun v4 =>
 vb (xAri Int.add a1 v4) fun v5 =>
 vb (xQuo v1 (vN 4)) fun v6 =>
 vb (xAri Int.mul v6 (vN 2)) fun v7 =>
 vb (xAri Int.add a1 v7) fun v8 =>
 vb (xQuo v1 (vN 4)) fun v9 =>
 vb (xAri Int.mul v9 (vN 3)) fun v10 =>
 vb (xAri Int.add a1 v10) fun v11 =>
 jn (fun y12 h => ucons y12 fun v14 y15 => ucons y15 fun v16 y17 => F114_1 n cl v14 v16 h) (F114_6 n cl v1 a0 v5 v2 v8 v11 h)
noncomputable def D114 (n : Nat) (cl : CL) : CL := fun f xs h => sw f 131 (ucons xs fun b0 xs => ucons xs fun b1 xs => ucons xs fun b2 xs => ucons xs fun b3 xs => ucons xs fun b4 xs => u0 xs (F131 n cl b0 b1 b2 b3 b4 h)) (sw f 130 (ucons xs fun b0 xs => ucons xs fun b1 xs => ucons xs fun b2 xs => u0 xs (F130 n cl b0 b1 b2 h)) (cl f xs h))
theorem Dk114 {n : Nat} {cl : CL} (hcl : OkCL Try.prog cl) : OkCL Try.prog (D114 n cl) := by
  intro f xs h v h' hx
  rcases sw_ok hx with ⟨rfl, hx⟩ | hx
  · obtain ⟨_, _, rfl, hx⟩ := ucons_ok hx; obtain ⟨_, _, rfl, hx⟩ := ucons_ok hx; obtain ⟨_, _, rfl, hx⟩ := ucons_ok hx; obtain ⟨_, _, rfl, hx⟩ := ucons_ok hx; obtain ⟨_, _, rfl, hx⟩ := ucons_ok hx; obtain ⟨rfl, hx⟩ := u0_ok hx; exact S131 (n := n) (cl := cl) hcl hx
  rcases sw_ok hx with ⟨rfl, hx⟩ | hx
  · obtain ⟨_, _, rfl, hx⟩ := ucons_ok hx; obtain ⟨_, _, rfl, hx⟩ := ucons_ok hx; obtain ⟨_, _, rfl, hx⟩ := ucons_ok hx; obtain ⟨rfl, hx⟩ := u0_ok hx; exact S130 (n := n) (cl := cl) hcl hx
  exact hcl _ _ _ _ _ hx
theorem E114 (n : Nat) (cl : CL) (a0 a1 a2 : Value) (h : PH) : exF Try.prog n (D114 n cl) ⟨[], [], [(11, [0, 9, 10, 11, 12]), (12, [9, 11])], [], [], [], [], []⟩ Try.f114 [a0, a1, a2] h = F114 n cl a0 a1 a2 h := by kernel_rfl
theorem S114 {n : Nat} {cl : CL} (hcl : OkCL Try.prog cl) {a0 a1 a2 : Value} {h h' : PH} {v : Value} (hx : F114 n cl a0 a1 a2 h = some (v, h')) : (enterable Try.prog 114 = true ∧ ACall Try.prog 114 [a0, a1, a2] h.abs (fun u k => u = v ∧ k = h'.abs)) ∧ Inv h h' :=
  exF_ok (Dk114 hcl) hmx Try.func114 (by kernel_rfl) ((E114 n cl a0 a1 a2 h).trans hx)
-- slices.reverseRangeOrdered[int]
noncomputable def F115_0 (n : Nat) (cl : CL) (v4 : Value) (v8 : Value) (v6 : Value) (r3 : Kt) (h : PH) : R :=
 vb (xIdxS 1 v4 v8) fun v11 =>
 vb (xIdxS 1 v4 v6) fun v12 =>
 vb (xLd v11 h) fun v13 =>
 vb (xLd v12 h) fun v14 =>
 vb (xIdxS 1 v4 v6) fun v15 =>
 hb (xSt1 v15 v13 h) fun _ h =>
 vb (xIdxS 1 v4 v8) fun v16 =>
 hb (xSt1 v16 v14 h) fun _ h =>
 vb (xAri Int.add v6 (vN 1)) fun v17 =>
 vb (xAri Int.sub v8 (vN 1)) fun v18 =>
 r3 [v4, v17, v18] h
noncomputable def F115_1 (n : Nat) (cl : CL) (v6 : Value) (v8 : Value) (v4 : Value) (r3 : Kt) (h : PH) : R :=
 vb (xCmp ilt v6 v8) fun v10 =>
 bite v10 (F115_0 n cl v4 v8 v6 r3 h) (some (Value.tuple ⟨[]⟩, h))
noncomputable def F115_2 (n : Nat) (cl : CL) (r3 : Kt) (y2 : List Value) (h : PH) : R :=
 ucons y2 fun v4 y5 => ucons y5 fun v6 y7 => ucons y7 fun v8 y9 => F115_1 n cl v6 v8 v4 r3 h
noncomputable def F115 (n : Nat) (cl : CL) (a0 a1 a2 : Value) (h : PH) : R :=
 vb (xAri Int.sub a2 (vN 1)) fun v1 =>
 lp n (F115_2 n cl) [a0, a1, v1] h
theorem E115 (n : Nat) (cl : CL) (a0 a1 a2 : Value) (h : PH) : exF Try.prog n cl ⟨[], [], [(2, [0, 6, 7])], [(3, [0, 1, 2, 3, 4, 5, 6, 8, 9, 10, 7, 11, 12, 13, 14, 15])], [], [], [], []⟩ Try.f115 [a0, a1, a2] h = F115 n cl a0 a1 a2 h := by kernel_rfl
theorem S115 {n : Nat} {cl : CL} (hcl : OkCL Try.prog cl) {a0 a1 a2 : Value} {h h' : PH} {v : Value} (hx : F115 n cl a0 a1 a2 h = some (v, h')) : (enterable Try.prog 115 = true ∧ ACall Try.prog 115 [a0, a1, a2] h.abs (fun u k => u = v ∧ k = h'.abs)) ∧ Inv h h' :=
  exF_ok hcl hmx Try.func115 (by kernel_rfl) ((E115 n cl a0 a1 a2 h).trans hx)
-- slices.partialInsertionSortOrdered[int]
noncomputable def F116_0 (n : Nat) (cl : CL) (v25 : Value) (r3 : Kt) (v17 : Value) (v19 : Value) (v21 : Value) (v23 : Value) (h : PH) : R :=
 vb (xAri Int.add v25 (vN 1)) fun v27 =>
 r3 [v17, v19, v21, v23, v27] h
noncomputable def F116_1 (n : Nat) (cl : CL) (v36 : Value) (r29 : Kt) (v30 : Value) (v32 : Value) (v34 : Value) (v38 : Value) (h : PH) : R :=
 vb (xAri Int.add v36 (vN 1)) fun v53 =>
 r29 [v30, v32, v34, v53, v38] h
noncomputable def F116_2 (n : Nat) (cl : CL) (v92 : Value) (v82 : Value) (r81 : Kt) (v84 : Value) (v86 : Value) (v88 : Value) (v90 : Value) (h : PH) : R :=
 vb (xAri Int.sub v92 (vN 1)) fun v102 =>
 vb (xAri Int.sub v92 (vN 1)) fun v103 =>
 vb (xIdxS 1 v82 v103) fun v104 =>
 vb (xIdxS 1 v82 v92) fun v105 =>
 vb (xLd v104 h) fun v106 =>
 vb (xLd v105 h) fun v107 =>
 vb (xIdxS 1 v82 v92) fun v108 =>
 hb (xSt1 v108 v106 h) fun _ h =>
 vb (xIdxS 1 v82 v102) fun v109 =>
 hb (xSt1 v109 v107 h) fun _ h =>
 vb (xAri Int.add v92 (vN 1)) fun v110 =>
 r81 [v82, v84, v86, v88, v90, v110] h
noncomputable def F116_3 (n : Nat) (cl : CL) (v82 : Value) (v92 : Value) (k16 : Kt) (v84 : Value) (v86 : Value) (v88 : Value) (v90 : Value) (r81 : Kt) (h : PH) : R :=
 vb (xIdxS 1 v82 v92) fun v95 =>
 vb (xAri Int.sub v92 (vN 1)) fun v96 =>
 vb (xIdxS 1 v82 v96) fun v97 =>
 vb (xLd v95 h) fun v98 =>
 vb (xLd v97 h) fun v99 =>
 vb (pcall (F117 n cl v98 v99 (h.fzn))) fun v100 =>
 vb (xNot v100) fun v101 =>
 bite v101 (k16 [v82, v84, v86, v88, v90] h) (F116_2 n cl v92 v82 r81 v84 v86 v88 v90 h)
noncomputable def F116_4 (n : Nat) (cl : CL) (v92 : Value) (v86 : Value) (v82 : Value) (k16 : Kt) (v84 : Value) (v88 : Value) (v90 : Value) (r81 : Kt) (h : PH) : R :=
 vb (xCmp ilt v92 v86) fun v94 =>
 bite v94 (F116_3 n cl v82 v92 k16 v84 v86 v88 v90 r81 h) (k16 [v82, v84, v86, v88, v90] h)
noncomputable def F116_5 (n : Nat) (cl : CL) (k16 : Kt) (r81 : Kt) (y80 : List Value) (h : PH) : R :=
 ucons y80 fun v82 y83 => ucons y83 fun v84 y85 => ucons y85 fun v86 y87 => ucons y87 fun v88 y89 => ucons y89 fun v90 y91 => ucons y91 fun v92 y93 => F116_4 n cl v92 v86 v82 k16 v84 v88 v90 r81 h
noncomputable def F116_6 (n : Nat) (cl : CL) (v73 : Value) (k16 : Kt) (v67 : Value) (v69 : Value) (v71 : Value) (v75 : Value) (h : PH) : R :=
 vb (xAri Int.add v73 (vN 1)) fun v79 =>
 lp n (F116_5 n cl k16) [v67, v69, v71, v73, v75, v79] h
noncomputable def F116_7 (n : Nat) (cl : CL) (v71 : Value) (v73 : Value) (k16 : Kt) (v67 : Value) (v69 : Value) (v75 : Value) (h : PH) : R :=
 vb (xAri Int.sub v71 v73) fun v77 =>
 vb (xCmp (fun x y => ile y x) v77 (vN 2)) fun v78 =>
 bite v78 (F116_6 n cl v73 k16 v67 v69 v71 v75 h) (k16 [v67, v69, v71, v73, v75] h)
noncomputable def F116_8 (n : Nat) (cl : CL) (v126 : Value) (v116 : Value) (r115 : Kt) (v118 : Value) (v120 : Value) (v122 : Value) (v124 : Value) (h : PH) : R :=
 vb (xAri Int.sub v126 (vN 1)) fun v136 =>
 vb (xAri Int.sub v126 (vN 1)) fun v137 =>
 vb (xIdxS 1 v116 v137) fun v138 =>
 vb (xIdxS 1 v116 v126) fun v139 =>
 vb (xLd v138 h) fun v140 =>
 vb (xLd v139 h) fun v141 =>
 vb (xIdxS 1 v116 v126) fun v142 =>
 hb (xSt1 v142 v140 h) fun _ h =>
 vb (xIdxS 1 v116 v136) fun v143 =>
 hb (xSt1 v143 v141 h) fun _ h =>
 vb (xAri Int.sub v126 (vN 1)) fun v144 =>
 r115 [v116, v118, v120, v122, v124, v144] h
noncomputable def F116_9 (n : Nat) (cl : CL) (v116 : Value) (v126 : Value) (k66 : Kt) (v118 : Value) (v120 : Value) (v122 : Value) (v124 : Value) (r115 : Kt) (h : PH) : R :=
 vb (xIdxS 1 v116 v126) fun v129 =>
 vb (xAri Int.sub v126 (vN 1)) fun v130 =>
 vb (xIdxS 1 v116 v130) fun v131 =>
 vb (xLd v129 h) fun v132 =>
 vb (xLd v131 h) fun v133 =>
 vb (pcall (F117 n cl v132 v133 (h.fzn))) fun v134 =>
 vb (xNot v134) fun v135 =>
 bite v135 (k66 [v116, v118, v120, v122, v124] h) (F116_8 n cl v126 v116 r115 v118 v120 v122 v124 h)
noncomputable def F116_10 (n : Nat) (cl : CL) (v126 : Value) (v116 : Value) (k66 : Kt) (v118 : Value) (v120 : Value) (v122 : Value) (v124 : Value) (r115 : Kt) (h : PH) : R :=
 vb (xCmp (fun x y => ile y x) v126 (vN 1)) fun v128 =>
 bite v128 (F116_9 n cl v116 v126 k66 v118 v120 v122 v124 r115 h) (k66 [v116, v118, v120, v122, v124] h)
noncomputable def F116_11 (n : Nat) (cl : CL) (k66 : Kt) (r115 : Kt) (y114 : List Value) (h : PH) : R :=
 ucons y114 fun v116 y117 => ucons y117 fun v118 y119 => ucons y119 fun v120 y121 => ucons y121 fun v122 y123 => ucons y123 fun v124 y125 => ucons y125 fun v126 y127 => F116_10 n cl v126 v116 k66 v118 v120 v122 v124 r115 h
noncomputable def F116_12 (n : Nat) (cl : CL) (v36 : Value) (k66 : Kt) (v30 : Value) (v32 : Value) (v34 : Value) (v38 : Value) (h : PH) : R :=
 vb (xAri Int.sub v36 (vN 1)) fun v113 =>
 lp n (F116_11 n cl k66) [v30, v32, v34, v36, v38, v113] h
noncomputable def F116_13 (n : Nat) (cl : CL) (k16 : Kt) (y65 : List Value) (h : PH) : R :=
 ucons y65 fun v67 y68 => ucons y68 fun v69 y70 => ucons y70 fun v71 y72 => ucons y72 fun v73 y74 => ucons y74 fun v75 y76 => F116_7 n cl v71 v73 k16 v67 v69 v75 h
noncomputable def F116_14 (n : Nat) (cl : CL) (v36 : Value) (v32 : Value) (v30 : Value) (v34 : Value) (v38 : Value) (h : PH) (k66 : Kt) : R :=
 vb (xAri Int.sub v36 v32) fun v111 =>
 vb (xCmp (fun x y => ile y x) v111 (vN 2)) fun v112 =>
 bite v112 (F116_12 n cl v36 k66 v30 v32 v34 v38 h) (k66 [v30, v32, v34, v36, v38] h)
noncomputable def F116_15 (n : Nat) (cl : CL) (v36 : Value) (v30 : Value) (k16 : Kt) (v32 : Value) (v34 : Value) (v38 : Value) (h : PH) : R :=
 vb (xAri Int.sub v36 (vN 1)) fun v57 =>
 vb (xAri Int.sub v36 (vN 1)) fun v58 =>
 vb (xIdxS 1 v30 v58) fun v59 =>
 vb (xIdxS 1 v30 v36) fun v60 =>
 vb (xLd v59 h) fun v61 =>
 vb (xLd v60 h) fun v62 =>
 vb (xIdxS 1 v30 v36) fun v63 =>
 hb (xSt1 v63 v61 h) fun _ h =>
 vb (xIdxS 1 v30 v57) fun v64 =>
 hb (xSt1 v64 v62 h) fun _ h =>
 jn (F116_13 n cl k16) (F116_14 n cl v36 v32 v30 v34 v38 h)
noncomputable def F116_16 (n : Nat) (cl : CL) (v34 : Value) (v32 : Value) (v36 : Value) (v30 : Value) (k16 : Kt) (v38 : Value) (h : PH) : R :=
 vb (xAri Int.sub v34 v32) fun v55 =>
 vb (xCmp ilt v55 (vN 50)) fun v56 =>
 bite v56 (some (ff, h)) (F116_15 n cl v36 v30 k16 v32 v34 v38 h)
noncomputable def F116_17 (n : Nat) (cl : CL) (v36 : Value) (v34 : Value) (v32 : Value) (v30 : Value) (k16 : Kt) (v38 : Value) (h : PH) : R :=
 vb (xCmp ieq v36 v34) fun v54 =>
 bite v54 (some (tt, h)) (F116_16 n cl v34 v32 v36 v30 k16 v38 h)
noncomputable def F116_18 (n : Nat) (cl : CL) (v36 : Value) (v34 : Value) (v30 : Value) (r29 : Kt) (v32 : Value) (v38 : Value) (k16 : Kt) (h : PH) : R :=
 vb (xCmp ilt v36 v34) fun v40 =>
 vb (gd (isB true v40) (some v30)) fun v41 =>
 vb (gd (isB true v40) (some v36)) fun v42 =>
 vb (gd (isB true v40) (xIdxS 1 v41 v42)) fun v43 =>
 vb (gd (isB true v40) (some v30)) fun v44 =>
 vb (gd (isB true v40) (some v36)) fun v45 =>
 vb (gd (isB true v40) (xAri Int.sub v45 (vN 1))) fun v46 =>
 vb (gd (isB true v40) (xIdxS 1 v44 v46)) fun v47 =>
 vb (gd (isB true v40) (xLd v43 h)) fun v48 =>
 vb (gd (isB true v40) (xLd v47 h)) fun v49 =>
 vb (gd (isB true v40) (pcall (F117 n cl v48 v49 (h.fzn)))) fun v50 =>
 vb (gd (isB true v40) (xNot v50)) fun v51 =>
 vb (xPick v40 v51 ff) fun v52 =>
 bite v52 (F116_1 n cl v36 r29 v30 v32 v34 v38 h) (F116_17 n cl v36 v34 v32 v30 k16 v38 h)
noncomputable def F116_19 (n : Nat) (cl : CL) (k16 : Kt) (r29 : Kt) (y28 : List Value) (h : PH) : R :=
 ucons y28 fun v30 y31 => ucons y31 fun v32 y33 => ucons y33 fun v34 y35 => ucons y35 fun v36 y37 => ucons y37 fun v38 y39 => F116_18 n cl v36 v34 v30 r29 v32 v38 k16 h
noncomputable def F116_20 (n : Nat) (cl : CL) (r3 : Kt) (y15 : List Value) (h : PH) : R :=
 ucons y15 fun v17 y18 => ucons y18 fun v19 y20 => ucons y20 fun v21 y22 => ucons y22 fun v23 y24 => ucons y24 fun v25 y26 => F116_0 n cl v25 r3 v17 v19 v21 v23 h
noncomputable def F116_21 (n : Nat) (cl : CL) (v12 : Value) (r3 : Kt) (v4 : Value) (v6 : Value) (v8 : Value) (v10 : Value) (h : PH) : R :=
 vb (xCmp ilt v12 (vN 5)) fun v14 =>
 bite v14 (jn (F116_20 n cl r3) (fun k16 => lp n (F116_19 n cl k16) [v4, v6, v8, v10, v12] h)) (some (ff, h))
noncomputable def F116_22 (n : Nat) (cl : CL) (r3 : Kt) (y2 : List Value) (h : PH) : R :=
 ucons y2 fun v4 y5 => ucons y5 fun v6 y7 => ucons y7 fun v8 y9 => ucons y9 fun v10 y11 => ucons y11 fun v12 y13 => F116_21 n cl v12 r3 v4 v6 v8 v10 h
noncomputable def F116 (n : Nat) (cl : CL) (a0 a1 a2 : Value) (h : PH) : R :=
 vb (xAri Int.add a1 (vN 1)) fun v1 =>
 lp n (F116_22 n cl) [a0, a1, a2, v1, (vN 0)] h
noncomputable def D116 (n : Nat) (cl : CL) : CL := fun f xs h => sw f 117 (ucons xs fun b0 xs => ucons xs fun b1 xs => u0 xs (F117 n cl b0 b1 h)) (cl f xs h)
theorem Dk116 {n : Nat} {cl : CL} (hcl : OkCL Try.prog cl) : OkCL Try.prog (D116 n cl) := by
  intro f xs h v h' hx
  rcases sw_ok hx with ⟨rfl, hx⟩ | hx
  · obtain ⟨_, _, rfl, hx⟩ := ucons_ok hx; obtain ⟨_, _, rfl, hx⟩ := ucons_ok hx; obtain ⟨rfl, hx⟩ := u0_ok hx; exact S117 (n := n) (cl := cl) hcl hx
  exact hcl _ _ _ _ _ hx
theorem E116 (n : Nat) (cl : CL) (a0 a1 a2 : Value) (h : PH) : exF Try.prog n (D116 n cl) ⟨[117], [], [(3, [0, 1, 2, 7, 8]), (4, [0, 1, 2, 7, 8]), (5, [0, 1, 2, 7, 8]), (14, [0, 1, 2, 7, 8, 9]), (18, [0, 1, 2, 7, 8]), (20, [0, 1, 2, 7, 8, 10])], [(5, [0, 1, 2, 3, 4, 5, 6, 8, 9, 10, 11, 7, 12, 13, 14, 15]), (11, [0, 1, 2, 3, 4, 5, 6, 7, 8, 10, 11, 12, 9, 13, 14, 15, 16, 17]), (16, [0, 1, 2, 4, 5, 6, 7, 3, 8, 9, 10]), (17, [0, 1, 2, 3, 4, 5, 6, 7, 8, 10, 11, 12, 9, 13, 14, 15, 16, 17]), (22, [0, 1, 2, 4, 5, 6, 7, 3, 8, 9, 10]), (23, [0, 1, 2, 3, 4, 5, 6, 7, 8, 10, 11, 12, 9, 13, 14, 15, 16, 17])], [], [], [], []⟩ Try.f116 [a0, a1, a2] h = F116 n cl a0 a1 a2 h := by kernel_rfl
theorem S116 {n : Nat} {cl : CL} (hcl : OkCL Try.prog cl) {a0 a1 a2 : Value} {h h' : PH} {v : Value} (hx : F116 n cl a0 a1 a2 h = some (v, h')) : (enterable Try.prog 116 = true ∧ ACall Try.prog 116 [a0, a1, a2] h.abs (fun u k => u = v ∧ k = h'.abs)) ∧ Inv h h' :=
  exF_ok (Dk116 hcl) hmx Try.func116 (by kernel_rfl) ((E116 n cl a0 a1 a2 h).trans hx)
-- slices.partitionEqualOrdered[int]
noncomputable def F118_0 (n : Nat) (cl : CL) (v25 : Value) (r20 : Kt) (v21 : Value) (v23 : Value) (v27 : Value) (h : PH) : R :=
 vb (xAri Int.add v25 (vN 1)) fun v41 =>
 r20 [v21, v23, v41, v27] h
noncomputable def F118_1 (n : Nat) (cl : CL) (v50 : Value) (r43 : Kt) (v44 : Value) (v46 : Value) (v48 : Value) (h : PH) : R :=
 vb (xAri Int.sub v50 (vN 1)) fun v63 =>
 r43 [v44, v46, v48, v63] h
noncomputable def F118_2 (n : Nat) (cl : CL) (v44 : Value) (v50 : Value) (v48 : Value) (r10 : Kt) (v46 : Value) (h : PH) : R :=
 vb (xIdxS 1 v44 v50) fun v65 =>
 vb (xIdxS 1 v44 v48) fun v66 =>
 vb (xLd v65 h) fun v67 =>
 vb (xLd v66 h) fun v68 =>
 vb (xIdxS 1 v44 v48) fun v69 =>
 hb (xSt1 v69 v67 h) fun _ h =>
 vb (xIdxS 1 v44 v50) fun v70 =>
 hb (xSt1 v70 v68 h) fun _ h =>
 vb (xAri Int.add v48 (vN 1)) fun v71 =>
 vb (xAri Int.sub v50 (vN 1)) fun v72 =>
 r10 [v44, v46, v71, v72] h
noncomputable def F118_3 (n : Nat) (cl : CL) (v48 : Value) (v50 : Value) (v44 : Value) (r10 : Kt) (v46 : Value) (h : PH) : R :=
 vb (xCmp (fun x y => ilt y x) v48 v50) fun v64 =>
 bite v64 (some (v48, h)) (F118_2 n cl v44 v50 v48 r10 v46 h)
noncomputable def F118_4 (n : Nat) (cl : CL) (v48 : Value) (v50 : Value) (v44 : Value) (v46 : Value) (r43 : Kt) (r10 : Kt) (h : PH) : R :=
 vb (xCmp ile v48 v50) fun v52 =>
 vb (gd (isB true v52) (some v44)) fun v53 =>
 vb (gd (isB true v52) (some v46)) fun v54 =>
 vb (gd (isB true v52) (xIdxS 1 v53 v54)) fun v55 =>
 vb (gd (isB true v52) (some v44)) fun v56 =>
 vb (gd (isB true v52) (some v50)) fun v57 =>
 vb (gd (isB true v52) (xIdxS 1 v56 v57)) fun v58 =>
 vb (gd (isB true v52) (xLd v55 h)) fun v59 =>
 vb (gd (isB true v52) (xLd v58 h)) fun v60 =>
 vb (gd (isB true v52) (pcall (F117 n cl v59 v60 (h.fzn)))) fun v61 =>
 vb (xPick v52 v61 ff) fun v62 =>
 bite v62 (F118_1 n cl v50 r43 v44 v46 v48 h) (F118_3 n cl v48 v50 v44 r10 v46 h)
noncomputable def F118_5 (n : Nat) (cl : CL) (r10 : Kt) (r43 : Kt) (y42 : List Value) (h : PH) : R :=
 ucons y42 fun v44 y45 => ucons y45 fun v46 y47 => ucons y47 fun v48 y49 => ucons y49 fun v50 y51 => F118_4 n cl v48 v50 v44 v46 r43 r10 h
noncomputable def F118_6 (n : Nat) (cl : CL) (v25 : Value) (v27 : Value) (v21 : Value) (v23 : Value) (r20 : Kt) (r10 : Kt) (h : PH) : R :=
 vb (xCmp ile v25 v27) fun v29 =>
 vb (gd (isB true v29) (some v21)) fun v30 =>
 vb (gd (isB true v29) (some v23)) fun v31 =>
 vb (gd (isB true v29) (xIdxS 1 v30 v31)) fun v32 =>
 vb (gd (isB true v29) (some v21)) fun v33 =>
 vb (gd (isB true v29) (some v25)) fun v34 =>
 vb (gd (isB true v29) (xIdxS 1 v33 v34)) fun v35 =>
 vb (gd (isB true v29) (xLd v32 h)) fun v36 =>
 vb (gd (isB true v29) (xLd v35 h)) fun v37 =>
 vb (gd (isB true v29) (pcall (F117 n cl v36 v37 (h.fzn)))) fun v38 =>
 vb (gd (isB true v29) (xNot v38)) fun v39 =>
 vb (xPick v29 v39 ff) fun v40 =>
 bite v40 (F118_0 n cl v25 r20 v21 v23 v27 h) (lp n (F118_5 n cl r10) [v21, v23, v25, v27] h)
noncomputable def F118_7 (n : Nat) (cl : CL) (r10 : Kt) (r20 : Kt) (y19 : List Value) (h : PH) : R :=
 ucons y19 fun v21 y22 => ucons y22 fun v23 y24 => ucons y24 fun v25 y26 => ucons y26 fun v27 y28 => F118_6 n cl v25 v27 v21 v23 r20 r10 h
noncomputable def F118_8 (n : Nat) (cl : CL) (r10 : Kt) (y9 : List Value) (h : PH) : R :=
 ucons y9 fun v11 y12 => ucons y12 fun v13 y14 => ucons y14 fun v15 y16 => ucons y16 fun v17 y18 => lp n (F118_7 n cl r10) [v11, v13, v15, v17] h
noncomputable def F118 (n : Nat) (cl : CL) (a0 a1 a2 a3 : Value) (h : PH) : R :=
 vb (xIdxS 1 a0 a3) fun v1 =>
 vb (xIdxS 1 a0 a1) fun v2 =>
 vb (xLd v1 h) fun v3 =>
 vb (xLd v2 h) fun v4 =>
 vb (xIdxS 1 a0 a1) fun v5 =>
 hb (xSt1 v5 v3 h) fun _ h =>
 vb (xIdxS 1 a0 a3) fun v6 =>
 hb (xSt1 v6 v4 h) fun _ h =>
 vb (xAri Int.add a1 (vN 1)) fun v7 =>
 vb (xAri Int.sub a2 (vN 1)) fun v8 =>
 lp n (F118_8 n cl) [a0, a1, v7, v8] h
noncomputable def D118 (n : Nat) (cl : CL) : CL := fun f xs h => sw f 117 (ucons xs fun b0 xs => ucons xs fun b1 xs => u0 xs (F117 n cl b0 b1 h)) (cl f xs h)
theorem Dk118 {n : Nat} {cl : CL} (hcl : OkCL Try.prog cl) : OkCL Try.prog (D118 n cl) := by
  intro f xs h v h' hx
  rcases sw_ok hx with ⟨rfl, hx⟩ | hx
  · obtain ⟨_, _, rfl, hx⟩ := ucons_ok hx; obtain ⟨_, _, rfl, hx⟩ := ucons_ok hx; obtain ⟨rfl, hx⟩ := u0_ok hx; exact S117 (n := n) (cl := cl) hcl hx
  exact hcl _ _ _ _ _ hx
theorem E118 (n : Nat) (cl : CL) (a0 a1 a2 a3 : Value) (h : PH) : exF Try.prog n (D118 n cl) ⟨[117], [], [(3, [0, 1, 9, 10]), (5, [0, 1, 9, 10])], [(1, [0, 1, 2, 3, 4, 5, 6, 8, 9, 10, 7, 11, 12, 13, 14, 15]), (3, [0, 1, 2, 3, 4, 5, 6, 8, 9, 10, 7, 11, 12, 13, 14]), (5, [0, 1, 2, 3, 4, 5, 6, 8, 9, 10, 7, 11, 12, 13]), (8, [0, 1, 2, 3, 4, 5, 6, 8, 9, 10, 7, 11, 12, 13, 14, 15])], [], [], [], []⟩ Try.f118 [a0, a1, a2, a3] h = F118 n cl a0 a1 a2 a3 h := by kernel_rfl
theorem S118 {n : Nat} {cl : CL} (hcl : OkCL Try.prog cl) {a0 a1 a2 a3 : Value} {h h' : PH} {v : Value} (hx : F118 n cl a0 a1 a2 a3 h = some (v, h')) : (enterable Try.prog 118 = true ∧ ACall Try.prog 118 [a0, a1, a2, a3] h.abs (fun u k => u = v ∧ k = h'.abs)) ∧ Inv h h' :=
  exF_ok (Dk118 hcl) hmx Try.func118 (by kernel_rfl) ((E118 n cl a0 a1 a2 a3 h).trans hx)
-- slices.partitionOrdered[int]
noncomputable def F119_0 (n : Nat) (cl : CL) (v15 : Value) (r10 : Kt) (v11 : Value) (v13 : Value) (v17 : Value) (h : PH) : R :=
 vb (xAri Int.add v15 (vN 1)) fun v30 =>
 r10 [v11, v13, v30, v17] h
noncomputable def F119_1 (n : Nat) (cl : CL) (v39 : Value) (r32 : Kt) (v33 : Value) (v35 : Value) (v37 : Value) (h : PH) : R :=
 vb (xAri Int.sub v39 (vN 1)) fun v53 =>
 r32 [v33, v35, v37, v53] h
noncomputable def F119_2 (n : Nat) (cl : CL) (v33 : Value) (v35 : Value) (v39 : Value) (h : PH) : R :=
 vb (xIdxS 1 v33 v35) fun v55 =>
 vb (xIdxS 1 v33 v39) fun v56 =>
 vb (xLd v55 h) fun v57 =>
 vb (xLd v56 h) fun v58 =>
 vb (xIdxS 1 v33 v39) fun v59 =>
 hb (xSt1 v59 v57 h) fun _ h =>
 vb (xIdxS 1 v33 v35) fun v60 =>
 hb (xSt1 v60 v58 h) fun _ h =>
 some (Value.tuple ⟨[v39, tt]⟩, h)
noncomputable def F119_3 (n : Nat) (cl : CL) (v85 : Value) (r80 : Kt) (v81 : Value) (v83 : Value) (v87 : Value) (h : PH) : R :=
 vb (xAri Int.add v85 (vN 1)) fun v100 =>
 r80 [v81, v83, v100, v87] h
noncomputable def F119_4 (n : Nat) (cl : CL) (v109 : Value) (r102 : Kt) (v103 : Value) (v105 : Value) (v107 : Value) (h : PH) : R :=
 vb (xAri Int.sub v109 (vN 1)) fun v123 =>
 r102 [v103, v105, v107, v123] h
noncomputable def F119_5 (n : Nat) (cl : CL) (v103 : Value) (v105 : Value) (v109 : Value) (h : PH) : R :=
 vb (xIdxS 1 v103 v105) fun v125 =>
 vb (xIdxS 1 v103 v109) fun v126 =>
 vb (xLd v125 h) fun v127 =>
 vb (xLd v126 h) fun v128 =>
 vb (xIdxS 1 v103 v109) fun v129 =>
 hb (xSt1 v129 v127 h) fun _ h =>
 vb (xIdxS 1 v103 v105) fun v130 =>
 hb (xSt1 v130 v128 h) fun _ h =>
 some (Value.tuple ⟨[v109, ff]⟩, h)
noncomputable def F119_6 (n : Nat) (cl : CL) (v103 : Value) (v109 : Value) (v107 : Value) (r70 : Kt) (v105 : Value) (h : PH) : R :=
 vb (xIdxS 1 v103 v109) fun v131 =>
 vb (xIdxS 1 v103 v107) fun v132 =>
 vb (xLd v131 h) fun v133 =>
 vb (xLd v132 h) fun v134 =>
 vb (xIdxS 1 v103 v107) fun v135 =>
 hb (xSt1 v135 v133 h) fun _ h =>
 vb (xIdxS 1 v103 v109) fun v136 =>
 hb (xSt1 v136 v134 h) fun _ h =>
 vb (xAri Int.add v107 (vN 1)) fun v137 =>
 vb (xAri Int.sub v109 (vN 1)) fun v138 =>
 r70 [v103, v105, v137, v138] h
noncomputable def F119_7 (n : Nat) (cl : CL) (v107 : Value) (v109 : Value) (v103 : Value) (v105 : Value) (r70 : Kt) (h : PH) : R :=
 vb (xCmp (fun x y => ilt y x) v107 v109) fun v124 =>
 bite v124 (F119_5 n cl v103 v105 v109 h) (F119_6 n cl v103 v109 v107 r70 v105 h)
noncomputable def F119_8 (n : Nat) (cl : CL) (v107 : Value) (v109 : Value) (v103 : Value) (v105 : Value) (r102 : Kt) (r70 : Kt) (h : PH) : R :=
 vb (xCmp ile v107 v109) fun v111 =>
 vb (gd (isB true v111) (some v103)) fun v112 =>
 vb (gd (isB true v111) (some v109)) fun v113 =>
 vb (gd (isB true v111) (xIdxS 1 v112 v113)) fun v114 =>
 vb (gd (isB true v111) (some v103)) fun v115 =>
 vb (gd (isB true v111) (some v105)) fun v116 =>
 vb (gd (isB true v111) (xIdxS 1 v115 v116)) fun v117 =>
 vb (gd (isB true v111) (xLd v114 h)) fun v118 =>
 vb (gd (isB true v111) (xLd v117 h)) fun v119 =>
 vb (gd (isB true v111) (pcall (F117 n cl v118 v119 (h.fzn)))) fun v120 =>
 vb (gd (isB true v111) (xNot v120)) fun v121 =>
 vb (xPick v111 v121 ff) fun v122 =>
 bite v122 (F119_4 n cl v109 r102 v103 v105 v107 h) (F119_7 n cl v107 v109 v103 v105 r70 h)
noncomputable def F119_9 (n : Nat) (cl : CL) (r70 : Kt) (r102 : Kt) (y101 : List Value) (h : PH) : R :=
 ucons y101 fun v103 y104 => ucons y104 fun v105 y106 => ucons y106 fun v107 y108 => ucons y108 fun v109 y110 => F119_8 n cl v107 v109 v103 v105 r102 r70 h
noncomputable def F119_10 (n : Nat) (cl : CL) (v85 : Value) (v87 : Value) (v81 : Value) (v83 : Value) (r80 : Kt) (r70 : Kt) (h : PH) : R :=
 vb (xCmp ile v85 v87) fun v89 =>
 vb (gd (isB true v89) (some v81)) fun v90 =>
 vb (gd (isB true v89) (some v85)) fun v91 =>
 vb (gd (isB true v89) (xIdxS 1 v90 v91)) fun v92 =>
 vb (gd (isB true v89) (some v81)) fun v93 =>
 vb (gd (isB true v89) (some v83)) fun v94 =>
 vb (gd (isB true v89) (xIdxS 1 v93 v94)) fun v95 =>
 vb (gd (isB true v89) (xLd v92 h)) fun v96 =>
 vb (gd (isB true v89) (xLd v95 h)) fun v97 =>
 vb (gd (isB true v89) (pcall (F117 n cl v96 v97 (h.fzn)))) fun v98 =>
 vb (xPick v89 v98 ff) fun v99 =>
 bite v99 (F119_3 n cl v85 r80 v81 v83 v87 h) (lp n (F119_9 n cl r70) [v81, v83, v85, v87] h)
noncomputable def F119_11 (n : Nat) (cl : CL) (r70 : Kt) (r80 : Kt) (y79 : List Value) (h : PH) : R :=
 ucons y79 fun v81 y82 => ucons y82 fun v83 y84 => ucons y84 fun v85 y86 => ucons y86 fun v87 y88 => F119_10 n cl v85 v87 v81 v83 r80 r70 h
noncomputable def F119_12 (n : Nat) (cl : CL) (r70 : Kt) (y69 : List Value) (h : PH) : R :=
 ucons y69 fun v71 y72 => ucons y72 fun v73 y74 => ucons y74 fun v75 y76 => ucons y76 fun v77 y78 => lp n (F119_11 n cl r70) [v71, v73, v75, v77] h
noncomputable def F119_13 (n : Nat) (cl : CL) (v33 : Value) (v39 : Value) (v37 : Value) (v35 : Value) (h : PH) : R :=
 vb (xIdxS 1 v33 v39) fun v61 =>
 vb (xIdxS 1 v33 v37) fun v62 =>
 vb (xLd v61 h) fun v63 =>
 vb (xLd v62 h) fun v64 =>
 vb (xIdxS 1 v33 v37) fun v65 =>
 hb (xSt1 v65 v63 h) fun _ h =>
 vb (xIdxS 1 v33 v39) fun v66 =>
 hb (xSt1 v66 v64 h) fun _ h =>
 vb (xAri Int.add v37 (vN 1)) fun v67 =>
 vb (xAri Int.sub v39 (vN 1)) fun v68 =>
 lp n (F119_12 n cl) [v33, v35, v67, v68] h
noncomputable def F119_14 (n : Nat) (cl : CL) (v37 : Value) (v39 : Value) (v33 : Value) (v35 : Value) (h : PH) : R :=
 vb (xCmp (fun x y => ilt y x) v37 v39) fun v54 =>
 bite v54 (F119_2 n cl v33 v35 v39 h) (F119_13 n cl v33 v39 v37 v35 h)
noncomputable def F119_15 (n : Nat) (cl : CL) (v37 : Value) (v39 : Value) (v33 : Value) (v35 : Value) (r32 : Kt) (h : PH) : R :=
 vb (xCmp ile v37 v39) fun v41 =>
 vb (gd (isB true v41) (some v33)) fun v42 =>
 vb (gd (isB true v41) (some v39)) fun v43 =>
 vb (gd (isB true v41) (xIdxS 1 v42 v43)) fun v44 =>
 vb (gd (isB true v41) (some v33)) fun v45 =>
 vb (gd (isB true v41) (some v35)) fun v46 =>
 vb (gd (isB true v41) (xIdxS 1 v45 v46)) fun v47 =>
 vb (gd (isB true v41) (xLd v44 h)) fun v48 =>
 vb (gd (isB true v41) (xLd v47 h)) fun v49 =>
 vb (gd (isB true v41) (pcall (F117 n cl v48 v49 (h.fzn)))) fun v50 =>
 vb (gd (isB true v41) (xNot v50)) fun v51 =>
 vb (xPick v41 v51 ff) fun v52 =>
 bite v52 (F119_1 n cl v39 r32 v33 v35 v37 h) (F119_14 n cl v37 v39 v33 v35 h)
noncomputable def F119_16 (n : Nat) (cl : CL) (r32 : Kt) (y31 : List Value) (h : PH) : R :=
 ucons y31 fun v33 y34 => ucons y34 fun v35 y36 => ucons y36 fun v37 y38 => ucons y38 fun v39 y40 => F119_15 n cl v37 v39 v33 v35 r32 h
noncomputable def F119_17 (n : Nat) (cl : CL) (v15 : Value) (v17 : Value) (v11 : Value) (v13 : Value) (r10 : Kt) (h : PH) : R :=
 vb (xCmp ile v15 v17) fun v19 =>
 vb (gd (isB true v19) (some v11)) fun v20 =>
 vb (gd (isB true v19) (some v15)) fun v21 =>
 vb (gd (isB true v19) (xIdxS 1 v20 v21)) fun v22 =>
 vb (gd (isB true v19) (some v11)) fun v23 =>
 vb (gd (isB true v19) (some v13)) fun v24 =>
 vb (gd (isB true v19) (xIdxS 1 v23 v24)) fun v25 =>
 vb (gd (isB true v19) (xLd v22 h)) fun v26 =>
 vb (gd (isB true v19) (xLd v25 h)) fun v27 =>
 vb (gd (isB true v19) (pcall (F117 n cl v26 v27 (h.fzn)))) fun v28 =>
 vb (xPick v19 v28 ff) fun v29 =>
 bite v29 (F119_0 n cl v15 r10 v11 v13 v17 h) (lp n (F119_16 n cl) [v11, v13, v15, v17] h)
noncomputable def F119_18 (n : Nat) (cl : CL) (r10 : Kt) (y9 : List Value) (h : PH) : R :=
 ucons y9 fun v11 y12 => ucons y12 fun v13 y14 => ucons y14 fun v15 y16 => ucons y16 fun v17 y18 => F119_17 n cl v15 v17 v11 v13 r10 h
noncomputable def F119 (n : Nat) (cl : CL) (a0 a1 a2 a3 : Value) (h : PH) : R :=
 vb (xIdxS 1 a0 a3) fun v1 =>
 vb (xIdxS 1 a0 a1) fun v2 =>
 vb (xLd v1 h) fun v3 =>
 vb (xLd v2 h) fun v4 =>
 vb (xIdxS 1 a0 a1) fun v5 =>
 hb (xSt1 v5 v3 h) fun _ h =>
 vb (xIdxS 1 a0 a3) fun v6 =>
 hb (xSt1 v6 v4 h) fun _ h =>
 vb (xAri Int.add a1 (vN 1)) fun v7 =>
 vb (xAri Int.sub a2 (vN 1)) fun v8 =>
 lp n (F119_18 n cl) [a0, a1, v7, v8] h
noncomputable def D119 (n : Nat) (cl : CL) : CL := fun f xs h => sw f 117 (ucons xs fun b0 xs => ucons xs fun b1 xs => u0 xs (F117 n cl b0 b1 h)) (cl f xs h)
theorem Dk119 {n : Nat} {cl : CL} (hcl : OkCL Try.prog cl) : OkCL Try.prog (D119 n cl) := by
  intro f xs h v h' hx
  rcases sw_ok hx with ⟨rfl, hx⟩ | hx
  · obtain ⟨_, _, rfl, hx⟩ := ucons_ok hx; obtain ⟨_, _, rfl, hx⟩ := ucons_ok hx; obtain ⟨rfl, hx⟩ := u0_ok hx; exact S117 (n := n) (cl := cl) hcl hx
  exact hcl _ _ _ _ _ hx
theorem E119 (n : Nat) (cl : CL) (a0 a1 a2 a3 : Value) (h : PH) : exF Try.prog n (D119 n cl) ⟨[117], [], [(3, [0, 1, 10, 11]), (5, [0, 1, 10, 11]), (13, [0, 1, 10, 11]), (15, [0, 1, 10, 11])], [(1, [0, 1, 2, 3, 4, 5, 6, 8, 9, 10, 7, 11, 12, 13, 14, 15]), (3, [0, 1, 2, 3, 4, 5, 6, 8, 9, 10, 7, 11, 12, 13]), (5, [0, 1, 2, 3, 4, 5, 6, 8, 9, 10, 7, 11, 12, 13, 14]), (8, [0, 1, 2, 3, 4, 5, 6, 8, 9, 10, 7, 11, 12, 13, 14, 15]), (10, [0, 1, 2, 3, 4, 5, 6, 8, 9, 10, 7, 11, 12, 13, 14, 15]), (13, [0, 1, 2, 3, 4, 5, 6, 8, 9, 10, 7, 11, 12, 13]), (15, [0, 1, 2, 3, 4, 5, 6, 8, 9, 10, 7, 11, 12, 13, 14]), (18, [0, 1, 2, 3, 4, 5, 6, 8, 9, 10, 7, 11, 12, 13, 14, 15]), (21, [0, 1, 2, 3, 4, 5, 6, 8, 9, 10, 7, 11, 12, 13, 14, 15])], [], [], [], []⟩ Try.f119 [a0, a1, a2, a3] h = F119 n cl a0 a1 a2 a3 h := by kernel_rfl
theorem S119 {n : Nat} {cl : CL} (hcl : OkCL Try.prog cl) {a0 a1 a2 a3 : Value} {h h' : PH} {v : Value} (hx : F119 n cl a0 a1 a2 a3 h = some (v, h')) : (enterable Try.prog 119 = true ∧ ACall Try.prog 119 [a0, a1, a2, a3] h.abs (fun u k => u = v ∧ k = h'.abs)) ∧ Inv h h' :=
  exF_ok (Dk119 hcl) hmx Try.func119 (by kernel_rfl) ((E119 n cl a0 a1 a2 a3 h).trans hx)
-- slices.pdqsortOrdered[int]
noncomputable def F104_0 (n : Nat) (cl : CL) (v3 : Value) (v5 : Value) (v7 : Value) (h : PH) : R :=
 hb (F111 n cl v3 v5 v7 h) fun v17 h =>
 some (Value.tuple ⟨[]⟩, h)
noncomputable def F104_1 (n : Nat) (cl : CL) (v3 : Value) (v5 : Value) (v7 : Value) (h : PH) : R :=
 hb (F112 n cl v3 v5 v7 h) fun v19 h =>
 some (Value.tuple ⟨[]⟩, h)
noncomputable def F104_2 (n : Nat) (cl : CL) (v61 : Value) (v63 : Value) (v65 : Value) (v75 : Value) (r2 : Kt) (v67 : Value) (v69 : Value) (v71 : Value) (h : PH) : R :=
 hb (F118 n cl v61 v63 v65 v75 h) fun v90 h =>
 r2 [v61, v90, v65, v67, v69, v71] h
noncomputable def F104_3 (n : Nat) (cl : CL) (v94 : Value) (v96 : Value) (v61 : Value) (v63 : Value) (v92 : Value) (v67 : Value) (r2 : Kt) (v65 : Value) (v93 : Value) (h : PH) : R :=
 vb (xCmp (fun x y => ile y x) v94 v96) fun v98 =>
 hb (cl 104 [v61, v63, v92, v67] h) fun v99 h =>
 vb (xAri Int.add v92 (vN 1)) fun v100 =>
 r2 [v61, v100, v65, v67, v98, v93] h
noncomputable def F104_4 (n : Nat) (cl : CL) (v95 : Value) (v96 : Value) (v92 : Value) (v61 : Value) (v65 : Value) (v67 : Value) (r2 : Kt) (v63 : Value) (v93 : Value) (h : PH) : R :=
 vb (xCmp (fun x y => ile y x) v95 v96) fun v101 =>
 vb (xAri Int.add v92 (vN 1)) fun v102 =>
 hb (cl 104 [v61, v102, v65, v67] h) fun v103 h =>
 r2 [v61, v63, v92, v67, v101, v93] h
noncomputable def F104_5 (n : Nat) (cl : CL) (v61 : Value) (v63 : Value) (v65 : Value) (v75 : Value) (v73 : Value) (v67 : Value) (r2 : Kt) (h : PH) : R :=
 hb (F119 n cl v61 v63 v65 v75 h) fun v91 h =>
 vb (xExt 0 v91) fun v92 =>
 vb (xExt 1 v91) fun v93 =>
 vb (xAri Int.sub v92 v63) fun v94 =>
 vb (xAri Int.sub v65 v92) fun v95 =>
 vb (xQuo v73 (vN 8)) fun v96 =>
 vb (xCmp ilt v94 v95) fun v97 =>
 bite v97 (F104_3 n cl v94 v96 v61 v63 v92 v67 r2 v65 v93 h) (F104_4 n cl v95 v96 v92 v61 v65 v67 r2 v63 v93 h)
noncomputable def F104_6 (n : Nat) (cl : CL) (v63 : Value) (v61 : Value) (v75 : Value) (v65 : Value) (r2 : Kt) (v67 : Value) (v69 : Value) (v71 : Value) (v73 : Value) (h : PH) : R :=
 vb (xCmp (fun x y => ilt y x) v63 (vN 0)) fun v77 =>
 vb (gd (isB true v77) (some v61)) fun v78 =>
 vb (gd (isB true v77) (some v63)) fun v79 =>
 vb (gd (isB true v77) (xAri Int.sub v79 (vN 1))) fun v80 =>
 vb (gd (isB true v77) (xIdxS 1 v78 v80)) fun v81 =>
 vb (gd (isB true v77) (some v61)) fun v82 =>
 vb (gd (isB true v77) (some v75)) fun v83 =>
 vb (gd (isB true v77) (xIdxS 1 v82 v83)) fun v84 =>
 vb (gd (isB true v77) (xLd v81 h)) fun v85 =>
 vb (gd (isB true v77) (xLd v84 h)) fun v86 =>
 vb (gd (isB true v77) (pcall (F117 n cl v85 v86 (h.fzn)))) fun v87 =>
 vb (gd (isB true v77) (xNot v87)) fun v88 =>
 vb (xPick v77 v88 ff) fun v89 =>
 bite v89 (F104_2 n cl v61 v63 v65 v75 r2 v67 v69 v71 h) (F104_5 n cl v61 v63 v65 v75 v73 v67 r2 h)
noncomputable def F104_7 (n : Nat) (cl : CL) (v41 : Value) (v43 : Value) (v45 : Value) (k60 : Kt) (v47 : Value) (v49 : Value) (v51 : Value) (v53 : Value) (v55 : Value) (h : PH) : R :=
 hb (F116 n cl v41 v43 v45 h) fun v109 h =>
 bite v109 (some (Value.tuple ⟨[]⟩, h)) (k60 [v41, v43, v45, v47, v49, v51, v53, v55] h)
noncomputable def F104_8 (n : Nat) (cl : CL) (r2 : Kt) (y59 : List Value) (h : PH) : R :=
 ucons y59 fun v61 y62 => ucons y62 fun v63 y64 => ucons y64 fun v65 y66 => ucons y66 fun v67 y68 => ucons y68 fun v69 y70 => ucons y70 fun v71 y72 => ucons y72 fun v73 y74 => ucons y74 fun v75 y76 => F104_6 n cl v63 v61 v75 v65 r2 v67 v69 v71 v73 h
noncomputable def F104_9 (n : Nat) (cl : CL) (v49 : Value) (v51 : Value) (v57 : Value) (v41 : Value) (v43 : Value) (v45 : Value) (v47 : Value) (v53 : Value) (v55 : Value) (h : PH) (k60 : Kt) : R :=
 vb (gd (isB true v49) (some v51)) fun v104 =>
 vb (xPick v49 v104 ff) fun v105 =>
 vb (gd (isB true v105) (some v57)) fun v106 =>
 vb (gd (isB true v105) (xCmp ieq v106 (vN 1))) fun v107 =>
 vb (xPick v105 v107 ff) fun v108 =>
 bite v108 (F104_7 n cl v41 v43 v45 k60 v47 v49 v51 v53 v55 h) (k60 [v41, v43, v45, v47, v49, v51, v53, v55] h)
noncomputable def F104_10 (n : Nat) (cl : CL) (v22 : Value) (v24 : Value) (v26 : Value) (v37 : Value) (k40 : Kt) (v28 : Value) (v30 : Value) (v32 : Value) (v34 : Value) (h : PH) : R :=
 hb (F115 n cl v22 v24 v26 h) fun v111 h =>
 vb (xAri Int.sub v26 (vN 1)) fun v112 =>
 vb (xAri Int.sub v37 v24) fun v113 =>
 vb (xAri Int.sub v112 v113) fun v114 =>
 k40 [v22, v24, v26, v28, v30, v32, v34, v114, (vN 1)] h
noncomputable def F104_11 (n : Nat) (cl : CL) (r2 : Kt) (y39 : List Value) (h : PH) : R :=
 ucons y39 fun v41 y42 => ucons y42 fun v43 y44 => ucons y44 fun v45 y46 => ucons y46 fun v47 y48 => ucons y48 fun v49 y50 => ucons y50 fun v51 y52 => ucons y52 fun v53 y54 => ucons y54 fun v55 y56 => ucons y56 fun v57 y58 => jn (F104_8 n cl r2) (F104_9 n cl v49 v51 v57 v41 v43 v45 v47 v53 v55 h)
noncomputable def F104_12 (n : Nat) (cl : CL) (v38 : Value) (v22 : Value) (v24 : Value) (v26 : Value) (v37 : Value) (v28 : Value) (v30 : Value) (v32 : Value) (v34 : Value) (h : PH) (k40 : Kt) : R :=
 vb (xCmp ieq v38 (vN 2)) fun v110 =>
 bite v110 (F104_10 n cl v22 v24 v26 v37 k40 v28 v30 v32 v34 h) (k40 [v22, v24, v26, v28, v30, v32, v34, v37, v38] h)
noncomputable def F104_13 (n : Nat) (cl : CL) (v22 : Value) (v24 : Value) (v26 : Value) (r2 : Kt) (v28 : Value) (v30 : Value) (v32 : Value) (v34 : Value) (h : PH) : R :=
 hb (F114 n cl v22 v24 v26 h) fun v36 h =>
 vb (xExt 0 v36) fun v37 =>
 vb (xExt 1 v36) fun v38 =>
 jn (F104_11 n cl r2) (F104_12 n cl v38 v22 v24 v26 v37 v28 v30 v32 v34 h)
noncomputable def F104_14 (n : Nat) (cl : CL) (v3 : Value) (v5 : Value) (v7 : Value) (v9 : Value) (k21 : Kt) (v11 : Value) (v13 : Value) (v15 : Value) (h : PH) : R :=
 hb (F113 n cl v3 v5 v7 h) fun v116 h =>
 vb (xAri Int.sub v9 (vN 1)) fun v117 =>
 k21 [v3, v5, v7, v117, v11, v13, v15] h
noncomputable def F104_15 (n : Nat) (cl : CL) (r2 : Kt) (y20 : List Value) (h : PH) : R :=
 ucons y20 fun v22 y23 => ucons y23 fun v24 y25 => ucons y25 fun v26 y27 => ucons y27 fun v28 y29 => ucons y29 fun v30 y31 => ucons y31 fun v32 y33 => ucons y33 fun v34 y35 => F104_13 n cl v22 v24 v26 r2 v28 v30 v32 v34 h
noncomputable def F104_16 (n : Nat) (cl : CL) (v11 : Value) (v3 : Value) (v5 : Value) (v7 : Value) (v9 : Value) (v13 : Value) (v15 : Value) (h : PH) (k21 : Kt) : R :=
 vb (xNot v11) fun v115 =>
 bite v115 (F104_14 n cl v3 v5 v7 v9 k21 v11 v13 v15 h) (k21 [v3, v5, v7, v9, v11, v13, v15] h)
noncomputable def F104_17 (n : Nat) (cl : CL) (v9 : Value) (v3 : Value) (v5 : Value) (v7 : Value) (r2 : Kt) (v11 : Value) (v13 : Value) (v15 : Value) (h : PH) : R :=
 vb (xCmp ieq v9 (vN 0)) fun v18 =>
 bite v18 (F104_1 n cl v3 v5 v7 h) (jn (F104_15 n cl r2) (F104_16 n cl v11 v3 v5 v7 v9 v13 v15 h))
noncomputable def F104_18 (n : Nat) (cl : CL) (v7 : Value) (v5 : Value) (v3 : Value) (v9 : Value) (r2 : Kt) (v11 : Value) (v13 : Value) (h : PH) : R :=
 vb (xAri Int.sub v7 v5) fun v15 =>
 vb (xCmp ile v15 (vN 12)) fun v16 =>
 bite v16 (F104_0 n cl v3 v5 v7 h) (F104_17 n cl v9 v3 v5 v7 r2 v11 v13 v15 h)
noncomputable def F104_19 (n : Nat) (cl : CL) (r2 : Kt) (y1 : List Value) (h : PH) : R :=
 ucons y1 fun v3 y4 => ucons y4 fun v5 y6 => ucons y6 fun v7 y8 => ucons y8 fun v9 y10 => ucons y10 fun v11 y12 => ucons y12 fun v13 y14 => F104_18 n cl v7 v5 v3 v9 r2 v11 v13 h
noncomputable def F104 (n : Nat) (cl : CL) (a0 a1 a2 a3 : Value) (h : PH) : R :=
 lp n (F104_19 n cl) [a0, a1, a2, a3, tt, tt] h
noncomputable def D104 (n : Nat) (cl : CL) : CL := fun f xs h => sw f 111 (ucons xs fun b0 xs => ucons xs fun b1 xs => ucons xs fun b2 xs => u0 xs (F111 n cl b0 b1 b2 h)) (sw f 112 (ucons xs fun b0 xs => ucons xs fun b1 xs => ucons xs fun b2 xs => u0 xs (F112 n cl b0 b1 b2 h)) (sw f 114 (ucons xs fun b0 xs => ucons xs fun b1 xs => ucons xs fun b2 xs => u0 xs (F114 n cl b0 b1 b2 h)) (sw f 117 (ucons xs fun b0 xs => ucons xs fun b1 xs => u0 xs (F117 n cl b0 b1 h)) (sw f 118 (ucons xs fun b0 xs => ucons xs fun b1 xs => ucons xs fun b2 xs => ucons xs fun b3 xs => u0 xs (F118 n cl b0 b1 b2 b3 h)) (sw f 119 (ucons xs fun b0 xs => ucons xs fun b1 xs => ucons xs fun b2 xs => ucons xs fun b3 xs => u0 xs (F119 n cl b0 b1 b2 b3 h)) (sw f 116 (ucons xs fun b0 xs => ucons xs fun b1 xs => ucons xs fun b2 xs => u0 xs (F116 n cl b0 b1 b2 h)) (sw f 115 (ucons xs fun b0 xs => ucons xs fun b1 xs => ucons xs fun b2 xs => u0 xs (F115 n cl b0 b1 b2 h)) (sw f 113 (ucons xs fun b0 xs => ucons xs fun b1 xs => ucons xs fun b2 xs => u0 xs (F113 n cl b0 b1 b2 h)) (cl f xs h)))))))))
theorem Dk104 {n : Nat} {cl : CL} (hcl : OkCL Try.prog cl) : OkCL Try.prog (D104 n cl) := by
  intro f xs h v h' hx
  rcases sw_ok hx with ⟨rfl, hx⟩ | hx
  · obtain ⟨_, _, rfl, hx⟩ := ucons_ok hx; obtain ⟨_, _, rfl, hx⟩ := ucons_ok hx; obtain ⟨_, _, rfl, hx⟩ := ucons_ok hx; obtain ⟨rfl, hx⟩ := u0_ok hx; exact S111 (n := n) (cl := cl) hcl hx
  rcases sw_ok hx with ⟨rfl, hx⟩ | hx
  · obtain ⟨_, _, rfl, hx⟩ := ucons_ok hx; obtain ⟨_, _, rfl, hx⟩ := ucons_ok hx; obtain ⟨_, _, rfl, hx⟩ := ucons_ok hx; obtain ⟨rfl, hx⟩ := u0_ok hx; exact S112 (n := n) (cl := cl) hcl hx
  rcases sw_ok hx with ⟨rfl, hx⟩ | hx
  · obtain ⟨_, _, rfl, hx⟩ := ucons_ok hx; obtain ⟨_, _, rfl, hx⟩ := ucons_ok hx; obtain ⟨_, _, rfl, hx⟩ := ucons_ok hx; obtain ⟨rfl, hx⟩ := u0_ok hx; exact S114 (n := n) (cl := cl) hcl hx
  rcases sw_ok hx with ⟨rfl, hx⟩ | hx
  · obtain ⟨_, _, rfl, hx⟩ := ucons_ok hx; obtain ⟨_, _, rfl, hx⟩ := ucons_ok hx; obtain ⟨rfl, hx⟩ := u0_ok hx; exact S117 (n := n) (cl := cl) hcl hx
  rcases sw_ok hx with ⟨rfl, hx⟩ | hx
  · obtain ⟨_, _, rfl, hx⟩ := ucons_ok hx; obtain ⟨_, _, rfl, hx⟩ := ucons_ok hx; obtain ⟨_, _, rfl, hx⟩ := ucons_ok hx; obtain ⟨_, _, rfl, hx⟩ := ucons_ok hx; obtain ⟨rfl, hx⟩ := u0_ok hx; exact S118 (n := n) (cl := cl) hcl hx
  rcases sw_ok hx with ⟨rfl, hx⟩ | hx
  · obtain ⟨_, _, rfl, hx⟩ := ucons_ok hx; obtain ⟨_, _, rfl, hx⟩ := ucons_ok hx; obtain ⟨_, _, rfl, hx⟩ := ucons_ok hx; obtain ⟨_, _, rfl, hx⟩ := ucons_ok hx; obtain ⟨rfl, hx⟩ := u0_ok hx; exact S119 (n := n) (cl := cl) hcl hx
  rcases sw_ok hx with ⟨rfl, hx⟩ | hx
  · obtain ⟨_, _, rfl, hx⟩ := ucons_ok hx; obtain ⟨_, _, rfl, hx⟩ := ucons_ok hx; obtain ⟨_, _, rfl, hx⟩ := ucons_ok hx; obtain ⟨rfl, hx⟩ := u0_ok hx; exact S116 (n := n) (cl := cl) hcl hx
  rcases sw_ok hx with ⟨rfl, hx⟩ | hx
  · obtain ⟨_, _, rfl, hx⟩ := ucons_ok hx; obtain ⟨_, _, rfl, hx⟩ := ucons_ok hx; obtain ⟨_, _, rfl, hx⟩ := ucons_ok hx; obtain ⟨rfl, hx⟩ := u0_ok hx; exact S115 (n := n) (cl := cl) hcl hx
  rcases sw_ok hx with ⟨rfl, hx⟩ | hx
  · obtain ⟨_, _, rfl, hx⟩ := ucons_ok hx; obtain ⟨_, _, rfl, hx⟩ := ucons_ok hx; obtain ⟨_, _, rfl, hx⟩ := ucons_ok hx; obtain ⟨rfl, hx⟩ := u0_ok hx; exact S113 (n := n) (cl := cl) hcl hx
  exact hcl _ _ _ _ _ hx
theorem E104 (n : Nat) (cl : CL) (a0 a1 a2 a3 : Value) (h : PH) : exF Try.prog n (D104 n cl) ⟨[117], [], [(2, [0, 1, 2, 3, 8, 9]), (10, [0, 1, 2, 3, 8, 9, 10]), (15, [0, 1, 2, 3, 8, 9, 10, 11, 12]), (17, [0, 1, 2, 3, 8, 9, 10, 11])], [(17, [0, 1, 2, 3, 4, 5, 6, 8, 9, 10, 7, 11, 12, 13, 14])], [], [], [], []⟩ Try.f104 [a0, a1, a2, a3] h = F104 n cl a0 a1 a2 a3 h := by kernel_rfl
theorem S104 {n : Nat} {cl : CL} (hcl : OkCL Try.prog cl) {a0 a1 a2 a3 : Value} {h h' : PH} {v : Value} (hx : F104 n cl a0 a1 a2 a3 h = some (v, h')) : (enterable Try.prog 104 = true ∧ ACall Try.prog 104 [a0, a1, a2, a3] h.abs (fun u k => u = v ∧ k = h'.abs)) ∧ Inv h h' :=
  exF_ok (Dk104 hcl) hmx Try.func104 (by kernel_rfl) ((E104 n cl a0 a1 a2 a3 h).trans hx)
-- slices.Sort[[]int,int]
noncomputable def F85 (n : Nat) (cl : CL) (a0 : Value) (h : PH) : R :=
 vb (xLenS a0) fun v1 =>
 vb (xConvI .u64 v1) fun v2 =>
 vb (pcall (F105 n cl v2 (h.fzn))) fun v3 =>
 hb (cl 104 [a0, (vN 0), v1, v3] h) fun v4 h =>
 some (Value.tuple ⟨[]⟩, h)
noncomputable def D85 (n : Nat) (cl : CL) : CL := fun f xs h => sw f 105 (ucons xs fun b0 xs => u0 xs (F105 n cl b0 h)) (cl f xs h)
theorem Dk85 {n : Nat} {cl : CL} (hcl : OkCL Try.prog cl) : OkCL Try.prog (D85 n cl) := by
  intro f xs h v h' hx
  rcases sw_ok hx with ⟨rfl, hx⟩ | hx
  · obtain ⟨_, _, rfl, hx⟩ := ucons_ok hx; obtain ⟨rfl, hx⟩ := u0_ok hx; exact S105 (n := n) (cl := cl) hcl hx
  exact hcl _ _ _ _ _ hx
theorem E85 (n : Nat) (cl : CL) (a0 : Value) (h : PH) : exF Try.prog n (D85 n cl) ⟨[105], [], [], [], [], [], [], []⟩ Try.f85 [a0] h = F85 n cl a0 h := by kernel_rfl
theorem S85 {n : Nat} {cl : CL} (hcl : OkCL Try.prog cl) {a0 : Value} {h h' : PH} {v : Value} (hx : F85 n cl a0 h = some (v, h')) : (enterable Try.prog 85 = true ∧ ACall Try.prog 85 [a0] h.abs (fun u k => u = v ∧ k = h'.abs)) ∧ Inv h h' :=
  exF_ok (Dk85 hcl) hmx Try.func85 (by kernel_rfl) ((E85 n cl a0 h).trans hx)
-- slices.Compact[[]int,int]
noncomputable def F86_0 (n : Nat) (cl : CL) (v38 : Value) (r19 : Kt) (v32 : Value) (v34 : Value) (v36 : Value) (h : PH) : R :=
 vb (xAri Int.add v38 (vN 1)) fun v40 =>
 r19 [v32, v34, v36, v40] h
noncomputable def F86_1 (n : Nat) (cl : CL) (v24 : Value) (v26 : Value) (v20 : Value) (v22 : Value) (k31 : Kt) (h : PH) : R :=
 vb (xIdxS 1 v24 v26) fun v47 =>
 vb (xLd v47 h) fun v48 =>
 vb (xIdxS 1 v20 v22) fun v49 =>
 hb (xSt1 v49 v48 h) fun _ h =>
 vb (xAri Int.add v22 (vN 1)) fun v50 =>
 k31 [v20, v50, v24, v26] h
noncomputable def F86_2 (n : Nat) (cl : CL) (r19 : Kt) (y30 : List Value) (h : PH) : R :=
 ucons y30 fun v32 y33 => ucons y33 fun v34 y35 => ucons y35 fun v36 y37 => ucons y37 fun v38 y39 => F86_0 n cl v38 r19 v32 v34 v36 h
noncomputable def F86_3 (n : Nat) (cl : CL) (v24 : Value) (v26 : Value) (v20 : Value) (v22 : Value) (h : PH) (k31 : Kt) : R :=
 vb (xIdxS 1 v24 v26) fun v41 =>
 vb (xAri Int.sub v26 (vN 1)) fun v42 =>
 vb (xIdxS 1 v24 v42) fun v43 =>
 vb (xLd v41 h) fun v44 =>
 vb (xLd v43 h) fun v45 =>
 vb (xCmp ine v44 v45) fun v46 =>
 bite v46 (F86_1 n cl v24 v26 v20 v22 k31 h) (k31 [v20, v22, v24, v26] h)
noncomputable def F86_4 (n : Nat) (cl : CL) (v20 : Value) (v22 : Value) (h : PH) : R :=
 vb (acut Try.prog 28 v20 (some v22) none none) fun v51 =>
 hb (xClear (zinfo Try.prog 28) v51 h) fun _ h =>
 vb (acut Try.prog 28 v20 none (some v22) none) fun v52 =>
 some (v52, h)
noncomputable def F86_5 (n : Nat) (cl : CL) (v24 : Value) (v26 : Value) (r19 : Kt) (v20 : Value) (v22 : Value) (h : PH) : R :=
 vb (xLenS v24) fun v28 =>
 vb (xCmp ilt v26 v28) fun v29 =>
 bite v29 (jn (F86_2 n cl r19) (F86_3 n cl v24 v26 v20 v22 h)) (F86_4 n cl v20 v22 h)
noncomputable def F86_6 (n : Nat) (cl : CL) (r19 : Kt) (y18 : List Value) (h : PH) : R :=
 ucons y18 fun v20 y21 => ucons y21 fun v22 y23 => ucons y23 fun v24 y25 => ucons y25 fun v26 y27 => F86_5 n cl v24 v26 r19 v20 v22 h
noncomputable def F86_7 (n : Nat) (cl : CL) (v5 : Value) (v7 : Value) (h : PH) : R :=
 vb (acut Try.prog 28 v5 (some v7) none none) fun v17 =>
 lp n (F86_6 n cl) [v5, v7, v17, (vN 1)] h
noncomputable def F86_8 (n : Nat) (cl : CL) (v7 : Value) (r4 : Kt) (v5 : Value) (h : PH) : R :=
 vb (xAri Int.add v7 (vN 1)) fun v53 =>
 r4 [v5, v53] h
noncomputable def F86_9 (n : Nat) (cl : CL) (v5 : Value) (v7 : Value) (r4 : Kt) (h : PH) : R :=
 vb (xIdxS 1 v5 v7) fun v11 =>
 vb (xAri Int.sub v7 (vN 1)) fun v12 =>
 vb (xIdxS 1 v5 v12) fun v13 =>
 vb (xLd v11 h) fun v14 =>
 vb (xLd v13 h) fun v15 =>
 vb (xCmp ieq v14 v15) fun v16 =>
 bite v16 (F86_7 n cl v5 v7 h) (F86_8 n cl v7 r4 v5 h)
noncomputable def F86_10 (n : Nat) (cl : CL) (v5 : Value) (v7 : Value) (r4 : Kt) (h : PH) : R :=
 vb (xLenS v5) fun v9 =>
 vb (xCmp ilt v7 v9) fun v10 =>
 bite v10 (F86_9 n cl v5 v7 r4 h) (some (v5, h))
noncomputable def F86_11 (n : Nat) (cl : CL) (a0 : Value) (h : PH) : R :=
 lp n (fun r4 y3 h => ucons y3 fun v5 y6 => ucons y6 fun v7 y8 => F86_10 n cl v5 v7 r4 h) [a0, (vN 1)] h
noncomputable def F86 (n : Nat) (cl : CL) (a0 : Value) (h : PH) : R :=
 vb (xLenS a0) fun v1 =>
 vb (xCmp ilt v1 (vN 2)) fun v2 =>
 bite v2 (some (a0, h)) (F86_11 n cl a0 h)
theorem E86 (n : Nat) (cl : CL) (a0 : Value) (h : PH) : exF Try.prog n cl ⟨[], [], [(4, [0, 3]), (9, [0, 3, 4, 5]), (10, [0, 3, 4, 5])], [(6, [0, 1, 2, 4, 5, 6, 7, 3, 8, 9]), (11, [0, 1, 2, 4, 5, 6, 7, 3, 8, 9])], [], [], [], []⟩ Try.f86 [a0] h = F86 n cl a0 h := by kernel_rfl
theorem S86 {n : Nat} {cl : CL} (hcl : OkCL Try.prog cl) {a0 : Value} {h h' : PH} {v : Value} (hx : F86 n cl a0 h = some (v, h')) : (enterable Try.prog 86 = true ∧ ACall Try.prog 86 [a0] h.abs (fun u k => u = v ∧ k = h'.abs)) ∧ Inv h h' :=
  exF_ok hcl hmx Try.func86 (by kernel_rfl) ((E86 n cl a0 h).trans hx)
-- undergrowth/posit.after
noncomputable def F59_0 (n : Nat) (cl : CL) (v26 : Value) (r4 : Kt) (v18 : Value) (v20 : Value) (v22 : Value) (v24 : Value) (h : PH) : R :=
 vb (xAri Int.add v26 (vN 1)) fun v28 =>
 r4 [v18, v20, v22, v24, v28] h
noncomputable def F59_1 (n : Nat) (cl : CL) (v5 : Value) (v30 : Value) (v7 : Value) (k17 : Kt) (v9 : Value) (v11 : Value) (v13 : Value) (h : PH) : R :=
 vb (xFld 4 v5) fun v35 =>
 vb (xLd v35 h) fun v36 =>
 vb (xIdxS 1 v36 v30) fun v37 =>
 vb (xLd v37 h) fun v38 =>
 hb (xApp (appInfo Try.prog #[28, 28]) v7 v38 h) fun v39 h =>
 k17 [v5, v39, v9, v11, v13] h
noncomputable def F59_2 (n : Nat) (cl : CL) (r4 : Kt) (y16 : List Value) (h : PH) : R :=
 ucons y16 fun v18 y19 => ucons y19 fun v20 y21 => ucons y21 fun v22 y23 => ucons y23 fun v24 y25 => ucons y25 fun v26 y27 => F59_0 n cl v26 r4 v18 v20 v22 v24 h
noncomputable def F59_3 (n : Nat) (cl : CL) (v9 : Value) (v13 : Value) (v5 : Value) (v7 : Value) (v11 : Value) (h : PH) (k17 : Kt) : R :=
 vb (xIdxS 1 v9 v13) fun v29 =>
 vb (xLd v29 h) fun v30 =>
 vb (xFld 4 v5) fun v31 =>
 vb (xLd v31 h) fun v32 =>
 vb (xLenS v32) fun v33 =>
 vb (xCmp ilt v30 v33) fun v34 =>
 bite v34 (F59_1 n cl v5 v30 v7 k17 v9 v11 v13 h) (k17 [v5, v7, v9, v11, v13] h)
noncomputable def F59_4 (n : Nat) (cl : CL) (v7 : Value) (h : PH) : R :=
 hb (F85 n cl v7 h) fun v40 h =>
 hb (F86 n cl v7 h) fun v41 h =>
 some (v41, h)
noncomputable def F59_5 (n : Nat) (cl : CL) (v13 : Value) (v11 : Value) (r4 : Kt) (v9 : Value) (v5 : Value) (v7 : Value) (h : PH) : R :=
 vb (xCmp ilt v13 v11) fun v15 =>
 bite v15 (jn (F59_2 n cl r4) (F59_3 n cl v9 v13 v5 v7 v11 h)) (F59_4 n cl v7 h)
noncomputable def F59_6 (n : Nat) (cl : CL) (r4 : Kt) (y3 : List Value) (h : PH) : R :=
 ucons y3 fun v5 y6 => ucons y6 fun v7 y8 => ucons y8 fun v9 y10 => ucons y10 fun v11 y12 => ucons y12 fun v13 y14 => F59_5 n cl v13 v11 r4 v9 v5 v7 h
noncomputable def F59 (n : Nat) (cl : CL) (a0 a1 : Value) (h : PH) : R :=
 hb (xBox a0 h) fun v1 h =>
 vb (xLenS a1) fun v2 =>
 lp n (F59_6 n cl) [v1, nils, a1, v2, (vN 0)] h
noncomputable def D59 (n : Nat) (cl : CL) : CL := fun f xs h => sw f 85 (ucons xs fun b0 xs => u0 xs (F85 n cl b0 h)) (sw f 86 (ucons xs fun b0 xs => u0 xs (F86 n cl b0 h)) (cl f xs h))
theorem Dk59 {n : Nat} {cl : CL} (hcl : OkCL Try.prog cl) : OkCL Try.prog (D59 n cl) := by
  intro f xs h v h' hx
  rcases sw_ok hx with ⟨rfl, hx⟩ | hx
  · obtain ⟨_, _, rfl, hx⟩ := ucons_ok hx; obtain ⟨rfl, hx⟩ := u0_ok hx; exact S85 (n := n) (cl := cl) hcl hx
  rcases sw_ok hx with ⟨rfl, hx⟩ | hx
  · obtain ⟨_, _, rfl, hx⟩ := ucons_ok hx; obtain ⟨rfl, hx⟩ := u0_ok hx; exact S86 (n := n) (cl := cl) hcl hx
  exact hcl _ _ _ _ _ hx
theorem E59 (n : Nat) (cl : CL) (a0 a1 : Value) (h : PH) : exF Try.prog n (D59 n cl) ⟨[], [], [(3, [2, 5, 8, 9, 10]), (7, [2, 5, 8, 9, 10])], [], [], [], [], []⟩ Try.f59 [a0, a1] h = F59 n cl a0 a1 h := by kernel_rfl
theorem S59 {n : Nat} {cl : CL} (hcl : OkCL Try.prog cl) {a0 a1 : Value} {h h' : PH} {v : Value} (hx : F59 n cl a0 a1 h = some (v, h')) : (enterable Try.prog 59 = true ∧ ACall Try.prog 59 [a0, a1] h.abs (fun u k => u = v ∧ k = h'.abs)) ∧ Inv h h' :=
  exF_ok (Dk59 hcl) hmx Try.func59 (by kernel_rfl) ((E59 n cl a0 a1 h).trans hx)
-- slices.Index[[]int,int]
noncomputable def F88_0 (n : Nat) (cl : CL) (v10 : Value) (r3 : Kt) (v4 : Value) (v6 : Value) (v8 : Value) (h : PH) : R :=
 vb (xAri Int.add v10 (vN 1)) fun v16 =>
 r3 [v4, v6, v8, v16] h
noncomputable def F88_1 (n : Nat) (cl : CL) (v4 : Value) (v10 : Value) (v6 : Value) (r3 : Kt) (v8 : Value) (h : PH) : R :=
 vb (xIdxS 1 v4 v10) fun v13 =>
 vb (xLd v13 h) fun v14 =>
 vb (xCmp ieq v6 v14) fun v15 =>
 bite v15 (some (v10, h)) (F88_0 n cl v10 r3 v4 v6 v8 h)
noncomputable def F88_2 (n : Nat) (cl : CL) (v10 : Value) (v8 : Value) (v4 : Value) (v6 : Value) (r3 : Kt) (h : PH) : R :=
 vb (xCmp ilt v10 v8) fun v12 =>
 bite v12 (F88_1 n cl v4 v10 v6 r3 v8 h) (some ((vM 0), h))
noncomputable def F88_3 (n : Nat) (cl : CL) (r3 : Kt) (y2 : List Value) (h : PH) : R :=
 ucons y2 fun v4 y5 => ucons y5 fun v6 y7 => ucons y7 fun v8 y9 => ucons y9 fun v10 y11 => F88_2 n cl v10 v8 v4 v6 r3 h
noncomputable def F88 (n : Nat) (cl : CL) (a0 a1 : Value) (h : PH) : R :=
 vb (xLenS a0) fun v1 =>
 lp n (F88_3 n cl) [a0, a1, v1, (vN 0)] h
theorem E88 (n : Nat) (cl : CL) (a0 a1 : Value) (h : PH) : exF Try.prog n cl ⟨[], [], [(2, [0, 1, 7, 8])], [], [], [], [], []⟩ Try.f88 [a0, a1] h = F88 n cl a0 a1 h := by kernel_rfl
theorem S88 {n : Nat} {cl : CL} (hcl : OkCL Try.prog cl) {a0 a1 : Value} {h h' : PH} {v : Value} (hx : F88 n cl a0 a1 h = some (v, h')) : (enterable Try.prog 88 = true ∧ ACall Try.prog 88 [a0, a1] h.abs (fun u k => u = v ∧ k = h'.abs)) ∧ Inv h h' :=
  exF_ok hcl hmx Try.func88 (by kernel_rfl) ((E88 n cl a0 a1 h).trans hx)
-- slices.Contains[[]int,int]
noncomputable def F62 (n : Nat) (cl : CL) (a0 a1 : Value) (h : PH) : R :=
 vb (pcall (F88 n cl a0 a1 (h.fzn))) fun v1 =>
 vb (xCmp (fun x y => ile y x) v1 (vN 0)) fun v2 =>
 some (v2, h)
noncomputable def D62 (n : Nat) (cl : CL) : CL := fun f xs h => sw f 88 (ucons xs fun b0 xs => ucons xs fun b1 xs => u0 xs (F88 n cl b0 b1 h)) (cl f xs h)
theorem Dk62 {n : Nat} {cl : CL} (hcl : OkCL Try.prog cl) : OkCL Try.prog (D62 n cl) := by
  intro f xs h v h' hx
  rcases sw_ok hx with ⟨rfl, hx⟩ | hx
  · obtain ⟨_, _, rfl, hx⟩ := ucons_ok hx; obtain ⟨_, _, rfl, hx⟩ := ucons_ok hx; obtain ⟨rfl, hx⟩ := u0_ok hx; exact S88 (n := n) (cl := cl) hcl hx
  exact hcl _ _ _ _ _ hx
theorem E62 (n : Nat) (cl : CL) (a0 a1 : Value) (h : PH) : exF Try.prog n (D62 n cl) ⟨[88], [], [], [], [], [], [], []⟩ Try.f62 [a0, a1] h = F62 n cl a0 a1 h := by kernel_rfl
theorem S62 {n : Nat} {cl : CL} (hcl : OkCL Try.prog cl) {a0 a1 : Value} {h h' : PH} {v : Value} (hx : F62 n cl a0 a1 h = some (v, h')) : (enterable Try.prog 62 = true ∧ ACall Try.prog 62 [a0, a1] h.abs (fun u k => u = v ∧ k = h'.abs)) ∧ Inv h h' :=
  exF_ok (Dk62 hcl) hmx Try.func62 (by kernel_rfl) ((E62 n cl a0 a1 h).trans hx)
-- undergrowth/posit.Takes$1
noncomputable def F61 (n : Nat) (cl : CL) (a0 a1 : Value) (h : PH) : R :=
 vb (xFld 3 a1) fun v1 =>
 vb (xLd v1 h) fun v2 =>
 vb (pcall (F62 n cl v2 a0 (h.fzn))) fun v3 =>
 some (v3, h)
noncomputable def D61 (n : Nat) (cl : CL) : CL := fun f xs h => sw f 62 (ucons xs fun b0 xs => ucons xs fun b1 xs => u0 xs (F62 n cl b0 b1 h)) (cl f xs h)
theorem Dk61 {n : Nat} {cl : CL} (hcl : OkCL Try.prog cl) : OkCL Try.prog (D61 n cl) := by
  intro f xs h v h' hx
  rcases sw_ok hx with ⟨rfl, hx⟩ | hx
  · obtain ⟨_, _, rfl, hx⟩ := ucons_ok hx; obtain ⟨_, _, rfl, hx⟩ := ucons_ok hx; obtain ⟨rfl, hx⟩ := u0_ok hx; exact S62 (n := n) (cl := cl) hcl hx
  exact hcl _ _ _ _ _ hx
theorem E61 (n : Nat) (cl : CL) (a0 a1 : Value) (h : PH) : exF Try.prog n (D61 n cl) ⟨[62], [], [], [], [], [], [], []⟩ Try.f61 [a0, a1] h = F61 n cl a0 a1 h := by kernel_rfl
theorem S61 {n : Nat} {cl : CL} (hcl : OkCL Try.prog cl) {a0 a1 : Value} {h h' : PH} {v : Value} (hx : F61 n cl a0 a1 h = some (v, h')) : (enterable Try.prog 61 = true ∧ ACall Try.prog 61 [a0, a1] h.abs (fun u k => u = v ∧ k = h'.abs)) ∧ Inv h h' :=
  exF_ok (Dk61 hcl) hmx Try.func61 (by kernel_rfl) ((E61 n cl a0 a1 h).trans hx)
-- slices.IndexFunc[[]int,int]
noncomputable def F87_0 (n : Nat) (cl : CL) (v10 : Value) (r3 : Kt) (v4 : Value) (v6 : Value) (v8 : Value) (h : PH) : R :=
 vb (xAri Int.add v10 (vN 1)) fun v16 =>
 r3 [v4, v6, v8, v16] h
noncomputable def F87_1 (n : Nat) (cl : CL) (v4 : Value) (v10 : Value) (v6 : Value) (r3 : Kt) (v8 : Value) (h : PH) : R :=
 vb (xIdxS 1 v4 v10) fun v13 =>
 vb (xLd v13 h) fun v14 =>
 hb (xCall cl v6 [v14] h) fun v15 h =>
 bite v15 (some (v10, h)) (F87_0 n cl v10 r3 v4 v6 v8 h)
noncomputable def F87_2 (n : Nat) (cl : CL) (v10 : Value) (v8 : Value) (v4 : Value) (v6 : Value) (r3 : Kt) (h : PH) : R :=
 vb (xCmp ilt v10 v8) fun v12 =>
 bite v12 (F87_1 n cl v4 v10 v6 r3 v8 h) (some ((vM 0), h))
noncomputable def F87_3 (n : Nat) (cl : CL) (r3 : Kt) (y2 : List Value) (h : PH) : R :=
 ucons y2 fun v4 y5 => ucons y5 fun v6 y7 => ucons y7 fun v8 y9 => ucons y9 fun v10 y11 => F87_2 n cl v10 v8 v4 v6 r3 h
noncomputable def F87 (n : Nat) (cl : CL) (a0 a1 : Value) (h : PH) : R :=
 vb (xLenS a0) fun v1 =>
 lp n (F87_3 n cl) [a0, a1, v1, (vN 0)] h
theorem E87 (n : Nat) (cl : CL) (a0 a1 : Value) (h : PH) : exF Try.prog n cl ⟨[], [], [(2, [0, 1, 7, 8])], [], [], [], [], []⟩ Try.f87 [a0, a1] h = F87 n cl a0 a1 h := by kernel_rfl
theorem S87 {n : Nat} {cl : CL} (hcl : OkCL Try.prog cl) {a0 a1 : Value} {h h' : PH} {v : Value} (hx : F87 n cl a0 a1 h = some (v, h')) : (enterable Try.prog 87 = true ∧ ACall Try.prog 87 [a0, a1] h.abs (fun u k => u = v ∧ k = h'.abs)) ∧ Inv h h' :=
  exF_ok hcl hmx Try.func87 (by kernel_rfl) ((E87 n cl a0 a1 h).trans hx)
-- slices.ContainsFunc[[]int,int]
noncomputable def F60 (n : Nat) (cl : CL) (a0 a1 : Value) (h : PH) : R :=
 vb (pcall (F87 n cl a0 a1 (h.fzn))) fun v1 =>
 vb (xCmp (fun x y => ile y x) v1 (vN 0)) fun v2 =>
 some (v2, h)
noncomputable def D60 (n : Nat) (cl : CL) : CL := fun f xs h => sw f 87 (ucons xs fun b0 xs => ucons xs fun b1 xs => u0 xs (F87 n cl b0 b1 h)) (cl f xs h)
theorem Dk60 {n : Nat} {cl : CL} (hcl : OkCL Try.prog cl) : OkCL Try.prog (D60 n cl) := by
  intro f xs h v h' hx
  rcases sw_ok hx with ⟨rfl, hx⟩ | hx
  · obtain ⟨_, _, rfl, hx⟩ := ucons_ok hx; obtain ⟨_, _, rfl, hx⟩ := ucons_ok hx; obtain ⟨rfl, hx⟩ := u0_ok hx; exact S87 (n := n) (cl := cl) hcl hx
  exact hcl _ _ _ _ _ hx
theorem E60 (n : Nat) (cl : CL) (a0 a1 : Value) (h : PH) : exF Try.prog n (D60 n cl) ⟨[87], [], [], [], [], [], [], []⟩ Try.f60 [a0, a1] h = F60 n cl a0 a1 h := by kernel_rfl
theorem S60 {n : Nat} {cl : CL} (hcl : OkCL Try.prog cl) {a0 a1 : Value} {h h' : PH} {v : Value} (hx : F60 n cl a0 a1 h = some (v, h')) : (enterable Try.prog 60 = true ∧ ACall Try.prog 60 [a0, a1] h.abs (fun u k => u = v ∧ k = h'.abs)) ∧ Inv h h' :=
  exF_ok (Dk60 hcl) hmx Try.func60 (by kernel_rfl) ((E60 n cl a0 a1 h).trans hx)
-- undergrowth/posit.Takes
noncomputable def F31_0 (n : Nat) (cl : CL) (v1 : Value) (h : PH) : R :=
 vb (xFld 1 v1) fun v4 =>
 vb (xLd v4 h) fun v5 =>
 some (v5, h)
noncomputable def F31_1 (n : Nat) (cl : CL) (v20 : Value) (v24 : Value) (v16 : Value) (v18 : Value) (r15 : Kt) (v22 : Value) (h : PH) : R :=
 vb (xIdxS 1 v20 v24) fun v27 =>
 vb (xLd v27 h) fun v28 =>
 vb (xLdA 5 v16 h) fun v29 =>
 vb (xLdA 5 v16 h) fun v30 =>
 hb (fcall h (F59 n cl v30 v18 (h.fzn))) fun v31 h =>
 lchk (xLdA 5 v16 h) v29 <|
 hb (fcall h (F58 n cl v29 v31 v28 (h.fzn))) fun v32 h =>
 vb (xAri Int.add v24 (vN 1)) fun v33 =>
 r15 [v16, v32, v20, v22, v33] h
noncomputable def F31_2 (n : Nat) (cl : CL) (v16 : Value) (v18 : Value) (h : PH) : R :=
 vb (some (Value.func (Fn.func 61) ⟨[]⟩ ⟨[v16]⟩)) fun v34 =>
 vb (pcall (F60 n cl v18 v34 (h.fzn))) fun v35 =>
 some (v35, h)
noncomputable def F31_3 (n : Nat) (cl : CL) (v24 : Value) (v22 : Value) (v20 : Value) (v16 : Value) (v18 : Value) (r15 : Kt) (h : PH) : R :=
 vb (xCmp ilt v24 v22) fun v26 =>
 bite v26 (F31_1 n cl v20 v24 v16 v18 r15 v22 h) (F31_2 n cl v16 v18 h)
noncomputable def F31_4 (n : Nat) (cl : CL) (r15 : Kt) (y14 : List Value) (h : PH) : R :=
 ucons y14 fun v16 y17 => ucons y17 fun v18 y19 => ucons y19 fun v20 y21 => ucons y21 fun v22 y23 => ucons y23 fun v24 y25 => F31_3 n cl v24 v22 v20 v16 v18 r15 h
noncomputable def F31_5 (n : Nat) (cl : CL) (v1 : Value) (a1 : Value) (h : PH) : R :=
 vb (xFld 2 v1) fun v6 =>
 vb (xIdxS 1 a1 (vN 0)) fun v7 =>
 vb (xLdA 5 v1 h) fun v8 =>
 vb (xLd v6 h) fun v9 =>
 vb (xLd v7 h) fun v10 =>
 hb (fcall h (F58 n cl v8 v9 v10 (h.fzn))) fun v11 h =>
 vb (acut Try.prog 39 a1 (some (vN 1)) none none) fun v12 =>
 vb (xLenS v12) fun v13 =>
 lp n (F31_4 n cl) [v1, v11, v12, v13, (vN 0)] h
noncomputable def F31 (n : Nat) (cl : CL) (a0 a1 : Value) (h : PH) : R :=
 hb (xBox a0 h) fun v1 h =>
 vb (xLenS a1) fun v2 =>
 vb (xCmp ieq v2 (vN 0)) fun v3 =>
 bite v3 (F31_0 n cl v1 h) (F31_5 n cl v1 a1 h)
noncomputable def D31 (n : Nat) (cl : CL) : CL := fun f xs h => sw f 58 (ucons xs fun b0 xs => ucons xs fun b1 xs => ucons xs fun b2 xs => u0 xs (F58 n cl b0 b1 b2 h)) (sw f 59 (ucons xs fun b0 xs => ucons xs fun b1 xs => u0 xs (F59 n cl b0 b1 h)) (sw f 60 (ucons xs fun b0 xs => ucons xs fun b1 xs => u0 xs (F60 n cl b0 b1 h)) (cl f xs h)))
theorem Dk31 {n : Nat} {cl : CL} (hcl : OkCL Try.prog cl) : OkCL Try.prog (D31 n cl) := by
  intro f xs h v h' hx
  rcases sw_ok hx with ⟨rfl, hx⟩ | hx
  · obtain ⟨_, _, rfl, hx⟩ := ucons_ok hx; obtain ⟨_, _, rfl, hx⟩ := ucons_ok hx; obtain ⟨_, _, rfl, hx⟩ := ucons_ok hx; obtain ⟨rfl, hx⟩ := u0_ok hx; exact S58 (n := n) (cl := cl) hcl hx
  rcases sw_ok hx with ⟨rfl, hx⟩ | hx
  · obtain ⟨_, _, rfl, hx⟩ := ucons_ok hx; obtain ⟨_, _, rfl, hx⟩ := ucons_ok hx; obtain ⟨rfl, hx⟩ := u0_ok hx; exact S59 (n := n) (cl := cl) hcl hx
  rcases sw_ok hx with ⟨rfl, hx⟩ | hx
  · obtain ⟨_, _, rfl, hx⟩ := ucons_ok hx; obtain ⟨_, _, rfl, hx⟩ := ucons_ok hx; obtain ⟨rfl, hx⟩ := u0_ok hx; exact S60 (n := n) (cl := cl) hcl hx
  exact hcl _ _ _ _ _ hx
theorem E31 (n : Nat) (cl : CL) (a0 a1 : Value) (h : PH) : exF Try.prog n (D31 n cl) ⟨[60], [58, 59], [(5, [2, 5, 21, 22, 23])], [(3, [1, 3, 4, 0, 2, 5, 6, 7]), (7, [2, 4, 0, 1, 3, 5, 6])], [(7, [0, 3])], [], [], []⟩ Try.f31 [a0, a1] h = F31 n cl a0 a1 h := by kernel_rfl
theorem S31 {n : Nat} {cl : CL} (hcl : OkCL Try.prog cl) {a0 a1 : Value} {h h' : PH} {v : Value} (hx : F31 n cl a0 a1 h = some (v, h')) : (enterable Try.prog 31 = true ∧ ACall Try.prog 31 [a0, a1] h.abs (fun u k => u = v ∧ k = h'.abs)) ∧ Inv h h' :=
  exF_ok (Dk31 hcl) hmx Try.func31 (by kernel_rfl) ((E31 n cl a0 a1 h).trans hx)
-- undergrowth/undergrowthlaw4.alive
noncomputable def F24 (n : Nat) (cl : CL) (h : PH) : R :=
 vb (abuild Try.prog 57 []) fun v1 =>
 hb (F26 n cl v1 h) fun v2 h =>
 vb (xExt 0 v2) fun v3 =>
 vb (xExt 1 v2) fun v4 =>
 hb (xAlloc (zcells Try.prog 43) h) fun v5 h =>
 hb (xStA 5 v5 v3 h) fun _ h =>
 vb (abuild Try.prog 54 [(0, (Value.int .u64 (.ofNat 0))), (1, (Value.int .u64 (.ofNat 8589934592)))]) fun v6 =>
 vb (abuild Try.prog 57 [(0, (vN 1)), (1, v6)]) fun v7 =>
 hb (F26 n cl v7 h) fun v8 h =>
 vb (xExt 0 v8) fun v9 =>
 vb (xExt 1 v8) fun v10 =>
 hb (xAlloc (zcells Try.prog 43) h) fun v11 h =>
 hb (xStA 5 v11 v9 h) fun _ h =>
 vb (pcall (F29 n cl v4 (h.fzn))) fun v12 =>
 vb (xCmp ieq v12 (vN 0)) fun v13 =>
 vb (gd (isB true v13) (xFld 0 v5)) fun v14 =>
 vb (gd (isB true v13) (xLd v14 h)) fun v15 =>
 vb (gd (isB true v13) (xLenS v15)) fun v16 =>
 vb (gd (isB true v13) (xCmp ieq v16 (vN 0))) fun v17 =>
 vb (xPick v13 v17 ff) fun v18 =>
 vb (gd (isB true v18) (xFld 1 v5)) fun v19 =>
 vb (gd (isB true v18) (xLd v19 h)) fun v20 =>
 vb (xPick v18 v20 ff) fun v21 =>
 vb (gd (isB true v21) (some v10)) fun v22 =>
 vb (gd (isB true v21) (pcall (F29 n cl v22 (h.fzn)))) fun v23 =>
 vb (gd (isB true v21) (xCmp ieq v23 (vN 0))) fun v24 =>
 vb (xPick v21 v24 ff) fun v25 =>
 vb (gd (isB true v25) (xFld 0 v11)) fun v26 =>
 vb (gd (isB true v25) (xLd v26 h)) fun v27 =>
 vb (gd (isB true v25) (xLenS v27)) fun v28 =>
 vb (gd (isB true v25) (xCmp ieq v28 (vN 1))) fun v29 =>
 vb (xPick v25 v29 ff) fun v30 =>
 vb (gd (isB true v30) (xLdA 5 v11 h)) fun v31 =>
 hb (gh (isB true v30) h (xBS 1 (bsRow Try.prog 39 1 [(0, (Value.int .u8 (.ofNat 97)))]) h)) fun v32 h =>
 hb (gh (isB true v30) h (xMark v32 h)) fun v33 h =>
 vb (gd (isB true v30) (pcall (F31 n cl v31 v33 (h.fzn)))) fun v34 =>
 vb (xPick v30 v34 ff) fun v35 =>
 some (v35, h)
noncomputable def D24 (n : Nat) (cl : CL) : CL := fun f xs h => sw f 26 (ucons xs fun b0 xs => u0 xs (F26 n cl b0 h)) (sw f 29 (ucons xs fun b0 xs => u0 xs (F29 n cl b0 h)) (sw f 31 (ucons xs fun b0 xs => ucons xs fun b1 xs => u0 xs (F31 n cl b0 b1 h)) (cl f xs h)))
theorem Dk24 {n : Nat} {cl : CL} (hcl : OkCL Try.prog cl) : OkCL Try.prog (D24 n cl) := by
  intro f xs h v h' hx
  rcases sw_ok hx with ⟨rfl, hx⟩ | hx
  · obtain ⟨_, _, rfl, hx⟩ := ucons_ok hx; obtain ⟨rfl, hx⟩ := u0_ok hx; exact S26 (n := n) (cl := cl) hcl hx
  rcases sw_ok hx with ⟨rfl, hx⟩ | hx
  · obtain ⟨_, _, rfl, hx⟩ := ucons_ok hx; obtain ⟨rfl, hx⟩ := u0_ok hx; exact S29 (n := n) (cl := cl) hcl hx
  rcases sw_ok hx with ⟨rfl, hx⟩ | hx
  · obtain ⟨_, _, rfl, hx⟩ := ucons_ok hx; obtain ⟨_, _, rfl, hx⟩ := ucons_ok hx; obtain ⟨rfl, hx⟩ := u0_ok hx; exact S31 (n := n) (cl := cl) hcl hx
  exact hcl _ _ _ _ _ hx
theorem E24 (n : Nat) (cl : CL) (h : PH) : exF Try.prog n (D24 n cl) ⟨[29, 31], [], [], [], [], [], [], []⟩ Try.f24 [] h = F24 n cl  h := by kernel_rfl
theorem S24 {n : Nat} {cl : CL} (hcl : OkCL Try.prog cl) {h h' : PH} {v : Value} (hx : F24 n cl h = some (v, h')) : (enterable Try.prog 24 = true ∧ ACall Try.prog 24 [] h.abs (fun u k => u = v ∧ k = h'.abs)) ∧ Inv h h' :=
  exF_ok (Dk24 hcl) hmx Try.func24 (by kernel_rfl) ((E24 n cl h).trans hx)
-- undergrowth/undergrowthref1.SamePosits
-- undergrowth/undergrowthlaw4.PositOf
-- undergrowth/undergrowthlaw4.PositTakes
-- undergrowth/undergrowthlaw4.takes
noncomputable def F32_0 (n : Nat) (cl : CL) (a1 : Value) (v1 : Value) (h : PH) : R :=
 vb (xLenS a1) fun v6 =>
 vb (xCmp ieq v6 (vN 1)) fun v7 =>
 vb (gd (isB true v7) (xFld 1 v1)) fun v8 =>
 vb (gd (isB true v7) (some a1)) fun v9 =>
 vb (gd (isB true v7) (xIdxS 1 v9 (vN 0))) fun v10 =>
 vb (gd (isB true v7) (xLdA 4 v8 h)) fun v11 =>
 vb (gd (isB true v7) (xLd v10 h)) fun v12 =>
 vb (gd (isB true v7) (pcall (F44 n cl v11 v12 (h.fzn)))) fun v13 =>
 vb (xPick v7 v13 ff) fun v14 =>
 some (v14, h)
noncomputable def F32_1 (n : Nat) (cl : CL) (v24 : Value) (r17 : Kt) (v18 : Value) (v20 : Value) (v22 : Value) (h : PH) : R :=
 vb (xAri Int.add v24 (vN 1)) fun v36 =>
 r17 [v18, v20, v22, v36] h
noncomputable def F32_2 (n : Nat) (cl : CL) (v22 : Value) (v24 : Value) (v20 : Value) (v18 : Value) (r17 : Kt) (h : PH) : R :=
 vb (xFld 5 v22) fun v30 =>
 vb (xLd v30 h) fun v31 =>
 vb (xIdxS 6 v31 v24) fun v32 =>
 vb (xLdA 6 v32 h) fun v33 =>
 vb (xAri Int.sub v20 (vN 1)) fun v34 =>
 vb (pcall (cl 32 [v33, v18, v34] (h.fzn))) fun v35 =>
 bite v35 (some (tt, h)) (F32_1 n cl v24 r17 v18 v20 v22 h)
noncomputable def F32_3 (n : Nat) (cl : CL) (v22 : Value) (v24 : Value) (v20 : Value) (v18 : Value) (r17 : Kt) (h : PH) : R :=
 vb (xFld 5 v22) fun v26 =>
 vb (xLd v26 h) fun v27 =>
 vb (xLenS v27) fun v28 =>
 vb (xCmp ilt v24 v28) fun v29 =>
 bite v29 (F32_2 n cl v22 v24 v20 v18 r17 h) (some (ff, h))
noncomputable def F32_4 (n : Nat) (cl : CL) (r17 : Kt) (y16 : List Value) (h : PH) : R :=
 ucons y16 fun v18 y19 => ucons y19 fun v20 y21 => ucons y21 fun v22 y23 => ucons y23 fun v24 y25 => F32_3 n cl v22 v24 v20 v18 r17 h
noncomputable def F32_5 (n : Nat) (cl : CL) (v1 : Value) (a2 : Value) (a1 : Value) (h : PH) : R :=
 vb (xFld 5 v1) fun v42 =>
 vb (xLd v42 h) fun v43 =>
 vb (xIdxS 6 v43 (vN 0)) fun v44 =>
 vb (xLdA 6 v44 h) fun v45 =>
 vb (xAri Int.sub a2 (vN 1)) fun v46 =>
 vb (pcall (cl 32 [v45, a1, v46] (h.fzn))) fun v47 =>
 some (v47, h)
noncomputable def F32_6 (n : Nat) (cl : CL) (v56 : Value) (r49 : Kt) (v50 : Value) (v52 : Value) (v54 : Value) (h : PH) : R :=
 vb (xAri Int.add v56 (vN 1)) fun v78 =>
 r49 [v50, v52, v54, v78] h
noncomputable def F32_7 (n : Nat) (cl : CL) (v54 : Value) (v50 : Value) (v56 : Value) (v52 : Value) (r49 : Kt) (h : PH) : R :=
 vb (xFld 5 v54) fun v60 =>
 vb (acut Try.prog 39 v50 none (some v56) none) fun v61 =>
 vb (xAri Int.sub v52 (vN 1)) fun v62 =>
 vb (xLd v60 h) fun v63 =>
 vb (xIdxS 6 v63 (vN 0)) fun v64 =>
 vb (xLdA 6 v64 h) fun v65 =>
 vb (pcall (cl 32 [v65, v61, v62] (h.fzn))) fun v66 =>
 vb (gd (isB true v66) (xFld 5 v54)) fun v67 =>
 vb (gd (isB true v66) (some v50)) fun v68 =>
 vb (gd (isB true v66) (some v56)) fun v69 =>
 vb (gd (isB true v66) (acut Try.prog 39 v68 (some v69) none none)) fun v70 =>
 vb (gd (isB true v66) (some v52)) fun v71 =>
 vb (gd (isB true v66) (xAri Int.sub v71 (vN 1))) fun v72 =>
 vb (gd (isB true v66) (xLd v67 h)) fun v73 =>
 vb (gd (isB true v66) (acut Try.prog 55 v73 (some (vN 1)) none none)) fun v74 =>
 vb (gd (isB true v66) (abuild Try.prog 57 [(0, (vN 2)), (2, v74)])) fun v75 =>
 vb (gd (isB true v66) (pcall (cl 32 [v75, v70, v72] (h.fzn)))) fun v76 =>
 vb (xPick v66 v76 ff) fun v77 =>
 bite v77 (some (tt, h)) (F32_6 n cl v56 r49 v50 v52 v54 h)
noncomputable def F32_8 (n : Nat) (cl : CL) (v50 : Value) (v56 : Value) (v54 : Value) (v52 : Value) (r49 : Kt) (h : PH) : R :=
 vb (xLenS v50) fun v58 =>
 vb (xCmp ile v56 v58) fun v59 =>
 bite v59 (F32_7 n cl v54 v50 v56 v52 r49 h) (some (ff, h))
noncomputable def F32_9 (n : Nat) (cl : CL) (r49 : Kt) (y48 : List Value) (h : PH) : R :=
 ucons y48 fun v50 y51 => ucons y51 fun v52 y53 => ucons y53 fun v54 y55 => ucons y55 fun v56 y57 => F32_8 n cl v50 v56 v54 v52 r49 h
noncomputable def F32_10 (n : Nat) (cl : CL) (v1 : Value) (a2 : Value) (a1 : Value) (h : PH) : R :=
 vb (xFld 5 v1) fun v38 =>
 vb (xLd v38 h) fun v39 =>
 vb (xLenS v39) fun v40 =>
 vb (xCmp ieq v40 (vN 1)) fun v41 =>
 bite v41 (F32_5 n cl v1 a2 a1 h) (lp n (F32_9 n cl) [a1, a2, v1, (vN 0)] h)
noncomputable def F32_11 (n : Nat) (cl : CL) (a1 : Value) (v1 : Value) (a2 : Value) (h : PH) : R :=
 vb (xLenS a1) fun v80 =>
 vb (xCmp ieq v80 (vN 0)) fun v81 =>
 vb (gd (isB false v81) (xFld 5 v1)) fun v82 =>
 vb (gd (isB false v81) (xLd v82 h)) fun v83 =>
 vb (gd (isB false v81) (xIdxS 6 v83 (vN 0))) fun v84 =>
 vb (gd (isB false v81) (xLdA 6 v84 h)) fun v85 =>
 vb (gd (isB false v81) (some a1)) fun v86 =>
 vb (gd (isB false v81) (some a2)) fun v87 =>
 vb (gd (isB false v81) (xAri Int.sub v87 (vN 1))) fun v88 =>
 vb (gd (isB false v81) (pcall (cl 32 [v85, v86, v88] (h.fzn)))) fun v89 =>
 vb (xPick v81 tt v89) fun v90 =>
 some (v90, h)
noncomputable def F32_12 (n : Nat) (cl : CL) (v97 : Value) (v93 : Value) (v95 : Value) (h : PH) : R :=
 vb (xFld 0 v97) fun v103 =>
 vb (xLd v103 h) fun v104 =>
 vb (xCmp ieq v104 (vN 4)) fun v105 =>
 vb (gd (isB false v105) (xFld 5 v97)) fun v106 =>
 vb (gd (isB false v105) (xLd v106 h)) fun v107 =>
 vb (gd (isB false v105) (xIdxS 6 v107 (vN 0))) fun v108 =>
 vb (gd (isB false v105) (xLdA 6 v108 h)) fun v109 =>
 vb (gd (isB false v105) (some v93)) fun v110 =>
 vb (gd (isB false v105) (some v95)) fun v111 =>
 vb (gd (isB false v105) (xAri Int.sub v111 (vN 1))) fun v112 =>
 vb (gd (isB false v105) (pcall (cl 32 [v109, v110, v112] (h.fzn)))) fun v113 =>
 vb (xPick v105 tt v113) fun v114 =>
 some (v114, h)
noncomputable def F32_13 (n : Nat) (cl : CL) (v123 : Value) (r116 : Kt) (v117 : Value) (v119 : Value) (v121 : Value) (h : PH) : R :=
 vb (xAri Int.add v123 (vN 1)) fun v150 =>
 r116 [v117, v119, v121, v150] h
noncomputable def F32_14 (n : Nat) (cl : CL) (v121 : Value) (v117 : Value) (v123 : Value) (v119 : Value) (r116 : Kt) (h : PH) : R :=
 vb (xFld 5 v121) fun v127 =>
 vb (acut Try.prog 39 v117 none (some v123) none) fun v128 =>
 vb (xAri Int.sub v119 (vN 1)) fun v129 =>
 vb (xLd v127 h) fun v130 =>
 vb (xIdxS 6 v130 (vN 0)) fun v131 =>
 vb (xLdA 6 v131 h) fun v132 =>
 vb (pcall (cl 32 [v132, v128, v129] (h.fzn))) fun v133 =>
 vb (gd (isB true v133) (some v123)) fun v134 =>
 vb (gd (isB true v133) (some v117)) fun v135 =>
 vb (gd (isB true v133) (xLenS v135)) fun v136 =>
 vb (gd (isB true v133) (xCmp ieq v134 v136)) fun v137 =>
 vb (gd (isB true v133) (some v137)) fun v138 =>
 vb (gd (isB false v138) (xFld 5 v121)) fun v139 =>
 vb (gd (isB false v138) (some v117)) fun v140 =>
 vb (gd (isB false v138) (some v123)) fun v141 =>
 vb (gd (isB false v138) (acut Try.prog 39 v140 (some v141) none none)) fun v142 =>
 vb (gd (isB false v138) (some v119)) fun v143 =>
 vb (gd (isB false v138) (xAri Int.sub v143 (vN 1))) fun v144 =>
 vb (gd (isB false v138) (xLd v139 h)) fun v145 =>
 vb (gd (isB false v138) (abuild Try.prog 57 [(0, (vN 4)), (2, v145)])) fun v146 =>
 vb (gd (isB false v138) (pcall (cl 32 [v146, v142, v144] (h.fzn)))) fun v147 =>
 vb (gd (isB true v133) (xPick v138 tt v147)) fun v148 =>
 vb (xPick v133 v148 ff) fun v149 =>
 bite v149 (some (tt, h)) (F32_13 n cl v123 r116 v117 v119 v121 h)
noncomputable def F32_15 (n : Nat) (cl : CL) (v117 : Value) (v123 : Value) (v121 : Value) (v119 : Value) (r116 : Kt) (h : PH) : R :=
 vb (xLenS v117) fun v125 =>
 vb (xCmp ile v123 v125) fun v126 =>
 bite v126 (F32_14 n cl v121 v117 v123 v119 r116 h) (some (ff, h))
noncomputable def F32_16 (n : Nat) (cl : CL) (r116 : Kt) (y115 : List Value) (h : PH) : R :=
 ucons y115 fun v117 y118 => ucons y118 fun v119 y120 => ucons y120 fun v121 y122 => ucons y122 fun v123 y124 => F32_15 n cl v117 v123 v121 v119 r116 h
noncomputable def F32_17 (n : Nat) (cl : CL) (v93 : Value) (v97 : Value) (v95 : Value) (h : PH) : R :=
 vb (xLenS v93) fun v101 =>
 vb (xCmp ieq v101 (vN 0)) fun v102 =>
 bite v102 (F32_12 n cl v97 v93 v95 h) (lp n (F32_16 n cl) [v93, v95, v97, (vN 1)] h)
noncomputable def F32_18 (n : Nat) (cl : CL) (v93 : Value) (h : PH) : R :=
 vb (xLenS v93) fun v151 =>
 vb (xCmp ieq v151 (vN 0)) fun v152 =>
 some (v152, h)
noncomputable def F32_19 (n : Nat) (cl : CL) (v4 : Value) (k92 : Kt) (a1 : Value) (a2 : Value) (v1 : Value) (h : PH) : R :=
 vb (xCmp ieq v4 (vN 5)) fun v154 =>
 k92 [a1, a2, v1, v154] h
noncomputable def F32_20 (n : Nat) (cl : CL) (y91 : List Value) (h : PH) : R :=
 ucons y91 fun v93 y94 => ucons y94 fun v95 y96 => ucons y96 fun v97 y98 => ucons y98 fun v99 y100 => bite v99 (F32_17 n cl v93 v97 v95 h) (F32_18 n cl v93 h)
noncomputable def F32_21 (n : Nat) (cl : CL) (v4 : Value) (a1 : Value) (a2 : Value) (v1 : Value) (h : PH) (k92 : Kt) : R :=
 vb (xCmp ieq v4 (vN 4)) fun v153 =>
 bite v153 (k92 [a1, a2, v1, v153] h) (F32_19 n cl v4 k92 a1 a2 v1 h)
noncomputable def F32_22 (n : Nat) (cl : CL) (v4 : Value) (a1 : Value) (v1 : Value) (a2 : Value) (h : PH) : R :=
 vb (xCmp ieq v4 (vN 6)) fun v79 =>
 bite v79 (F32_11 n cl a1 v1 a2 h) (jn (F32_20 n cl) (F32_21 n cl v4 a1 a2 v1 h))
noncomputable def F32_23 (n : Nat) (cl : CL) (v4 : Value) (v1 : Value) (a2 : Value) (a1 : Value) (h : PH) : R :=
 vb (xCmp ieq v4 (vN 2)) fun v37 =>
 bite v37 (F32_10 n cl v1 a2 a1 h) (F32_22 n cl v4 a1 v1 a2 h)
noncomputable def F32_24 (n : Nat) (cl : CL) (v4 : Value) (a1 : Value) (a2 : Value) (v1 : Value) (h : PH) : R :=
 vb (xCmp ieq v4 (vN 3)) fun v15 =>
 bite v15 (lp n (F32_4 n cl) [a1, a2, v1, (vN 0)] h) (F32_23 n cl v4 v1 a2 a1 h)
noncomputable def F32_25 (n : Nat) (cl : CL) (v1 : Value) (a1 : Value) (a2 : Value) (h : PH) : R :=
 vb (xFld 0 v1) fun v3 =>
 vb (xLd v3 h) fun v4 =>
 vb (xCmp ieq v4 (vN 1)) fun v5 =>
 bite v5 (F32_0 n cl a1 v1 h) (F32_24 n cl v4 a1 a2 v1 h)
noncomputable def F32 (n : Nat) (cl : CL) (a0 a1 a2 : Value) (h : PH) : R :=
 hb (xBox a0 h) fun v1 h =>
 vb (xCmp ilt a2 (vN 0)) fun v2 =>
 bite v2 (some (ff, h)) (F32_25 n cl v1 a1 a2 h)
noncomputable def D32 (n : Nat) (cl : CL) : CL := fun f xs h => sw f 44 (ucons xs fun b0 xs => ucons xs fun b1 xs => u0 xs (F44 n cl b0 b1 h)) (cl f xs h)
theorem Dk32 {n : Nat} {cl : CL} (hcl : OkCL Try.prog cl) : OkCL Try.prog (D32 n cl) := by
  intro f xs h v h' hx
  rcases sw_ok hx with ⟨rfl, hx⟩ | hx
  · obtain ⟨_, _, rfl, hx⟩ := ucons_ok hx; obtain ⟨_, _, rfl, hx⟩ := ucons_ok hx; obtain ⟨rfl, hx⟩ := u0_ok hx; exact S44 (n := n) (cl := cl) hcl hx
  exact hcl _ _ _ _ _ hx
theorem E32 (n : Nat) (cl : CL) (a0 a1 a2 : Value) (h : PH) : exF Try.prog n (D32 n cl) ⟨[32, 44], [], [(8, [1, 2, 3, 7]), (17, [1, 2, 3, 8]), (26, [1, 2, 3, 102]), (29, [1, 2, 3, 9])], [(5, [0, 1, 2, 3, 4, 6, 7, 5, 8, 9, 10, 11]), (19, [0, 4, 5, 6, 7, 8, 1, 2, 3, 9, 10, 11, 15, 16, 17, 18, 19, 12, 13, 14, 20, 21]), (31, [0, 4, 5, 6, 7, 8, 1, 2, 3, 9, 10, 11, 12, 13, 14, 15, 16, 19, 20, 21, 22, 23, 17, 18, 24, 25, 26])], [], [], [], []⟩ Try.f32 [a0, a1, a2] h = F32 n cl a0 a1 a2 h := by kernel_rfl
theorem S32 {n : Nat} {cl : CL} (hcl : OkCL Try.prog cl) {a0 a1 a2 : Value} {h h' : PH} {v : Value} (hx : F32 n cl a0 a1 a2 h = some (v, h')) : (enterable Try.prog 32 = true ∧ ACall Try.prog 32 [a0, a1, a2] h.abs (fun u k => u = v ∧ k = h'.abs)) ∧ Inv h h' :=
  exF_ok (Dk32 hcl) hmx Try.func32 (by kernel_rfl) ((E32 n cl a0 a1 a2 h).trans hx)
-- undergrowth/undergrowthlaw4.PositMeans
noncomputable def F10_0 (n : Nat) (cl : CL) (v23 : Value) (v6 : Value) (a1 : Value) (h : PH) : R :=
 vb (xLdA 5 v23 h) fun v26 =>
 vb (xLdA 6 v6 h) fun v27 =>
 vb (pcall (F31 n cl v26 a1 (h.fzn))) fun v28 =>
 lchk (xLdA 6 v6 h) v27 <|
 vb (pcall (cl 32 [v27, a1, (vN 100)] (h.fzn))) fun v29 =>
 vb (abin Try.prog .eql 4 (Operand.tmp 45) (Operand.tmp 48) v28 v29) fun v30 =>
 some (v30, h)
noncomputable def F10_1 (n : Nat) (cl : CL) (v6 : Value) (a1 : Value) (h : PH) : R :=
 vb (xLdA 6 v6 h) fun v19 =>
 hb (F26 n cl v19 h) fun v20 h =>
 vb (xExt 0 v20) fun v21 =>
 vb (xExt 1 v20) fun v22 =>
 hb (xAlloc (zcells Try.prog 43) h) fun v23 h =>
 hb (xStA 5 v23 v21 h) fun _ h =>
 vb (pcall (F29 n cl v22 (h.fzn))) fun v24 =>
 vb (xCmp ine v24 (vN 0)) fun v25 =>
 bite v25 (some (tt, h)) (F10_0 n cl v23 v6 a1 h)
noncomputable def F10 (n : Nat) (cl : CL) (a0 a1 : Value) (h : PH) : R :=
 vb (pcall (cl 24 [] (h.fzn))) fun v1 =>
 hb (fcall h (F30 n cl a0 (h.fzn))) fun v2 h =>
 vb (xExt 0 v2) fun v3 =>
 vb (xExt 1 v2) fun v4 =>
 vb (xExt 2 v2) fun v5 =>
 hb (xAlloc (zcells Try.prog 57) h) fun v6 h =>
 hb (xStA 6 v6 v3 h) fun _ h =>
 vb (xNot v1) fun v7 =>
 vb (gd (isB false v7) (some v5)) fun v8 =>
 vb (gd (isB false v7) (xCmp ine v8 (vN 0))) fun v9 =>
 vb (xPick v7 tt v9) fun v10 =>
 vb (gd (isB false v10) (some a1)) fun v11 =>
 vb (gd (isB false v10) (xLenS v11)) fun v12 =>
 vb (gd (isB false v10) (xCmp (fun x y => ilt y x) v12 (vN 6))) fun v13 =>
 vb (xPick v10 tt v13) fun v14 =>
 vb (gd (isB false v14) (some a0)) fun v15 =>
 vb (gd (isB false v14) (xLenT v15)) fun v16 =>
 vb (gd (isB false v14) (xCmp (fun x y => ilt y x) v16 (vN 14))) fun v17 =>
 vb (xPick v14 tt v17) fun v18 =>
 bite v18 (some (v1, h)) (F10_1 n cl v6 a1 h)
noncomputable def D10 (n : Nat) (cl : CL) : CL := fun f xs h => sw f 30 (ucons xs fun b0 xs => u0 xs (F30 n cl b0 h)) (sw f 26 (ucons xs fun b0 xs => u0 xs (F26 n cl b0 h)) (sw f 29 (ucons xs fun b0 xs => u0 xs (F29 n cl b0 h)) (sw f 31 (ucons xs fun b0 xs => ucons xs fun b1 xs => u0 xs (F31 n cl b0 b1 h)) (cl f xs h))))
theorem Dk10 {n : Nat} {cl : CL} (hcl : OkCL Try.prog cl) : OkCL Try.prog (D10 n cl) := by
  intro f xs h v h' hx
  rcases sw_ok hx with ⟨rfl, hx⟩ | hx
  · obtain ⟨_, _, rfl, hx⟩ := ucons_ok hx; obtain ⟨rfl, hx⟩ := u0_ok hx; exact S30 (n := n) (cl := cl) hcl hx
  rcases sw_ok hx with ⟨rfl, hx⟩ | hx
  · obtain ⟨_, _, rfl, hx⟩ := ucons_ok hx; obtain ⟨rfl, hx⟩ := u0_ok hx; exact S26 (n := n) (cl := cl) hcl hx
  rcases sw_ok hx with ⟨rfl, hx⟩ | hx
  · obtain ⟨_, _, rfl, hx⟩ := ucons_ok hx; obtain ⟨rfl, hx⟩ := u0_ok hx; exact S29 (n := n) (cl := cl) hcl hx
  rcases sw_ok hx with ⟨rfl, hx⟩ | hx
  · obtain ⟨_, _, rfl, hx⟩ := ucons_ok hx; obtain ⟨_, _, rfl, hx⟩ := ucons_ok hx; obtain ⟨rfl, hx⟩ := u0_ok hx; exact S31 (n := n) (cl := cl) hcl hx
  exact hcl _ _ _ _ _ hx
theorem E10 (n : Nat) (cl : CL) (a0 a1 : Value) (h : PH) : exF Try.prog n (D10 n cl) ⟨[24, 29, 31, 32], [30], [], [(8, [1, 4, 0, 3, 2, 5, 6, 7])], [(8, [2, 3])], [], [], []⟩ Try.f10 [a0, a1] h = F10 n cl a0 a1 h := by kernel_rfl
theorem S10 {n : Nat} {cl : CL} (hcl : OkCL Try.prog cl) {a0 a1 : Value} {h h' : PH} {v : Value} (hx : F10 n cl a0 a1 h = some (v, h')) : (enterable Try.prog 10 = true ∧ ACall Try.prog 10 [a0, a1] h.abs (fun u k => u = v ∧ k = h'.abs)) ∧ Inv h h' :=
  exF_ok (Dk10 hcl) hmx Try.func10 (by kernel_rfl) ((E10 n cl a0 a1 h).trans hx)
-- undergrowth/undergrowthlaw4.PositRows
-- undergrowth/undergrowthlaw4.PositLimits
noncomputable def CLs (n : Nat) (ih : CL) : CL := fun f xs h => sw f 107 (ucons xs fun b0 xs => u0 xs (F107 n ih b0 h)) (sw f 109 (ucons xs fun b0 xs => ucons xs fun b1 xs => u0 xs (F109 n ih b0 b1 h)) (sw f 99 (ucons xs fun b0 xs => ucons xs fun b1 xs => u0 xs (F99 n ih b0 b1 h)) (sw f 55 (ucons xs fun b0 xs => ucons xs fun b1 xs => u0 xs (F55 n ih b0 b1 h)) (sw f 53 (ucons xs fun b0 xs => u0 xs (F53 n ih b0 h)) (sw f 25 (ucons xs fun b0 xs => u0 xs (F25 n ih b0 h)) (sw f 54 (ucons xs fun b0 xs => ucons xs fun b1 xs => u0 xs (F54 n ih b0 b1 h)) (sw f 50 (ucons xs fun b0 xs => u0 xs (F50 n ih b0 h)) (sw f 51 (ucons xs fun b0 xs => ucons xs fun b1 xs => u0 xs (F51 n ih b0 b1 h)) (sw f 104 (ucons xs fun b0 xs => ucons xs fun b1 xs => ucons xs fun b2 xs => ucons xs fun b3 xs => u0 xs (F104 n ih b0 b1 b2 b3 h)) (sw f 61 (ucons xs fun b0 xs => ucons xs fun b1 xs => u0 xs (F61 n ih b0 b1 h)) (sw f 32 (ucons xs fun b0 xs => ucons xs fun b1 xs => ucons xs fun b2 xs => u0 xs (F32 n ih b0 b1 b2 h)) (none))))))))))))
theorem CLs_ok {n : Nat} {ih : CL} (hcl : OkCL Try.prog ih) : OkCL Try.prog (CLs n ih) := by
  intro f xs h v h' hx
  unfold CLs at hx
  rcases sw_ok hx with ⟨rfl, hx⟩ | hx
  · obtain ⟨_, _, rfl, hx⟩ := ucons_ok hx; obtain ⟨rfl, hx⟩ := u0_ok hx; exact S107 (n := n) (cl := ih) hcl hx
  rcases sw_ok hx with ⟨rfl, hx⟩ | hx
  · obtain ⟨_, _, rfl, hx⟩ := ucons_ok hx; obtain ⟨_, _, rfl, hx⟩ := ucons_ok hx; obtain ⟨rfl, hx⟩ := u0_ok hx; exact S109 (n := n) (cl := ih) hcl hx
  rcases sw_ok hx with ⟨rfl, hx⟩ | hx
  · obtain ⟨_, _, rfl, hx⟩ := ucons_ok hx; obtain ⟨_, _, rfl, hx⟩ := ucons_ok hx; obtain ⟨rfl, hx⟩ := u0_ok hx; exact S99 (n := n) (cl := ih) hcl hx
  rcases sw_ok hx with ⟨rfl, hx⟩ | hx
  · obtain ⟨_, _, rfl, hx⟩ := ucons_ok hx; obtain ⟨_, _, rfl, hx⟩ := ucons_ok hx; obtain ⟨rfl, hx⟩ := u0_ok hx; exact S55 (n := n) (cl := ih) hcl hx
  rcases sw_ok hx with ⟨rfl, hx⟩ | hx
  · obtain ⟨_, _, rfl, hx⟩ := ucons_ok hx; obtain ⟨rfl, hx⟩ := u0_ok hx; exact S53 (n := n) (cl := ih) hcl hx
  rcases sw_ok hx with ⟨rfl, hx⟩ | hx
  · obtain ⟨_, _, rfl, hx⟩ := ucons_ok hx; obtain ⟨rfl, hx⟩ := u0_ok hx; exact S25 (n := n) (cl := ih) hcl hx
  rcases sw_ok hx with ⟨rfl, hx⟩ | hx
  · obtain ⟨_, _, rfl, hx⟩ := ucons_ok hx; obtain ⟨_, _, rfl, hx⟩ := ucons_ok hx; obtain ⟨rfl, hx⟩ := u0_ok hx; exact S54 (n := n) (cl := ih) hcl hx
  rcases sw_ok hx with ⟨rfl, hx⟩ | hx
  · obtain ⟨_, _, rfl, hx⟩ := ucons_ok hx; obtain ⟨rfl, hx⟩ := u0_ok hx; exact S50 (n := n) (cl := ih) hcl hx
  rcases sw_ok hx with ⟨rfl, hx⟩ | hx
  · obtain ⟨_, _, rfl, hx⟩ := ucons_ok hx; obtain ⟨_, _, rfl, hx⟩ := ucons_ok hx; obtain ⟨rfl, hx⟩ := u0_ok hx; exact S51 (n := n) (cl := ih) hcl hx
  rcases sw_ok hx with ⟨rfl, hx⟩ | hx
  · obtain ⟨_, _, rfl, hx⟩ := ucons_ok hx; obtain ⟨_, _, rfl, hx⟩ := ucons_ok hx; obtain ⟨_, _, rfl, hx⟩ := ucons_ok hx; obtain ⟨_, _, rfl, hx⟩ := ucons_ok hx; obtain ⟨rfl, hx⟩ := u0_ok hx; exact S104 (n := n) (cl := ih) hcl hx
  rcases sw_ok hx with ⟨rfl, hx⟩ | hx
  · obtain ⟨_, _, rfl, hx⟩ := ucons_ok hx; obtain ⟨_, _, rfl, hx⟩ := ucons_ok hx; obtain ⟨rfl, hx⟩ := u0_ok hx; exact S61 (n := n) (cl := ih) hcl hx
  rcases sw_ok hx with ⟨rfl, hx⟩ | hx
  · obtain ⟨_, _, rfl, hx⟩ := ucons_ok hx; obtain ⟨_, _, rfl, hx⟩ := ucons_ok hx; obtain ⟨_, _, rfl, hx⟩ := ucons_ok hx; obtain ⟨rfl, hx⟩ := u0_ok hx; exact S32 (n := n) (cl := ih) hcl hx
  cases hx
noncomputable def CLV (n d : Nat) : CL := Nat.rec (motive := fun _ => CL) CNo (fun _ ih => CLs n ih) d
theorem CLV_ok (n : Nat) : ∀ d, OkCL Try.prog (CLV n d)
  | 0 => CNo_ok _
  | .succ d => CLs_ok (CLV_ok n d)
end Go.Am
