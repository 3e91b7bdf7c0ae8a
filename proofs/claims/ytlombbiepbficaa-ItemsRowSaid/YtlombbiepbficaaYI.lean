import Derived.Test.YtlombbiepbficaaZX
import Derived.Test.YtlombbiepbficaaProg
set_option linter.unusedVariables false
set_option maxRecDepth 100000
namespace Go.Am
open Go Go.RowKit Go.Proofs
theorem hmx : Try.prog.follows .mixedOrders = true := by kernel_rfl
-- undergrowth/grammar.IsName
noncomputable def F25 (n : Nat) (cl : CL) (a0 a1 : Value) (h : PH) : R :=
 hb (xBox a0 h) fun v1 h =>
 vb (xCmp (fun x y => ile y x) a1 (vN 0)) fun v2 =>
 vb (gd (isB true v2) (some a1)) fun v3 =>
 vb (gd (isB true v2) (xFld 0 v1)) fun v4 =>
 vb (gd (isB true v2) (xLd v4 h)) fun v5 =>
 vb (gd (isB true v2) (xCmp ilt v3 v5)) fun v6 =>
 vb (xPick v2 v6 ff) fun v7 =>
 some (v7, h)
theorem E25 (n : Nat) (cl : CL) (a0 a1 : Value) (h : PH) : exF Try.prog n cl ⟨[], [], [], [], [], []⟩ Try.f25 [a0, a1] h = F25 n cl a0 a1 h := by kernel_rfl
theorem S25 {n : Nat} {cl : CL} (hcl : OkCL Try.prog cl) {a0 a1 : Value} {h h' : PH} {v : Value} (hx : F25 n cl a0 a1 h = some (v, h')) : (enterable Try.prog 25 = true ∧ ACall Try.prog 25 [a0, a1] h.abs (fun u k => u = v ∧ k = h'.abs)) ∧ Inv h h' :=
  exF_ok hcl hmx Try.func25 (by kernel_rfl) ((E25 n cl a0 a1 h).trans hx)
-- slices.IndexFunc[[]int,int]
noncomputable def F63_0 (n : Nat) (cl : CL) (v10 : Value) (r3 : Kt) (v4 : Value) (v6 : Value) (v8 : Value) (h : PH) : R :=
 vb (xAri Int.add v10 (vN 1)) fun v16 =>
 r3 [v4, v6, v8, v16] h
noncomputable def F63_1 (n : Nat) (cl : CL) (v4 : Value) (v10 : Value) (v6 : Value) (r3 : Kt) (v8 : Value) (h : PH) : R :=
 vb (xIdxS 1 v4 v10) fun v13 =>
 vb (xLd v13 h) fun v14 =>
 hb (xCall cl v6 [v14] h) fun v15 h =>
 bite v15 (some (v10, h)) (F63_0 n cl v10 r3 v4 v6 v8 h)
noncomputable def F63_2 (n : Nat) (cl : CL) (v10 : Value) (v8 : Value) (v4 : Value) (v6 : Value) (r3 : Kt) (h : PH) : R :=
 vb (xCmp ilt v10 v8) fun v12 =>
 bite v12 (F63_1 n cl v4 v10 v6 r3 v8 h) (some ((vM 0), h))
noncomputable def F63_3 (n : Nat) (cl : CL) (r3 : Kt) (y2 : List Value) (h : PH) : R :=
 ucons y2 fun v4 y5 => ucons y5 fun v6 y7 => ucons y7 fun v8 y9 => ucons y9 fun v10 y11 => F63_2 n cl v10 v8 v4 v6 r3 h
noncomputable def F63 (n : Nat) (cl : CL) (a0 a1 : Value) (h : PH) : R :=
 vb (xLenS a0) fun v1 =>
 lp n (F63_3 n cl) [a0, a1, v1, (vN 0)] h
theorem E63 (n : Nat) (cl : CL) (a0 a1 : Value) (h : PH) : exF Try.prog n cl ⟨[], [], [(2, [0, 1, 7, 8])], [], [], []⟩ Try.f63 [a0, a1] h = F63 n cl a0 a1 h := by kernel_rfl
theorem S63 {n : Nat} {cl : CL} (hcl : OkCL Try.prog cl) {a0 a1 : Value} {h h' : PH} {v : Value} (hx : F63 n cl a0 a1 h = some (v, h')) : (enterable Try.prog 63 = true ∧ ACall Try.prog 63 [a0, a1] h.abs (fun u k => u = v ∧ k = h'.abs)) ∧ Inv h h' :=
  exF_ok hcl hmx Try.func63 (by kernel_rfl) ((E63 n cl a0 a1 h).trans hx)
-- slices.ContainsFunc[[]int,int]
noncomputable def F42 (n : Nat) (cl : CL) (a0 a1 : Value) (h : PH) : R :=
 vb (pcall (F63 n cl a0 a1 (h.fzn))) fun v1 =>
 vb (xCmp (fun x y => ile y x) v1 (vN 0)) fun v2 =>
 some (v2, h)
noncomputable def D42 (n : Nat) (cl : CL) : CL := fun f xs h => sw f 63 (ucons xs fun b0 xs => ucons xs fun b1 xs => u0 xs (F63 n cl b0 b1 h)) (cl f xs h)
theorem Dk42 {n : Nat} {cl : CL} (hcl : OkCL Try.prog cl) : OkCL Try.prog (D42 n cl) := by
  intro f xs h v h' hx
  rcases sw_ok hx with ⟨rfl, hx⟩ | hx
  · obtain ⟨_, _, rfl, hx⟩ := ucons_ok hx; obtain ⟨_, _, rfl, hx⟩ := ucons_ok hx; obtain ⟨rfl, hx⟩ := u0_ok hx; exact S63 (n := n) (cl := cl) hcl hx
  exact hcl _ _ _ _ _ hx
theorem E42 (n : Nat) (cl : CL) (a0 a1 : Value) (h : PH) : exF Try.prog n (D42 n cl) ⟨[63], [], [], [], [], []⟩ Try.f42 [a0, a1] h = F42 n cl a0 a1 h := by kernel_rfl
theorem S42 {n : Nat} {cl : CL} (hcl : OkCL Try.prog cl) {a0 a1 : Value} {h h' : PH} {v : Value} (hx : F42 n cl a0 a1 h = some (v, h')) : (enterable Try.prog 42 = true ∧ ACall Try.prog 42 [a0, a1] h.abs (fun u k => u = v ∧ k = h'.abs)) ∧ Inv h h' :=
  exF_ok (Dk42 hcl) hmx Try.func42 (by kernel_rfl) ((E42 n cl a0 a1 h).trans hx)
-- undergrowth/grammar.classes$1
noncomputable def F62 (n : Nat) (cl : CL) (a0 : Value) (h : PH) : R :=
 vb (xCmp ilt a0 (vN 0)) fun v1 =>
 vb (gd (isB false v1) (some a0)) fun v2 =>
 vb (gd (isB false v1) (xCmp (fun x y => ilt y x) v2 (vN 100))) fun v3 =>
 vb (xPick v1 tt v3) fun v4 =>
 some (v4, h)
theorem E62 (n : Nat) (cl : CL) (a0 : Value) (h : PH) : exF Try.prog n cl ⟨[], [], [], [], [], []⟩ Try.f62 [a0] h = F62 n cl a0 h := by kernel_rfl
theorem S62 {n : Nat} {cl : CL} (hcl : OkCL Try.prog cl) {a0 : Value} {h h' : PH} {v : Value} (hx : F62 n cl a0 h = some (v, h')) : (enterable Try.prog 62 = true ∧ ACall Try.prog 62 [a0] h.abs (fun u k => u = v ∧ k = h'.abs)) ∧ Inv h h' :=
  exF_ok hcl hmx Try.func62 (by kernel_rfl) ((E62 n cl a0 h).trans hx)
-- undergrowth/grammar.classes
noncomputable def F41 (n : Nat) (cl : CL) (a0 a1 : Value) (h : PH) : R :=
 vb (xLenS a0) fun v1 =>
 vb (xCmp ile v1 a1) fun v2 =>
 vb (gd (isB true v2) (some a0)) fun v3 =>
 vb (gd (isB true v2) (pcall (F42 n cl v3 (fnV 62 [] []) (h.fzn)))) fun v4 =>
 vb (gd (isB true v2) (xNot v4)) fun v5 =>
 vb (xPick v2 v5 ff) fun v6 =>
 some (v6, h)
noncomputable def D41 (n : Nat) (cl : CL) : CL := fun f xs h => sw f 42 (ucons xs fun b0 xs => ucons xs fun b1 xs => u0 xs (F42 n cl b0 b1 h)) (cl f xs h)
theorem Dk41 {n : Nat} {cl : CL} (hcl : OkCL Try.prog cl) : OkCL Try.prog (D41 n cl) := by
  intro f xs h v h' hx
  rcases sw_ok hx with ⟨rfl, hx⟩ | hx
  · obtain ⟨_, _, rfl, hx⟩ := ucons_ok hx; obtain ⟨_, _, rfl, hx⟩ := ucons_ok hx; obtain ⟨rfl, hx⟩ := u0_ok hx; exact S42 (n := n) (cl := cl) hcl hx
  exact hcl _ _ _ _ _ hx
theorem E41 (n : Nat) (cl : CL) (a0 a1 : Value) (h : PH) : exF Try.prog n (D41 n cl) ⟨[42], [], [], [], [], []⟩ Try.f41 [a0, a1] h = F41 n cl a0 a1 h := by kernel_rfl
theorem S41 {n : Nat} {cl : CL} (hcl : OkCL Try.prog cl) {a0 a1 : Value} {h h' : PH} {v : Value} (hx : F41 n cl a0 a1 h = some (v, h')) : (enterable Try.prog 41 = true ∧ ACall Try.prog 41 [a0, a1] h.abs (fun u k => u = v ∧ k = h'.abs)) ∧ Inv h h' :=
  exF_ok (Dk41 hcl) hmx Try.func41 (by kernel_rfl) ((E41 n cl a0 a1 h).trans hx)
-- undergrowth/grammar.whole
noncomputable def F28_0 (n : Nat) (cl : CL) (v1 : Value) (h : PH) : R :=
 vb (xFld 5 v1) fun v32 =>
 vb (xLd v32 h) fun v33 =>
 vb (xFld 3 v1) fun v34 =>
 vb (xLd v34 h) fun v35 =>
 vb (xLenS v35) fun v36 =>
 vb (pcall (F41 n cl v33 v36 (h.fzn))) fun v37 =>
 vb (xNot v37) fun v38 =>
 vb (gd (isB false v38) (xFld 6 v1)) fun v39 =>
 vb (gd (isB false v38) (xLd v39 h)) fun v40 =>
 vb (gd (isB false v38) (xFld 1 v1)) fun v41 =>
 vb (gd (isB false v38) (xLd v41 h)) fun v42 =>
 vb (gd (isB false v38) (pcall (F41 n cl v40 v42 (h.fzn)))) fun v43 =>
 vb (gd (isB false v38) (xNot v43)) fun v44 =>
 vb (xPick v38 tt v44) fun v45 =>
 bite v45 (some ((vN 1), h)) (some ((vN 0), h))
noncomputable def F28_1 (n : Nat) (cl : CL) (v1 : Value) (h : PH) : R :=
 vb (xLdA 7 v1 h) fun v27 =>
 vb (xFld 2 v1) fun v28 =>
 vb (xLd v28 h) fun v29 =>
 vb (pcall (F25 n cl v27 v29 (h.fzn))) fun v30 =>
 vb (xNot v30) fun v31 =>
 bite v31 (some ((vN 6), h)) (F28_0 n cl v1 h)
noncomputable def F28 (n : Nat) (cl : CL) (a0 : Value) (h : PH) : R :=
 hb (xBox a0 h) fun v1 h =>
 vb (xFld 0 v1) fun v2 =>
 vb (xLd v2 h) fun v3 =>
 vb (xCmp ilt v3 (vN 1)) fun v4 =>
 vb (gd (isB false v4) (xFld 0 v1)) fun v5 =>
 vb (gd (isB false v4) (xLd v5 h)) fun v6 =>
 vb (gd (isB false v4) (xCmp (fun x y => ilt y x) v6 (vN 40))) fun v7 =>
 vb (xPick v4 tt v7) fun v8 =>
 vb (gd (isB false v8) (xFld 1 v1)) fun v9 =>
 vb (gd (isB false v8) (xLd v9 h)) fun v10 =>
 vb (gd (isB false v8) (xCmp ilt v10 (vN 0))) fun v11 =>
 vb (xPick v8 tt v11) fun v12 =>
 vb (gd (isB false v12) (xFld 1 v1)) fun v13 =>
 vb (gd (isB false v12) (xLd v13 h)) fun v14 =>
 vb (gd (isB false v12) (xCmp (fun x y => ilt y x) v14 (vN 40))) fun v15 =>
 vb (xPick v12 tt v15) fun v16 =>
 vb (gd (isB false v16) (xFld 3 v1)) fun v17 =>
 vb (gd (isB false v16) (xLd v17 h)) fun v18 =>
 vb (gd (isB false v16) (xLenS v18)) fun v19 =>
 vb (gd (isB false v16) (xCmp (fun x y => ilt y x) v19 (vN 60))) fun v20 =>
 vb (xPick v16 tt v20) fun v21 =>
 vb (gd (isB false v21) (xFld 4 v1)) fun v22 =>
 vb (gd (isB false v21) (xLd v22 h)) fun v23 =>
 vb (gd (isB false v21) (xLenS v23)) fun v24 =>
 vb (gd (isB false v21) (xCmp (fun x y => ilt y x) v24 (vN 200))) fun v25 =>
 vb (xPick v21 tt v25) fun v26 =>
 bite v26 (some ((vN 3), h)) (F28_1 n cl v1 h)
noncomputable def D28 (n : Nat) (cl : CL) : CL := fun f xs h => sw f 25 (ucons xs fun b0 xs => ucons xs fun b1 xs => u0 xs (F25 n cl b0 b1 h)) (sw f 41 (ucons xs fun b0 xs => ucons xs fun b1 xs => u0 xs (F41 n cl b0 b1 h)) (cl f xs h))
theorem Dk28 {n : Nat} {cl : CL} (hcl : OkCL Try.prog cl) : OkCL Try.prog (D28 n cl) := by
  intro f xs h v h' hx
  rcases sw_ok hx with ⟨rfl, hx⟩ | hx
  · obtain ⟨_, _, rfl, hx⟩ := ucons_ok hx; obtain ⟨_, _, rfl, hx⟩ := ucons_ok hx; obtain ⟨rfl, hx⟩ := u0_ok hx; exact S25 (n := n) (cl := cl) hcl hx
  rcases sw_ok hx with ⟨rfl, hx⟩ | hx
  · obtain ⟨_, _, rfl, hx⟩ := ucons_ok hx; obtain ⟨_, _, rfl, hx⟩ := ucons_ok hx; obtain ⟨rfl, hx⟩ := u0_ok hx; exact S41 (n := n) (cl := cl) hcl hx
  exact hcl _ _ _ _ _ hx
theorem E28 (n : Nat) (cl : CL) (a0 : Value) (h : PH) : exF Try.prog n (D28 n cl) ⟨[25, 41], [], [], [], [], []⟩ Try.f28 [a0] h = F28 n cl a0 h := by kernel_rfl
theorem S28 {n : Nat} {cl : CL} (hcl : OkCL Try.prog cl) {a0 : Value} {h h' : PH} {v : Value} (hx : F28 n cl a0 h = some (v, h')) : (enterable Try.prog 28 = true ∧ ACall Try.prog 28 [a0] h.abs (fun u k => u = v ∧ k = h'.abs)) ∧ Inv h h' :=
  exF_ok (Dk28 hcl) hmx Try.func28 (by kernel_rfl) ((E28 n cl a0 h).trans hx)
-- undergrowth/grammar.KindOf
noncomputable def F64 (n : Nat) (cl : CL) (a0 a1 : Value) (h : PH) : R :=
 hb (xBox a0 h) fun v1 h =>
 vb (xAri Int.sub (vM 0) a1) fun v2 =>
 vb (xCmp ilt a1 (vN 0)) fun v3 =>
 vb (gd (isB true v3) (some v2)) fun v4 =>
 vb (gd (isB true v3) (xFld 1 v1)) fun v5 =>
 vb (gd (isB true v3) (xLd v5 h)) fun v6 =>
 vb (gd (isB true v3) (xCmp ilt v4 v6)) fun v7 =>
 vb (xPick v3 v7 ff) fun v8 =>
 some (Value.tuple ⟨[v2, v8]⟩, h)
theorem E64 (n : Nat) (cl : CL) (a0 a1 : Value) (h : PH) : exF Try.prog n cl ⟨[], [], [], [(2, [0, 1, 2, 3, 4, 5, 9, 6, 7, 8, 10])], [], []⟩ Try.f64 [a0, a1] h = F64 n cl a0 a1 h := by kernel_rfl
theorem S64 {n : Nat} {cl : CL} (hcl : OkCL Try.prog cl) {a0 a1 : Value} {h h' : PH} {v : Value} (hx : F64 n cl a0 a1 h = some (v, h')) : (enterable Try.prog 64 = true ∧ ACall Try.prog 64 [a0, a1] h.abs (fun u k => u = v ∧ k = h'.abs)) ∧ Inv h h' :=
  exF_ok hcl hmx Try.func64 (by kernel_rfl) ((E64 n cl a0 a1 h).trans hx)
-- undergrowth/grammar.IsSymbol
noncomputable def F44 (n : Nat) (cl : CL) (a0 a1 : Value) (h : PH) : R :=
 hb (xBox a0 h) fun v1 h =>
 vb (xLdA 7 v1 h) fun v2 =>
 vb (pcall (F64 n cl v2 a1 (h.fzn))) fun v3 =>
 vb (xExt 0 v3) fun v4 =>
 vb (xExt 1 v3) fun v5 =>
 vb (gd (isB false v5) (xLdA 7 v1 h)) fun v6 =>
 vb (gd (isB false v5) (some a1)) fun v7 =>
 vb (gd (isB false v5) (pcall (F25 n cl v6 v7 (h.fzn)))) fun v8 =>
 vb (xPick v5 tt v8) fun v9 =>
 some (v9, h)
noncomputable def D44 (n : Nat) (cl : CL) : CL := fun f xs h => sw f 64 (ucons xs fun b0 xs => ucons xs fun b1 xs => u0 xs (F64 n cl b0 b1 h)) (sw f 25 (ucons xs fun b0 xs => ucons xs fun b1 xs => u0 xs (F25 n cl b0 b1 h)) (cl f xs h))
theorem Dk44 {n : Nat} {cl : CL} (hcl : OkCL Try.prog cl) : OkCL Try.prog (D44 n cl) := by
  intro f xs h v h' hx
  rcases sw_ok hx with ⟨rfl, hx⟩ | hx
  · obtain ⟨_, _, rfl, hx⟩ := ucons_ok hx; obtain ⟨_, _, rfl, hx⟩ := ucons_ok hx; obtain ⟨rfl, hx⟩ := u0_ok hx; exact S64 (n := n) (cl := cl) hcl hx
  rcases sw_ok hx with ⟨rfl, hx⟩ | hx
  · obtain ⟨_, _, rfl, hx⟩ := ucons_ok hx; obtain ⟨_, _, rfl, hx⟩ := ucons_ok hx; obtain ⟨rfl, hx⟩ := u0_ok hx; exact S25 (n := n) (cl := cl) hcl hx
  exact hcl _ _ _ _ _ hx
theorem E44 (n : Nat) (cl : CL) (a0 a1 : Value) (h : PH) : exF Try.prog n (D44 n cl) ⟨[25, 64], [], [], [], [], []⟩ Try.f44 [a0, a1] h = F44 n cl a0 a1 h := by kernel_rfl
theorem S44 {n : Nat} {cl : CL} (hcl : OkCL Try.prog cl) {a0 a1 : Value} {h h' : PH} {v : Value} (hx : F44 n cl a0 a1 h = some (v, h')) : (enterable Try.prog 44 = true ∧ ACall Try.prog 44 [a0, a1] h.abs (fun u k => u = v ∧ k = h'.abs)) ∧ Inv h h' :=
  exF_ok (Dk44 hcl) hmx Try.func44 (by kernel_rfl) ((E44 n cl a0 a1 h).trans hx)
-- undergrowth/grammar.rule$1
noncomputable def F43 (n : Nat) (cl : CL) (a0 a1 : Value) (h : PH) : R :=
 vb (xLdA 7 a1 h) fun v1 =>
 vb (pcall (F44 n cl v1 a0 (h.fzn))) fun v2 =>
 vb (xNot v2) fun v3 =>
 some (v3, h)
noncomputable def D43 (n : Nat) (cl : CL) : CL := fun f xs h => sw f 44 (ucons xs fun b0 xs => ucons xs fun b1 xs => u0 xs (F44 n cl b0 b1 h)) (cl f xs h)
theorem Dk43 {n : Nat} {cl : CL} (hcl : OkCL Try.prog cl) : OkCL Try.prog (D43 n cl) := by
  intro f xs h v h' hx
  rcases sw_ok hx with ⟨rfl, hx⟩ | hx
  · obtain ⟨_, _, rfl, hx⟩ := ucons_ok hx; obtain ⟨_, _, rfl, hx⟩ := ucons_ok hx; obtain ⟨rfl, hx⟩ := u0_ok hx; exact S44 (n := n) (cl := cl) hcl hx
  exact hcl _ _ _ _ _ hx
theorem E43 (n : Nat) (cl : CL) (a0 a1 : Value) (h : PH) : exF Try.prog n (D43 n cl) ⟨[44], [], [], [], [], []⟩ Try.f43 [a0, a1] h = F43 n cl a0 a1 h := by kernel_rfl
theorem S43 {n : Nat} {cl : CL} (hcl : OkCL Try.prog cl) {a0 a1 : Value} {h h' : PH} {v : Value} (hx : F43 n cl a0 a1 h = some (v, h')) : (enterable Try.prog 43 = true ∧ ACall Try.prog 43 [a0, a1] h.abs (fun u k => u = v ∧ k = h'.abs)) ∧ Inv h h' :=
  exF_ok (Dk43 hcl) hmx Try.func43 (by kernel_rfl) ((E43 n cl a0 a1 h).trans hx)
-- undergrowth/grammar.rule
noncomputable def F29_0 (n : Nat) (cl : CL) (v2 : Value) (h : PH) : R :=
 vb (xFld 2 v2) fun v17 =>
 vb (xLd v17 h) fun v18 =>
 vb (xCmp ilt v18 (vM 999)) fun v19 =>
 vb (gd (isB false v19) (xFld 2 v2)) fun v20 =>
 vb (gd (isB false v19) (xLd v20 h)) fun v21 =>
 vb (gd (isB false v19) (xCmp (fun x y => ilt y x) v21 (vN 1000))) fun v22 =>
 vb (xPick v19 tt v22) fun v23 =>
 bite v23 (some ((vN 1), h)) (some ((vN 0), h))
noncomputable def F29_1 (n : Nat) (cl : CL) (v2 : Value) (h : PH) : R :=
 vb (xFld 1 v2) fun v13 =>
 vb (xLd v13 h) fun v14 =>
 vb (xLenS v14) fun v15 =>
 vb (xCmp (fun x y => ilt y x) v15 (vN 8)) fun v16 =>
 bite v16 (some ((vN 3), h)) (F29_0 n cl v2 h)
noncomputable def F29 (n : Nat) (cl : CL) (a0 a1 : Value) (h : PH) : R :=
 hb (xBox a0 h) fun v1 h =>
 hb (xBox a1 h) fun v2 h =>
 vb (xLdA 7 v1 h) fun v3 =>
 vb (xFld 0 v2) fun v4 =>
 vb (xLd v4 h) fun v5 =>
 vb (pcall (F25 n cl v3 v5 (h.fzn))) fun v6 =>
 vb (xNot v6) fun v7 =>
 vb (gd (isB false v7) (xFld 1 v2)) fun v8 =>
 vb (gd (isB false v7) (xLd v8 h)) fun v9 =>
 vb (gd (isB false v7) (some (Value.func (Fn.func 43) ⟨[]⟩ ⟨[v1]⟩))) fun v10 =>
 vb (gd (isB false v7) (pcall (F42 n cl v9 v10 (h.fzn)))) fun v11 =>
 vb (xPick v7 tt v11) fun v12 =>
 bite v12 (some ((vN 6), h)) (F29_1 n cl v2 h)
noncomputable def D29 (n : Nat) (cl : CL) : CL := fun f xs h => sw f 25 (ucons xs fun b0 xs => ucons xs fun b1 xs => u0 xs (F25 n cl b0 b1 h)) (sw f 42 (ucons xs fun b0 xs => ucons xs fun b1 xs => u0 xs (F42 n cl b0 b1 h)) (cl f xs h))
theorem Dk29 {n : Nat} {cl : CL} (hcl : OkCL Try.prog cl) : OkCL Try.prog (D29 n cl) := by
  intro f xs h v h' hx
  rcases sw_ok hx with ⟨rfl, hx⟩ | hx
  · obtain ⟨_, _, rfl, hx⟩ := ucons_ok hx; obtain ⟨_, _, rfl, hx⟩ := ucons_ok hx; obtain ⟨rfl, hx⟩ := u0_ok hx; exact S25 (n := n) (cl := cl) hcl hx
  rcases sw_ok hx with ⟨rfl, hx⟩ | hx
  · obtain ⟨_, _, rfl, hx⟩ := ucons_ok hx; obtain ⟨_, _, rfl, hx⟩ := ucons_ok hx; obtain ⟨rfl, hx⟩ := u0_ok hx; exact S42 (n := n) (cl := cl) hcl hx
  exact hcl _ _ _ _ _ hx
theorem E29 (n : Nat) (cl : CL) (a0 a1 : Value) (h : PH) : exF Try.prog n (D29 n cl) ⟨[25, 42], [], [], [], [], []⟩ Try.f29 [a0, a1] h = F29 n cl a0 a1 h := by kernel_rfl
theorem S29 {n : Nat} {cl : CL} (hcl : OkCL Try.prog cl) {a0 a1 : Value} {h h' : PH} {v : Value} (hx : F29 n cl a0 a1 h = some (v, h')) : (enterable Try.prog 29 = true ∧ ACall Try.prog 29 [a0, a1] h.abs (fun u k => u = v ∧ k = h'.abs)) ∧ Inv h h' :=
  exF_ok (Dk29 hcl) hmx Try.func29 (by kernel_rfl) ((E29 n cl a0 a1 h).trans hx)
-- undergrowth/grammar.forbid
noncomputable def F32_0 (n : Nat) (cl : CL) (v1 : Value) (v2 : Value) (h : PH) : R :=
 vb (xFld 3 v1) fun v24 =>
 vb (xLd v24 h) fun v25 =>
 vb (xIdxA 3 1 v2 (vN 0)) fun v26 =>
 vb (xLd v26 h) fun v27 =>
 vb (xIdxS 3 v25 v27) fun v28 =>
 vb (xFld 1 v28) fun v29 =>
 vb (xLd v29 h) fun v30 =>
 vb (xIdxA 3 1 v2 (vN 1)) fun v31 =>
 vb (xLd v31 h) fun v32 =>
 vb (xCmp (fun x y => ile y x) v32 (vN 0)) fun v33 =>
 vb (gd (isB true v33) (xIdxA 3 1 v2 (vN 1))) fun v34 =>
 vb (gd (isB true v33) (some v30)) fun v35 =>
 vb (gd (isB true v33) (xLd v34 h)) fun v36 =>
 vb (gd (isB true v33) (xLenS v35)) fun v37 =>
 vb (gd (isB true v33) (xCmp ilt v36 v37)) fun v38 =>
 vb (xPick v33 v38 ff) fun v39 =>
 vb (gd (isB true v39) (some v30)) fun v40 =>
 vb (gd (isB true v39) (xIdxA 3 1 v2 (vN 1))) fun v41 =>
 vb (gd (isB true v39) (xFld 3 v1)) fun v42 =>
 vb (gd (isB true v39) (xIdxA 3 1 v2 (vN 2))) fun v43 =>
 vb (gd (isB true v39) (xLd v41 h)) fun v44 =>
 vb (gd (isB true v39) (xIdxS 1 v40 v44)) fun v45 =>
 vb (gd (isB true v39) (xLd v45 h)) fun v46 =>
 vb (gd (isB true v39) (xLd v42 h)) fun v47 =>
 vb (gd (isB true v39) (xLd v43 h)) fun v48 =>
 vb (gd (isB true v39) (xIdxS 3 v47 v48)) fun v49 =>
 vb (gd (isB true v39) (xFld 0 v49)) fun v50 =>
 vb (gd (isB true v39) (xLd v50 h)) fun v51 =>
 vb (gd (isB true v39) (xCmp ieq v46 v51)) fun v52 =>
 vb (xPick v39 v52 ff) fun v53 =>
 some (v53, h)
noncomputable def F32 (n : Nat) (cl : CL) (a0 a1 : Value) (h : PH) : R :=
 hb (xBox a0 h) fun v1 h =>
 hb (xBox a1 h) fun v2 h =>
 vb (xIdxA 3 1 v2 (vN 0)) fun v3 =>
 vb (xLd v3 h) fun v4 =>
 vb (xCmp ilt v4 (vN 0)) fun v5 =>
 vb (gd (isB false v5) (xIdxA 3 1 v2 (vN 0))) fun v6 =>
 vb (gd (isB false v5) (xLd v6 h)) fun v7 =>
 vb (gd (isB false v5) (xFld 3 v1)) fun v8 =>
 vb (gd (isB false v5) (xLd v8 h)) fun v9 =>
 vb (gd (isB false v5) (xLenS v9)) fun v10 =>
 vb (gd (isB false v5) (xCmp (fun x y => ile y x) v7 v10)) fun v11 =>
 vb (xPick v5 tt v11) fun v12 =>
 vb (gd (isB false v12) (xIdxA 3 1 v2 (vN 2))) fun v13 =>
 vb (gd (isB false v12) (xLd v13 h)) fun v14 =>
 vb (gd (isB false v12) (xCmp ilt v14 (vN 0))) fun v15 =>
 vb (xPick v12 tt v15) fun v16 =>
 vb (gd (isB false v16) (xIdxA 3 1 v2 (vN 2))) fun v17 =>
 vb (gd (isB false v16) (xLd v17 h)) fun v18 =>
 vb (gd (isB false v16) (xFld 3 v1)) fun v19 =>
 vb (gd (isB false v16) (xLd v19 h)) fun v20 =>
 vb (gd (isB false v16) (xLenS v20)) fun v21 =>
 vb (gd (isB false v16) (xCmp (fun x y => ile y x) v18 v21)) fun v22 =>
 vb (xPick v16 tt v22) fun v23 =>
 bite v23 (some (ff, h)) (F32_0 n cl v1 v2 h)
theorem E32 (n : Nat) (cl : CL) (a0 a1 : Value) (h : PH) : exF Try.prog n cl ⟨[], [], [], [(4, [0, 1, 2, 3, 4, 6, 5, 7, 8, 9, 10, 11, 12, 16, 18, 13, 14, 15, 17, 19, 20, 21, 22, 23, 24, 25])], [], []⟩ Try.f32 [a0, a1] h = F32 n cl a0 a1 h := by kernel_rfl
theorem S32 {n : Nat} {cl : CL} (hcl : OkCL Try.prog cl) {a0 a1 : Value} {h h' : PH} {v : Value} (hx : F32 n cl a0 a1 h = some (v, h')) : (enterable Try.prog 32 = true ∧ ACall Try.prog 32 [a0, a1] h.abs (fun u k => u = v ∧ k = h'.abs)) ∧ Inv h h' :=
  exF_ok hcl hmx Try.func32 (by kernel_rfl) ((E32 n cl a0 a1 h).trans hx)
-- undergrowth/grammar.Form$1
noncomputable def F31 (n : Nat) (cl : CL) (a0 a1 : Value) (h : PH) : R :=
 hb (xBox a0 h) fun v1 h =>
 vb (xLdA 7 a1 h) fun v2 =>
 vb (xLdA 3 v1 h) fun v3 =>
 vb (pcall (F32 n cl v2 v3 (h.fzn))) fun v4 =>
 vb (xNot v4) fun v5 =>
 some (v5, h)
noncomputable def D31 (n : Nat) (cl : CL) : CL := fun f xs h => sw f 32 (ucons xs fun b0 xs => ucons xs fun b1 xs => u0 xs (F32 n cl b0 b1 h)) (cl f xs h)
theorem Dk31 {n : Nat} {cl : CL} (hcl : OkCL Try.prog cl) : OkCL Try.prog (D31 n cl) := by
  intro f xs h v h' hx
  rcases sw_ok hx with ⟨rfl, hx⟩ | hx
  · obtain ⟨_, _, rfl, hx⟩ := ucons_ok hx; obtain ⟨_, _, rfl, hx⟩ := ucons_ok hx; obtain ⟨rfl, hx⟩ := u0_ok hx; exact S32 (n := n) (cl := cl) hcl hx
  exact hcl _ _ _ _ _ hx
theorem E31 (n : Nat) (cl : CL) (a0 a1 : Value) (h : PH) : exF Try.prog n (D31 n cl) ⟨[32], [], [], [], [], []⟩ Try.f31 [a0, a1] h = F31 n cl a0 a1 h := by kernel_rfl
theorem S31 {n : Nat} {cl : CL} (hcl : OkCL Try.prog cl) {a0 a1 : Value} {h h' : PH} {v : Value} (hx : F31 n cl a0 a1 h = some (v, h')) : (enterable Try.prog 31 = true ∧ ACall Try.prog 31 [a0, a1] h.abs (fun u k => u = v ∧ k = h'.abs)) ∧ Inv h h' :=
  exF_ok (Dk31 hcl) hmx Try.func31 (by kernel_rfl) ((E31 n cl a0 a1 h).trans hx)
-- slices.IndexFunc[[][3]int,[3]int]
noncomputable def F45_0 (n : Nat) (cl : CL) (v10 : Value) (r3 : Kt) (v4 : Value) (v6 : Value) (v8 : Value) (h : PH) : R :=
 vb (xAri Int.add v10 (vN 1)) fun v16 =>
 r3 [v4, v6, v8, v16] h
noncomputable def F45_1 (n : Nat) (cl : CL) (v4 : Value) (v10 : Value) (v6 : Value) (r3 : Kt) (v8 : Value) (h : PH) : R :=
 vb (xIdxS 3 v4 v10) fun v13 =>
 vb (xLdA 3 v13 h) fun v14 =>
 hb (xCall cl v6 [v14] h) fun v15 h =>
 bite v15 (some (v10, h)) (F45_0 n cl v10 r3 v4 v6 v8 h)
noncomputable def F45_2 (n : Nat) (cl : CL) (v10 : Value) (v8 : Value) (v4 : Value) (v6 : Value) (r3 : Kt) (h : PH) : R :=
 vb (xCmp ilt v10 v8) fun v12 =>
 bite v12 (F45_1 n cl v4 v10 v6 r3 v8 h) (some ((vM 0), h))
noncomputable def F45_3 (n : Nat) (cl : CL) (r3 : Kt) (y2 : List Value) (h : PH) : R :=
 ucons y2 fun v4 y5 => ucons y5 fun v6 y7 => ucons y7 fun v8 y9 => ucons y9 fun v10 y11 => F45_2 n cl v10 v8 v4 v6 r3 h
noncomputable def F45 (n : Nat) (cl : CL) (a0 a1 : Value) (h : PH) : R :=
 vb (xLenS a0) fun v1 =>
 lp n (F45_3 n cl) [a0, a1, v1, (vN 0)] h
theorem E45 (n : Nat) (cl : CL) (a0 a1 : Value) (h : PH) : exF Try.prog n cl ⟨[], [], [(2, [0, 1, 7, 8])], [], [], []⟩ Try.f45 [a0, a1] h = F45 n cl a0 a1 h := by kernel_rfl
theorem S45 {n : Nat} {cl : CL} (hcl : OkCL Try.prog cl) {a0 a1 : Value} {h h' : PH} {v : Value} (hx : F45 n cl a0 a1 h = some (v, h')) : (enterable Try.prog 45 = true ∧ ACall Try.prog 45 [a0, a1] h.abs (fun u k => u = v ∧ k = h'.abs)) ∧ Inv h h' :=
  exF_ok hcl hmx Try.func45 (by kernel_rfl) ((E45 n cl a0 a1 h).trans hx)
-- slices.ContainsFunc[[][3]int,[3]int]
noncomputable def F30 (n : Nat) (cl : CL) (a0 a1 : Value) (h : PH) : R :=
 vb (pcall (F45 n cl a0 a1 (h.fzn))) fun v1 =>
 vb (xCmp (fun x y => ile y x) v1 (vN 0)) fun v2 =>
 some (v2, h)
noncomputable def D30 (n : Nat) (cl : CL) : CL := fun f xs h => sw f 45 (ucons xs fun b0 xs => ucons xs fun b1 xs => u0 xs (F45 n cl b0 b1 h)) (cl f xs h)
theorem Dk30 {n : Nat} {cl : CL} (hcl : OkCL Try.prog cl) : OkCL Try.prog (D30 n cl) := by
  intro f xs h v h' hx
  rcases sw_ok hx with ⟨rfl, hx⟩ | hx
  · obtain ⟨_, _, rfl, hx⟩ := ucons_ok hx; obtain ⟨_, _, rfl, hx⟩ := ucons_ok hx; obtain ⟨rfl, hx⟩ := u0_ok hx; exact S45 (n := n) (cl := cl) hcl hx
  exact hcl _ _ _ _ _ hx
theorem E30 (n : Nat) (cl : CL) (a0 a1 : Value) (h : PH) : exF Try.prog n (D30 n cl) ⟨[45], [], [], [], [], []⟩ Try.f30 [a0, a1] h = F30 n cl a0 a1 h := by kernel_rfl
theorem S30 {n : Nat} {cl : CL} (hcl : OkCL Try.prog cl) {a0 a1 : Value} {h h' : PH} {v : Value} (hx : F30 n cl a0 a1 h = some (v, h')) : (enterable Try.prog 30 = true ∧ ACall Try.prog 30 [a0, a1] h.abs (fun u k => u = v ∧ k = h'.abs)) ∧ Inv h h' :=
  exF_ok (Dk30 hcl) hmx Try.func30 (by kernel_rfl) ((E30 n cl a0 a1 h).trans hx)
-- undergrowth/grammar.Form
noncomputable def F17_0 (n : Nat) (cl : CL) (v16 : Value) (r9 : Kt) (v10 : Value) (v12 : Value) (v14 : Value) (h : PH) : R :=
 vb (xAri Int.add v16 (vN 1)) fun v26 =>
 r9 [v10, v12, v14, v26] h
noncomputable def F17_1 (n : Nat) (cl : CL) (v12 : Value) (v16 : Value) (v10 : Value) (r9 : Kt) (v14 : Value) (h : PH) : R :=
 vb (xIdxS 3 v12 v16) fun v19 =>
 vb (xLdA 3 v19 h) fun v20 =>
 hb (xAlloc (zcells Try.prog 25) h) fun v21 h =>
 hb (xStA 3 v21 v20 h) fun _ h =>
 vb (xLdA 7 v10 h) fun v22 =>
 vb (xLdA 3 v21 h) fun v23 =>
 vb (pcall (F29 n cl v22 v23 (h.fzn))) fun v24 =>
 vb (xCmp ine v24 (vN 0)) fun v25 =>
 bite v25 (some (Value.tuple ⟨[v16, v24]⟩, h)) (F17_0 n cl v16 r9 v10 v12 v14 h)
noncomputable def F17_2 (n : Nat) (cl : CL) (v10 : Value) (h : PH) : R :=
 vb (xFld 4 v10) fun v27 =>
 vb (xLd v27 h) fun v28 =>
 vb (some (Value.func (Fn.func 31) ⟨[]⟩ ⟨[v10]⟩)) fun v29 =>
 vb (pcall (F30 n cl v28 v29 (h.fzn))) fun v30 =>
 bite v30 (some (Value.tuple ⟨[(vM 0), (vN 6)]⟩, h)) (some (Value.tuple ⟨[(vM 0), (vN 0)]⟩, h))
noncomputable def F17_3 (n : Nat) (cl : CL) (v16 : Value) (v14 : Value) (v12 : Value) (v10 : Value) (r9 : Kt) (h : PH) : R :=
 vb (xCmp ilt v16 v14) fun v18 =>
 bite v18 (F17_1 n cl v12 v16 v10 r9 v14 h) (F17_2 n cl v10 h)
noncomputable def F17_4 (n : Nat) (cl : CL) (r9 : Kt) (y8 : List Value) (h : PH) : R :=
 ucons y8 fun v10 y11 => ucons y11 fun v12 y13 => ucons y13 fun v14 y15 => ucons y15 fun v16 y17 => F17_3 n cl v16 v14 v12 v10 r9 h
noncomputable def F17_5 (n : Nat) (cl : CL) (v1 : Value) (h : PH) : R :=
 vb (xFld 3 v1) fun v5 =>
 vb (xLd v5 h) fun v6 =>
 vb (xLenS v6) fun v7 =>
 lp n (F17_4 n cl) [v1, v6, v7, (vN 0)] h
noncomputable def F17 (n : Nat) (cl : CL) (a0 : Value) (h : PH) : R :=
 hb (xBox a0 h) fun v1 h =>
 vb (xLdA 7 v1 h) fun v2 =>
 vb (pcall (F28 n cl v2 (h.fzn))) fun v3 =>
 vb (xCmp ine v3 (vN 0)) fun v4 =>
 bite v4 (some (Value.tuple ⟨[(vM 0), v3]⟩, h)) (F17_5 n cl v1 h)
noncomputable def D17 (n : Nat) (cl : CL) : CL := fun f xs h => sw f 28 (ucons xs fun b0 xs => u0 xs (F28 n cl b0 h)) (sw f 29 (ucons xs fun b0 xs => ucons xs fun b1 xs => u0 xs (F29 n cl b0 b1 h)) (sw f 30 (ucons xs fun b0 xs => ucons xs fun b1 xs => u0 xs (F30 n cl b0 b1 h)) (cl f xs h)))
theorem Dk17 {n : Nat} {cl : CL} (hcl : OkCL Try.prog cl) : OkCL Try.prog (D17 n cl) := by
  intro f xs h v h' hx
  rcases sw_ok hx with ⟨rfl, hx⟩ | hx
  · obtain ⟨_, _, rfl, hx⟩ := ucons_ok hx; obtain ⟨rfl, hx⟩ := u0_ok hx; exact S28 (n := n) (cl := cl) hcl hx
  rcases sw_ok hx with ⟨rfl, hx⟩ | hx
  · obtain ⟨_, _, rfl, hx⟩ := ucons_ok hx; obtain ⟨_, _, rfl, hx⟩ := ucons_ok hx; obtain ⟨rfl, hx⟩ := u0_ok hx; exact S29 (n := n) (cl := cl) hcl hx
  rcases sw_ok hx with ⟨rfl, hx⟩ | hx
  · obtain ⟨_, _, rfl, hx⟩ := ucons_ok hx; obtain ⟨_, _, rfl, hx⟩ := ucons_ok hx; obtain ⟨rfl, hx⟩ := u0_ok hx; exact S30 (n := n) (cl := cl) hcl hx
  exact hcl _ _ _ _ _ hx
theorem E17 (n : Nat) (cl : CL) (a0 : Value) (h : PH) : exF Try.prog n (D17 n cl) ⟨[28, 29, 30], [], [(5, [1, 14, 15, 16])], [], [], []⟩ Try.f17 [a0] h = F17 n cl a0 h := by kernel_rfl
theorem S17 {n : Nat} {cl : CL} (hcl : OkCL Try.prog cl) {a0 : Value} {h h' : PH} {v : Value} (hx : F17 n cl a0 h = some (v, h')) : (enterable Try.prog 17 = true ∧ ACall Try.prog 17 [a0] h.abs (fun u k => u = v ∧ k = h'.abs)) ∧ Inv h h' :=
  exF_ok (Dk17 hcl) hmx Try.func17 (by kernel_rfl) ((E17 n cl a0 h).trans hx)
-- undergrowth/grammar.Good
noncomputable def F11 (n : Nat) (cl : CL) (a0 : Value) (h : PH) : R :=
 hb (xBox a0 h) fun v1 h =>
 vb (xLdA 7 v1 h) fun v2 =>
 vb (pcall (F17 n cl v2 (h.fzn))) fun v3 =>
 vb (xExt 0 v3) fun v4 =>
 vb (xExt 1 v3) fun v5 =>
 vb (xCmp ieq v5 (vN 0)) fun v6 =>
 some (v6, h)
noncomputable def D11 (n : Nat) (cl : CL) : CL := fun f xs h => sw f 17 (ucons xs fun b0 xs => u0 xs (F17 n cl b0 h)) (cl f xs h)
theorem Dk11 {n : Nat} {cl : CL} (hcl : OkCL Try.prog cl) : OkCL Try.prog (D11 n cl) := by
  intro f xs h v h' hx
  rcases sw_ok hx with ⟨rfl, hx⟩ | hx
  · obtain ⟨_, _, rfl, hx⟩ := ucons_ok hx; obtain ⟨rfl, hx⟩ := u0_ok hx; exact S17 (n := n) (cl := cl) hcl hx
  exact hcl _ _ _ _ _ hx
theorem E11 (n : Nat) (cl : CL) (a0 : Value) (h : PH) : exF Try.prog n (D11 n cl) ⟨[17], [], [], [], [], []⟩ Try.f11 [a0] h = F11 n cl a0 h := by kernel_rfl
theorem S11 {n : Nat} {cl : CL} (hcl : OkCL Try.prog cl) {a0 : Value} {h h' : PH} {v : Value} (hx : F11 n cl a0 h = some (v, h')) : (enterable Try.prog 11 = true ∧ ACall Try.prog 11 [a0] h.abs (fun u k => u = v ∧ k = h'.abs)) ∧ Inv h h' :=
  exF_ok (Dk11 hcl) hmx Try.func11 (by kernel_rfl) ((E11 n cl a0 h).trans hx)
-- undergrowth/reach.Reachable
noncomputable def F18_0 (n : Nat) (cl : CL) (v54 : Value) (r28 : Kt) (v44 : Value) (v46 : Value) (v48 : Value) (v50 : Value) (v52 : Value) (h : PH) : R :=
 vb (xAri Int.add v54 (vN 1)) fun v56 =>
 r28 [v44, v46, v48, v50, v52, v56] h
noncomputable def F18_1 (n : Nat) (cl : CL) (v107 : Value) (r69 : Kt) (v91 : Value) (v93 : Value) (v95 : Value) (v97 : Value) (v99 : Value) (v101 : Value) (v103 : Value) (v105 : Value) (h : PH) : R :=
 vb (xAri Int.add v107 (vN 1)) fun v109 =>
 r69 [v91, v93, v95, v97, v99, v101, v103, v105, v109] h
noncomputable def F18_2 (n : Nat) (cl : CL) (v72 : Value) (v111 : Value) (v74 : Value) (k90 : Kt) (v70 : Value) (v76 : Value) (v78 : Value) (v80 : Value) (v82 : Value) (v84 : Value) (v86 : Value) (h : PH) : R :=
 vb (xIdxS 1 v72 v111) fun v120 =>
 hb (xSt1 v120 tt h) fun _ h =>
 hb (xBS 1 (bsRow Try.prog 23 1 [(0, v111)]) h) fun v121 h =>
 hb (xApp (appInfo Try.prog #[23, 23]) v74 v121 h) fun v122 h =>
 k90 [v70, v72, v122, v76, v78, v80, v82, v84, v86] h
noncomputable def F18_3 (n : Nat) (cl : CL) (r69 : Kt) (y89 : List Value) (h : PH) : R :=
 ucons y89 fun v91 y92 => ucons y92 fun v93 y94 => ucons y94 fun v95 y96 => ucons y96 fun v97 y98 => ucons y98 fun v99 y100 => ucons y100 fun v101 y102 => ucons y102 fun v103 y104 => ucons y104 fun v105 y106 => ucons y106 fun v107 y108 => F18_1 n cl v107 r69 v91 v93 v95 v97 v99 v101 v103 v105 h
noncomputable def F18_4 (n : Nat) (cl : CL) (v82 : Value) (v86 : Value) (v70 : Value) (v72 : Value) (v74 : Value) (v76 : Value) (v78 : Value) (v80 : Value) (v84 : Value) (h : PH) (k90 : Kt) : R :=
 vb (xIdxS 1 v82 v86) fun v110 =>
 vb (xLd v110 h) fun v111 =>
 vb (xLdA 7 v70 h) fun v112 =>
 vb (pcall (F25 n cl v112 v111 (h.fzn))) fun v113 =>
 vb (gd (isB true v113) (some v72)) fun v114 =>
 vb (gd (isB true v113) (some v111)) fun v115 =>
 vb (gd (isB true v113) (xIdxS 1 v114 v115)) fun v116 =>
 vb (gd (isB true v113) (xLd v116 h)) fun v117 =>
 vb (gd (isB true v113) (xNot v117)) fun v118 =>
 vb (xPick v113 v118 ff) fun v119 =>
 bite v119 (F18_2 n cl v72 v111 v74 k90 v70 v76 v78 v80 v82 v84 v86 h) (k90 [v70, v72, v74, v76, v78, v80, v82, v84, v86] h)
noncomputable def F18_5 (n : Nat) (cl : CL) (v86 : Value) (v84 : Value) (r69 : Kt) (v82 : Value) (v70 : Value) (v72 : Value) (v74 : Value) (v76 : Value) (v78 : Value) (v80 : Value) (k43 : Kt) (h : PH) : R :=
 vb (xCmp ilt v86 v84) fun v88 =>
 bite v88 (jn (F18_3 n cl r69) (F18_4 n cl v82 v86 v70 v72 v74 v76 v78 v80 v84 h)) (k43 [v70, v72, v74, v76, v78, v80] h)
noncomputable def F18_6 (n : Nat) (cl : CL) (k43 : Kt) (r69 : Kt) (y68 : List Value) (h : PH) : R :=
 ucons y68 fun v70 y71 => ucons y71 fun v72 y73 => ucons y73 fun v74 y75 => ucons y75 fun v76 y77 => ucons y77 fun v78 y79 => ucons y79 fun v80 y81 => ucons y81 fun v82 y83 => ucons y83 fun v84 y85 => ucons y85 fun v86 y87 => F18_5 n cl v86 v84 r69 v82 v70 v72 v74 v76 v78 v80 k43 h
noncomputable def F18_7 (n : Nat) (cl : CL) (v59 : Value) (k43 : Kt) (v29 : Value) (v31 : Value) (v33 : Value) (v35 : Value) (v37 : Value) (v39 : Value) (h : PH) : R :=
 vb (xFld 1 v59) fun v65 =>
 vb (xLd v65 h) fun v66 =>
 vb (xLenS v66) fun v67 =>
 lp n (F18_6 n cl k43) [v29, v31, v33, v35, v37, v39, v66, v67, (vN 0)] h
noncomputable def F18_8 (n : Nat) (cl : CL) (r28 : Kt) (y42 : List Value) (h : PH) : R :=
 ucons y42 fun v44 y45 => ucons y45 fun v46 y47 => ucons y47 fun v48 y49 => ucons y49 fun v50 y51 => ucons y51 fun v52 y53 => ucons y53 fun v54 y55 => F18_0 n cl v54 r28 v44 v46 v48 v50 v52 h
noncomputable def F18_9 (n : Nat) (cl : CL) (v35 : Value) (v39 : Value) (v33 : Value) (v29 : Value) (v31 : Value) (v37 : Value) (h : PH) (k43 : Kt) : R :=
 vb (xIdxS 3 v35 v39) fun v57 =>
 vb (xLdA 3 v57 h) fun v58 =>
 hb (xAlloc (zcells Try.prog 25) h) fun v59 h =>
 hb (xStA 3 v59 v58 h) fun _ h =>
 vb (xFld 0 v59) fun v60 =>
 vb (xIdxS 1 v33 (vN 0)) fun v61 =>
 vb (xLd v60 h) fun v62 =>
 vb (xLd v61 h) fun v63 =>
 vb (xCmp ine v62 v63) fun v64 =>
 bite v64 (k43 [v29, v31, v33, v35, v37, v39] h) (F18_7 n cl v59 k43 v29 v31 v33 v35 v37 v39 h)
noncomputable def F18_10 (n : Nat) (cl : CL) (v33 : Value) (r15 : Kt) (v29 : Value) (v31 : Value) (h : PH) : R :=
 vb (acut Try.prog 23 v33 (some (vN 1)) none none) fun v123 =>
 r15 [v29, v31, v123] h
noncomputable def F18_11 (n : Nat) (cl : CL) (v39 : Value) (v37 : Value) (r28 : Kt) (v35 : Value) (v33 : Value) (v29 : Value) (v31 : Value) (r15 : Kt) (h : PH) : R :=
 vb (xCmp ilt v39 v37) fun v41 =>
 bite v41 (jn (F18_8 n cl r28) (F18_9 n cl v35 v39 v33 v29 v31 v37 h)) (F18_10 n cl v33 r15 v29 v31 h)
noncomputable def F18_12 (n : Nat) (cl : CL) (r15 : Kt) (r28 : Kt) (y27 : List Value) (h : PH) : R :=
 ucons y27 fun v29 y30 => ucons y30 fun v31 y32 => ucons y32 fun v33 y34 => ucons y34 fun v35 y36 => ucons y36 fun v37 y38 => ucons y38 fun v39 y40 => F18_11 n cl v39 v37 r28 v35 v33 v29 v31 r15 h
noncomputable def F18_13 (n : Nat) (cl : CL) (v16 : Value) (r15 : Kt) (v18 : Value) (v20 : Value) (h : PH) : R :=
 vb (xFld 3 v16) fun v24 =>
 vb (xLd v24 h) fun v25 =>
 vb (xLenS v25) fun v26 =>
 lp n (F18_12 n cl r15) [v16, v18, v20, v25, v26, (vN 0)] h
noncomputable def F18_14 (n : Nat) (cl : CL) (v20 : Value) (v16 : Value) (r15 : Kt) (v18 : Value) (h : PH) : R :=
 vb (xLenS v20) fun v22 =>
 vb (xCmp (fun x y => ilt y x) v22 (vN 0)) fun v23 =>
 bite v23 (F18_13 n cl v16 r15 v18 v20 h) (some (v18, h))
noncomputable def F18_15 (n : Nat) (cl : CL) (r15 : Kt) (y14 : List Value) (h : PH) : R :=
 ucons y14 fun v16 y17 => ucons y17 fun v18 y19 => ucons y19 fun v20 y21 => F18_14 n cl v20 v16 r15 v18 h
noncomputable def F18_16 (n : Nat) (cl : CL) (v1 : Value) (h : PH) : R :=
 vb (xFld 0 v1) fun v5 =>
 vb (xLd v5 h) fun v6 =>
 hb (xMk (zinfo Try.prog 55) v6 v6 h) fun v7 h =>
 vb (xFld 2 v1) fun v8 =>
 vb (xLd v8 h) fun v9 =>
 vb (xIdxS 1 v7 v9) fun v10 =>
 hb (xSt1 v10 tt h) fun _ h =>
 vb (xFld 2 v1) fun v11 =>
 vb (xLd v11 h) fun v12 =>
 hb (xBS 1 (bsRow Try.prog 23 1 [(0, v12)]) h) fun v13 h =>
 lp n (F18_15 n cl) [v1, v7, v13] h
noncomputable def F18 (n : Nat) (cl : CL) (a0 : Value) (h : PH) : R :=
 hb (xBox a0 h) fun v1 h =>
 vb (xLdA 7 v1 h) fun v2 =>
 vb (pcall (F11 n cl v2 (h.fzn))) fun v3 =>
 vb (xNot v3) fun v4 =>
 bite v4 (some (nils, h)) (F18_16 n cl v1 h)
noncomputable def D18 (n : Nat) (cl : CL) : CL := fun f xs h => sw f 11 (ucons xs fun b0 xs => u0 xs (F11 n cl b0 h)) (sw f 25 (ucons xs fun b0 xs => ucons xs fun b1 xs => u0 xs (F25 n cl b0 b1 h)) (cl f xs h))
theorem Dk18 {n : Nat} {cl : CL} (hcl : OkCL Try.prog cl) : OkCL Try.prog (D18 n cl) := by
  intro f xs h v h' hx
  rcases sw_ok hx with ⟨rfl, hx⟩ | hx
  · obtain ⟨_, _, rfl, hx⟩ := ucons_ok hx; obtain ⟨rfl, hx⟩ := u0_ok hx; exact S11 (n := n) (cl := cl) hcl hx
  rcases sw_ok hx with ⟨rfl, hx⟩ | hx
  · obtain ⟨_, _, rfl, hx⟩ := ucons_ok hx; obtain ⟨_, _, rfl, hx⟩ := ucons_ok hx; obtain ⟨rfl, hx⟩ := u0_ok hx; exact S25 (n := n) (cl := cl) hcl hx
  exact hcl _ _ _ _ _ hx
theorem E18 (n : Nat) (cl : CL) (a0 : Value) (h : PH) : exF Try.prog n (D18 n cl) ⟨[11, 25], [], [(6, [1, 3, 4]), (9, [1, 3, 4, 28, 29, 30]), (13, [1, 3, 4, 28, 29, 30, 41, 42, 43]), (18, [1, 3, 4, 28, 29, 30, 41, 42, 43]), (19, [1, 3, 4, 28, 29, 30])], [(11, [0, 2, 3, 1, 4, 5])], [], []⟩ Try.f18 [a0] h = F18 n cl a0 h := by kernel_rfl
theorem S18 {n : Nat} {cl : CL} (hcl : OkCL Try.prog cl) {a0 : Value} {h h' : PH} {v : Value} (hx : F18 n cl a0 h = some (v, h')) : (enterable Try.prog 18 = true ∧ ACall Try.prog 18 [a0] h.abs (fun u k => u = v ∧ k = h'.abs)) ∧ Inv h h' :=
  exF_ok (Dk18 hcl) hmx Try.func18 (by kernel_rfl) ((E18 n cl a0 h).trans hx)
-- undergrowth/reach.long
noncomputable def F46_0 (n : Nat) (cl : CL) (v30 : Value) (r4 : Kt) (v20 : Value) (v22 : Value) (v24 : Value) (v26 : Value) (v28 : Value) (h : PH) : R :=
 vb (xAri Int.add v30 (vN 1)) fun v32 =>
 r4 [v20, v22, v24, v26, v28, v32] h
noncomputable def F46_1 (n : Nat) (cl : CL) (v9 : Value) (k19 : Kt) (v5 : Value) (v7 : Value) (v11 : Value) (v13 : Value) (v15 : Value) (h : PH) : R :=
 vb (xAri Int.add v9 (vN 1)) fun v38 =>
 k19 [v5, v7, v38, v11, v13, v15] h
noncomputable def F46_2 (n : Nat) (cl : CL) (v5 : Value) (v34 : Value) (v9 : Value) (k19 : Kt) (v7 : Value) (v11 : Value) (v13 : Value) (v15 : Value) (h : PH) : R :=
 vb (xIdxS 1 v5 v34) fun v42 =>
 vb (xLd v42 h) fun v43 =>
 vb (xAri Int.add v9 v43) fun v44 =>
 k19 [v5, v7, v44, v11, v13, v15] h
noncomputable def F46_3 (n : Nat) (cl : CL) (v5 : Value) (v34 : Value) (v9 : Value) (k19 : Kt) (v7 : Value) (v11 : Value) (v13 : Value) (v15 : Value) (h : PH) : R :=
 vb (xIdxS 1 v5 v34) fun v39 =>
 vb (xLd v39 h) fun v40 =>
 vb (xCmp ieq v40 (vM 0)) fun v41 =>
 bite v41 (some ((vM 0), h)) (F46_2 n cl v5 v34 v9 k19 v7 v11 v13 v15 h)
noncomputable def F46_4 (n : Nat) (cl : CL) (r4 : Kt) (y18 : List Value) (h : PH) : R :=
 ucons y18 fun v20 y21 => ucons y21 fun v22 y23 => ucons y23 fun v24 y25 => ucons y25 fun v26 y27 => ucons y27 fun v28 y29 => ucons y29 fun v30 y31 => F46_0 n cl v30 r4 v20 v22 v24 v26 v28 h
noncomputable def F46_5 (n : Nat) (cl : CL) (v11 : Value) (v15 : Value) (v7 : Value) (v9 : Value) (v5 : Value) (v13 : Value) (h : PH) (k19 : Kt) : R :=
 vb (xIdxS 1 v11 v15) fun v33 =>
 vb (xLd v33 h) fun v34 =>
 vb (xLdA 7 v7 h) fun v35 =>
 vb (pcall (F25 n cl v35 v34 (h.fzn))) fun v36 =>
 vb (xNot v36) fun v37 =>
 bite v37 (F46_1 n cl v9 k19 v5 v7 v11 v13 v15 h) (F46_3 n cl v5 v34 v9 k19 v7 v11 v13 v15 h)
noncomputable def F46_6 (n : Nat) (cl : CL) (v9 : Value) (h : PH) : R :=
 vb ((if plainV.plainVs [v9, (vN 1000000000)] then prun Try.prog (Builtin.min_ #[3, 3] 3 ⟨[v9, (vN 1000000000)]⟩) else none)) fun v45 =>
 some (v45, h)
noncomputable def F46_7 (n : Nat) (cl : CL) (v15 : Value) (v13 : Value) (r4 : Kt) (v11 : Value) (v7 : Value) (v9 : Value) (v5 : Value) (h : PH) : R :=
 vb (xCmp ilt v15 v13) fun v17 =>
 bite v17 (jn (F46_4 n cl r4) (F46_5 n cl v11 v15 v7 v9 v5 v13 h)) (F46_6 n cl v9 h)
noncomputable def F46_8 (n : Nat) (cl : CL) (r4 : Kt) (y3 : List Value) (h : PH) : R :=
 ucons y3 fun v5 y6 => ucons y6 fun v7 y8 => ucons y8 fun v9 y10 => ucons y10 fun v11 y12 => ucons y12 fun v13 y14 => ucons y14 fun v15 y16 => F46_7 n cl v15 v13 r4 v11 v7 v9 v5 h
noncomputable def F46 (n : Nat) (cl : CL) (a0 a1 a2 : Value) (h : PH) : R :=
 hb (xBox a0 h) fun v1 h =>
 vb (xLenS a2) fun v2 =>
 lp n (F46_8 n cl) [a1, v1, (vN 0), a2, v2, (vN 0)] h
noncomputable def D46 (n : Nat) (cl : CL) : CL := fun f xs h => sw f 25 (ucons xs fun b0 xs => ucons xs fun b1 xs => u0 xs (F25 n cl b0 b1 h)) (cl f xs h)
theorem Dk46 {n : Nat} {cl : CL} (hcl : OkCL Try.prog cl) : OkCL Try.prog (D46 n cl) := by
  intro f xs h v h' hx
  rcases sw_ok hx with ⟨rfl, hx⟩ | hx
  · obtain ⟨_, _, rfl, hx⟩ := ucons_ok hx; obtain ⟨_, _, rfl, hx⟩ := ucons_ok hx; obtain ⟨rfl, hx⟩ := u0_ok hx; exact S25 (n := n) (cl := cl) hcl hx
  exact hcl _ _ _ _ _ hx
theorem E46 (n : Nat) (cl : CL) (a0 a1 a2 : Value) (h : PH) : exF Try.prog n (D46 n cl) ⟨[25], [], [(3, [1, 3, 7, 10, 11, 12]), (10, [1, 3, 7, 10, 11, 12])], [], [], []⟩ Try.f46 [a0, a1, a2] h = F46 n cl a0 a1 a2 h := by kernel_rfl
theorem S46 {n : Nat} {cl : CL} (hcl : OkCL Try.prog cl) {a0 a1 a2 : Value} {h h' : PH} {v : Value} (hx : F46 n cl a0 a1 a2 h = some (v, h')) : (enterable Try.prog 46 = true ∧ ACall Try.prog 46 [a0, a1, a2] h.abs (fun u k => u = v ∧ k = h'.abs)) ∧ Inv h h' :=
  exF_ok (Dk46 hcl) hmx Try.func46 (by kernel_rfl) ((E46 n cl a0 a1 a2 h).trans hx)
-- undergrowth/reach.Shortest
noncomputable def F33_0 (n : Nat) (cl : CL) (v13 : Value) (v17 : Value) (r10 : Kt) (v11 : Value) (v15 : Value) (h : PH) : R :=
 vb (xIdxS 1 v13 v17) fun v20 =>
 hb (xSt1 v20 (vM 0) h) fun _ h =>
 vb (xAri Int.add v17 (vN 1)) fun v21 =>
 r10 [v11, v13, v15, v21] h
noncomputable def F33_1 (n : Nat) (cl : CL) (v60 : Value) (r34 : Kt) (v50 : Value) (v52 : Value) (v54 : Value) (v56 : Value) (v58 : Value) (h : PH) : R :=
 vb (xAri Int.add v60 (vN 1)) fun v62 =>
 r34 [v50, v52, v54, v56, v58, v62] h
noncomputable def F33_2 (n : Nat) (cl : CL) (v65 : Value) (v37 : Value) (v69 : Value) (k49 : Kt) (v35 : Value) (v41 : Value) (v43 : Value) (v45 : Value) (h : PH) : R :=
 vb (xFld 0 v65) fun v87 =>
 vb (xLd v87 h) fun v88 =>
 vb (xIdxS 1 v37 v88) fun v89 =>
 hb (xSt1 v89 v69 h) fun _ h =>
 k49 [v35, v37, tt, v41, v43, v45] h
noncomputable def F33_3 (n : Nat) (cl : CL) (r34 : Kt) (y48 : List Value) (h : PH) : R :=
 ucons y48 fun v50 y51 => ucons y51 fun v52 y53 => ucons y53 fun v54 y55 => ucons y55 fun v56 y57 => ucons y57 fun v58 y59 => ucons y59 fun v60 y61 => F33_1 n cl v60 r34 v50 v52 v54 v56 v58 h
noncomputable def F33_4 (n : Nat) (cl : CL) (v41 : Value) (v45 : Value) (v35 : Value) (v37 : Value) (v43 : Value) (v39 : Value) (h : PH) (k49 : Kt) : R :=
 vb (xIdxS 3 v41 v45) fun v63 =>
 vb (xLdA 3 v63 h) fun v64 =>
 hb (xAlloc (zcells Try.prog 25) h) fun v65 h =>
 hb (xStA 3 v65 v64 h) fun _ h =>
 vb (xLdA 7 v35 h) fun v66 =>
 vb (xFld 1 v65) fun v67 =>
 vb (xLd v67 h) fun v68 =>
 vb (pcall (F46 n cl v66 v37 v68 (h.fzn))) fun v69 =>
 vb (xCmp ine v69 (vM 0)) fun v70 =>
 vb (gd (isB true v70) (some v37)) fun v71 =>
 vb (gd (isB true v70) (xFld 0 v65)) fun v72 =>
 vb (gd (isB true v70) (xLd v72 h)) fun v73 =>
 vb (gd (isB true v70) (xIdxS 1 v71 v73)) fun v74 =>
 vb (gd (isB true v70) (xLd v74 h)) fun v75 =>
 vb (gd (isB true v70) (xCmp ieq v75 (vM 0))) fun v76 =>
 vb (gd (isB true v70) (some v76)) fun v77 =>
 vb (gd (isB false v77) (some v69)) fun v78 =>
 vb (gd (isB false v77) (some v37)) fun v79 =>
 vb (gd (isB false v77) (xFld 0 v65)) fun v80 =>
 vb (gd (isB false v77) (xLd v80 h)) fun v81 =>
 vb (gd (isB false v77) (xIdxS 1 v79 v81)) fun v82 =>
 vb (gd (isB false v77) (xLd v82 h)) fun v83 =>
 vb (gd (isB false v77) (xCmp ilt v78 v83)) fun v84 =>
 vb (gd (isB true v70) (xPick v77 tt v84)) fun v85 =>
 vb (xPick v70 v85 ff) fun v86 =>
 bite v86 (F33_2 n cl v65 v37 v69 k49 v35 v41 v43 v45 h) (k49 [v35, v37, v39, v41, v43, v45] h)
noncomputable def F33_5 (n : Nat) (cl : CL) (v45 : Value) (v43 : Value) (r34 : Kt) (v41 : Value) (v35 : Value) (v37 : Value) (v39 : Value) (r23 : Kt) (h : PH) : R :=
 vb (xCmp ilt v45 v43) fun v47 =>
 bite v47 (jn (F33_3 n cl r34) (F33_4 n cl v41 v45 v35 v37 v43 v39 h)) (r23 [v35, v37, v39] h)
noncomputable def F33_6 (n : Nat) (cl : CL) (r23 : Kt) (r34 : Kt) (y33 : List Value) (h : PH) : R :=
 ucons y33 fun v35 y36 => ucons y36 fun v37 y38 => ucons y38 fun v39 y40 => ucons y40 fun v41 y42 => ucons y42 fun v43 y44 => ucons y44 fun v45 y46 => F33_5 n cl v45 v43 r34 v41 v35 v37 v39 r23 h
noncomputable def F33_7 (n : Nat) (cl : CL) (v24 : Value) (r23 : Kt) (v26 : Value) (h : PH) : R :=
 vb (xFld 3 v24) fun v30 =>
 vb (xLd v30 h) fun v31 =>
 vb (xLenS v31) fun v32 =>
 lp n (F33_6 n cl r23) [v24, v26, ff, v31, v32, (vN 0)] h
noncomputable def F33_8 (n : Nat) (cl : CL) (r23 : Kt) (y22 : List Value) (h : PH) : R :=
 ucons y22 fun v24 y25 => ucons y25 fun v26 y27 => ucons y27 fun v28 y29 => bite v28 (F33_7 n cl v24 r23 v26 h) (some (v26, h))
noncomputable def F33_9 (n : Nat) (cl : CL) (v17 : Value) (v15 : Value) (v13 : Value) (r10 : Kt) (v11 : Value) (h : PH) : R :=
 vb (xCmp ilt v17 v15) fun v19 =>
 bite v19 (F33_0 n cl v13 v17 r10 v11 v15 h) (lp n (F33_8 n cl) [v11, v13, tt] h)
noncomputable def F33_10 (n : Nat) (cl : CL) (r10 : Kt) (y9 : List Value) (h : PH) : R :=
 ucons y9 fun v11 y12 => ucons y12 fun v13 y14 => ucons y14 fun v15 y16 => ucons y16 fun v17 y18 => F33_9 n cl v17 v15 v13 r10 v11 h
noncomputable def F33_11 (n : Nat) (cl : CL) (v1 : Value) (h : PH) : R :=
 vb (xFld 0 v1) fun v5 =>
 vb (xLd v5 h) fun v6 =>
 hb (xMk (zinfo Try.prog 23) v6 v6 h) fun v7 h =>
 vb (xLenS v7) fun v8 =>
 lp n (F33_10 n cl) [v1, v7, v8, (vN 0)] h
noncomputable def F33 (n : Nat) (cl : CL) (a0 : Value) (h : PH) : R :=
 hb (xBox a0 h) fun v1 h =>
 vb (xLdA 7 v1 h) fun v2 =>
 vb (pcall (F11 n cl v2 (h.fzn))) fun v3 =>
 vb (xNot v3) fun v4 =>
 bite v4 (some (nils, h)) (F33_11 n cl v1 h)
noncomputable def D33 (n : Nat) (cl : CL) : CL := fun f xs h => sw f 11 (ucons xs fun b0 xs => u0 xs (F11 n cl b0 h)) (sw f 46 (ucons xs fun b0 xs => ucons xs fun b1 xs => ucons xs fun b2 xs => u0 xs (F46 n cl b0 b1 b2 h)) (cl f xs h))
theorem Dk33 {n : Nat} {cl : CL} (hcl : OkCL Try.prog cl) : OkCL Try.prog (D33 n cl) := by
  intro f xs h v h' hx
  rcases sw_ok hx with ⟨rfl, hx⟩ | hx
  · obtain ⟨_, _, rfl, hx⟩ := ucons_ok hx; obtain ⟨rfl, hx⟩ := u0_ok hx; exact S11 (n := n) (cl := cl) hcl hx
  rcases sw_ok hx with ⟨rfl, hx⟩ | hx
  · obtain ⟨_, _, rfl, hx⟩ := ucons_ok hx; obtain ⟨_, _, rfl, hx⟩ := ucons_ok hx; obtain ⟨_, _, rfl, hx⟩ := ucons_ok hx; obtain ⟨rfl, hx⟩ := u0_ok hx; exact S46 (n := n) (cl := cl) hcl hx
  exact hcl _ _ _ _ _ hx
theorem E33 (n : Nat) (cl : CL) (a0 : Value) (h : PH) : exF Try.prog n (D33 n cl) ⟨[11, 46], [], [(5, [1, 3, 16, 17]), (10, [1, 3, 5]), (13, [1, 3, 5, 26, 27, 28]), (18, [1, 3, 5, 26, 27, 28])], [], [], []⟩ Try.f33 [a0] h = F33 n cl a0 h := by kernel_rfl
theorem S33 {n : Nat} {cl : CL} (hcl : OkCL Try.prog cl) {a0 : Value} {h h' : PH} {v : Value} (hx : F33 n cl a0 h = some (v, h')) : (enterable Try.prog 33 = true ∧ ACall Try.prog 33 [a0] h.abs (fun u k => u = v ∧ k = h'.abs)) ∧ Inv h h' :=
  exF_ok (Dk33 hcl) hmx Try.func33 (by kernel_rfl) ((E33 n cl a0 h).trans hx)
-- undergrowth/reach.Productive
noncomputable def F19_0 (n : Nat) (cl : CL) (v9 : Value) (v13 : Value) (v7 : Value) (r6 : Kt) (v11 : Value) (h : PH) : R :=
 vb (xIdxS 1 v9 v13) fun v16 =>
 vb (xLd v16 h) fun v17 =>
 vb (xCmp ine v17 (vM 0)) fun v18 =>
 hb (xBS 1 (bsRow Try.prog 55 1 [(0, v18)]) h) fun v19 h =>
 hb (xApp (appInfo Try.prog #[55, 55]) v7 v19 h) fun v20 h =>
 vb (xAri Int.add v13 (vN 1)) fun v21 =>
 r6 [v20, v9, v11, v21] h
noncomputable def F19_1 (n : Nat) (cl : CL) (v13 : Value) (v11 : Value) (v9 : Value) (v7 : Value) (r6 : Kt) (h : PH) : R :=
 vb (xCmp ilt v13 v11) fun v15 =>
 bite v15 (F19_0 n cl v9 v13 v7 r6 v11 h) (some (v7, h))
noncomputable def F19_2 (n : Nat) (cl : CL) (r6 : Kt) (y5 : List Value) (h : PH) : R :=
 ucons y5 fun v7 y8 => ucons y8 fun v9 y10 => ucons y10 fun v11 y12 => ucons y12 fun v13 y14 => F19_1 n cl v13 v11 v9 v7 r6 h
noncomputable def F19 (n : Nat) (cl : CL) (a0 : Value) (h : PH) : R :=
 hb (xBox a0 h) fun v1 h =>
 vb (xLdA 7 v1 h) fun v2 =>
 hb (fcall h (F33 n cl v2 (h.fzn))) fun v3 h =>
 vb (xLenS v3) fun v4 =>
 lp n (F19_2 n cl) [nils, v3, v4, (vN 0)] h
noncomputable def D19 (n : Nat) (cl : CL) : CL := fun f xs h => sw f 33 (ucons xs fun b0 xs => u0 xs (F33 n cl b0 h)) (cl f xs h)
theorem Dk19 {n : Nat} {cl : CL} (hcl : OkCL Try.prog cl) : OkCL Try.prog (D19 n cl) := by
  intro f xs h v h' hx
  rcases sw_ok hx with ⟨rfl, hx⟩ | hx
  · obtain ⟨_, _, rfl, hx⟩ := ucons_ok hx; obtain ⟨rfl, hx⟩ := u0_ok hx; exact S33 (n := n) (cl := cl) hcl hx
  exact hcl _ _ _ _ _ hx
theorem E19 (n : Nat) (cl : CL) (a0 : Value) (h : PH) : exF Try.prog n (D19 n cl) ⟨[], [33], [(3, [3, 7, 8, 9])], [], [], []⟩ Try.f19 [a0] h = F19 n cl a0 h := by kernel_rfl
theorem S19 {n : Nat} {cl : CL} (hcl : OkCL Try.prog cl) {a0 : Value} {h h' : PH} {v : Value} (hx : F19 n cl a0 h = some (v, h')) : (enterable Try.prog 19 = true ∧ ACall Try.prog 19 [a0] h.abs (fun u k => u = v ∧ k = h'.abs)) ∧ Inv h h' :=
  exF_ok (Dk19 hcl) hmx Try.func19 (by kernel_rfl) ((E19 n cl a0 h).trans hx)
-- undergrowth/sets.empty
noncomputable def F65_0 (n : Nat) (cl : CL) (v13 : Value) (r4 : Kt) (v5 : Value) (v7 : Value) (v9 : Value) (v11 : Value) (h : PH) : R :=
 vb (xAri Int.add v13 (vN 1)) fun v27 =>
 r4 [v5, v7, v9, v11, v27] h
noncomputable def F65_1 (n : Nat) (cl : CL) (v9 : Value) (v13 : Value) (v7 : Value) (v5 : Value) (r4 : Kt) (v11 : Value) (h : PH) : R :=
 vb (xIdxS 1 v9 v13) fun v16 =>
 vb (xLd v16 h) fun v17 =>
 vb (xLdA 7 v7 h) fun v18 =>
 vb (pcall (F25 n cl v18 v17 (h.fzn))) fun v19 =>
 vb (xNot v19) fun v20 =>
 vb (gd (isB false v20) (some v5)) fun v21 =>
 vb (gd (isB false v20) (some v17)) fun v22 =>
 vb (gd (isB false v20) (xIdxS 1 v21 v22)) fun v23 =>
 vb (gd (isB false v20) (xLd v23 h)) fun v24 =>
 vb (gd (isB false v20) (xNot v24)) fun v25 =>
 vb (xPick v20 tt v25) fun v26 =>
 bite v26 (some (ff, h)) (F65_0 n cl v13 r4 v5 v7 v9 v11 h)
noncomputable def F65_2 (n : Nat) (cl : CL) (v13 : Value) (v11 : Value) (v9 : Value) (v7 : Value) (v5 : Value) (r4 : Kt) (h : PH) : R :=
 vb (xCmp ilt v13 v11) fun v15 =>
 bite v15 (F65_1 n cl v9 v13 v7 v5 r4 v11 h) (some (tt, h))
noncomputable def F65_3 (n : Nat) (cl : CL) (r4 : Kt) (y3 : List Value) (h : PH) : R :=
 ucons y3 fun v5 y6 => ucons y6 fun v7 y8 => ucons y8 fun v9 y10 => ucons y10 fun v11 y12 => ucons y12 fun v13 y14 => F65_2 n cl v13 v11 v9 v7 v5 r4 h
noncomputable def F65 (n : Nat) (cl : CL) (a0 a1 a2 : Value) (h : PH) : R :=
 hb (xBox a0 h) fun v1 h =>
 vb (xLenS a2) fun v2 =>
 lp n (F65_3 n cl) [a1, v1, a2, v2, (vN 0)] h
noncomputable def D65 (n : Nat) (cl : CL) : CL := fun f xs h => sw f 25 (ucons xs fun b0 xs => ucons xs fun b1 xs => u0 xs (F25 n cl b0 b1 h)) (cl f xs h)
theorem Dk65 {n : Nat} {cl : CL} (hcl : OkCL Try.prog cl) : OkCL Try.prog (D65 n cl) := by
  intro f xs h v h' hx
  rcases sw_ok hx with ⟨rfl, hx⟩ | hx
  · obtain ⟨_, _, rfl, hx⟩ := ucons_ok hx; obtain ⟨_, _, rfl, hx⟩ := ucons_ok hx; obtain ⟨rfl, hx⟩ := u0_ok hx; exact S25 (n := n) (cl := cl) hcl hx
  exact hcl _ _ _ _ _ hx
theorem E65 (n : Nat) (cl : CL) (a0 a1 a2 : Value) (h : PH) : exF Try.prog n (D65 n cl) ⟨[25], [], [(2, [1, 3, 9, 10, 11])], [], [], []⟩ Try.f65 [a0, a1, a2] h = F65 n cl a0 a1 a2 h := by kernel_rfl
theorem S65 {n : Nat} {cl : CL} (hcl : OkCL Try.prog cl) {a0 a1 a2 : Value} {h h' : PH} {v : Value} (hx : F65 n cl a0 a1 a2 h = some (v, h')) : (enterable Try.prog 65 = true ∧ ACall Try.prog 65 [a0, a1, a2] h.abs (fun u k => u = v ∧ k = h'.abs)) ∧ Inv h h' :=
  exF_ok (Dk65 hcl) hmx Try.func65 (by kernel_rfl) ((E65 n cl a0 a1 a2 h).trans hx)
-- undergrowth/sets.nullable
noncomputable def F47_0 (n : Nat) (cl : CL) (v43 : Value) (r17 : Kt) (v33 : Value) (v35 : Value) (v37 : Value) (v39 : Value) (v41 : Value) (h : PH) : R :=
 vb (xAri Int.add v43 (vN 1)) fun v45 =>
 r17 [v33, v35, v37, v39, v41, v45] h
noncomputable def F47_1 (n : Nat) (cl : CL) (v48 : Value) (v20 : Value) (k32 : Kt) (v18 : Value) (v24 : Value) (v26 : Value) (v28 : Value) (h : PH) : R :=
 vb (xFld 0 v48) fun v60 =>
 vb (xLd v60 h) fun v61 =>
 vb (xIdxS 1 v20 v61) fun v62 =>
 hb (xSt1 v62 tt h) fun _ h =>
 k32 [v18, v20, tt, v24, v26, v28] h
noncomputable def F47_2 (n : Nat) (cl : CL) (r17 : Kt) (y31 : List Value) (h : PH) : R :=
 ucons y31 fun v33 y34 => ucons y34 fun v35 y36 => ucons y36 fun v37 y38 => ucons y38 fun v39 y40 => ucons y40 fun v41 y42 => ucons y42 fun v43 y44 => F47_0 n cl v43 r17 v33 v35 v37 v39 v41 h
noncomputable def F47_3 (n : Nat) (cl : CL) (v24 : Value) (v28 : Value) (v20 : Value) (v18 : Value) (v26 : Value) (v22 : Value) (h : PH) (k32 : Kt) : R :=
 vb (xIdxS 3 v24 v28) fun v46 =>
 vb (xLdA 3 v46 h) fun v47 =>
 hb (xAlloc (zcells Try.prog 25) h) fun v48 h =>
 hb (xStA 3 v48 v47 h) fun _ h =>
 vb (xFld 0 v48) fun v49 =>
 vb (xLd v49 h) fun v50 =>
 vb (xIdxS 1 v20 v50) fun v51 =>
 vb (xLd v51 h) fun v52 =>
 vb (xNot v52) fun v53 =>
 vb (gd (isB true v53) (xLdA 7 v18 h)) fun v54 =>
 vb (gd (isB true v53) (some v20)) fun v55 =>
 vb (gd (isB true v53) (xFld 1 v48)) fun v56 =>
 vb (gd (isB true v53) (xLd v56 h)) fun v57 =>
 vb (gd (isB true v53) (pcall (F65 n cl v54 v55 v57 (h.fzn)))) fun v58 =>
 vb (xPick v53 v58 ff) fun v59 =>
 bite v59 (F47_1 n cl v48 v20 k32 v18 v24 v26 v28 h) (k32 [v18, v20, v22, v24, v26, v28] h)
noncomputable def F47_4 (n : Nat) (cl : CL) (v28 : Value) (v26 : Value) (r17 : Kt) (v24 : Value) (v20 : Value) (v18 : Value) (v22 : Value) (r6 : Kt) (h : PH) : R :=
 vb (xCmp ilt v28 v26) fun v30 =>
 bite v30 (jn (F47_2 n cl r17) (F47_3 n cl v24 v28 v20 v18 v26 v22 h)) (r6 [v18, v20, v22] h)
noncomputable def F47_5 (n : Nat) (cl : CL) (r6 : Kt) (r17 : Kt) (y16 : List Value) (h : PH) : R :=
 ucons y16 fun v18 y19 => ucons y19 fun v20 y21 => ucons y21 fun v22 y23 => ucons y23 fun v24 y25 => ucons y25 fun v26 y27 => ucons y27 fun v28 y29 => F47_4 n cl v28 v26 r17 v24 v20 v18 v22 r6 h
noncomputable def F47_6 (n : Nat) (cl : CL) (v7 : Value) (r6 : Kt) (v9 : Value) (h : PH) : R :=
 vb (xFld 3 v7) fun v13 =>
 vb (xLd v13 h) fun v14 =>
 vb (xLenS v14) fun v15 =>
 lp n (F47_5 n cl r6) [v7, v9, ff, v14, v15, (vN 0)] h
noncomputable def F47_7 (n : Nat) (cl : CL) (r6 : Kt) (y5 : List Value) (h : PH) : R :=
 ucons y5 fun v7 y8 => ucons y8 fun v9 y10 => ucons y10 fun v11 y12 => bite v11 (F47_6 n cl v7 r6 v9 h) (some (v9, h))
noncomputable def F47 (n : Nat) (cl : CL) (a0 : Value) (h : PH) : R :=
 hb (xBox a0 h) fun v1 h =>
 vb (xFld 0 v1) fun v2 =>
 vb (xLd v2 h) fun v3 =>
 hb (xMk (zinfo Try.prog 55) v3 v3 h) fun v4 h =>
 lp n (F47_7 n cl) [v1, v4, tt] h
noncomputable def D47 (n : Nat) (cl : CL) : CL := fun f xs h => sw f 65 (ucons xs fun b0 xs => ucons xs fun b1 xs => ucons xs fun b2 xs => u0 xs (F65 n cl b0 b1 b2 h)) (cl f xs h)
theorem Dk47 {n : Nat} {cl : CL} (hcl : OkCL Try.prog cl) : OkCL Try.prog (D47 n cl) := by
  intro f xs h v h' hx
  rcases sw_ok hx with ⟨rfl, hx⟩ | hx
  · obtain ⟨_, _, rfl, hx⟩ := ucons_ok hx; obtain ⟨_, _, rfl, hx⟩ := ucons_ok hx; obtain ⟨_, _, rfl, hx⟩ := ucons_ok hx; obtain ⟨rfl, hx⟩ := u0_ok hx; exact S65 (n := n) (cl := cl) hcl hx
  exact hcl _ _ _ _ _ hx
theorem E47 (n : Nat) (cl : CL) (a0 : Value) (h : PH) : exF Try.prog n (D47 n cl) ⟨[65], [], [(3, [1, 3, 4]), (6, [1, 3, 4, 12, 13, 14]), (10, [1, 3, 4, 12, 13, 14])], [], [], []⟩ Try.f47 [a0] h = F47 n cl a0 h := by kernel_rfl
theorem S47 {n : Nat} {cl : CL} (hcl : OkCL Try.prog cl) {a0 : Value} {h h' : PH} {v : Value} (hx : F47 n cl a0 h = some (v, h')) : (enterable Try.prog 47 = true ∧ ACall Try.prog 47 [a0] h.abs (fun u k => u = v ∧ k = h'.abs)) ∧ Inv h h' :=
  exF_ok (Dk47 hcl) hmx Try.func47 (by kernel_rfl) ((E47 n cl a0 h).trans hx)
-- undergrowth/sets.Nullable
noncomputable def F34_0 (n : Nat) (cl : CL) (v1 : Value) (h : PH) : R :=
 vb (xLdA 7 v1 h) fun v5 =>
 hb (fcall h (F47 n cl v5 (h.fzn))) fun v6 h =>
 some (v6, h)
noncomputable def F34 (n : Nat) (cl : CL) (a0 : Value) (h : PH) : R :=
 hb (xBox a0 h) fun v1 h =>
 vb (xLdA 7 v1 h) fun v2 =>
 vb (pcall (F11 n cl v2 (h.fzn))) fun v3 =>
 vb (xNot v3) fun v4 =>
 bite v4 (some (nils, h)) (F34_0 n cl v1 h)
noncomputable def D34 (n : Nat) (cl : CL) : CL := fun f xs h => sw f 11 (ucons xs fun b0 xs => u0 xs (F11 n cl b0 h)) (sw f 47 (ucons xs fun b0 xs => u0 xs (F47 n cl b0 h)) (cl f xs h))
theorem Dk34 {n : Nat} {cl : CL} (hcl : OkCL Try.prog cl) : OkCL Try.prog (D34 n cl) := by
  intro f xs h v h' hx
  rcases sw_ok hx with ⟨rfl, hx⟩ | hx
  · obtain ⟨_, _, rfl, hx⟩ := ucons_ok hx; obtain ⟨rfl, hx⟩ := u0_ok hx; exact S11 (n := n) (cl := cl) hcl hx
  rcases sw_ok hx with ⟨rfl, hx⟩ | hx
  · obtain ⟨_, _, rfl, hx⟩ := ucons_ok hx; obtain ⟨rfl, hx⟩ := u0_ok hx; exact S47 (n := n) (cl := cl) hcl hx
  exact hcl _ _ _ _ _ hx
theorem E34 (n : Nat) (cl : CL) (a0 : Value) (h : PH) : exF Try.prog n (D34 n cl) ⟨[11], [47], [], [], [], []⟩ Try.f34 [a0] h = F34 n cl a0 h := by kernel_rfl
theorem S34 {n : Nat} {cl : CL} (hcl : OkCL Try.prog cl) {a0 : Value} {h h' : PH} {v : Value} (hx : F34 n cl a0 h = some (v, h')) : (enterable Try.prog 34 = true ∧ ACall Try.prog 34 [a0] h.abs (fun u k => u = v ∧ k = h'.abs)) ∧ Inv h h' :=
  exF_ok (Dk34 hcl) hmx Try.func34 (by kernel_rfl) ((E34 n cl a0 h).trans hx)
-- undergrowth/cycle.alone
noncomputable def F35_0 (n : Nat) (cl : CL) (v37 : Value) (r7 : Kt) (v25 : Value) (v27 : Value) (v29 : Value) (v31 : Value) (v33 : Value) (v35 : Value) (h : PH) : R :=
 vb (xAri Int.add v37 (vN 1)) fun v39 =>
 r7 [v25, v27, v29, v31, v33, v35, v39] h
noncomputable def F35_1 (n : Nat) (cl : CL) (v69 : Value) (v73 : Value) (v61 : Value) (v57 : Value) (v51 : Value) (v49 : Value) (r48 : Kt) (v53 : Value) (v55 : Value) (v59 : Value) (v63 : Value) (v65 : Value) (v67 : Value) (v71 : Value) (h : PH) : R :=
 vb (xIdxS 1 v69 v73) fun v76 =>
 vb (xLd v76 h) fun v77 =>
 vb (gd (isB true v61) (some v73)) fun v78 =>
 vb (gd (isB true v61) (some v57)) fun v79 =>
 vb (gd (isB true v61) (xCmp ieq v78 v79)) fun v80 =>
 vb (gd (isB true v61) (some v80)) fun v81 =>
 vb (gd (isB false v81) (xLdA 7 v51 h)) fun v82 =>
 vb (gd (isB false v81) (some v77)) fun v83 =>
 vb (gd (isB false v81) (pcall (F25 n cl v82 v83 (h.fzn)))) fun v84 =>
 vb (gd (isB false v81) (some v84)) fun v85 =>
 vb (gd (isB true v85) (some v49)) fun v86 =>
 vb (gd (isB true v85) (some v77)) fun v87 =>
 vb (gd (isB true v85) (xIdxS 1 v86 v87)) fun v88 =>
 vb (gd (isB true v85) (xLd v88 h)) fun v89 =>
 vb (gd (isB false v81) (xPick v85 v89 ff)) fun v90 =>
 vb (gd (isB true v61) (xPick v81 tt v90)) fun v91 =>
 vb (xPick v61 v91 ff) fun v92 =>
 vb (xAri Int.add v73 (vN 1)) fun v93 =>
 r48 [v49, v51, v53, v55, v57, v59, v92, v63, v65, v67, v69, v71, v93] h
noncomputable def F35_2 (n : Nat) (cl : CL) (v59 : Value) (v55 : Value) (k24 : Kt) (v49 : Value) (v51 : Value) (v53 : Value) (v63 : Value) (v65 : Value) (v67 : Value) (h : PH) : R :=
 hb (xBS 1 (bsRow Try.prog 23 1 [(0, v59)]) h) fun v94 h =>
 hb (xApp (appInfo Try.prog #[23, 23]) v55 v94 h) fun v95 h =>
 k24 [v49, v51, v53, v95, v63, v65, v67] h
noncomputable def F35_3 (n : Nat) (cl : CL) (v61 : Value) (v59 : Value) (v55 : Value) (k24 : Kt) (v49 : Value) (v51 : Value) (v53 : Value) (v63 : Value) (v65 : Value) (v67 : Value) (h : PH) : R :=
 bite v61 (F35_2 n cl v59 v55 k24 v49 v51 v53 v63 v65 v67 h) (k24 [v49, v51, v53, v55, v63, v65, v67] h)
noncomputable def F35_4 (n : Nat) (cl : CL) (v73 : Value) (v71 : Value) (v69 : Value) (v61 : Value) (v57 : Value) (v51 : Value) (v49 : Value) (r48 : Kt) (v53 : Value) (v55 : Value) (v59 : Value) (v63 : Value) (v65 : Value) (v67 : Value) (k24 : Kt) (h : PH) : R :=
 vb (xCmp ilt v73 v71) fun v75 =>
 bite v75 (F35_1 n cl v69 v73 v61 v57 v51 v49 r48 v53 v55 v59 v63 v65 v67 v71 h) (F35_3 n cl v61 v59 v55 k24 v49 v51 v53 v63 v65 v67 h)
noncomputable def F35_5 (n : Nat) (cl : CL) (k24 : Kt) (r48 : Kt) (y47 : List Value) (h : PH) : R :=
 ucons y47 fun v49 y50 => ucons y50 fun v51 y52 => ucons y52 fun v53 y54 => ucons y54 fun v55 y56 => ucons y56 fun v57 y58 => ucons y58 fun v59 y60 => ucons y60 fun v61 y62 => ucons y62 fun v63 y64 => ucons y64 fun v65 y66 => ucons y66 fun v67 y68 => ucons y68 fun v69 y70 => ucons y70 fun v71 y72 => ucons y72 fun v73 y74 => F35_4 n cl v73 v71 v69 v61 v57 v51 v49 r48 v53 v55 v59 v63 v65 v67 k24 h
noncomputable def F35_6 (n : Nat) (cl : CL) (r7 : Kt) (y23 : List Value) (h : PH) : R :=
 ucons y23 fun v25 y26 => ucons y26 fun v27 y28 => ucons y28 fun v29 y30 => ucons y30 fun v31 y32 => ucons y32 fun v33 y34 => ucons y34 fun v35 y36 => ucons y36 fun v37 y38 => F35_0 n cl v37 r7 v25 v27 v29 v31 v33 v35 h
noncomputable def F35_7 (n : Nat) (cl : CL) (v16 : Value) (v20 : Value) (v10 : Value) (v12 : Value) (v8 : Value) (v14 : Value) (v18 : Value) (h : PH) (k24 : Kt) : R :=
 vb (xIdxS 1 v16 v20) fun v40 =>
 vb (xLd v40 h) fun v41 =>
 vb (xLdA 7 v10 h) fun v42 =>
 vb (pcall (F25 n cl v42 v41 (h.fzn))) fun v43 =>
 vb (xFld 1 v12) fun v44 =>
 vb (xLd v44 h) fun v45 =>
 vb (xLenS v45) fun v46 =>
 lp n (F35_5 n cl k24) [v8, v10, v12, v14, v20, v41, v43, v16, v18, v20, v45, v46, (vN 0)] h
noncomputable def F35_8 (n : Nat) (cl : CL) (v20 : Value) (v18 : Value) (r7 : Kt) (v16 : Value) (v10 : Value) (v12 : Value) (v8 : Value) (v14 : Value) (h : PH) : R :=
 vb (xCmp ilt v20 v18) fun v22 =>
 bite v22 (jn (F35_6 n cl r7) (F35_7 n cl v16 v20 v10 v12 v8 v14 v18 h)) (some (v14, h))
noncomputable def F35_9 (n : Nat) (cl : CL) (r7 : Kt) (y6 : List Value) (h : PH) : R :=
 ucons y6 fun v8 y9 => ucons y9 fun v10 y11 => ucons y11 fun v12 y13 => ucons y13 fun v14 y15 => ucons y15 fun v16 y17 => ucons y17 fun v18 y19 => ucons y19 fun v20 y21 => F35_8 n cl v20 v18 r7 v16 v10 v12 v8 v14 h
noncomputable def F35 (n : Nat) (cl : CL) (a0 a1 a2 : Value) (h : PH) : R :=
 hb (xBox a0 h) fun v1 h =>
 hb (xBox a2 h) fun v2 h =>
 vb (xFld 1 v2) fun v3 =>
 vb (xLd v3 h) fun v4 =>
 vb (xLenS v4) fun v5 =>
 lp n (F35_9 n cl) [a1, v1, v2, nils, v4, v5, (vN 0)] h
noncomputable def D35 (n : Nat) (cl : CL) : CL := fun f xs h => sw f 25 (ucons xs fun b0 xs => ucons xs fun b1 xs => u0 xs (F25 n cl b0 b1 h)) (cl f xs h)
theorem Dk35 {n : Nat} {cl : CL} (hcl : OkCL Try.prog cl) : OkCL Try.prog (D35 n cl) := by
  intro f xs h v h' hx
  rcases sw_ok hx with ⟨rfl, hx⟩ | hx
  · obtain ⟨_, _, rfl, hx⟩ := ucons_ok hx; obtain ⟨_, _, rfl, hx⟩ := ucons_ok hx; obtain ⟨rfl, hx⟩ := u0_ok hx; exact S25 (n := n) (cl := cl) hcl hx
  exact hcl _ _ _ _ _ hx
theorem E35 (n : Nat) (cl : CL) (a0 a1 a2 : Value) (h : PH) : exF Try.prog n (D35 n cl) ⟨[25], [], [(3, [1, 3, 5, 7, 14, 15, 16]), (7, [1, 3, 5, 7, 8, 9, 10, 14, 15, 16, 25, 26, 27]), (13, [1, 3, 5, 7, 14, 15, 16])], [], [], []⟩ Try.f35 [a0, a1, a2] h = F35 n cl a0 a1 a2 h := by kernel_rfl
theorem S35 {n : Nat} {cl : CL} (hcl : OkCL Try.prog cl) {a0 a1 a2 : Value} {h h' : PH} {v : Value} (hx : F35 n cl a0 a1 a2 h = some (v, h')) : (enterable Try.prog 35 = true ∧ ACall Try.prog 35 [a0, a1, a2] h.abs (fun u k => u = v ∧ k = h'.abs)) ∧ Inv h h' :=
  exF_ok (Dk35 hcl) hmx Try.func35 (by kernel_rfl) ((E35 n cl a0 a1 a2 h).trans hx)
-- undergrowth/cycle.Cyclic
noncomputable def F20_0 (n : Nat) (cl : CL) (v13 : Value) (v17 : Value) (v21 : Value) (r12 : Kt) (v15 : Value) (v19 : Value) (h : PH) : R :=
 vb (xFld 0 v13) fun v24 =>
 vb (xLd v24 h) fun v25 =>
 hb (xMk (zinfo Try.prog 55) v25 v25 h) fun v26 h =>
 vb (xIdxS 1 v17 v21) fun v27 =>
 hb (xSt1 v27 v26 h) fun _ h =>
 vb (xAri Int.add v21 (vN 1)) fun v28 =>
 r12 [v13, v15, v17, v19, v28] h
noncomputable def F20_1 (n : Nat) (cl : CL) (v70 : Value) (v74 : Value) (v62 : Value) (v60 : Value) (r55 : Kt) (v56 : Value) (v58 : Value) (v64 : Value) (v66 : Value) (v68 : Value) (v72 : Value) (h : PH) : R :=
 vb (xIdxS 1 v70 v74) fun v77 =>
 vb (xLd v77 h) fun v78 =>
 vb (xFld 0 v62) fun v79 =>
 vb (xLd v79 h) fun v80 =>
 vb (xIdxS 1 v60 v80) fun v81 =>
 vb (xLd v81 h) fun v82 =>
 vb (xIdxS 1 v82 v78) fun v83 =>
 hb (xSt1 v83 tt h) fun _ h =>
 vb (xAri Int.add v74 (vN 1)) fun v84 =>
 r55 [v56, v58, v60, v62, v64, v66, v68, v70, v72, v84] h
noncomputable def F20_2 (n : Nat) (cl : CL) (v68 : Value) (r33 : Kt) (v56 : Value) (v58 : Value) (v60 : Value) (v64 : Value) (v66 : Value) (h : PH) : R :=
 vb (xAri Int.add v68 (vN 1)) fun v85 =>
 r33 [v56, v58, v60, v64, v66, v85] h
noncomputable def F20_3 (n : Nat) (cl : CL) (v74 : Value) (v72 : Value) (v70 : Value) (v62 : Value) (v60 : Value) (r55 : Kt) (v56 : Value) (v58 : Value) (v64 : Value) (v66 : Value) (v68 : Value) (r33 : Kt) (h : PH) : R :=
 vb (xCmp ilt v74 v72) fun v76 =>
 bite v76 (F20_1 n cl v70 v74 v62 v60 r55 v56 v58 v64 v66 v68 v72 h) (F20_2 n cl v68 r33 v56 v58 v60 v64 v66 h)
noncomputable def F20_4 (n : Nat) (cl : CL) (r33 : Kt) (r55 : Kt) (y54 : List Value) (h : PH) : R :=
 ucons y54 fun v56 y57 => ucons y57 fun v58 y59 => ucons y59 fun v60 y61 => ucons y61 fun v62 y63 => ucons y63 fun v64 y65 => ucons y65 fun v66 y67 => ucons y67 fun v68 y69 => ucons y69 fun v70 y71 => ucons y71 fun v72 y73 => ucons y73 fun v74 y75 => F20_3 n cl v74 v72 v70 v62 v60 r55 v56 v58 v64 v66 v68 r33 h
noncomputable def F20_5 (n : Nat) (cl : CL) (v40 : Value) (v44 : Value) (v34 : Value) (v36 : Value) (r33 : Kt) (v38 : Value) (v42 : Value) (h : PH) : R :=
 vb (xIdxS 3 v40 v44) fun v47 =>
 vb (xLdA 3 v47 h) fun v48 =>
 hb (xAlloc (zcells Try.prog 25) h) fun v49 h =>
 hb (xStA 3 v49 v48 h) fun _ h =>
 vb (xLdA 7 v34 h) fun v50 =>
 vb (xLdA 3 v49 h) fun v51 =>
 hb (fcall h (F35 n cl v50 v36 v51 (h.fzn))) fun v52 h =>
 vb (xLenS v52) fun v53 =>
 lp n (F20_4 n cl r33) [v34, v36, v38, v49, v40, v42, v44, v52, v53, (vN 0)] h
noncomputable def F20_6 (n : Nat) (cl : CL) (v121 : Value) (v125 : Value) (v137 : Value) (v123 : Value) (r118 : Kt) (v119 : Value) (v127 : Value) (v129 : Value) (v131 : Value) (v133 : Value) (v135 : Value) (h : PH) : R :=
 vb (xIdxS 1 v121 v125) fun v140 =>
 vb (xIdxS 1 v121 v125) fun v141 =>
 vb (xLd v140 h) fun v142 =>
 vb (xLd v141 h) fun v143 =>
 vb (xIdxS 1 v143 v137) fun v144 =>
 vb (xLd v144 h) fun v145 =>
 vb (gd (isB false v145) (some v121)) fun v146 =>
 vb (gd (isB false v145) (some v125)) fun v147 =>
 vb (gd (isB false v145) (xIdxS 1 v146 v147)) fun v148 =>
 vb (gd (isB false v145) (some v123)) fun v149 =>
 vb (gd (isB false v145) (xLd v148 h)) fun v150 =>
 vb (gd (isB false v145) (xIdxS 1 v150 v149)) fun v151 =>
 vb (gd (isB false v145) (xLd v151 h)) fun v152 =>
 vb (gd (isB false v145) (some v152)) fun v153 =>
 vb (gd (isB true v153) (some v121)) fun v154 =>
 vb (gd (isB true v153) (some v123)) fun v155 =>
 vb (gd (isB true v153) (xIdxS 1 v154 v155)) fun v156 =>
 vb (gd (isB true v153) (some v137)) fun v157 =>
 vb (gd (isB true v153) (xLd v156 h)) fun v158 =>
 vb (gd (isB true v153) (xIdxS 1 v158 v157)) fun v159 =>
 vb (gd (isB true v153) (xLd v159 h)) fun v160 =>
 vb (gd (isB false v145) (xPick v153 v160 ff)) fun v161 =>
 vb (xPick v145 tt v161) fun v162 =>
 vb (xIdxS 1 v142 v137) fun v163 =>
 hb (xSt1 v163 v162 h) fun _ h =>
 vb (xAri Int.add v137 (vN 1)) fun v164 =>
 r118 [v119, v121, v123, v125, v127, v129, v131, v133, v135, v164] h
noncomputable def F20_7 (n : Nat) (cl : CL) (v133 : Value) (r100 : Kt) (v119 : Value) (v121 : Value) (v123 : Value) (v127 : Value) (v129 : Value) (v131 : Value) (h : PH) : R :=
 vb (xAri Int.add v133 (vN 1)) fun v165 =>
 r100 [v119, v121, v123, v127, v129, v131, v165] h
noncomputable def F20_8 (n : Nat) (cl : CL) (v137 : Value) (v135 : Value) (v121 : Value) (v125 : Value) (v123 : Value) (r118 : Kt) (v119 : Value) (v127 : Value) (v129 : Value) (v131 : Value) (v133 : Value) (r100 : Kt) (h : PH) : R :=
 vb (xCmp ilt v137 v135) fun v139 =>
 bite v139 (F20_6 n cl v121 v125 v137 v123 r118 v119 v127 v129 v131 v133 v135 h) (F20_7 n cl v133 r100 v119 v121 v123 v127 v129 v131 h)
noncomputable def F20_9 (n : Nat) (cl : CL) (r100 : Kt) (r118 : Kt) (y117 : List Value) (h : PH) : R :=
 ucons y117 fun v119 y120 => ucons y120 fun v121 y122 => ucons y122 fun v123 y124 => ucons y124 fun v125 y126 => ucons y126 fun v127 y128 => ucons y128 fun v129 y130 => ucons y130 fun v131 y132 => ucons y132 fun v133 y134 => ucons y134 fun v135 y136 => ucons y136 fun v137 y138 => F20_8 n cl v137 v135 v121 v125 v123 r118 v119 v127 v129 v131 v133 r100 h
noncomputable def F20_10 (n : Nat) (cl : CL) (v103 : Value) (r100 : Kt) (v101 : Value) (v105 : Value) (v113 : Value) (v107 : Value) (v109 : Value) (v111 : Value) (h : PH) : R :=
 vb (xLenS v103) fun v116 =>
 lp n (F20_9 n cl r100) [v101, v103, v105, v113, v107, v109, v111, v113, v116, (vN 0)] h
noncomputable def F20_11 (n : Nat) (cl : CL) (v109 : Value) (r88 : Kt) (v101 : Value) (v103 : Value) (v107 : Value) (h : PH) : R :=
 vb (xAri Int.add v109 (vN 1)) fun v166 =>
 r88 [v101, v103, v107, v166] h
noncomputable def F20_12 (n : Nat) (cl : CL) (v113 : Value) (v111 : Value) (v103 : Value) (r100 : Kt) (v101 : Value) (v105 : Value) (v107 : Value) (v109 : Value) (r88 : Kt) (h : PH) : R :=
 vb (xCmp ilt v113 v111) fun v115 =>
 bite v115 (F20_10 n cl v103 r100 v101 v105 v113 v107 v109 v111 h) (F20_11 n cl v109 r88 v101 v103 v107 h)
noncomputable def F20_13 (n : Nat) (cl : CL) (r88 : Kt) (r100 : Kt) (y99 : List Value) (h : PH) : R :=
 ucons y99 fun v101 y102 => ucons y102 fun v103 y104 => ucons y104 fun v105 y106 => ucons y106 fun v107 y108 => ucons y108 fun v109 y110 => ucons y110 fun v111 y112 => ucons y112 fun v113 y114 => F20_12 n cl v113 v111 v103 r100 v101 v105 v107 v109 r88 h
noncomputable def F20_14 (n : Nat) (cl : CL) (v91 : Value) (r88 : Kt) (v89 : Value) (v95 : Value) (v93 : Value) (h : PH) : R :=
 vb (xLenS v91) fun v98 =>
 lp n (F20_13 n cl r88) [v89, v91, v95, v93, v95, v98, (vN 0)] h
noncomputable def F20_15 (n : Nat) (cl : CL) (v173 : Value) (v179 : Value) (v175 : Value) (r172 : Kt) (v177 : Value) (h : PH) : R :=
 vb (xIdxS 1 v173 v179) fun v182 =>
 vb (xLd v182 h) fun v183 =>
 vb (xIdxS 1 v183 v179) fun v184 =>
 vb (xLd v184 h) fun v185 =>
 vb (xIdxS 1 v175 v179) fun v186 =>
 hb (xSt1 v186 v185 h) fun _ h =>
 vb (xAri Int.add v179 (vN 1)) fun v187 =>
 r172 [v173, v175, v177, v187] h
noncomputable def F20_16 (n : Nat) (cl : CL) (v179 : Value) (v177 : Value) (v173 : Value) (v175 : Value) (r172 : Kt) (h : PH) : R :=
 vb (xCmp ilt v179 v177) fun v181 =>
 bite v181 (F20_15 n cl v173 v179 v175 r172 v177 h) (some (v175, h))
noncomputable def F20_17 (n : Nat) (cl : CL) (r172 : Kt) (y171 : List Value) (h : PH) : R :=
 ucons y171 fun v173 y174 => ucons y174 fun v175 y176 => ucons y176 fun v177 y178 => ucons y178 fun v179 y180 => F20_16 n cl v179 v177 v173 v175 r172 h
noncomputable def F20_18 (n : Nat) (cl : CL) (v89 : Value) (v91 : Value) (h : PH) : R :=
 vb (xFld 0 v89) fun v167 =>
 vb (xLd v167 h) fun v168 =>
 hb (xMk (zinfo Try.prog 55) v168 v168 h) fun v169 h =>
 vb (xLenS v169) fun v170 =>
 lp n (F20_17 n cl) [v91, v169, v170, (vN 0)] h
noncomputable def F20_19 (n : Nat) (cl : CL) (v95 : Value) (v93 : Value) (v91 : Value) (r88 : Kt) (v89 : Value) (h : PH) : R :=
 vb (xCmp ilt v95 v93) fun v97 =>
 bite v97 (F20_14 n cl v91 r88 v89 v95 v93 h) (F20_18 n cl v89 v91 h)
noncomputable def F20_20 (n : Nat) (cl : CL) (r88 : Kt) (y87 : List Value) (h : PH) : R :=
 ucons y87 fun v89 y90 => ucons y90 fun v91 y92 => ucons y92 fun v93 y94 => ucons y94 fun v95 y96 => F20_19 n cl v95 v93 v91 r88 v89 h
noncomputable def F20_21 (n : Nat) (cl : CL) (v38 : Value) (v34 : Value) (h : PH) : R :=
 vb (xLenS v38) fun v86 =>
 lp n (F20_20 n cl) [v34, v38, v86, (vN 0)] h
noncomputable def F20_22 (n : Nat) (cl : CL) (v44 : Value) (v42 : Value) (v40 : Value) (v34 : Value) (v36 : Value) (r33 : Kt) (v38 : Value) (h : PH) : R :=
 vb (xCmp ilt v44 v42) fun v46 =>
 bite v46 (F20_5 n cl v40 v44 v34 v36 r33 v38 v42 h) (F20_21 n cl v38 v34 h)
noncomputable def F20_23 (n : Nat) (cl : CL) (r33 : Kt) (y32 : List Value) (h : PH) : R :=
 ucons y32 fun v34 y35 => ucons y35 fun v36 y37 => ucons y37 fun v38 y39 => ucons y39 fun v40 y41 => ucons y41 fun v42 y43 => ucons y43 fun v44 y45 => F20_22 n cl v44 v42 v40 v34 v36 r33 v38 h
noncomputable def F20_24 (n : Nat) (cl : CL) (v13 : Value) (v15 : Value) (v17 : Value) (h : PH) : R :=
 vb (xFld 3 v13) fun v29 =>
 vb (xLd v29 h) fun v30 =>
 vb (xLenS v30) fun v31 =>
 lp n (F20_23 n cl) [v13, v15, v17, v30, v31, (vN 0)] h
noncomputable def F20_25 (n : Nat) (cl : CL) (v21 : Value) (v19 : Value) (v13 : Value) (v17 : Value) (r12 : Kt) (v15 : Value) (h : PH) : R :=
 vb (xCmp ilt v21 v19) fun v23 =>
 bite v23 (F20_0 n cl v13 v17 v21 r12 v15 v19 h) (F20_24 n cl v13 v15 v17 h)
noncomputable def F20_26 (n : Nat) (cl : CL) (r12 : Kt) (y11 : List Value) (h : PH) : R :=
 ucons y11 fun v13 y14 => ucons y14 fun v15 y16 => ucons y16 fun v17 y18 => ucons y18 fun v19 y20 => ucons y20 fun v21 y22 => F20_25 n cl v21 v19 v13 v17 r12 v15 h
noncomputable def F20_27 (n : Nat) (cl : CL) (v1 : Value) (h : PH) : R :=
 vb (xLdA 7 v1 h) fun v5 =>
 hb (fcall h (F34 n cl v5 (h.fzn))) fun v6 h =>
 vb (xFld 0 v1) fun v7 =>
 vb (xLd v7 h) fun v8 =>
 hb (xMk (zinfo Try.prog 72) v8 v8 h) fun v9 h =>
 vb (xLenS v9) fun v10 =>
 lp n (F20_26 n cl) [v1, v6, v9, v10, (vN 0)] h
noncomputable def F20 (n : Nat) (cl : CL) (a0 : Value) (h : PH) : R :=
 hb (xBox a0 h) fun v1 h =>
 vb (xLdA 7 v1 h) fun v2 =>
 vb (pcall (F11 n cl v2 (h.fzn))) fun v3 =>
 vb (xNot v3) fun v4 =>
 bite v4 (some (nils, h)) (F20_27 n cl v1 h)
noncomputable def D20 (n : Nat) (cl : CL) : CL := fun f xs h => sw f 11 (ucons xs fun b0 xs => u0 xs (F11 n cl b0 h)) (sw f 34 (ucons xs fun b0 xs => u0 xs (F34 n cl b0 h)) (sw f 35 (ucons xs fun b0 xs => ucons xs fun b1 xs => ucons xs fun b2 xs => u0 xs (F35 n cl b0 b1 b2 h)) (cl f xs h)))
theorem Dk20 {n : Nat} {cl : CL} (hcl : OkCL Try.prog cl) : OkCL Try.prog (D20 n cl) := by
  intro f xs h v h' hx
  rcases sw_ok hx with ⟨rfl, hx⟩ | hx
  · obtain ⟨_, _, rfl, hx⟩ := ucons_ok hx; obtain ⟨rfl, hx⟩ := u0_ok hx; exact S11 (n := n) (cl := cl) hcl hx
  rcases sw_ok hx with ⟨rfl, hx⟩ | hx
  · obtain ⟨_, _, rfl, hx⟩ := ucons_ok hx; obtain ⟨rfl, hx⟩ := u0_ok hx; exact S34 (n := n) (cl := cl) hcl hx
  rcases sw_ok hx with ⟨rfl, hx⟩ | hx
  · obtain ⟨_, _, rfl, hx⟩ := ucons_ok hx; obtain ⟨_, _, rfl, hx⟩ := ucons_ok hx; obtain ⟨_, _, rfl, hx⟩ := ucons_ok hx; obtain ⟨rfl, hx⟩ := u0_ok hx; exact S35 (n := n) (cl := cl) hcl hx
  exact hcl _ _ _ _ _ hx
theorem E20 (n : Nat) (cl : CL) (a0 : Value) (h : PH) : exF Try.prog n (D20 n cl) ⟨[11], [34, 35], [(6, [1, 3, 4, 24, 25]), (11, [1, 3, 4, 36, 37, 38]), (14, [1, 3, 4, 7, 36, 37, 38, 45, 46, 47]), (20, [1, 4, 61, 62]), (23, [1, 4, 10, 61, 62, 66, 67]), (26, [1, 4, 10, 11, 61, 62, 66, 67, 71, 72]), (34, [4, 13, 113, 114])], [(28, [0, 1, 2, 4, 5, 6, 7, 9, 3, 8, 10, 11, 12, 13, 14, 15, 17, 16, 18, 19, 20, 21, 22, 23, 25, 24, 26, 27, 28, 29, 30, 31])], [], []⟩ Try.f20 [a0] h = F20 n cl a0 h := by kernel_rfl
theorem S20 {n : Nat} {cl : CL} (hcl : OkCL Try.prog cl) {a0 : Value} {h h' : PH} {v : Value} (hx : F20 n cl a0 h = some (v, h')) : (enterable Try.prog 20 = true ∧ ACall Try.prog 20 [a0] h.abs (fun u k => u = v ∧ k = h'.abs)) ∧ Inv h h' :=
  exF_ok (Dk20 hcl) hmx Try.func20 (by kernel_rfl) ((E20 n cl a0 h).trans hx)
-- undergrowth/cycle.Check
noncomputable def F8_0 (n : Nat) (cl : CL) (v22 : Value) (r13 : Kt) (v14 : Value) (v16 : Value) (v18 : Value) (v20 : Value) (h : PH) : R :=
 vb (xAri Int.add v22 (vN 1)) fun v34 =>
 r13 [v14, v16, v18, v20, v34] h
noncomputable def F8_1 (n : Nat) (cl : CL) (v16 : Value) (v22 : Value) (v18 : Value) (r13 : Kt) (v14 : Value) (v20 : Value) (h : PH) : R :=
 vb (xIdxS 1 v16 v22) fun v25 =>
 vb (xLd v25 h) fun v26 =>
 vb (xNot v26) fun v27 =>
 vb (gd (isB false v27) (some v18)) fun v28 =>
 vb (gd (isB false v27) (some v22)) fun v29 =>
 vb (gd (isB false v27) (xIdxS 1 v28 v29)) fun v30 =>
 vb (gd (isB false v27) (xLd v30 h)) fun v31 =>
 vb (gd (isB false v27) (xNot v31)) fun v32 =>
 vb (xPick v27 tt v32) fun v33 =>
 bite v33 (some (Value.tuple ⟨[v22, (vN 7)]⟩, h)) (F8_0 n cl v22 r13 v14 v16 v18 v20 h)
noncomputable def F8_2 (n : Nat) (cl : CL) (v44 : Value) (r39 : Kt) (v40 : Value) (v42 : Value) (h : PH) : R :=
 vb (xAri Int.add v44 (vN 1)) fun v49 =>
 r39 [v40, v42, v49] h
noncomputable def F8_3 (n : Nat) (cl : CL) (v40 : Value) (v44 : Value) (r39 : Kt) (v42 : Value) (h : PH) : R :=
 vb (xIdxS 1 v40 v44) fun v47 =>
 vb (xLd v47 h) fun v48 =>
 bite v48 (some (Value.tuple ⟨[v44, (vN 8)]⟩, h)) (F8_2 n cl v44 r39 v40 v42 h)
noncomputable def F8_4 (n : Nat) (cl : CL) (v44 : Value) (v42 : Value) (v40 : Value) (r39 : Kt) (h : PH) : R :=
 vb (xCmp ilt v44 v42) fun v46 =>
 bite v46 (F8_3 n cl v40 v44 r39 v42 h) (some (Value.tuple ⟨[(vM 0), (vN 0)]⟩, h))
noncomputable def F8_5 (n : Nat) (cl : CL) (r39 : Kt) (y38 : List Value) (h : PH) : R :=
 ucons y38 fun v40 y41 => ucons y41 fun v42 y43 => ucons y43 fun v44 y45 => F8_4 n cl v44 v42 v40 r39 h
noncomputable def F8_6 (n : Nat) (cl : CL) (v14 : Value) (h : PH) : R :=
 vb (xLdA 7 v14 h) fun v35 =>
 hb (fcall h (F20 n cl v35 (h.fzn))) fun v36 h =>
 vb (xLenS v36) fun v37 =>
 lp n (F8_5 n cl) [v36, v37, (vN 0)] h
noncomputable def F8_7 (n : Nat) (cl : CL) (v22 : Value) (v20 : Value) (v16 : Value) (v18 : Value) (r13 : Kt) (v14 : Value) (h : PH) : R :=
 vb (xCmp ilt v22 v20) fun v24 =>
 bite v24 (F8_1 n cl v16 v22 v18 r13 v14 v20 h) (F8_6 n cl v14 h)
noncomputable def F8_8 (n : Nat) (cl : CL) (r13 : Kt) (y12 : List Value) (h : PH) : R :=
 ucons y12 fun v14 y15 => ucons y15 fun v16 y17 => ucons y17 fun v18 y19 => ucons y19 fun v20 y21 => ucons y21 fun v22 y23 => F8_7 n cl v22 v20 v16 v18 r13 v14 h
noncomputable def F8_9 (n : Nat) (cl : CL) (v1 : Value) (h : PH) : R :=
 vb (xLdA 7 v1 h) fun v7 =>
 vb (xLdA 7 v1 h) fun v8 =>
 hb (fcall h (F18 n cl v7 (h.fzn))) fun v9 h =>
 lchk (xLdA 7 v1 h) v8 <|
 hb (fcall h (F19 n cl v8 (h.fzn))) fun v10 h =>
 vb (xLenS v9) fun v11 =>
 lp n (F8_8 n cl) [v1, v9, v10, v11, (vN 0)] h
noncomputable def F8 (n : Nat) (cl : CL) (a0 : Value) (h : PH) : R :=
 hb (xBox a0 h) fun v1 h =>
 vb (xLdA 7 v1 h) fun v2 =>
 vb (pcall (F17 n cl v2 (h.fzn))) fun v3 =>
 vb (xExt 0 v3) fun v4 =>
 vb (xExt 1 v3) fun v5 =>
 vb (xCmp ine v5 (vN 0)) fun v6 =>
 bite v6 (some (Value.tuple ⟨[v4, v5]⟩, h)) (F8_9 n cl v1 h)
noncomputable def D8 (n : Nat) (cl : CL) : CL := fun f xs h => sw f 17 (ucons xs fun b0 xs => u0 xs (F17 n cl b0 h)) (sw f 18 (ucons xs fun b0 xs => u0 xs (F18 n cl b0 h)) (sw f 19 (ucons xs fun b0 xs => u0 xs (F19 n cl b0 h)) (sw f 20 (ucons xs fun b0 xs => u0 xs (F20 n cl b0 h)) (cl f xs h))))
theorem Dk8 {n : Nat} {cl : CL} (hcl : OkCL Try.prog cl) : OkCL Try.prog (D8 n cl) := by
  intro f xs h v h' hx
  rcases sw_ok hx with ⟨rfl, hx⟩ | hx
  · obtain ⟨_, _, rfl, hx⟩ := ucons_ok hx; obtain ⟨rfl, hx⟩ := u0_ok hx; exact S17 (n := n) (cl := cl) hcl hx
  rcases sw_ok hx with ⟨rfl, hx⟩ | hx
  · obtain ⟨_, _, rfl, hx⟩ := ucons_ok hx; obtain ⟨rfl, hx⟩ := u0_ok hx; exact S18 (n := n) (cl := cl) hcl hx
  rcases sw_ok hx with ⟨rfl, hx⟩ | hx
  · obtain ⟨_, _, rfl, hx⟩ := ucons_ok hx; obtain ⟨rfl, hx⟩ := u0_ok hx; exact S19 (n := n) (cl := cl) hcl hx
  rcases sw_ok hx with ⟨rfl, hx⟩ | hx
  · obtain ⟨_, _, rfl, hx⟩ := ucons_ok hx; obtain ⟨rfl, hx⟩ := u0_ok hx; exact S20 (n := n) (cl := cl) hcl hx
  exact hcl _ _ _ _ _ hx
theorem E8 (n : Nat) (cl : CL) (a0 : Value) (h : PH) : exF Try.prog n (D8 n cl) ⟨[17], [18, 19, 20], [(6, [1, 6, 7, 25, 26]), (12, [44, 45, 46])], [(4, [0, 2, 1, 3, 4, 5])], [(4, [1, 2])], []⟩ Try.f8 [a0] h = F8 n cl a0 h := by kernel_rfl
theorem S8 {n : Nat} {cl : CL} (hcl : OkCL Try.prog cl) {a0 : Value} {h h' : PH} {v : Value} (hx : F8 n cl a0 h = some (v, h')) : (enterable Try.prog 8 = true ∧ ACall Try.prog 8 [a0] h.abs (fun u k => u = v ∧ k = h'.abs)) ∧ Inv h h' :=
  exF_ok (Dk8 hcl) hmx Try.func8 (by kernel_rfl) ((E8 n cl a0 h).trans hx)
-- undergrowth/items.key
noncomputable def F21_0 (n : Nat) (cl : CL) (v6 : Value) (v10 : Value) (v4 : Value) (r3 : Kt) (v8 : Value) (h : PH) : R :=
 vb (xIdxS 2 v6 v10) fun v13 =>
 vb (xLdA 2 v13 h) fun v14 =>
 hb (xAlloc (zcells Try.prog 48) h) fun v15 h =>
 hb (xStA 2 v15 v14 h) fun _ h =>
 vb (xFld 0 v15) fun v16 =>
 vb (xLd v16 h) fun v17 =>
 vb (xAri Int.add v17 (vN 1)) fun v18 =>
 vb (xConv Try.prog 3 5 v18) fun v19 =>
 vb (xFld 1 v15) fun v20 =>
 vb (xLd v20 h) fun v21 =>
 vb (xConv Try.prog 3 5 v21) fun v22 =>
 hb (xBS 2 (bsRow Try.prog 74 2 [(0, v19), (1, v22)]) h) fun v23 h =>
 hb (xApp (appInfo Try.prog #[74, 74]) v4 v23 h) fun v24 h =>
 vb (xAri Int.add v10 (vN 1)) fun v25 =>
 r3 [v24, v6, v8, v25] h
noncomputable def F21_1 (n : Nat) (cl : CL) (v4 : Value) (h : PH) : R :=
 vb (xB2S v4 h) fun v26 =>
 some (v26, h)
noncomputable def F21_2 (n : Nat) (cl : CL) (v10 : Value) (v8 : Value) (v6 : Value) (v4 : Value) (r3 : Kt) (h : PH) : R :=
 vb (xCmp ilt v10 v8) fun v12 =>
 bite v12 (F21_0 n cl v6 v10 v4 r3 v8 h) (F21_1 n cl v4 h)
noncomputable def F21_3 (n : Nat) (cl : CL) (r3 : Kt) (y2 : List Value) (h : PH) : R :=
 ucons y2 fun v4 y5 => ucons y5 fun v6 y7 => ucons y7 fun v8 y9 => ucons y9 fun v10 y11 => F21_2 n cl v10 v8 v6 v4 r3 h
noncomputable def F21 (n : Nat) (cl : CL) (a0 : Value) (h : PH) : R :=
 vb (xLenS a0) fun v1 =>
 lp n (F21_3 n cl) [nils, a0, v1, (vN 0)] h
theorem E21 (n : Nat) (cl : CL) (a0 : Value) (h : PH) : exF Try.prog n cl ⟨[], [], [(3, [3, 6, 7, 8])], [], [], []⟩ Try.f21 [a0] h = F21 n cl a0 h := by kernel_rfl
theorem S21 {n : Nat} {cl : CL} (hcl : OkCL Try.prog cl) {a0 : Value} {h h' : PH} {v : Value} (hx : F21 n cl a0 h = some (v, h')) : (enterable Try.prog 21 = true ∧ ACall Try.prog 21 [a0] h.abs (fun u k => u = v ∧ k = h'.abs)) ∧ Inv h h' :=
  exF_ok hcl hmx Try.func21 (by kernel_rfl) ((E21 n cl a0 h).trans hx)
-- (*undergrowth/items.maker).state
noncomputable def F9_0 (n : Nat) (cl : CL) (a0 : Value) (v1 : Value) (a1 : Value) (k9 : Kt) (h : PH) : R :=
 vb (xNil a0) fun v13 =>
 vb (xFld 8 v13) fun v14 =>
 vb (xLd v14 h) fun v15 =>
 vb (xLenS v15) fun v16 =>
 vb (xNil a0) fun v17 =>
 vb (xFld 7 v17) fun v18 =>
 vb (xLd v18 h) fun v19 =>
 hb (xMUpd Try.prog 9 v19 v1 v16 h) fun _ h =>
 vb (xNil a0) fun v20 =>
 vb (xFld 8 v20) fun v21 =>
 vb (xLd v21 h) fun v22 =>
 vb (abuild Try.prog 37 [(0, a1)]) fun v23 =>
 hb (xBS 1 (bsRow Try.prog 30 1 [(0, v23)]) h) fun v24 h =>
 hb (xApp (appInfo Try.prog #[30, 30]) v22 v24 h) fun v25 h =>
 vb (xNil a0) fun v26 =>
 vb (xFld 8 v26) fun v27 =>
 hb (xSt1 v27 v25 h) fun _ h =>
 k9 [v16] h
noncomputable def F9_1 (n : Nat) (cl : CL) (v7 : Value) (a0 : Value) (v1 : Value) (a1 : Value) (v6 : Value) (h : PH) (k9 : Kt) : R :=
 vb (xNot v7) fun v12 =>
 bite v12 (F9_0 n cl a0 v1 a1 k9 h) (k9 [v6] h)
noncomputable def F9 (n : Nat) (cl : CL) (a0 a1 : Value) (h : PH) : R :=
 vb (pcall (F21 n cl a1 (h.fzn))) fun v1 =>
 vb (xNil a0) fun v2 =>
 vb (xFld 7 v2) fun v3 =>
 vb (xLd v3 h) fun v4 =>
 vb (xLkp Try.prog 9 3 true v4 v1 h) fun v5 =>
 vb (xExt 0 v5) fun v6 =>
 vb (xExt 1 v5) fun v7 =>
 jn (fun y8 h => ucons y8 fun v10 y11 => some (v10, h)) (F9_1 n cl v7 a0 v1 a1 v6 h)
noncomputable def D9 (n : Nat) (cl : CL) : CL := fun f xs h => sw f 21 (ucons xs fun b0 xs => u0 xs (F21 n cl b0 h)) (cl f xs h)
theorem Dk9 {n : Nat} {cl : CL} (hcl : OkCL Try.prog cl) : OkCL Try.prog (D9 n cl) := by
  intro f xs h v h' hx
  rcases sw_ok hx with ⟨rfl, hx⟩ | hx
  · obtain ⟨_, _, rfl, hx⟩ := ucons_ok hx; obtain ⟨rfl, hx⟩ := u0_ok hx; exact S21 (n := n) (cl := cl) hcl hx
  exact hcl _ _ _ _ _ hx
theorem E9 (n : Nat) (cl : CL) (a0 a1 : Value) (h : PH) : exF Try.prog n (D9 n cl) ⟨[21], [], [(7, [6])], [], [], []⟩ Try.f9 [a0, a1] h = F9 n cl a0 a1 h := by kernel_rfl
theorem S9 {n : Nat} {cl : CL} (hcl : OkCL Try.prog cl) {a0 a1 : Value} {h h' : PH} {v : Value} (hx : F9 n cl a0 a1 h = some (v, h')) : (enterable Try.prog 9 = true ∧ ACall Try.prog 9 [a0, a1] h.abs (fun u k => u = v ∧ k = h'.abs)) ∧ Inv h h' :=
  exF_ok (Dk9 hcl) hmx Try.func9 (by kernel_rfl) ((E9 n cl a0 a1 h).trans hx)
-- slices.Clone[[]undergrowth/api.Item,undergrowth/api.Item]
noncomputable def F14_0 (n : Nat) (cl : CL) (a0 : Value) (h : PH) : R :=
 hb (xBS 0 (bsRow Try.prog 35 0 []) h) fun v2 h =>
 hb (xApp (appInfo Try.prog #[35, 35]) v2 a0 h) fun v3 h =>
 some (v3, h)
noncomputable def F14 (n : Nat) (cl : CL) (a0 : Value) (h : PH) : R :=
 vb (abin Try.prog .eql 35 (Operand.tmp 3) (Operand.const (Value.slice none 0 0)) a0 nils) fun v1 =>
 bite v1 (some (nils, h)) (F14_0 n cl a0 h)
theorem E14 (n : Nat) (cl : CL) (a0 : Value) (h : PH) : exF Try.prog n cl ⟨[], [], [], [], [], []⟩ Try.f14 [a0] h = F14 n cl a0 h := by kernel_rfl
theorem S14 {n : Nat} {cl : CL} (hcl : OkCL Try.prog cl) {a0 : Value} {h h' : PH} {v : Value} (hx : F14 n cl a0 h = some (v, h')) : (enterable Try.prog 14 = true ∧ ACall Try.prog 14 [a0] h.abs (fun u k => u = v ∧ k = h'.abs)) ∧ Inv h h' :=
  exF_ok hcl hmx Try.func14 (by kernel_rfl) ((E14 n cl a0 h).trans hx)
-- undergrowth/items.Right
noncomputable def F27_0 (n : Nat) (cl : CL) (v1 : Value) (h : PH) : R :=
 vb (xFld 2 v1) fun v3 =>
 vb (xLd v3 h) fun v4 =>
 hb (xBS 1 (bsRow Try.prog 23 1 [(0, v4)]) h) fun v5 h =>
 some (v5, h)
noncomputable def F27_1 (n : Nat) (cl : CL) (v1 : Value) (a1 : Value) (h : PH) : R :=
 vb (xFld 3 v1) fun v6 =>
 vb (xLd v6 h) fun v7 =>
 vb (xIdxS 3 v7 a1) fun v8 =>
 vb (xFld 1 v8) fun v9 =>
 vb (xLd v9 h) fun v10 =>
 some (v10, h)
noncomputable def F27 (n : Nat) (cl : CL) (a0 a1 : Value) (h : PH) : R :=
 hb (xBox a0 h) fun v1 h =>
 vb (xCmp ieq a1 (vM 0)) fun v2 =>
 bite v2 (F27_0 n cl v1 h) (F27_1 n cl v1 a1 h)
theorem E27 (n : Nat) (cl : CL) (a0 a1 : Value) (h : PH) : exF Try.prog n cl ⟨[], [], [], [], [], []⟩ Try.f27 [a0, a1] h = F27 n cl a0 a1 h := by kernel_rfl
theorem S27 {n : Nat} {cl : CL} (hcl : OkCL Try.prog cl) {a0 a1 : Value} {h h' : PH} {v : Value} (hx : F27 n cl a0 a1 h = some (v, h')) : (enterable Try.prog 27 = true ∧ ACall Try.prog 27 [a0, a1] h.abs (fun u k => u = v ∧ k = h'.abs)) ∧ Inv h h' :=
  exF_ok hcl hmx Try.func27 (by kernel_rfl) ((E27 n cl a0 a1 h).trans hx)
-- undergrowth/items.Behind
noncomputable def F22_0 (n : Nat) (cl : CL) (v2 : Value) (v6 : Value) (h : PH) : R :=
 vb (xFld 1 v2) fun v11 =>
 vb (xLd v11 h) fun v12 =>
 vb (xIdxS 1 v6 v12) fun v13 =>
 vb (xLd v13 h) fun v14 =>
 some (Value.tuple ⟨[v14, tt]⟩, h)
noncomputable def F22 (n : Nat) (cl : CL) (a0 a1 : Value) (h : PH) : R :=
 hb (xBox a0 h) fun v1 h =>
 hb (xBox a1 h) fun v2 h =>
 vb (xLdA 7 v1 h) fun v3 =>
 vb (xFld 0 v2) fun v4 =>
 vb (xLd v4 h) fun v5 =>
 hb (fcall h (F27 n cl v3 v5 (h.fzn))) fun v6 h =>
 vb (xFld 1 v2) fun v7 =>
 vb (xLd v7 h) fun v8 =>
 vb (xLenS v6) fun v9 =>
 vb (xCmp (fun x y => ile y x) v8 v9) fun v10 =>
 bite v10 (some (Value.tuple ⟨[(vN 0), ff]⟩, h)) (F22_0 n cl v2 v6 h)
noncomputable def D22 (n : Nat) (cl : CL) : CL := fun f xs h => sw f 27 (ucons xs fun b0 xs => ucons xs fun b1 xs => u0 xs (F27 n cl b0 b1 h)) (cl f xs h)
theorem Dk22 {n : Nat} {cl : CL} (hcl : OkCL Try.prog cl) : OkCL Try.prog (D22 n cl) := by
  intro f xs h v h' hx
  rcases sw_ok hx with ⟨rfl, hx⟩ | hx
  · obtain ⟨_, _, rfl, hx⟩ := ucons_ok hx; obtain ⟨_, _, rfl, hx⟩ := ucons_ok hx; obtain ⟨rfl, hx⟩ := u0_ok hx; exact S27 (n := n) (cl := cl) hcl hx
  exact hcl _ _ _ _ _ hx
theorem E22 (n : Nat) (cl : CL) (a0 a1 : Value) (h : PH) : exF Try.prog n (D22 n cl) ⟨[], [27], [], [], [], []⟩ Try.f22 [a0, a1] h = F22 n cl a0 a1 h := by kernel_rfl
theorem S22 {n : Nat} {cl : CL} (hcl : OkCL Try.prog cl) {a0 a1 : Value} {h h' : PH} {v : Value} (hx : F22 n cl a0 a1 h = some (v, h')) : (enterable Try.prog 22 = true ∧ ACall Try.prog 22 [a0, a1] h.abs (fun u k => u = v ∧ k = h'.abs)) ∧ Inv h h' :=
  exF_ok (Dk22 hcl) hmx Try.func22 (by kernel_rfl) ((E22 n cl a0 a1 h).trans hx)
-- math/bits.Len32
noncomputable def F57_0 (n : Nat) (cl : CL) (v9 : Value) (v11 : Value) (h : PH) : R :=
 vb (xConv Try.prog 93 5 v9) fun v13 =>
 vb (aindex Try.prog 9 (Value.string { data := #[0, 1, 2, 2, 3, 3, 3, 3, 4, 4, 4, 4, 4, 4, 4, 4, 5, 5, 5, 5, 5, 5, 5, 5, 5, 5, 5, 5, 5, 5, 5, 5, 6, 6, 6, 6, 6, 6, 6, 6, 6, 6, 6, 6, 6, 6, 6, 6, 6, 6, 6, 6, 6, 6, 6, 6, 6, 6, 6, 6, 6, 6, 6, 6, 7, 7, 7, 7, 7, 7, 7, 7, 7, 7, 7, 7, 7, 7, 7, 7, 7, 7, 7, 7, 7, 7, 7, 7, 7, 7, 7, 7, 7, 7, 7, 7, 7, 7, 7, 7, 7, 7, 7, 7, 7, 7, 7, 7, 7, 7, 7, 7, 7, 7, 7, 7, 7, 7, 7, 7, 7, 7, 7, 7, 7, 7, 7, 7, 8, 8, 8, 8, 8, 8, 8, 8, 8, 8, 8, 8, 8, 8, 8, 8, 8, 8, 8, 8, 8, 8, 8, 8, 8, 8, 8, 8, 8, 8, 8, 8, 8, 8, 8, 8, 8, 8, 8, 8, 8, 8, 8, 8, 8, 8, 8, 8, 8, 8, 8, 8, 8, 8, 8, 8, 8, 8, 8, 8, 8, 8, 8, 8, 8, 8, 8, 8, 8, 8, 8, 8, 8, 8, 8, 8, 8, 8, 8, 8, 8, 8, 8, 8, 8, 8, 8, 8, 8, 8, 8, 8, 8, 8, 8, 8, 8, 8, 8, 8, 8, 8, 8, 8, 8, 8, 8, 8, 8, 8, 8, 8, 8, 8, 8, 8, 8, 8, 8, 8, 8, 8, 8, 8, 8, 8, 8, 8] }) v13) fun v14 =>
 vb (xConv Try.prog 5 3 v14) fun v15 =>
 vb (xAri Int.add v11 v15) fun v16 =>
 some (v16, h)
noncomputable def F57_1 (n : Nat) (cl : CL) (v3 : Value) (v5 : Value) (k8 : Kt) (h : PH) : R :=
 vb (abin Try.prog .shr 93 (Operand.tmp 9) (Operand.const (Value.int IntKind.u64 8)) v3 (Value.int .u64 (.ofNat 8))) fun v18 =>
 vb (xAri Int.add v5 (vN 8)) fun v19 =>
 k8 [v18, v19] h
noncomputable def F57_2 (n : Nat) (cl : CL) (v3 : Value) (v5 : Value) (h : PH) (k8 : Kt) : R :=
 vb (xCmp (fun x y => ile y x) v3 (Value.int .u32 (.ofNat 256))) fun v17 =>
 bite v17 (F57_1 n cl v3 v5 k8 h) (k8 [v3, v5] h)
noncomputable def F57_3 (n : Nat) (cl : CL) (v3 : Value) (v5 : Value) (h : PH) : R :=
 jn (fun y7 h => ucons y7 fun v9 y10 => ucons y10 fun v11 y12 => F57_0 n cl v9 v11 h) (F57_2 n cl v3 v5 h)
noncomputable def F57_4 (n : Nat) (cl : CL) (a0 : Value) (k2 : Kt) (h : PH) : R :=
 vb (abin Try.prog .shr 93 (Operand.tmp 5) (Operand.const (Value.int IntKind.u64 16)) a0 (Value.int .u64 (.ofNat 16))) fun v21 =>
 k2 [v21, (vN 16)] h
noncomputable def F57_5 (n : Nat) (cl : CL) (a0 : Value) (h : PH) (k2 : Kt) : R :=
 vb (xCmp (fun x y => ile y x) a0 (Value.int .u32 (.ofNat 65536))) fun v20 =>
 bite v20 (F57_4 n cl a0 k2 h) (k2 [a0, (vN 0)] h)
noncomputable def F57 (n : Nat) (cl : CL) (a0 : Value) (h : PH) : R :=
 jn (fun y1 h => ucons y1 fun v3 y4 => ucons y4 fun v5 y6 => F57_3 n cl v3 v5 h) (F57_5 n cl a0 h)
theorem E57 (n : Nat) (cl : CL) (a0 : Value) (h : PH) : exF Try.prog n cl ⟨[], [], [(4, [0, 2]), (7, [0, 2])], [], [], []⟩ Try.f57 [a0] h = F57 n cl a0 h := by kernel_rfl
theorem S57 {n : Nat} {cl : CL} (hcl : OkCL Try.prog cl) {a0 : Value} {h h' : PH} {v : Value} (hx : F57 n cl a0 h = some (v, h')) : (enterable Try.prog 57 = true ∧ ACall Try.prog 57 [a0] h.abs (fun u k => u = v ∧ k = h'.abs)) ∧ Inv h h' :=
  exF_ok hcl hmx Try.func57 (by kernel_rfl) ((E57 n cl a0 h).trans hx)
-- math/bits.Len64
noncomputable def F58_0 (n : Nat) (cl : CL) (v15 : Value) (v17 : Value) (h : PH) : R :=
 vb (xConv Try.prog 95 5 v15) fun v19 =>
 vb (aindex Try.prog 9 (Value.string { data := #[0, 1, 2, 2, 3, 3, 3, 3, 4, 4, 4, 4, 4, 4, 4, 4, 5, 5, 5, 5, 5, 5, 5, 5, 5, 5, 5, 5, 5, 5, 5, 5, 6, 6, 6, 6, 6, 6, 6, 6, 6, 6, 6, 6, 6, 6, 6, 6, 6, 6, 6, 6, 6, 6, 6, 6, 6, 6, 6, 6, 6, 6, 6, 6, 7, 7, 7, 7, 7, 7, 7, 7, 7, 7, 7, 7, 7, 7, 7, 7, 7, 7, 7, 7, 7, 7, 7, 7, 7, 7, 7, 7, 7, 7, 7, 7, 7, 7, 7, 7, 7, 7, 7, 7, 7, 7, 7, 7, 7, 7, 7, 7, 7, 7, 7, 7, 7, 7, 7, 7, 7, 7, 7, 7, 7, 7, 7, 7, 8, 8, 8, 8, 8, 8, 8, 8, 8, 8, 8, 8, 8, 8, 8, 8, 8, 8, 8, 8, 8, 8, 8, 8, 8, 8, 8, 8, 8, 8, 8, 8, 8, 8, 8, 8, 8, 8, 8, 8, 8, 8, 8, 8, 8, 8, 8, 8, 8, 8, 8, 8, 8, 8, 8, 8, 8, 8, 8, 8, 8, 8, 8, 8, 8, 8, 8, 8, 8, 8, 8, 8, 8, 8, 8, 8, 8, 8, 8, 8, 8, 8, 8, 8, 8, 8, 8, 8, 8, 8, 8, 8, 8, 8, 8, 8, 8, 8, 8, 8, 8, 8, 8, 8, 8, 8, 8, 8, 8, 8, 8, 8, 8, 8, 8, 8, 8, 8, 8, 8, 8, 8, 8, 8, 8, 8, 8, 8] }) v19) fun v20 =>
 vb (xConv Try.prog 5 3 v20) fun v21 =>
 vb (xAri Int.add v17 v21) fun v22 =>
 some (v22, h)
noncomputable def F58_1 (n : Nat) (cl : CL) (v9 : Value) (v11 : Value) (k14 : Kt) (h : PH) : R :=
 vb (abin Try.prog .shr 95 (Operand.tmp 15) (Operand.const (Value.int IntKind.u64 8)) v9 (Value.int .u64 (.ofNat 8))) fun v24 =>
 vb (xAri Int.add v11 (vN 8)) fun v25 =>
 k14 [v24, v25] h
noncomputable def F58_2 (n : Nat) (cl : CL) (v9 : Value) (v11 : Value) (h : PH) (k14 : Kt) : R :=
 vb (xCmp (fun x y => ile y x) v9 (Value.int .u64 (.ofNat 256))) fun v23 =>
 bite v23 (F58_1 n cl v9 v11 k14 h) (k14 [v9, v11] h)
noncomputable def F58_3 (n : Nat) (cl : CL) (v9 : Value) (v11 : Value) (h : PH) : R :=
 jn (fun y13 h => ucons y13 fun v15 y16 => ucons y16 fun v17 y18 => F58_0 n cl v15 v17 h) (F58_2 n cl v9 v11 h)
noncomputable def F58_4 (n : Nat) (cl : CL) (v3 : Value) (v5 : Value) (k8 : Kt) (h : PH) : R :=
 vb (abin Try.prog .shr 95 (Operand.tmp 9) (Operand.const (Value.int IntKind.u64 16)) v3 (Value.int .u64 (.ofNat 16))) fun v27 =>
 vb (xAri Int.add v5 (vN 16)) fun v28 =>
 k8 [v27, v28] h
noncomputable def F58_5 (n : Nat) (cl : CL) (v3 : Value) (v5 : Value) (h : PH) (k8 : Kt) : R :=
 vb (xCmp (fun x y => ile y x) v3 (Value.int .u64 (.ofNat 65536))) fun v26 =>
 bite v26 (F58_4 n cl v3 v5 k8 h) (k8 [v3, v5] h)
noncomputable def F58_6 (n : Nat) (cl : CL) (v3 : Value) (v5 : Value) (h : PH) : R :=
 jn (fun y7 h => ucons y7 fun v9 y10 => ucons y10 fun v11 y12 => F58_3 n cl v9 v11 h) (F58_5 n cl v3 v5 h)
noncomputable def F58_7 (n : Nat) (cl : CL) (a0 : Value) (k2 : Kt) (h : PH) : R :=
 vb (abin Try.prog .shr 95 (Operand.tmp 5) (Operand.const (Value.int IntKind.u64 32)) a0 (Value.int .u64 (.ofNat 32))) fun v30 =>
 k2 [v30, (vN 32)] h
noncomputable def F58_8 (n : Nat) (cl : CL) (a0 : Value) (h : PH) (k2 : Kt) : R :=
 vb (xCmp (fun x y => ile y x) a0 (Value.int .u64 (.ofNat 4294967296))) fun v29 =>
 bite v29 (F58_7 n cl a0 k2 h) (k2 [a0, (vN 0)] h)
noncomputable def F58 (n : Nat) (cl : CL) (a0 : Value) (h : PH) : R :=
 jn (fun y1 h => ucons y1 fun v3 y4 => ucons y4 fun v5 y6 => F58_6 n cl v3 v5 h) (F58_8 n cl a0 h)
theorem E58 (n : Nat) (cl : CL) (a0 : Value) (h : PH) : exF Try.prog n cl ⟨[], [], [(4, [0, 2]), (7, [0, 2]), (10, [0, 2])], [], [], []⟩ Try.f58 [a0] h = F58 n cl a0 h := by kernel_rfl
theorem S58 {n : Nat} {cl : CL} (hcl : OkCL Try.prog cl) {a0 : Value} {h h' : PH} {v : Value} (hx : F58 n cl a0 h = some (v, h')) : (enterable Try.prog 58 = true ∧ ACall Try.prog 58 [a0] h.abs (fun u k => u = v ∧ k = h'.abs)) ∧ Inv h h' :=
  exF_ok hcl hmx Try.func58 (by kernel_rfl) ((E58 n cl a0 h).trans hx)
-- math/bits.Len
noncomputable def F37_0 (n : Nat) (cl : CL) (a0 : Value) (h : PH) : R :=
 vb (xConv Try.prog 77 93 a0) fun v1 =>
 vb (pcall (F57 n cl v1 (h.fzn))) fun v2 =>
 some (v2, h)
noncomputable def F37_1 (n : Nat) (cl : CL) (a0 : Value) (h : PH) : R :=
 vb (pcall (F58 n cl a0 (h.fzn))) fun v3 =>
 some (v3, h)
noncomputable def F37 (n : Nat) (cl : CL) (a0 : Value) (h : PH) : R :=
 bite ff (F37_0 n cl a0 h) (F37_1 n cl a0 h)
noncomputable def D37 (n : Nat) (cl : CL) : CL := fun f xs h => sw f 57 (ucons xs fun b0 xs => u0 xs (F57 n cl b0 h)) (sw f 58 (ucons xs fun b0 xs => u0 xs (F58 n cl b0 h)) (cl f xs h))
theorem Dk37 {n : Nat} {cl : CL} (hcl : OkCL Try.prog cl) : OkCL Try.prog (D37 n cl) := by
  intro f xs h v h' hx
  rcases sw_ok hx with ⟨rfl, hx⟩ | hx
  · obtain ⟨_, _, rfl, hx⟩ := ucons_ok hx; obtain ⟨rfl, hx⟩ := u0_ok hx; exact S57 (n := n) (cl := cl) hcl hx
  rcases sw_ok hx with ⟨rfl, hx⟩ | hx
  · obtain ⟨_, _, rfl, hx⟩ := ucons_ok hx; obtain ⟨rfl, hx⟩ := u0_ok hx; exact S58 (n := n) (cl := cl) hcl hx
  exact hcl _ _ _ _ _ hx
theorem E37 (n : Nat) (cl : CL) (a0 : Value) (h : PH) : exF Try.prog n (D37 n cl) ⟨[57, 58], [], [], [], [], []⟩ Try.f37 [a0] h = F37 n cl a0 h := by kernel_rfl
theorem S37 {n : Nat} {cl : CL} (hcl : OkCL Try.prog cl) {a0 : Value} {h h' : PH} {v : Value} (hx : F37 n cl a0 h = some (v, h')) : (enterable Try.prog 37 = true ∧ ACall Try.prog 37 [a0] h.abs (fun u k => u = v ∧ k = h'.abs)) ∧ Inv h h' :=
  exF_ok (Dk37 hcl) hmx Try.func37 (by kernel_rfl) ((E37 n cl a0 h).trans hx)
-- slices.insertionSortCmpFunc[undergrowth/api.Item]
noncomputable def F72_0 (n : Nat) (cl : CL) (v27 : Value) (v17 : Value) (r16 : Kt) (v19 : Value) (v21 : Value) (v23 : Value) (v25 : Value) (h : PH) : R :=
 vb (xAri Int.sub v27 (vN 1)) fun v43 =>
 vb (xAri Int.sub v27 (vN 1)) fun v44 =>
 vb (xIdxS 2 v17 v44) fun v45 =>
 vb (xIdxS 2 v17 v27) fun v46 =>
 vb (xLdA 2 v45 h) fun v47 =>
 vb (xLdA 2 v46 h) fun v48 =>
 vb (xIdxS 2 v17 v27) fun v49 =>
 hb (xStA 2 v49 v47 h) fun _ h =>
 vb (xIdxS 2 v17 v43) fun v50 =>
 hb (xStA 2 v50 v48 h) fun _ h =>
 vb (xAri Int.sub v27 (vN 1)) fun v51 =>
 r16 [v17, v19, v21, v23, v25, v51] h
noncomputable def F72_1 (n : Nat) (cl : CL) (v25 : Value) (r3 : Kt) (v17 : Value) (v19 : Value) (v21 : Value) (v23 : Value) (h : PH) : R :=
 vb (xAri Int.add v25 (vN 1)) fun v52 =>
 r3 [v17, v19, v21, v23, v52] h
noncomputable def F72_2 (n : Nat) (cl : CL) (v27 : Value) (v19 : Value) (v23 : Value) (v17 : Value) (r16 : Kt) (v21 : Value) (v25 : Value) (r3 : Kt) (h : PH) : R :=
 vb (xCmp (fun x y => ilt y x) v27 v19) fun v29 =>
 vb (gd (isB true v29) (some v23)) fun v30 =>
 vb (gd (isB true v29) (some v17)) fun v31 =>
 vb (gd (isB true v29) (some v27)) fun v32 =>
 vb (gd (isB true v29) (xIdxS 2 v31 v32)) fun v33 =>
 vb (gd (isB true v29) (some v17)) fun v34 =>
 vb (gd (isB true v29) (some v27)) fun v35 =>
 vb (gd (isB true v29) (xAri Int.sub v35 (vN 1))) fun v36 =>
 vb (gd (isB true v29) (xIdxS 2 v34 v36)) fun v37 =>
 vb (gd (isB true v29) (xLdA 2 v33 h)) fun v38 =>
 vb (gd (isB true v29) (xLdA 2 v37 h)) fun v39 =>
 hb (gh (isB true v29) h (xCall cl v30 [v38, v39] h)) fun v40 h =>
 vb (gd (isB true v29) (xCmp ilt v40 (vN 0))) fun v41 =>
 vb (xPick v29 v41 ff) fun v42 =>
 bite v42 (F72_0 n cl v27 v17 r16 v19 v21 v23 v25 h) (F72_1 n cl v25 r3 v17 v19 v21 v23 h)
noncomputable def F72_3 (n : Nat) (cl : CL) (r3 : Kt) (r16 : Kt) (y15 : List Value) (h : PH) : R :=
 ucons y15 fun v17 y18 => ucons y18 fun v19 y20 => ucons y20 fun v21 y22 => ucons y22 fun v23 y24 => ucons y24 fun v25 y26 => ucons y26 fun v27 y28 => F72_2 n cl v27 v19 v23 v17 r16 v21 v25 r3 h
noncomputable def F72_4 (n : Nat) (cl : CL) (v12 : Value) (v8 : Value) (r3 : Kt) (v4 : Value) (v6 : Value) (v10 : Value) (h : PH) : R :=
 vb (xCmp ilt v12 v8) fun v14 =>
 bite v14 (lp n (F72_3 n cl r3) [v4, v6, v8, v10, v12, v12] h) (some (Value.tuple ⟨[]⟩, h))
noncomputable def F72_5 (n : Nat) (cl : CL) (r3 : Kt) (y2 : List Value) (h : PH) : R :=
 ucons y2 fun v4 y5 => ucons y5 fun v6 y7 => ucons y7 fun v8 y9 => ucons y9 fun v10 y11 => ucons y11 fun v12 y13 => F72_4 n cl v12 v8 r3 v4 v6 v10 h
noncomputable def F72 (n : Nat) (cl : CL) (a0 a1 a2 a3 : Value) (h : PH) : R :=
 vb (xAri Int.add a1 (vN 1)) fun v1 =>
 lp n (F72_5 n cl) [a0, a1, a2, a3, v1] h
theorem E72 (n : Nat) (cl : CL) (a0 a1 a2 a3 : Value) (h : PH) : exF Try.prog n cl ⟨[], [], [(1, [0, 1, 2, 3, 8]), (4, [0, 1, 2, 3, 8, 9])], [(4, [0, 1, 2, 3, 4, 5, 6, 7, 9, 10, 11, 12, 8, 13, 14, 15, 16]), (6, [0, 1, 2, 3, 4, 5, 6, 7, 8, 10, 11, 12, 9, 13, 14, 15, 16, 17])], [], []⟩ Try.f72 [a0, a1, a2, a3] h = F72 n cl a0 a1 a2 a3 h := by kernel_rfl
theorem S72 {n : Nat} {cl : CL} (hcl : OkCL Try.prog cl) {a0 a1 a2 a3 : Value} {h h' : PH} {v : Value} (hx : F72 n cl a0 a1 a2 a3 h = some (v, h')) : (enterable Try.prog 72 = true ∧ ACall Try.prog 72 [a0, a1, a2, a3] h.abs (fun u k => u = v ∧ k = h'.abs)) ∧ Inv h h' :=
  exF_ok hcl hmx Try.func72 (by kernel_rfl) ((E72 n cl a0 a1 a2 a3 h).trans hx)
-- slices.siftDownCmpFunc[undergrowth/api.Item]
noncomputable def F81_0 (n : Nat) (cl : CL) (v22 : Value) (v26 : Value) (v28 : Value) (v18 : Value) (r2 : Kt) (v20 : Value) (v24 : Value) (h : PH) : R :=
 vb (xAri Int.add v22 v26) fun v39 =>
 vb (xAri Int.add v22 v28) fun v40 =>
 vb (xAri Int.add v22 v28) fun v41 =>
 vb (xIdxS 2 v18 v41) fun v42 =>
 vb (xAri Int.add v22 v26) fun v43 =>
 vb (xIdxS 2 v18 v43) fun v44 =>
 vb (xLdA 2 v42 h) fun v45 =>
 vb (xLdA 2 v44 h) fun v46 =>
 vb (xIdxS 2 v18 v39) fun v47 =>
 hb (xStA 2 v47 v45 h) fun _ h =>
 vb (xIdxS 2 v18 v40) fun v48 =>
 hb (xStA 2 v48 v46 h) fun _ h =>
 r2 [v18, v20, v22, v24, v28] h
noncomputable def F81_1 (n : Nat) (cl : CL) (v22 : Value) (v26 : Value) (v18 : Value) (v28 : Value) (v24 : Value) (r2 : Kt) (v20 : Value) (h : PH) : R :=
 vb (xAri Int.add v22 v26) fun v30 =>
 vb (xIdxS 2 v18 v30) fun v31 =>
 vb (xAri Int.add v22 v28) fun v32 =>
 vb (xIdxS 2 v18 v32) fun v33 =>
 vb (xLdA 2 v31 h) fun v34 =>
 vb (xLdA 2 v33 h) fun v35 =>
 hb (xCall cl v24 [v34, v35] h) fun v36 h =>
 vb (xCmp ilt v36 (vN 0)) fun v37 =>
 vb (xNot v37) fun v38 =>
 bite v38 (some (Value.tuple ⟨[]⟩, h)) (F81_0 n cl v22 v26 v28 v18 r2 v20 v24 h)
noncomputable def F81_2 (n : Nat) (cl : CL) (v14 : Value) (k17 : Kt) (v3 : Value) (v5 : Value) (v7 : Value) (v9 : Value) (v11 : Value) (h : PH) : R :=
 vb (xAri Int.add v14 (vN 1)) fun v68 =>
 k17 [v3, v5, v7, v9, v11, v68] h
noncomputable def F81_3 (n : Nat) (cl : CL) (r2 : Kt) (y16 : List Value) (h : PH) : R :=
 ucons y16 fun v18 y19 => ucons y19 fun v20 y21 => ucons y21 fun v22 y23 => ucons y23 fun v24 y25 => ucons y25 fun v26 y27 => ucons y27 fun v28 y29 => F81_1 n cl v22 v26 v18 v28 v24 r2 v20 h
noncomputable def F81_4 (n : Nat) (cl : CL) (v14 : Value) (v5 : Value) (v9 : Value) (v3 : Value) (v7 : Value) (v11 : Value) (h : PH) (k17 : Kt) : R :=
 vb (xAri Int.add v14 (vN 1)) fun v49 =>
 vb (xCmp ilt v49 v5) fun v50 =>
 vb (gd (isB true v50) (some v9)) fun v51 =>
 vb (gd (isB true v50) (some v3)) fun v52 =>
 vb (gd (isB true v50) (some v7)) fun v53 =>
 vb (gd (isB true v50) (some v14)) fun v54 =>
 vb (gd (isB true v50) (xAri Int.add v53 v54)) fun v55 =>
 vb (gd (isB true v50) (xIdxS 2 v52 v55)) fun v56 =>
 vb (gd (isB true v50) (some v3)) fun v57 =>
 vb (gd (isB true v50) (some v7)) fun v58 =>
 vb (gd (isB true v50) (some v14)) fun v59 =>
 vb (gd (isB true v50) (xAri Int.add v58 v59)) fun v60 =>
 vb (gd (isB true v50) (xAri Int.add v60 (vN 1))) fun v61 =>
 vb (gd (isB true v50) (xIdxS 2 v57 v61)) fun v62 =>
 vb (gd (isB true v50) (xLdA 2 v56 h)) fun v63 =>
 vb (gd (isB true v50) (xLdA 2 v62 h)) fun v64 =>
 hb (gh (isB true v50) h (xCall cl v51 [v63, v64] h)) fun v65 h =>
 vb (gd (isB true v50) (xCmp ilt v65 (vN 0))) fun v66 =>
 vb (xPick v50 v66 ff) fun v67 =>
 bite v67 (F81_2 n cl v14 k17 v3 v5 v7 v9 v11 h) (k17 [v3, v5, v7, v9, v11, v14] h)
noncomputable def F81_5 (n : Nat) (cl : CL) (v11 : Value) (v5 : Value) (r2 : Kt) (v9 : Value) (v3 : Value) (v7 : Value) (h : PH) : R :=
 vb (xAri Int.mul (vN 2) v11) fun v13 =>
 vb (xAri Int.add v13 (vN 1)) fun v14 =>
 vb (xCmp (fun x y => ile y x) v14 v5) fun v15 =>
 bite v15 (some (Value.tuple ⟨[]⟩, h)) (jn (F81_3 n cl r2) (F81_4 n cl v14 v5 v9 v3 v7 v11 h))
noncomputable def F81_6 (n : Nat) (cl : CL) (r2 : Kt) (y1 : List Value) (h : PH) : R :=
 ucons y1 fun v3 y4 => ucons y4 fun v5 y6 => ucons y6 fun v7 y8 => ucons y8 fun v9 y10 => ucons y10 fun v11 y12 => F81_5 n cl v11 v5 r2 v9 v3 v7 h
noncomputable def F81 (n : Nat) (cl : CL) (a0 a1 a2 a3 a4 : Value) (h : PH) : R :=
 lp n (F81_6 n cl) [a0, a2, a3, a4, a1] h
theorem E81 (n : Nat) (cl : CL) (a0 a1 a2 a3 a4 : Value) (h : PH) : exF Try.prog n cl ⟨[], [], [(1, [0, 2, 3, 4, 10]), (5, [0, 2, 3, 4, 10, 11])], [(3, [0, 1, 2, 3, 4, 5, 6, 7, 8, 9, 10, 12, 13, 14, 15, 16, 17, 11, 18, 19, 20, 21]), (5, [0, 1, 2, 3, 4, 5, 7, 8, 9, 10, 11, 6, 12, 13, 14, 15]), (6, [0, 1, 2, 3, 4, 5, 6, 7, 8, 9, 10, 11, 12, 14, 15, 16, 17, 18, 13, 19, 20, 21, 22, 23])], [], []⟩ Try.f81 [a0, a1, a2, a3, a4] h = F81 n cl a0 a1 a2 a3 a4 h := by kernel_rfl
theorem S81 {n : Nat} {cl : CL} (hcl : OkCL Try.prog cl) {a0 a1 a2 a3 a4 : Value} {h h' : PH} {v : Value} (hx : F81 n cl a0 a1 a2 a3 a4 h = some (v, h')) : (enterable Try.prog 81 = true ∧ ACall Try.prog 81 [a0, a1, a2, a3, a4] h.abs (fun u k => u = v ∧ k = h'.abs)) ∧ Inv h h' :=
  exF_ok hcl hmx Try.func81 (by kernel_rfl) ((E81 n cl a0 a1 a2 a3 a4 h).trans hx)
-- slices.heapSortCmpFunc[undergrowth/api.Item]
noncomputable def F73_0 (n : Nat) (cl : CL) (v6 : Value) (v16 : Value) (v14 : Value) (v10 : Value) (v8 : Value) (r5 : Kt) (v12 : Value) (h : PH) : R :=
 hb (F81 n cl v6 v16 v14 v10 v8 h) fun v19 h =>
 vb (xAri Int.sub v16 (vN 1)) fun v20 =>
 r5 [v6, v8, v10, v12, v14, v20] h
noncomputable def F73_1 (n : Nat) (cl : CL) (v28 : Value) (v32 : Value) (v24 : Value) (v30 : Value) (v26 : Value) (r23 : Kt) (h : PH) : R :=
 vb (xAri Int.add v28 v32) fun v35 =>
 vb (xAri Int.add v28 v32) fun v36 =>
 vb (xIdxS 2 v24 v36) fun v37 =>
 vb (xIdxS 2 v24 v28) fun v38 =>
 vb (xLdA 2 v37 h) fun v39 =>
 vb (xLdA 2 v38 h) fun v40 =>
 vb (xIdxS 2 v24 v28) fun v41 =>
 hb (xStA 2 v41 v39 h) fun _ h =>
 vb (xIdxS 2 v24 v35) fun v42 =>
 hb (xStA 2 v42 v40 h) fun _ h =>
 hb (F81 n cl v24 v30 v32 v28 v26 h) fun v43 h =>
 vb (xAri Int.sub v32 (vN 1)) fun v44 =>
 r23 [v24, v26, v28, v30, v44] h
noncomputable def F73_2 (n : Nat) (cl : CL) (v32 : Value) (v28 : Value) (v24 : Value) (v30 : Value) (v26 : Value) (r23 : Kt) (h : PH) : R :=
 vb (xCmp (fun x y => ile y x) v32 (vN 0)) fun v34 =>
 bite v34 (F73_1 n cl v28 v32 v24 v30 v26 r23 h) (some (Value.tuple ⟨[]⟩, h))
noncomputable def F73_3 (n : Nat) (cl : CL) (r23 : Kt) (y22 : List Value) (h : PH) : R :=
 ucons y22 fun v24 y25 => ucons y25 fun v26 y27 => ucons y27 fun v28 y29 => ucons y29 fun v30 y31 => ucons y31 fun v32 y33 => F73_2 n cl v32 v28 v24 v30 v26 r23 h
noncomputable def F73_4 (n : Nat) (cl : CL) (v14 : Value) (v6 : Value) (v8 : Value) (v10 : Value) (v12 : Value) (h : PH) : R :=
 vb (xAri Int.sub v14 (vN 1)) fun v21 =>
 lp n (F73_3 n cl) [v6, v8, v10, v12, v21] h
noncomputable def F73_5 (n : Nat) (cl : CL) (v16 : Value) (v6 : Value) (v14 : Value) (v10 : Value) (v8 : Value) (r5 : Kt) (v12 : Value) (h : PH) : R :=
 vb (xCmp (fun x y => ile y x) v16 (vN 0)) fun v18 =>
 bite v18 (F73_0 n cl v6 v16 v14 v10 v8 r5 v12 h) (F73_4 n cl v14 v6 v8 v10 v12 h)
noncomputable def F73_6 (n : Nat) (cl : CL) (r5 : Kt) (y4 : List Value) (h : PH) : R :=
 ucons y4 fun v6 y7 => ucons y7 fun v8 y9 => ucons y9 fun v10 y11 => ucons y11 fun v12 y13 => ucons y13 fun v14 y15 => ucons y15 fun v16 y17 => F73_5 n cl v16 v6 v14 v10 v8 r5 v12 h
noncomputable def F73 (n : Nat) (cl : CL) (a0 a1 a2 a3 : Value) (h : PH) : R :=
 vb (xAri Int.sub a2 a1) fun v1 =>
 vb (xAri Int.sub v1 (vN 1)) fun v2 =>
 vb (abin Try.prog .quo 3 (Operand.tmp 18) (Operand.const (Value.int IntKind.i64 2)) v2 (vN 2)) fun v3 =>
 lp n (F73_6 n cl) [a0, a3, a1, (vN 0), v1, v3] h
noncomputable def D73 (n : Nat) (cl : CL) : CL := fun f xs h => sw f 81 (ucons xs fun b0 xs => ucons xs fun b1 xs => ucons xs fun b2 xs => ucons xs fun b3 xs => ucons xs fun b4 xs => u0 xs (F81 n cl b0 b1 b2 b3 b4 h)) (cl f xs h)
theorem Dk73 {n : Nat} {cl : CL} (hcl : OkCL Try.prog cl) : OkCL Try.prog (D73 n cl) := by
  intro f xs h v h' hx
  rcases sw_ok hx with ⟨rfl, hx⟩ | hx
  · obtain ⟨_, _, rfl, hx⟩ := ucons_ok hx; obtain ⟨_, _, rfl, hx⟩ := ucons_ok hx; obtain ⟨_, _, rfl, hx⟩ := ucons_ok hx; obtain ⟨_, _, rfl, hx⟩ := ucons_ok hx; obtain ⟨_, _, rfl, hx⟩ := ucons_ok hx; obtain ⟨rfl, hx⟩ := u0_ok hx; exact S81 (n := n) (cl := cl) hcl hx
  exact hcl _ _ _ _ _ hx
theorem E73 (n : Nat) (cl : CL) (a0 a1 a2 a3 : Value) (h : PH) : exF Try.prog n (D73 n cl) ⟨[], [], [(4, [0, 3, 8, 9, 10, 11]), (8, [0, 3, 8, 9, 12])], [(10, [0, 1, 2, 3, 4, 5, 6, 7, 8, 9, 10, 12, 13, 14, 11, 15, 16, 17, 18, 19])], [], []⟩ Try.f73 [a0, a1, a2, a3] h = F73 n cl a0 a1 a2 a3 h := by kernel_rfl
theorem S73 {n : Nat} {cl : CL} (hcl : OkCL Try.prog cl) {a0 a1 a2 a3 : Value} {h h' : PH} {v : Value} (hx : F73 n cl a0 a1 a2 a3 h = some (v, h')) : (enterable Try.prog 73 = true ∧ ACall Try.prog 73 [a0, a1, a2, a3] h.abs (fun u k => u = v ∧ k = h'.abs)) ∧ Inv h h' :=
  exF_ok (Dk73 hcl) hmx Try.func73 (by kernel_rfl) ((E73 n cl a0 a1 a2 a3 h).trans hx)
-- slices.nextPowerOfTwo
noncomputable def F67 (n : Nat) (cl : CL) (a0 : Value) (h : PH) : R :=
 vb (xConv Try.prog 3 77 a0) fun v1 =>
 vb (pcall (F37 n cl v1 (h.fzn))) fun v2 =>
 vb (abin Try.prog .shl 77 (Operand.const (Value.int IntKind.u64 1)) (Operand.tmp 5) (Value.int .u64 (.ofNat 1)) v2) fun v3 =>
 some (v3, h)
noncomputable def D67 (n : Nat) (cl : CL) : CL := fun f xs h => sw f 37 (ucons xs fun b0 xs => u0 xs (F37 n cl b0 h)) (cl f xs h)
theorem Dk67 {n : Nat} {cl : CL} (hcl : OkCL Try.prog cl) : OkCL Try.prog (D67 n cl) := by
  intro f xs h v h' hx
  rcases sw_ok hx with ⟨rfl, hx⟩ | hx
  · obtain ⟨_, _, rfl, hx⟩ := ucons_ok hx; obtain ⟨rfl, hx⟩ := u0_ok hx; exact S37 (n := n) (cl := cl) hcl hx
  exact hcl _ _ _ _ _ hx
theorem E67 (n : Nat) (cl : CL) (a0 : Value) (h : PH) : exF Try.prog n (D67 n cl) ⟨[37], [], [], [], [], []⟩ Try.f67 [a0] h = F67 n cl a0 h := by kernel_rfl
theorem S67 {n : Nat} {cl : CL} (hcl : OkCL Try.prog cl) {a0 : Value} {h h' : PH} {v : Value} (hx : F67 n cl a0 h = some (v, h')) : (enterable Try.prog 67 = true ∧ ACall Try.prog 67 [a0] h.abs (fun u k => u = v ∧ k = h'.abs)) ∧ Inv h h' :=
  exF_ok (Dk67 hcl) hmx Try.func67 (by kernel_rfl) ((E67 n cl a0 h).trans hx)
-- (*slices.xorshift).Next
noncomputable def F68 (n : Nat) (cl : CL) (a0 : Value) (h : PH) : R :=
 vb (xNil a0) fun v1 =>
 vb (xNil a0) fun v2 =>
 vb (xLd v1 h) fun v3 =>
 vb (xLd v2 h) fun v4 =>
 vb (abin Try.prog .shl 102 (Operand.tmp 8) (Operand.const (Value.int IntKind.u64 13)) v4 (Value.int .u64 (.ofNat 13))) fun v5 =>
 vb (abin Try.prog .xor 102 (Operand.tmp 5) (Operand.tmp 9) v3 v5) fun v6 =>
 vb (xNil a0) fun v7 =>
 hb (xSt1 v7 v6 h) fun _ h =>
 vb (xNil a0) fun v8 =>
 vb (xNil a0) fun v9 =>
 vb (xLd v8 h) fun v10 =>
 vb (xLd v9 h) fun v11 =>
 vb (abin Try.prog .shr 102 (Operand.tmp 17) (Operand.const (Value.int IntKind.u64 7)) v11 (Value.int .u64 (.ofNat 7))) fun v12 =>
 vb (abin Try.prog .xor 102 (Operand.tmp 14) (Operand.tmp 18) v10 v12) fun v13 =>
 vb (xNil a0) fun v14 =>
 hb (xSt1 v14 v13 h) fun _ h =>
 vb (xNil a0) fun v15 =>
 vb (xNil a0) fun v16 =>
 vb (xLd v15 h) fun v17 =>
 vb (xLd v16 h) fun v18 =>
 vb (abin Try.prog .shl 102 (Operand.tmp 26) (Operand.const (Value.int IntKind.u64 17)) v18 (Value.int .u64 (.ofNat 17))) fun v19 =>
 vb (abin Try.prog .xor 102 (Operand.tmp 23) (Operand.tmp 27) v17 v19) fun v20 =>
 vb (xNil a0) fun v21 =>
 hb (xSt1 v21 v20 h) fun _ h =>
 vb (xNil a0) fun v22 =>
 vb (xLd v22 h) fun v23 =>
 some (v23, h)
theorem E68 (n : Nat) (cl : CL) (a0 : Value) (h : PH) : exF Try.prog n cl ⟨[], [], [], [(1, [0, 1, 3, 4, 2, 5, 6, 7, 8, 9]), (2, [0, 1, 3, 4, 2, 5, 6, 7, 8, 9]), (3, [0, 1, 3, 4, 2, 5, 6, 7, 8, 9])], [], []⟩ Try.f68 [a0] h = F68 n cl a0 h := by kernel_rfl
theorem S68 {n : Nat} {cl : CL} (hcl : OkCL Try.prog cl) {a0 : Value} {h h' : PH} {v : Value} (hx : F68 n cl a0 h = some (v, h')) : (enterable Try.prog 68 = true ∧ ACall Try.prog 68 [a0] h.abs (fun u k => u = v ∧ k = h'.abs)) ∧ Inv h h' :=
  exF_ok hcl hmx Try.func68 (by kernel_rfl) ((E68 n cl a0 h).trans hx)
-- slices.breakPatternsCmpFunc[undergrowth/api.Item]
noncomputable def F74_0 (n : Nat) (cl : CL) (v37 : Value) (v47 : Value) (v35 : Value) (v45 : Value) (r11 : Kt) (v39 : Value) (v41 : Value) (v43 : Value) (h : PH) : R :=
 vb (xAri Int.add v37 v47) fun v49 =>
 vb (xAri Int.add v37 v47) fun v50 =>
 vb (xIdxS 2 v35 v50) fun v51 =>
 vb (xIdxS 2 v35 v45) fun v52 =>
 vb (xLdA 2 v51 h) fun v53 =>
 vb (xLdA 2 v52 h) fun v54 =>
 vb (xIdxS 2 v35 v45) fun v55 =>
 hb (xStA 2 v55 v53 h) fun _ h =>
 vb (xIdxS 2 v35 v49) fun v56 =>
 hb (xStA 2 v56 v54 h) fun _ h =>
 vb (xAri Int.add v45 (vN 1)) fun v57 =>
 r11 [v35, v37, v39, v41, v43, v57] h
noncomputable def F74_1 (n : Nat) (cl : CL) (v32 : Value) (v16 : Value) (k34 : Kt) (v12 : Value) (v14 : Value) (v18 : Value) (v20 : Value) (v22 : Value) (h : PH) : R :=
 vb (xAri Int.sub v32 v16) fun v59 =>
 k34 [v12, v14, v16, v18, v20, v22, v59] h
noncomputable def F74_2 (n : Nat) (cl : CL) (r11 : Kt) (y33 : List Value) (h : PH) : R :=
 ucons y33 fun v35 y36 => ucons y36 fun v37 y38 => ucons y38 fun v39 y40 => ucons y40 fun v41 y42 => ucons y42 fun v43 y44 => ucons y44 fun v45 y46 => ucons y46 fun v47 y48 => F74_0 n cl v37 v47 v35 v45 r11 v39 v41 v43 h
noncomputable def F74_3 (n : Nat) (cl : CL) (v32 : Value) (v16 : Value) (v12 : Value) (v14 : Value) (v18 : Value) (v20 : Value) (v22 : Value) (h : PH) (k34 : Kt) : R :=
 vb (xCmp (fun x y => ile y x) v32 v16) fun v58 =>
 bite v58 (F74_1 n cl v32 v16 k34 v12 v14 v18 v20 v22 h) (k34 [v12, v14, v16, v18, v20, v22, v32] h)
noncomputable def F74_4 (n : Nat) (cl : CL) (v18 : Value) (v20 : Value) (r11 : Kt) (v16 : Value) (v12 : Value) (v14 : Value) (v22 : Value) (h : PH) : R :=
 hb (F68 n cl v18 h) fun v29 h =>
 vb (xAri Int.sub v20 (Value.int .u64 (.ofNat 1))) fun v30 =>
 vb (abin Try.prog .and 77 (Operand.tmp 38) (Operand.tmp 40) v29 v30) fun v31 =>
 vb (xConv Try.prog 77 3 v31) fun v32 =>
 jn (F74_2 n cl r11) (F74_3 n cl v32 v16 v12 v14 v18 v20 v22 h)
noncomputable def F74_5 (n : Nat) (cl : CL) (v16 : Value) (v14 : Value) (v22 : Value) (v18 : Value) (v20 : Value) (r11 : Kt) (v12 : Value) (h : PH) : R :=
 vb (abin Try.prog .quo 3 (Operand.tmp 30) (Operand.const (Value.int IntKind.i64 4)) v16 (vN 4)) fun v24 =>
 vb (xAri Int.mul v24 (vN 2)) fun v25 =>
 vb (xAri Int.add v14 v25) fun v26 =>
 vb (xAri Int.add v26 (vN 1)) fun v27 =>
 vb (xCmp ile v22 v27) fun v28 =>
 bite v28 (F74_4 n cl v18 v20 r11 v16 v12 v14 v22 h) (some (Value.tuple ⟨[]⟩, h))
noncomputable def F74_6 (n : Nat) (cl : CL) (r11 : Kt) (y10 : List Value) (h : PH) : R :=
 ucons y10 fun v12 y13 => ucons y13 fun v14 y15 => ucons y15 fun v16 y17 => ucons y17 fun v18 y19 => ucons y19 fun v20 y21 => ucons y21 fun v22 y23 => F74_5 n cl v16 v14 v22 v18 v20 r11 v12 h
noncomputable def F74_7 (n : Nat) (cl : CL) (v1 : Value) (a1 : Value) (a0 : Value) (h : PH) : R :=
 vb (xConv Try.prog 3 102 v1) fun v3 =>
 hb (xAlloc (zcells Try.prog 102) h) fun v4 h =>
 hb (xSt1 v4 v3 h) fun _ h =>
 vb (pcall (F67 n cl v1 (h.fzn))) fun v5 =>
 vb (abin Try.prog .quo 3 (Operand.tmp 23) (Operand.const (Value.int IntKind.i64 4)) v1 (vN 4)) fun v6 =>
 vb (xAri Int.mul v6 (vN 2)) fun v7 =>
 vb (xAri Int.add a1 v7) fun v8 =>
 vb (xAri Int.sub v8 (vN 1)) fun v9 =>
 lp n (F74_6 n cl) [a0, a1, v1, v4, v5, v9] h
noncomputable def F74 (n : Nat) (cl : CL) (a0 a1 a2 a3 : Value) (h : PH) : R :=
 vb (xAri Int.sub a2 a1) fun v1 =>
 vb (xCmp (fun x y => ile y x) v1 (vN 8)) fun v2 =>
 bite v2 (F74_7 n cl v1 a1 a0 h) (some (Value.tuple ⟨[]⟩, h))
noncomputable def D74 (n : Nat) (cl : CL) : CL := fun f xs h => sw f 67 (ucons xs fun b0 xs => u0 xs (F67 n cl b0 h)) (sw f 68 (ucons xs fun b0 xs => u0 xs (F68 n cl b0 h)) (cl f xs h))
theorem Dk74 {n : Nat} {cl : CL} (hcl : OkCL Try.prog cl) : OkCL Try.prog (D74 n cl) := by
  intro f xs h v h' hx
  rcases sw_ok hx with ⟨rfl, hx⟩ | hx
  · obtain ⟨_, _, rfl, hx⟩ := ucons_ok hx; obtain ⟨rfl, hx⟩ := u0_ok hx; exact S67 (n := n) (cl := cl) hcl hx
  rcases sw_ok hx with ⟨rfl, hx⟩ | hx
  · obtain ⟨_, _, rfl, hx⟩ := ucons_ok hx; obtain ⟨rfl, hx⟩ := u0_ok hx; exact S68 (n := n) (cl := cl) hcl hx
  exact hcl _ _ _ _ _ hx
theorem E74 (n : Nat) (cl : CL) (a0 a1 a2 a3 : Value) (h : PH) : exF Try.prog n (D74 n cl) ⟨[67], [], [(5, [0, 1, 8, 9, 10, 11]), (10, [0, 1, 8, 9, 10, 11, 12])], [(10, [0, 1, 2, 3, 4, 5, 6, 7, 8, 9, 10, 12, 13, 14, 11, 15, 16, 17, 18, 19])], [], []⟩ Try.f74 [a0, a1, a2, a3] h = F74 n cl a0 a1 a2 a3 h := by kernel_rfl
theorem S74 {n : Nat} {cl : CL} (hcl : OkCL Try.prog cl) {a0 a1 a2 a3 : Value} {h h' : PH} {v : Value} (hx : F74 n cl a0 a1 a2 a3 h = some (v, h')) : (enterable Try.prog 74 = true ∧ ACall Try.prog 74 [a0, a1, a2, a3] h.abs (fun u k => u = v ∧ k = h'.abs)) ∧ Inv h h' :=
  exF_ok (Dk74 hcl) hmx Try.func74 (by kernel_rfl) ((E74 n cl a0 a1 a2 a3 h).trans hx)
-- slices.order2CmpFunc[undergrowth/api.Item]
noncomputable def F84_0 (n : Nat) (cl : CL) (a3 : Value) (a2 : Value) (a1 : Value) (h : PH) : R :=
 vb (xNil a3) fun v7 =>
 vb (xLd v7 h) fun v8 =>
 vb (xAri Int.add v8 (vN 1)) fun v9 =>
 vb (xNil a3) fun v10 =>
 hb (xSt1 v10 v9 h) fun _ h =>
 some (Value.tuple ⟨[a2, a1]⟩, h)
noncomputable def F84 (n : Nat) (cl : CL) (a0 a1 a2 a3 a4 : Value) (h : PH) : R :=
 vb (xIdxS 2 a0 a2) fun v1 =>
 vb (xIdxS 2 a0 a1) fun v2 =>
 vb (xLdA 2 v1 h) fun v3 =>
 vb (xLdA 2 v2 h) fun v4 =>
 hb (xCall cl a4 [v3, v4] h) fun v5 h =>
 vb (xCmp ilt v5 (vN 0)) fun v6 =>
 bite v6 (F84_0 n cl a3 a2 a1 h) (some (Value.tuple ⟨[a1, a2]⟩, h))
theorem E84 (n : Nat) (cl : CL) (a0 a1 a2 a3 a4 : Value) (h : PH) : exF Try.prog n cl ⟨[], [], [], [(1, [0, 1, 2, 3, 5, 6, 7, 4, 8, 9, 10])], [], []⟩ Try.f84 [a0, a1, a2, a3, a4] h = F84 n cl a0 a1 a2 a3 a4 h := by kernel_rfl
theorem S84 {n : Nat} {cl : CL} (hcl : OkCL Try.prog cl) {a0 a1 a2 a3 a4 : Value} {h h' : PH} {v : Value} (hx : F84 n cl a0 a1 a2 a3 a4 h = some (v, h')) : (enterable Try.prog 84 = true ∧ ACall Try.prog 84 [a0, a1, a2, a3, a4] h.abs (fun u k => u = v ∧ k = h'.abs)) ∧ Inv h h' :=
  exF_ok hcl hmx Try.func84 (by kernel_rfl) ((E84 n cl a0 a1 a2 a3 a4 h).trans hx)
-- slices.medianCmpFunc[undergrowth/api.Item]
noncomputable def F83 (n : Nat) (cl : CL) (a0 a1 a2 a3 a4 a5 : Value) (h : PH) : R :=
 hb (F84 n cl a0 a1 a2 a4 a5 h) fun v1 h =>
 vb (xExt 0 v1) fun v2 =>
 vb (xExt 1 v1) fun v3 =>
 hb (F84 n cl a0 v3 a3 a4 a5 h) fun v4 h =>
 vb (xExt 0 v4) fun v5 =>
 vb (xExt 1 v4) fun v6 =>
 hb (F84 n cl a0 v2 v5 a4 a5 h) fun v7 h =>
 vb (xExt 0 v7) fun v8 =>
 vb (xExt 1 v7) fun v9 =>
 some (v9, h)
noncomputable def D83 (n : Nat) (cl : CL) : CL := fun f xs h => sw f 84 (ucons xs fun b0 xs => ucons xs fun b1 xs => ucons xs fun b2 xs => ucons xs fun b3 xs => ucons xs fun b4 xs => u0 xs (F84 n cl b0 b1 b2 b3 b4 h)) (cl f xs h)
theorem Dk83 {n : Nat} {cl : CL} (hcl : OkCL Try.prog cl) : OkCL Try.prog (D83 n cl) := by
  intro f xs h v h' hx
  rcases sw_ok hx with ⟨rfl, hx⟩ | hx
  · obtain ⟨_, _, rfl, hx⟩ := ucons_ok hx; obtain ⟨_, _, rfl, hx⟩ := ucons_ok hx; obtain ⟨_, _, rfl, hx⟩ := ucons_ok hx; obtain ⟨_, _, rfl, hx⟩ := ucons_ok hx; obtain ⟨_, _, rfl, hx⟩ := ucons_ok hx; obtain ⟨rfl, hx⟩ := u0_ok hx; exact S84 (n := n) (cl := cl) hcl hx
  exact hcl _ _ _ _ _ hx
theorem E83 (n : Nat) (cl : CL) (a0 a1 a2 a3 a4 a5 : Value) (h : PH) : exF Try.prog n (D83 n cl) ⟨[], [], [], [], [], []⟩ Try.f83 [a0, a1, a2, a3, a4, a5] h = F83 n cl a0 a1 a2 a3 a4 a5 h := by kernel_rfl
theorem S83 {n : Nat} {cl : CL} (hcl : OkCL Try.prog cl) {a0 a1 a2 a3 a4 a5 : Value} {h h' : PH} {v : Value} (hx : F83 n cl a0 a1 a2 a3 a4 a5 h = some (v, h')) : (enterable Try.prog 83 = true ∧ ACall Try.prog 83 [a0, a1, a2, a3, a4, a5] h.abs (fun u k => u = v ∧ k = h'.abs)) ∧ Inv h h' :=
  exF_ok (Dk83 hcl) hmx Try.func83 (by kernel_rfl) ((E83 n cl a0 a1 a2 a3 a4 a5 h).trans hx)
-- slices.medianAdjacentCmpFunc[undergrowth/api.Item]
noncomputable def F82 (n : Nat) (cl : CL) (a0 a1 a2 a3 : Value) (h : PH) : R :=
 vb (xAri Int.sub a1 (vN 1)) fun v1 =>
 vb (xAri Int.add a1 (vN 1)) fun v2 =>
 hb (F83 n cl a0 v1 a1 v2 a2 a3 h) fun v3 h =>
 some (v3, h)
noncomputable def D82 (n : Nat) (cl : CL) : CL := fun f xs h => sw f 83 (ucons xs fun b0 xs => ucons xs fun b1 xs => ucons xs fun b2 xs => ucons xs fun b3 xs => ucons xs fun b4 xs => ucons xs fun b5 xs => u0 xs (F83 n cl b0 b1 b2 b3 b4 b5 h)) (cl f xs h)
theorem Dk82 {n : Nat} {cl : CL} (hcl : OkCL Try.prog cl) : OkCL Try.prog (D82 n cl) := by
  intro f xs h v h' hx
  rcases sw_ok hx with ⟨rfl, hx⟩ | hx
  · obtain ⟨_, _, rfl, hx⟩ := ucons_ok hx; obtain ⟨_, _, rfl, hx⟩ := ucons_ok hx; obtain ⟨_, _, rfl, hx⟩ := ucons_ok hx; obtain ⟨_, _, rfl, hx⟩ := ucons_ok hx; obtain ⟨_, _, rfl, hx⟩ := ucons_ok hx; obtain ⟨_, _, rfl, hx⟩ := ucons_ok hx; obtain ⟨rfl, hx⟩ := u0_ok hx; exact S83 (n := n) (cl := cl) hcl hx
  exact hcl _ _ _ _ _ hx
theorem E82 (n : Nat) (cl : CL) (a0 a1 a2 a3 : Value) (h : PH) : exF Try.prog n (D82 n cl) ⟨[], [], [], [], [], []⟩ Try.f82 [a0, a1, a2, a3] h = F82 n cl a0 a1 a2 a3 h := by kernel_rfl
theorem S82 {n : Nat} {cl : CL} (hcl : OkCL Try.prog cl) {a0 a1 a2 a3 : Value} {h h' : PH} {v : Value} (hx : F82 n cl a0 a1 a2 a3 h = some (v, h')) : (enterable Try.prog 82 = true ∧ ACall Try.prog 82 [a0, a1, a2, a3] h.abs (fun u k => u = v ∧ k = h'.abs)) ∧ Inv h h' :=
  exF_ok (Dk82 hcl) hmx Try.func82 (by kernel_rfl) ((E82 n cl a0 a1 a2 a3 h).trans hx)
-- slices.choosePivotCmpFunc[undergrowth/api.Item]
noncomputable def F75_0 (n : Nat) (cl : CL) (v18 : Value) (v16 : Value) (h : PH) : R :=
 vb (xCmp ieq v18 (vN 12)) fun v20 =>
 bite v20 (some (Value.tuple ⟨[v16, (vN 2)]⟩, h)) (some (Value.tuple ⟨[v16, (vN 0)]⟩, h))
noncomputable def F75_1 (n : Nat) (cl : CL) (v14 : Value) (v16 : Value) (h : PH) : R :=
 vb (xLd v14 h) fun v18 =>
 vb (xCmp ieq v18 (vN 0)) fun v19 =>
 bite v19 (some (Value.tuple ⟨[v16, (vN 1)]⟩, h)) (F75_0 n cl v18 v16 h)
noncomputable def F75_2 (n : Nat) (cl : CL) (v24 : Value) (v30 : Value) (v32 : Value) (v34 : Value) (v28 : Value) (v26 : Value) (k13 : Kt) (h : PH) : R :=
 hb (F83 n cl v24 v30 v32 v34 v28 v26 h) fun v36 h =>
 k13 [v28, v36] h
noncomputable def F75_3 (n : Nat) (cl : CL) (a0 : Value) (v5 : Value) (v2 : Value) (a3 : Value) (v8 : Value) (v11 : Value) (k23 : Kt) (h : PH) : R :=
 hb (F82 n cl a0 v5 v2 a3 h) fun v38 h =>
 hb (F82 n cl a0 v8 v2 a3 h) fun v39 h =>
 hb (F82 n cl a0 v11 v2 a3 h) fun v40 h =>
 k23 [a0, a3, v2, v38, v39, v40] h
noncomputable def F75_4 (n : Nat) (cl : CL) (k13 : Kt) (y22 : List Value) (h : PH) : R :=
 ucons y22 fun v24 y25 => ucons y25 fun v26 y27 => ucons y27 fun v28 y29 => ucons y29 fun v30 y31 => ucons y31 fun v32 y33 => ucons y33 fun v34 y35 => F75_2 n cl v24 v30 v32 v34 v28 v26 k13 h
noncomputable def F75_5 (n : Nat) (cl : CL) (v1 : Value) (a0 : Value) (v5 : Value) (v2 : Value) (a3 : Value) (v8 : Value) (v11 : Value) (h : PH) (k23 : Kt) : R :=
 vb (xCmp (fun x y => ile y x) v1 (vN 50)) fun v37 =>
 bite v37 (F75_3 n cl a0 v5 v2 a3 v8 v11 k23 h) (k23 [a0, a3, v2, v5, v8, v11] h)
noncomputable def F75_6 (n : Nat) (cl : CL) (v1 : Value) (a0 : Value) (v5 : Value) (v2 : Value) (a3 : Value) (v8 : Value) (v11 : Value) (h : PH) (k13 : Kt) : R :=
 vb (xCmp (fun x y => ile y x) v1 (vN 8)) fun v21 =>
 bite v21 (jn (F75_4 n cl k13) (F75_5 n cl v1 a0 v5 v2 a3 v8 v11 h)) (k13 [v2, v8] h)
noncomputable def F75 (n : Nat) (cl : CL) (a0 a1 a2 a3 : Value) (h : PH) : R :=
 vb (xAri Int.sub a2 a1) fun v1 =>
 hb (xAlloc (zcells Try.prog 3) h) fun v2 h =>
 vb (abin Try.prog .quo 3 (Operand.tmp 19) (Operand.const (Value.int IntKind.i64 4)) v1 (vN 4)) fun v3 =>
 vb (xAri Int.mul v3 (vN 1)) fun v4 =>
 vb (xAri Int.add a1 v4) fun v5 =>
 vb (abin Try.prog .quo 3 (Operand.tmp 24) (Operand.const (Value.int IntKind.i64 4)) v1 (vN 4)) fun v6 =>
 vb (xAri Int.mul v6 (vN 2)) fun v7 =>
 vb (xAri Int.add a1 v7) fun v8 =>
 vb (abin Try.prog .quo 3 (Operand.tmp 29) (Operand.const (Value.int IntKind.i64 4)) v1 (vN 4)) fun v9 =>
 vb (xAri Int.mul v9 (vN 3)) fun v10 =>
 vb (xAri Int.add a1 v10) fun v11 =>
 jn (fun y12 h => ucons y12 fun v14 y15 => ucons y15 fun v16 y17 => F75_1 n cl v14 v16 h) (F75_6 n cl v1 a0 v5 v2 a3 v8 v11 h)
noncomputable def D75 (n : Nat) (cl : CL) : CL := fun f xs h => sw f 83 (ucons xs fun b0 xs => ucons xs fun b1 xs => ucons xs fun b2 xs => ucons xs fun b3 xs => ucons xs fun b4 xs => ucons xs fun b5 xs => u0 xs (F83 n cl b0 b1 b2 b3 b4 b5 h)) (sw f 82 (ucons xs fun b0 xs => ucons xs fun b1 xs => ucons xs fun b2 xs => ucons xs fun b3 xs => u0 xs (F82 n cl b0 b1 b2 b3 h)) (cl f xs h))
theorem Dk75 {n : Nat} {cl : CL} (hcl : OkCL Try.prog cl) : OkCL Try.prog (D75 n cl) := by
  intro f xs h v h' hx
  rcases sw_ok hx with ⟨rfl, hx⟩ | hx
  · obtain ⟨_, _, rfl, hx⟩ := ucons_ok hx; obtain ⟨_, _, rfl, hx⟩ := ucons_ok hx; obtain ⟨_, _, rfl, hx⟩ := ucons_ok hx; obtain ⟨_, _, rfl, hx⟩ := ucons_ok hx; obtain ⟨_, _, rfl, hx⟩ := ucons_ok hx; obtain ⟨_, _, rfl, hx⟩ := ucons_ok hx; obtain ⟨rfl, hx⟩ := u0_ok hx; exact S83 (n := n) (cl := cl) hcl hx
  rcases sw_ok hx with ⟨rfl, hx⟩ | hx
  · obtain ⟨_, _, rfl, hx⟩ := ucons_ok hx; obtain ⟨_, _, rfl, hx⟩ := ucons_ok hx; obtain ⟨_, _, rfl, hx⟩ := ucons_ok hx; obtain ⟨_, _, rfl, hx⟩ := ucons_ok hx; obtain ⟨rfl, hx⟩ := u0_ok hx; exact S82 (n := n) (cl := cl) hcl hx
  exact hcl _ _ _ _ _ hx
theorem E75 (n : Nat) (cl : CL) (a0 a1 a2 a3 : Value) (h : PH) : exF Try.prog n (D75 n cl) ⟨[], [], [(11, [0, 3, 11, 12, 13, 14]), (12, [11, 13])], [], [], []⟩ Try.f75 [a0, a1, a2, a3] h = F75 n cl a0 a1 a2 a3 h := by kernel_rfl
theorem S75 {n : Nat} {cl : CL} (hcl : OkCL Try.prog cl) {a0 a1 a2 a3 : Value} {h h' : PH} {v : Value} (hx : F75 n cl a0 a1 a2 a3 h = some (v, h')) : (enterable Try.prog 75 = true ∧ ACall Try.prog 75 [a0, a1, a2, a3] h.abs (fun u k => u = v ∧ k = h'.abs)) ∧ Inv h h' :=
  exF_ok (Dk75 hcl) hmx Try.func75 (by kernel_rfl) ((E75 n cl a0 a1 a2 a3 h).trans hx)
-- slices.reverseRangeCmpFunc[undergrowth/api.Item]
noncomputable def F76_0 (n : Nat) (cl : CL) (v4 : Value) (v8 : Value) (v6 : Value) (r3 : Kt) (h : PH) : R :=
 vb (xIdxS 2 v4 v8) fun v11 =>
 vb (xIdxS 2 v4 v6) fun v12 =>
 vb (xLdA 2 v11 h) fun v13 =>
 vb (xLdA 2 v12 h) fun v14 =>
 vb (xIdxS 2 v4 v6) fun v15 =>
 hb (xStA 2 v15 v13 h) fun _ h =>
 vb (xIdxS 2 v4 v8) fun v16 =>
 hb (xStA 2 v16 v14 h) fun _ h =>
 vb (xAri Int.add v6 (vN 1)) fun v17 =>
 vb (xAri Int.sub v8 (vN 1)) fun v18 =>
 r3 [v4, v17, v18] h
noncomputable def F76_1 (n : Nat) (cl : CL) (v6 : Value) (v8 : Value) (v4 : Value) (r3 : Kt) (h : PH) : R :=
 vb (xCmp ilt v6 v8) fun v10 =>
 bite v10 (F76_0 n cl v4 v8 v6 r3 h) (some (Value.tuple ⟨[]⟩, h))
noncomputable def F76_2 (n : Nat) (cl : CL) (r3 : Kt) (y2 : List Value) (h : PH) : R :=
 ucons y2 fun v4 y5 => ucons y5 fun v6 y7 => ucons y7 fun v8 y9 => F76_1 n cl v6 v8 v4 r3 h
noncomputable def F76 (n : Nat) (cl : CL) (a0 a1 a2 a3 : Value) (h : PH) : R :=
 vb (xAri Int.sub a2 (vN 1)) fun v1 =>
 lp n (F76_2 n cl) [a0, a1, v1] h
theorem E76 (n : Nat) (cl : CL) (a0 a1 a2 a3 : Value) (h : PH) : exF Try.prog n cl ⟨[], [], [(2, [0, 8, 9])], [(3, [0, 1, 2, 3, 4, 5, 6, 8, 9, 10, 7, 11, 12, 13, 14, 15])], [], []⟩ Try.f76 [a0, a1, a2, a3] h = F76 n cl a0 a1 a2 a3 h := by kernel_rfl
theorem S76 {n : Nat} {cl : CL} (hcl : OkCL Try.prog cl) {a0 a1 a2 a3 : Value} {h h' : PH} {v : Value} (hx : F76 n cl a0 a1 a2 a3 h = some (v, h')) : (enterable Try.prog 76 = true ∧ ACall Try.prog 76 [a0, a1, a2, a3] h.abs (fun u k => u = v ∧ k = h'.abs)) ∧ Inv h h' :=
  exF_ok hcl hmx Try.func76 (by kernel_rfl) ((E76 n cl a0 a1 a2 a3 h).trans hx)
-- slices.partialInsertionSortCmpFunc[undergrowth/api.Item]
noncomputable def F77_0 (n : Nat) (cl : CL) (v29 : Value) (r3 : Kt) (v19 : Value) (v21 : Value) (v23 : Value) (v25 : Value) (v27 : Value) (h : PH) : R :=
 vb (xAri Int.add v29 (vN 1)) fun v31 =>
 r3 [v19, v21, v23, v25, v27, v31] h
noncomputable def F77_1 (n : Nat) (cl : CL) (v42 : Value) (r33 : Kt) (v34 : Value) (v36 : Value) (v38 : Value) (v40 : Value) (v44 : Value) (h : PH) : R :=
 vb (xAri Int.add v42 (vN 1)) fun v61 =>
 r33 [v34, v36, v38, v40, v61, v44] h
noncomputable def F77_2 (n : Nat) (cl : CL) (v104 : Value) (v92 : Value) (r91 : Kt) (v94 : Value) (v96 : Value) (v98 : Value) (v100 : Value) (v102 : Value) (h : PH) : R :=
 vb (xAri Int.sub v104 (vN 1)) fun v115 =>
 vb (xAri Int.sub v104 (vN 1)) fun v116 =>
 vb (xIdxS 2 v92 v116) fun v117 =>
 vb (xIdxS 2 v92 v104) fun v118 =>
 vb (xLdA 2 v117 h) fun v119 =>
 vb (xLdA 2 v118 h) fun v120 =>
 vb (xIdxS 2 v92 v104) fun v121 =>
 hb (xStA 2 v121 v119 h) fun _ h =>
 vb (xIdxS 2 v92 v115) fun v122 =>
 hb (xStA 2 v122 v120 h) fun _ h =>
 vb (xAri Int.add v104 (vN 1)) fun v123 =>
 r91 [v92, v94, v96, v98, v100, v102, v123] h
noncomputable def F77_3 (n : Nat) (cl : CL) (v92 : Value) (v104 : Value) (v98 : Value) (k18 : Kt) (v94 : Value) (v96 : Value) (v100 : Value) (v102 : Value) (r91 : Kt) (h : PH) : R :=
 vb (xIdxS 2 v92 v104) fun v107 =>
 vb (xAri Int.sub v104 (vN 1)) fun v108 =>
 vb (xIdxS 2 v92 v108) fun v109 =>
 vb (xLdA 2 v107 h) fun v110 =>
 vb (xLdA 2 v109 h) fun v111 =>
 hb (xCall cl v98 [v110, v111] h) fun v112 h =>
 vb (xCmp ilt v112 (vN 0)) fun v113 =>
 vb (xNot v113) fun v114 =>
 bite v114 (k18 [v92, v94, v96, v98, v100, v102] h) (F77_2 n cl v104 v92 r91 v94 v96 v98 v100 v102 h)
noncomputable def F77_4 (n : Nat) (cl : CL) (v104 : Value) (v96 : Value) (v92 : Value) (v98 : Value) (k18 : Kt) (v94 : Value) (v100 : Value) (v102 : Value) (r91 : Kt) (h : PH) : R :=
 vb (xCmp ilt v104 v96) fun v106 =>
 bite v106 (F77_3 n cl v92 v104 v98 k18 v94 v96 v100 v102 r91 h) (k18 [v92, v94, v96, v98, v100, v102] h)
noncomputable def F77_5 (n : Nat) (cl : CL) (k18 : Kt) (r91 : Kt) (y90 : List Value) (h : PH) : R :=
 ucons y90 fun v92 y93 => ucons y93 fun v94 y95 => ucons y95 fun v96 y97 => ucons y97 fun v98 y99 => ucons y99 fun v100 y101 => ucons y101 fun v102 y103 => ucons y103 fun v104 y105 => F77_4 n cl v104 v96 v92 v98 k18 v94 v100 v102 r91 h
noncomputable def F77_6 (n : Nat) (cl : CL) (v83 : Value) (k18 : Kt) (v75 : Value) (v77 : Value) (v79 : Value) (v81 : Value) (v85 : Value) (h : PH) : R :=
 vb (xAri Int.add v83 (vN 1)) fun v89 =>
 lp n (F77_5 n cl k18) [v75, v77, v79, v81, v83, v85, v89] h
noncomputable def F77_7 (n : Nat) (cl : CL) (v79 : Value) (v83 : Value) (k18 : Kt) (v75 : Value) (v77 : Value) (v81 : Value) (v85 : Value) (h : PH) : R :=
 vb (xAri Int.sub v79 v83) fun v87 =>
 vb (xCmp (fun x y => ile y x) v87 (vN 2)) fun v88 =>
 bite v88 (F77_6 n cl v83 k18 v75 v77 v79 v81 v85 h) (k18 [v75, v77, v79, v81, v83, v85] h)
noncomputable def F77_8 (n : Nat) (cl : CL) (v141 : Value) (v129 : Value) (r128 : Kt) (v131 : Value) (v133 : Value) (v135 : Value) (v137 : Value) (v139 : Value) (h : PH) : R :=
 vb (xAri Int.sub v141 (vN 1)) fun v152 =>
 vb (xAri Int.sub v141 (vN 1)) fun v153 =>
 vb (xIdxS 2 v129 v153) fun v154 =>
 vb (xIdxS 2 v129 v141) fun v155 =>
 vb (xLdA 2 v154 h) fun v156 =>
 vb (xLdA 2 v155 h) fun v157 =>
 vb (xIdxS 2 v129 v141) fun v158 =>
 hb (xStA 2 v158 v156 h) fun _ h =>
 vb (xIdxS 2 v129 v152) fun v159 =>
 hb (xStA 2 v159 v157 h) fun _ h =>
 vb (xAri Int.sub v141 (vN 1)) fun v160 =>
 r128 [v129, v131, v133, v135, v137, v139, v160] h
noncomputable def F77_9 (n : Nat) (cl : CL) (v129 : Value) (v141 : Value) (v135 : Value) (k74 : Kt) (v131 : Value) (v133 : Value) (v137 : Value) (v139 : Value) (r128 : Kt) (h : PH) : R :=
 vb (xIdxS 2 v129 v141) fun v144 =>
 vb (xAri Int.sub v141 (vN 1)) fun v145 =>
 vb (xIdxS 2 v129 v145) fun v146 =>
 vb (xLdA 2 v144 h) fun v147 =>
 vb (xLdA 2 v146 h) fun v148 =>
 hb (xCall cl v135 [v147, v148] h) fun v149 h =>
 vb (xCmp ilt v149 (vN 0)) fun v150 =>
 vb (xNot v150) fun v151 =>
 bite v151 (k74 [v129, v131, v133, v135, v137, v139] h) (F77_8 n cl v141 v129 r128 v131 v133 v135 v137 v139 h)
noncomputable def F77_10 (n : Nat) (cl : CL) (v141 : Value) (v129 : Value) (v135 : Value) (k74 : Kt) (v131 : Value) (v133 : Value) (v137 : Value) (v139 : Value) (r128 : Kt) (h : PH) : R :=
 vb (xCmp (fun x y => ile y x) v141 (vN 1)) fun v143 =>
 bite v143 (F77_9 n cl v129 v141 v135 k74 v131 v133 v137 v139 r128 h) (k74 [v129, v131, v133, v135, v137, v139] h)
noncomputable def F77_11 (n : Nat) (cl : CL) (k74 : Kt) (r128 : Kt) (y127 : List Value) (h : PH) : R :=
 ucons y127 fun v129 y130 => ucons y130 fun v131 y132 => ucons y132 fun v133 y134 => ucons y134 fun v135 y136 => ucons y136 fun v137 y138 => ucons y138 fun v139 y140 => ucons y140 fun v141 y142 => F77_10 n cl v141 v129 v135 k74 v131 v133 v137 v139 r128 h
noncomputable def F77_12 (n : Nat) (cl : CL) (v42 : Value) (k74 : Kt) (v34 : Value) (v36 : Value) (v38 : Value) (v40 : Value) (v44 : Value) (h : PH) : R :=
 vb (xAri Int.sub v42 (vN 1)) fun v126 =>
 lp n (F77_11 n cl k74) [v34, v36, v38, v40, v42, v44, v126] h
noncomputable def F77_13 (n : Nat) (cl : CL) (k18 : Kt) (y73 : List Value) (h : PH) : R :=
 ucons y73 fun v75 y76 => ucons y76 fun v77 y78 => ucons y78 fun v79 y80 => ucons y80 fun v81 y82 => ucons y82 fun v83 y84 => ucons y84 fun v85 y86 => F77_7 n cl v79 v83 k18 v75 v77 v81 v85 h
noncomputable def F77_14 (n : Nat) (cl : CL) (v42 : Value) (v36 : Value) (v34 : Value) (v38 : Value) (v40 : Value) (v44 : Value) (h : PH) (k74 : Kt) : R :=
 vb (xAri Int.sub v42 v36) fun v124 =>
 vb (xCmp (fun x y => ile y x) v124 (vN 2)) fun v125 =>
 bite v125 (F77_12 n cl v42 k74 v34 v36 v38 v40 v44 h) (k74 [v34, v36, v38, v40, v42, v44] h)
noncomputable def F77_15 (n : Nat) (cl : CL) (v42 : Value) (v34 : Value) (k18 : Kt) (v36 : Value) (v38 : Value) (v40 : Value) (v44 : Value) (h : PH) : R :=
 vb (xAri Int.sub v42 (vN 1)) fun v65 =>
 vb (xAri Int.sub v42 (vN 1)) fun v66 =>
 vb (xIdxS 2 v34 v66) fun v67 =>
 vb (xIdxS 2 v34 v42) fun v68 =>
 vb (xLdA 2 v67 h) fun v69 =>
 vb (xLdA 2 v68 h) fun v70 =>
 vb (xIdxS 2 v34 v42) fun v71 =>
 hb (xStA 2 v71 v69 h) fun _ h =>
 vb (xIdxS 2 v34 v65) fun v72 =>
 hb (xStA 2 v72 v70 h) fun _ h =>
 jn (F77_13 n cl k18) (F77_14 n cl v42 v36 v34 v38 v40 v44 h)
noncomputable def F77_16 (n : Nat) (cl : CL) (v38 : Value) (v36 : Value) (v42 : Value) (v34 : Value) (k18 : Kt) (v40 : Value) (v44 : Value) (h : PH) : R :=
 vb (xAri Int.sub v38 v36) fun v63 =>
 vb (xCmp ilt v63 (vN 50)) fun v64 =>
 bite v64 (some (ff, h)) (F77_15 n cl v42 v34 k18 v36 v38 v40 v44 h)
noncomputable def F77_17 (n : Nat) (cl : CL) (v42 : Value) (v38 : Value) (v36 : Value) (v34 : Value) (k18 : Kt) (v40 : Value) (v44 : Value) (h : PH) : R :=
 vb (xCmp ieq v42 v38) fun v62 =>
 bite v62 (some (tt, h)) (F77_16 n cl v38 v36 v42 v34 k18 v40 v44 h)
noncomputable def F77_18 (n : Nat) (cl : CL) (v42 : Value) (v38 : Value) (v40 : Value) (v34 : Value) (r33 : Kt) (v36 : Value) (v44 : Value) (k18 : Kt) (h : PH) : R :=
 vb (xCmp ilt v42 v38) fun v46 =>
 vb (gd (isB true v46) (some v40)) fun v47 =>
 vb (gd (isB true v46) (some v34)) fun v48 =>
 vb (gd (isB true v46) (some v42)) fun v49 =>
 vb (gd (isB true v46) (xIdxS 2 v48 v49)) fun v50 =>
 vb (gd (isB true v46) (some v34)) fun v51 =>
 vb (gd (isB true v46) (some v42)) fun v52 =>
 vb (gd (isB true v46) (xAri Int.sub v52 (vN 1))) fun v53 =>
 vb (gd (isB true v46) (xIdxS 2 v51 v53)) fun v54 =>
 vb (gd (isB true v46) (xLdA 2 v50 h)) fun v55 =>
 vb (gd (isB true v46) (xLdA 2 v54 h)) fun v56 =>
 hb (gh (isB true v46) h (xCall cl v47 [v55, v56] h)) fun v57 h =>
 vb (gd (isB true v46) (xCmp ilt v57 (vN 0))) fun v58 =>
 vb (gd (isB true v46) (xNot v58)) fun v59 =>
 vb (xPick v46 v59 ff) fun v60 =>
 bite v60 (F77_1 n cl v42 r33 v34 v36 v38 v40 v44 h) (F77_17 n cl v42 v38 v36 v34 k18 v40 v44 h)
noncomputable def F77_19 (n : Nat) (cl : CL) (k18 : Kt) (r33 : Kt) (y32 : List Value) (h : PH) : R :=
 ucons y32 fun v34 y35 => ucons y35 fun v36 y37 => ucons y37 fun v38 y39 => ucons y39 fun v40 y41 => ucons y41 fun v42 y43 => ucons y43 fun v44 y45 => F77_18 n cl v42 v38 v40 v34 r33 v36 v44 k18 h
noncomputable def F77_20 (n : Nat) (cl : CL) (r3 : Kt) (y17 : List Value) (h : PH) : R :=
 ucons y17 fun v19 y20 => ucons y20 fun v21 y22 => ucons y22 fun v23 y24 => ucons y24 fun v25 y26 => ucons y26 fun v27 y28 => ucons y28 fun v29 y30 => F77_0 n cl v29 r3 v19 v21 v23 v25 v27 h
noncomputable def F77_21 (n : Nat) (cl : CL) (v14 : Value) (r3 : Kt) (v4 : Value) (v6 : Value) (v8 : Value) (v10 : Value) (v12 : Value) (h : PH) : R :=
 vb (xCmp ilt v14 (vN 5)) fun v16 =>
 bite v16 (jn (F77_20 n cl r3) (fun k18 => lp n (F77_19 n cl k18) [v4, v6, v8, v10, v12, v14] h)) (some (ff, h))
noncomputable def F77_22 (n : Nat) (cl : CL) (r3 : Kt) (y2 : List Value) (h : PH) : R :=
 ucons y2 fun v4 y5 => ucons y5 fun v6 y7 => ucons y7 fun v8 y9 => ucons y9 fun v10 y11 => ucons y11 fun v12 y13 => ucons y13 fun v14 y15 => F77_21 n cl v14 r3 v4 v6 v8 v10 v12 h
noncomputable def F77 (n : Nat) (cl : CL) (a0 a1 a2 a3 : Value) (h : PH) : R :=
 vb (xAri Int.add a1 (vN 1)) fun v1 =>
 lp n (F77_22 n cl) [a0, a1, a2, a3, v1, (vN 0)] h
theorem E77 (n : Nat) (cl : CL) (a0 a1 a2 a3 : Value) (h : PH) : exF Try.prog n cl ⟨[], [], [(3, [0, 1, 2, 3, 9, 10]), (4, [0, 1, 2, 3, 9, 10]), (5, [0, 1, 2, 3, 9, 10]), (14, [0, 1, 2, 3, 9, 10, 11]), (18, [0, 1, 2, 3, 9, 10]), (20, [0, 1, 2, 3, 9, 10, 12])], [(5, [0, 1, 2, 3, 4, 5, 6, 7, 9, 10, 11, 12, 8, 13, 14, 15, 16, 17]), (11, [0, 1, 2, 3, 4, 5, 6, 7, 8, 10, 11, 12, 9, 13, 14, 15, 16, 17]), (16, [0, 1, 2, 3, 5, 6, 7, 8, 4, 9, 10, 11, 12]), (17, [0, 1, 2, 3, 4, 5, 6, 7, 8, 10, 11, 12, 9, 13, 14, 15, 16, 17]), (22, [0, 1, 2, 3, 5, 6, 7, 8, 4, 9, 10, 11, 12]), (23, [0, 1, 2, 3, 4, 5, 6, 7, 8, 10, 11, 12, 9, 13, 14, 15, 16, 17])], [], []⟩ Try.f77 [a0, a1, a2, a3] h = F77 n cl a0 a1 a2 a3 h := by kernel_rfl
theorem S77 {n : Nat} {cl : CL} (hcl : OkCL Try.prog cl) {a0 a1 a2 a3 : Value} {h h' : PH} {v : Value} (hx : F77 n cl a0 a1 a2 a3 h = some (v, h')) : (enterable Try.prog 77 = true ∧ ACall Try.prog 77 [a0, a1, a2, a3] h.abs (fun u k => u = v ∧ k = h'.abs)) ∧ Inv h h' :=
  exF_ok hcl hmx Try.func77 (by kernel_rfl) ((E77 n cl a0 a1 a2 a3 h).trans hx)
-- slices.partitionEqualCmpFunc[undergrowth/api.Item]
noncomputable def F78_0 (n : Nat) (cl : CL) (v29 : Value) (r22 : Kt) (v23 : Value) (v25 : Value) (v27 : Value) (v31 : Value) (h : PH) : R :=
 vb (xAri Int.add v29 (vN 1)) fun v47 =>
 r22 [v23, v25, v27, v47, v31] h
noncomputable def F78_1 (n : Nat) (cl : CL) (v58 : Value) (r49 : Kt) (v50 : Value) (v52 : Value) (v54 : Value) (v56 : Value) (h : PH) : R :=
 vb (xAri Int.sub v58 (vN 1)) fun v73 =>
 r49 [v50, v52, v54, v56, v73] h
noncomputable def F78_2 (n : Nat) (cl : CL) (v50 : Value) (v58 : Value) (v56 : Value) (r10 : Kt) (v52 : Value) (v54 : Value) (h : PH) : R :=
 vb (xIdxS 2 v50 v58) fun v75 =>
 vb (xIdxS 2 v50 v56) fun v76 =>
 vb (xLdA 2 v75 h) fun v77 =>
 vb (xLdA 2 v76 h) fun v78 =>
 vb (xIdxS 2 v50 v56) fun v79 =>
 hb (xStA 2 v79 v77 h) fun _ h =>
 vb (xIdxS 2 v50 v58) fun v80 =>
 hb (xStA 2 v80 v78 h) fun _ h =>
 vb (xAri Int.add v56 (vN 1)) fun v81 =>
 vb (xAri Int.sub v58 (vN 1)) fun v82 =>
 r10 [v50, v52, v54, v81, v82] h
noncomputable def F78_3 (n : Nat) (cl : CL) (v56 : Value) (v58 : Value) (v50 : Value) (r10 : Kt) (v52 : Value) (v54 : Value) (h : PH) : R :=
 vb (xCmp (fun x y => ilt y x) v56 v58) fun v74 =>
 bite v74 (some (v56, h)) (F78_2 n cl v50 v58 v56 r10 v52 v54 h)
noncomputable def F78_4 (n : Nat) (cl : CL) (v56 : Value) (v58 : Value) (v54 : Value) (v50 : Value) (v52 : Value) (r49 : Kt) (r10 : Kt) (h : PH) : R :=
 vb (xCmp ile v56 v58) fun v60 =>
 vb (gd (isB true v60) (some v54)) fun v61 =>
 vb (gd (isB true v60) (some v50)) fun v62 =>
 vb (gd (isB true v60) (some v52)) fun v63 =>
 vb (gd (isB true v60) (xIdxS 2 v62 v63)) fun v64 =>
 vb (gd (isB true v60) (some v50)) fun v65 =>
 vb (gd (isB true v60) (some v58)) fun v66 =>
 vb (gd (isB true v60) (xIdxS 2 v65 v66)) fun v67 =>
 vb (gd (isB true v60) (xLdA 2 v64 h)) fun v68 =>
 vb (gd (isB true v60) (xLdA 2 v67 h)) fun v69 =>
 hb (gh (isB true v60) h (xCall cl v61 [v68, v69] h)) fun v70 h =>
 vb (gd (isB true v60) (xCmp ilt v70 (vN 0))) fun v71 =>
 vb (xPick v60 v71 ff) fun v72 =>
 bite v72 (F78_1 n cl v58 r49 v50 v52 v54 v56 h) (F78_3 n cl v56 v58 v50 r10 v52 v54 h)
noncomputable def F78_5 (n : Nat) (cl : CL) (r10 : Kt) (r49 : Kt) (y48 : List Value) (h : PH) : R :=
 ucons y48 fun v50 y51 => ucons y51 fun v52 y53 => ucons y53 fun v54 y55 => ucons y55 fun v56 y57 => ucons y57 fun v58 y59 => F78_4 n cl v56 v58 v54 v50 v52 r49 r10 h
noncomputable def F78_6 (n : Nat) (cl : CL) (v29 : Value) (v31 : Value) (v27 : Value) (v23 : Value) (v25 : Value) (r22 : Kt) (r10 : Kt) (h : PH) : R :=
 vb (xCmp ile v29 v31) fun v33 =>
 vb (gd (isB true v33) (some v27)) fun v34 =>
 vb (gd (isB true v33) (some v23)) fun v35 =>
 vb (gd (isB true v33) (some v25)) fun v36 =>
 vb (gd (isB true v33) (xIdxS 2 v35 v36)) fun v37 =>
 vb (gd (isB true v33) (some v23)) fun v38 =>
 vb (gd (isB true v33) (some v29)) fun v39 =>
 vb (gd (isB true v33) (xIdxS 2 v38 v39)) fun v40 =>
 vb (gd (isB true v33) (xLdA 2 v37 h)) fun v41 =>
 vb (gd (isB true v33) (xLdA 2 v40 h)) fun v42 =>
 hb (gh (isB true v33) h (xCall cl v34 [v41, v42] h)) fun v43 h =>
 vb (gd (isB true v33) (xCmp ilt v43 (vN 0))) fun v44 =>
 vb (gd (isB true v33) (xNot v44)) fun v45 =>
 vb (xPick v33 v45 ff) fun v46 =>
 bite v46 (F78_0 n cl v29 r22 v23 v25 v27 v31 h) (lp n (F78_5 n cl r10) [v23, v25, v27, v29, v31] h)
noncomputable def F78_7 (n : Nat) (cl : CL) (r10 : Kt) (r22 : Kt) (y21 : List Value) (h : PH) : R :=
 ucons y21 fun v23 y24 => ucons y24 fun v25 y26 => ucons y26 fun v27 y28 => ucons y28 fun v29 y30 => ucons y30 fun v31 y32 => F78_6 n cl v29 v31 v27 v23 v25 r22 r10 h
noncomputable def F78_8 (n : Nat) (cl : CL) (r10 : Kt) (y9 : List Value) (h : PH) : R :=
 ucons y9 fun v11 y12 => ucons y12 fun v13 y14 => ucons y14 fun v15 y16 => ucons y16 fun v17 y18 => ucons y18 fun v19 y20 => lp n (F78_7 n cl r10) [v11, v13, v15, v17, v19] h
noncomputable def F78 (n : Nat) (cl : CL) (a0 a1 a2 a3 a4 : Value) (h : PH) : R :=
 vb (xIdxS 2 a0 a3) fun v1 =>
 vb (xIdxS 2 a0 a1) fun v2 =>
 vb (xLdA 2 v1 h) fun v3 =>
 vb (xLdA 2 v2 h) fun v4 =>
 vb (xIdxS 2 a0 a1) fun v5 =>
 hb (xStA 2 v5 v3 h) fun _ h =>
 vb (xIdxS 2 a0 a3) fun v6 =>
 hb (xStA 2 v6 v4 h) fun _ h =>
 vb (xAri Int.add a1 (vN 1)) fun v7 =>
 vb (xAri Int.sub a2 (vN 1)) fun v8 =>
 lp n (F78_8 n cl) [a0, a1, a4, v7, v8] h
theorem E78 (n : Nat) (cl : CL) (a0 a1 a2 a3 a4 : Value) (h : PH) : exF Try.prog n cl ⟨[], [], [(3, [0, 1, 4, 11, 12]), (5, [0, 1, 4, 11, 12])], [(1, [0, 1, 2, 3, 4, 5, 6, 8, 9, 10, 7, 11, 12, 13, 14, 15]), (3, [0, 1, 2, 3, 4, 5, 6, 7, 9, 10, 11, 8, 12, 13, 14, 15, 16]), (5, [0, 1, 2, 3, 4, 5, 6, 7, 9, 10, 11, 8, 12, 13, 14, 15]), (8, [0, 1, 2, 3, 4, 5, 6, 8, 9, 10, 7, 11, 12, 13, 14, 15])], [], []⟩ Try.f78 [a0, a1, a2, a3, a4] h = F78 n cl a0 a1 a2 a3 a4 h := by kernel_rfl
theorem S78 {n : Nat} {cl : CL} (hcl : OkCL Try.prog cl) {a0 a1 a2 a3 a4 : Value} {h h' : PH} {v : Value} (hx : F78 n cl a0 a1 a2 a3 a4 h = some (v, h')) : (enterable Try.prog 78 = true ∧ ACall Try.prog 78 [a0, a1, a2, a3, a4] h.abs (fun u k => u = v ∧ k = h'.abs)) ∧ Inv h h' :=
  exF_ok hcl hmx Try.func78 (by kernel_rfl) ((E78 n cl a0 a1 a2 a3 a4 h).trans hx)
-- slices.partitionCmpFunc[undergrowth/api.Item]
noncomputable def F79_0 (n : Nat) (cl : CL) (v17 : Value) (r10 : Kt) (v11 : Value) (v13 : Value) (v15 : Value) (v19 : Value) (h : PH) : R :=
 vb (xAri Int.add v17 (vN 1)) fun v34 =>
 r10 [v11, v13, v15, v34, v19] h
noncomputable def F79_1 (n : Nat) (cl : CL) (v45 : Value) (r36 : Kt) (v37 : Value) (v39 : Value) (v41 : Value) (v43 : Value) (h : PH) : R :=
 vb (xAri Int.sub v45 (vN 1)) fun v61 =>
 r36 [v37, v39, v41, v43, v61] h
noncomputable def F79_2 (n : Nat) (cl : CL) (v37 : Value) (v39 : Value) (v45 : Value) (h : PH) : R :=
 vb (xIdxS 2 v37 v39) fun v63 =>
 vb (xIdxS 2 v37 v45) fun v64 =>
 vb (xLdA 2 v63 h) fun v65 =>
 vb (xLdA 2 v64 h) fun v66 =>
 vb (xIdxS 2 v37 v45) fun v67 =>
 hb (xStA 2 v67 v65 h) fun _ h =>
 vb (xIdxS 2 v37 v39) fun v68 =>
 hb (xStA 2 v68 v66 h) fun _ h =>
 some (Value.tuple ⟨[v45, tt]⟩, h)
noncomputable def F79_3 (n : Nat) (cl : CL) (v97 : Value) (r90 : Kt) (v91 : Value) (v93 : Value) (v95 : Value) (v99 : Value) (h : PH) : R :=
 vb (xAri Int.add v97 (vN 1)) fun v114 =>
 r90 [v91, v93, v95, v114, v99] h
noncomputable def F79_4 (n : Nat) (cl : CL) (v125 : Value) (r116 : Kt) (v117 : Value) (v119 : Value) (v121 : Value) (v123 : Value) (h : PH) : R :=
 vb (xAri Int.sub v125 (vN 1)) fun v141 =>
 r116 [v117, v119, v121, v123, v141] h
noncomputable def F79_5 (n : Nat) (cl : CL) (v117 : Value) (v119 : Value) (v125 : Value) (h : PH) : R :=
 vb (xIdxS 2 v117 v119) fun v143 =>
 vb (xIdxS 2 v117 v125) fun v144 =>
 vb (xLdA 2 v143 h) fun v145 =>
 vb (xLdA 2 v144 h) fun v146 =>
 vb (xIdxS 2 v117 v125) fun v147 =>
 hb (xStA 2 v147 v145 h) fun _ h =>
 vb (xIdxS 2 v117 v119) fun v148 =>
 hb (xStA 2 v148 v146 h) fun _ h =>
 some (Value.tuple ⟨[v125, ff]⟩, h)
noncomputable def F79_6 (n : Nat) (cl : CL) (v117 : Value) (v125 : Value) (v123 : Value) (r78 : Kt) (v119 : Value) (v121 : Value) (h : PH) : R :=
 vb (xIdxS 2 v117 v125) fun v149 =>
 vb (xIdxS 2 v117 v123) fun v150 =>
 vb (xLdA 2 v149 h) fun v151 =>
 vb (xLdA 2 v150 h) fun v152 =>
 vb (xIdxS 2 v117 v123) fun v153 =>
 hb (xStA 2 v153 v151 h) fun _ h =>
 vb (xIdxS 2 v117 v125) fun v154 =>
 hb (xStA 2 v154 v152 h) fun _ h =>
 vb (xAri Int.add v123 (vN 1)) fun v155 =>
 vb (xAri Int.sub v125 (vN 1)) fun v156 =>
 r78 [v117, v119, v121, v155, v156] h
noncomputable def F79_7 (n : Nat) (cl : CL) (v123 : Value) (v125 : Value) (v117 : Value) (v119 : Value) (r78 : Kt) (v121 : Value) (h : PH) : R :=
 vb (xCmp (fun x y => ilt y x) v123 v125) fun v142 =>
 bite v142 (F79_5 n cl v117 v119 v125 h) (F79_6 n cl v117 v125 v123 r78 v119 v121 h)
noncomputable def F79_8 (n : Nat) (cl : CL) (v123 : Value) (v125 : Value) (v121 : Value) (v117 : Value) (v119 : Value) (r116 : Kt) (r78 : Kt) (h : PH) : R :=
 vb (xCmp ile v123 v125) fun v127 =>
 vb (gd (isB true v127) (some v121)) fun v128 =>
 vb (gd (isB true v127) (some v117)) fun v129 =>
 vb (gd (isB true v127) (some v125)) fun v130 =>
 vb (gd (isB true v127) (xIdxS 2 v129 v130)) fun v131 =>
 vb (gd (isB true v127) (some v117)) fun v132 =>
 vb (gd (isB true v127) (some v119)) fun v133 =>
 vb (gd (isB true v127) (xIdxS 2 v132 v133)) fun v134 =>
 vb (gd (isB true v127) (xLdA 2 v131 h)) fun v135 =>
 vb (gd (isB true v127) (xLdA 2 v134 h)) fun v136 =>
 hb (gh (isB true v127) h (xCall cl v128 [v135, v136] h)) fun v137 h =>
 vb (gd (isB true v127) (xCmp ilt v137 (vN 0))) fun v138 =>
 vb (gd (isB true v127) (xNot v138)) fun v139 =>
 vb (xPick v127 v139 ff) fun v140 =>
 bite v140 (F79_4 n cl v125 r116 v117 v119 v121 v123 h) (F79_7 n cl v123 v125 v117 v119 r78 v121 h)
noncomputable def F79_9 (n : Nat) (cl : CL) (r78 : Kt) (r116 : Kt) (y115 : List Value) (h : PH) : R :=
 ucons y115 fun v117 y118 => ucons y118 fun v119 y120 => ucons y120 fun v121 y122 => ucons y122 fun v123 y124 => ucons y124 fun v125 y126 => F79_8 n cl v123 v125 v121 v117 v119 r116 r78 h
noncomputable def F79_10 (n : Nat) (cl : CL) (v97 : Value) (v99 : Value) (v95 : Value) (v91 : Value) (v93 : Value) (r90 : Kt) (r78 : Kt) (h : PH) : R :=
 vb (xCmp ile v97 v99) fun v101 =>
 vb (gd (isB true v101) (some v95)) fun v102 =>
 vb (gd (isB true v101) (some v91)) fun v103 =>
 vb (gd (isB true v101) (some v97)) fun v104 =>
 vb (gd (isB true v101) (xIdxS 2 v103 v104)) fun v105 =>
 vb (gd (isB true v101) (some v91)) fun v106 =>
 vb (gd (isB true v101) (some v93)) fun v107 =>
 vb (gd (isB true v101) (xIdxS 2 v106 v107)) fun v108 =>
 vb (gd (isB true v101) (xLdA 2 v105 h)) fun v109 =>
 vb (gd (isB true v101) (xLdA 2 v108 h)) fun v110 =>
 hb (gh (isB true v101) h (xCall cl v102 [v109, v110] h)) fun v111 h =>
 vb (gd (isB true v101) (xCmp ilt v111 (vN 0))) fun v112 =>
 vb (xPick v101 v112 ff) fun v113 =>
 bite v113 (F79_3 n cl v97 r90 v91 v93 v95 v99 h) (lp n (F79_9 n cl r78) [v91, v93, v95, v97, v99] h)
noncomputable def F79_11 (n : Nat) (cl : CL) (r78 : Kt) (r90 : Kt) (y89 : List Value) (h : PH) : R :=
 ucons y89 fun v91 y92 => ucons y92 fun v93 y94 => ucons y94 fun v95 y96 => ucons y96 fun v97 y98 => ucons y98 fun v99 y100 => F79_10 n cl v97 v99 v95 v91 v93 r90 r78 h
noncomputable def F79_12 (n : Nat) (cl : CL) (r78 : Kt) (y77 : List Value) (h : PH) : R :=
 ucons y77 fun v79 y80 => ucons y80 fun v81 y82 => ucons y82 fun v83 y84 => ucons y84 fun v85 y86 => ucons y86 fun v87 y88 => lp n (F79_11 n cl r78) [v79, v81, v83, v85, v87] h
noncomputable def F79_13 (n : Nat) (cl : CL) (v37 : Value) (v45 : Value) (v43 : Value) (v39 : Value) (v41 : Value) (h : PH) : R :=
 vb (xIdxS 2 v37 v45) fun v69 =>
 vb (xIdxS 2 v37 v43) fun v70 =>
 vb (xLdA 2 v69 h) fun v71 =>
 vb (xLdA 2 v70 h) fun v72 =>
 vb (xIdxS 2 v37 v43) fun v73 =>
 hb (xStA 2 v73 v71 h) fun _ h =>
 vb (xIdxS 2 v37 v45) fun v74 =>
 hb (xStA 2 v74 v72 h) fun _ h =>
 vb (xAri Int.add v43 (vN 1)) fun v75 =>
 vb (xAri Int.sub v45 (vN 1)) fun v76 =>
 lp n (F79_12 n cl) [v37, v39, v41, v75, v76] h
noncomputable def F79_14 (n : Nat) (cl : CL) (v43 : Value) (v45 : Value) (v37 : Value) (v39 : Value) (v41 : Value) (h : PH) : R :=
 vb (xCmp (fun x y => ilt y x) v43 v45) fun v62 =>
 bite v62 (F79_2 n cl v37 v39 v45 h) (F79_13 n cl v37 v45 v43 v39 v41 h)
noncomputable def F79_15 (n : Nat) (cl : CL) (v43 : Value) (v45 : Value) (v41 : Value) (v37 : Value) (v39 : Value) (r36 : Kt) (h : PH) : R :=
 vb (xCmp ile v43 v45) fun v47 =>
 vb (gd (isB true v47) (some v41)) fun v48 =>
 vb (gd (isB true v47) (some v37)) fun v49 =>
 vb (gd (isB true v47) (some v45)) fun v50 =>
 vb (gd (isB true v47) (xIdxS 2 v49 v50)) fun v51 =>
 vb (gd (isB true v47) (some v37)) fun v52 =>
 vb (gd (isB true v47) (some v39)) fun v53 =>
 vb (gd (isB true v47) (xIdxS 2 v52 v53)) fun v54 =>
 vb (gd (isB true v47) (xLdA 2 v51 h)) fun v55 =>
 vb (gd (isB true v47) (xLdA 2 v54 h)) fun v56 =>
 hb (gh (isB true v47) h (xCall cl v48 [v55, v56] h)) fun v57 h =>
 vb (gd (isB true v47) (xCmp ilt v57 (vN 0))) fun v58 =>
 vb (gd (isB true v47) (xNot v58)) fun v59 =>
 vb (xPick v47 v59 ff) fun v60 =>
 bite v60 (F79_1 n cl v45 r36 v37 v39 v41 v43 h) (F79_14 n cl v43 v45 v37 v39 v41 h)
noncomputable def F79_16 (n : Nat) (cl : CL) (r36 : Kt) (y35 : List Value) (h : PH) : R :=
 ucons y35 fun v37 y38 => ucons y38 fun v39 y40 => ucons y40 fun v41 y42 => ucons y42 fun v43 y44 => ucons y44 fun v45 y46 => F79_15 n cl v43 v45 v41 v37 v39 r36 h
noncomputable def F79_17 (n : Nat) (cl : CL) (v17 : Value) (v19 : Value) (v15 : Value) (v11 : Value) (v13 : Value) (r10 : Kt) (h : PH) : R :=
 vb (xCmp ile v17 v19) fun v21 =>
 vb (gd (isB true v21) (some v15)) fun v22 =>
 vb (gd (isB true v21) (some v11)) fun v23 =>
 vb (gd (isB true v21) (some v17)) fun v24 =>
 vb (gd (isB true v21) (xIdxS 2 v23 v24)) fun v25 =>
 vb (gd (isB true v21) (some v11)) fun v26 =>
 vb (gd (isB true v21) (some v13)) fun v27 =>
 vb (gd (isB true v21) (xIdxS 2 v26 v27)) fun v28 =>
 vb (gd (isB true v21) (xLdA 2 v25 h)) fun v29 =>
 vb (gd (isB true v21) (xLdA 2 v28 h)) fun v30 =>
 hb (gh (isB true v21) h (xCall cl v22 [v29, v30] h)) fun v31 h =>
 vb (gd (isB true v21) (xCmp ilt v31 (vN 0))) fun v32 =>
 vb (xPick v21 v32 ff) fun v33 =>
 bite v33 (F79_0 n cl v17 r10 v11 v13 v15 v19 h) (lp n (F79_16 n cl) [v11, v13, v15, v17, v19] h)
noncomputable def F79_18 (n : Nat) (cl : CL) (r10 : Kt) (y9 : List Value) (h : PH) : R :=
 ucons y9 fun v11 y12 => ucons y12 fun v13 y14 => ucons y14 fun v15 y16 => ucons y16 fun v17 y18 => ucons y18 fun v19 y20 => F79_17 n cl v17 v19 v15 v11 v13 r10 h
noncomputable def F79 (n : Nat) (cl : CL) (a0 a1 a2 a3 a4 : Value) (h : PH) : R :=
 vb (xIdxS 2 a0 a3) fun v1 =>
 vb (xIdxS 2 a0 a1) fun v2 =>
 vb (xLdA 2 v1 h) fun v3 =>
 vb (xLdA 2 v2 h) fun v4 =>
 vb (xIdxS 2 a0 a1) fun v5 =>
 hb (xStA 2 v5 v3 h) fun _ h =>
 vb (xIdxS 2 a0 a3) fun v6 =>
 hb (xStA 2 v6 v4 h) fun _ h =>
 vb (xAri Int.add a1 (vN 1)) fun v7 =>
 vb (xAri Int.sub a2 (vN 1)) fun v8 =>
 lp n (F79_18 n cl) [a0, a1, a4, v7, v8] h
theorem E79 (n : Nat) (cl : CL) (a0 a1 a2 a3 a4 : Value) (h : PH) : exF Try.prog n cl ⟨[], [], [(3, [0, 1, 4, 12, 13]), (5, [0, 1, 4, 12, 13]), (13, [0, 1, 4, 12, 13]), (15, [0, 1, 4, 12, 13])], [(1, [0, 1, 2, 3, 4, 5, 6, 8, 9, 10, 7, 11, 12, 13, 14, 15]), (3, [0, 1, 2, 3, 4, 5, 6, 7, 9, 10, 11, 8, 12, 13, 14, 15]), (5, [0, 1, 2, 3, 4, 5, 6, 7, 9, 10, 11, 8, 12, 13, 14, 15, 16]), (8, [0, 1, 2, 3, 4, 5, 6, 8, 9, 10, 7, 11, 12, 13, 14, 15]), (10, [0, 1, 2, 3, 4, 5, 6, 8, 9, 10, 7, 11, 12, 13, 14, 15]), (13, [0, 1, 2, 3, 4, 5, 6, 7, 9, 10, 11, 8, 12, 13, 14, 15]), (15, [0, 1, 2, 3, 4, 5, 6, 7, 9, 10, 11, 8, 12, 13, 14, 15, 16]), (18, [0, 1, 2, 3, 4, 5, 6, 8, 9, 10, 7, 11, 12, 13, 14, 15]), (21, [0, 1, 2, 3, 4, 5, 6, 8, 9, 10, 7, 11, 12, 13, 14, 15])], [], []⟩ Try.f79 [a0, a1, a2, a3, a4] h = F79 n cl a0 a1 a2 a3 a4 h := by kernel_rfl
theorem S79 {n : Nat} {cl : CL} (hcl : OkCL Try.prog cl) {a0 a1 a2 a3 a4 : Value} {h h' : PH} {v : Value} (hx : F79 n cl a0 a1 a2 a3 a4 h = some (v, h')) : (enterable Try.prog 79 = true ∧ ACall Try.prog 79 [a0, a1, a2, a3, a4] h.abs (fun u k => u = v ∧ k = h'.abs)) ∧ Inv h h' :=
  exF_ok hcl hmx Try.func79 (by kernel_rfl) ((E79 n cl a0 a1 a2 a3 a4 h).trans hx)
-- slices.pdqsortCmpFunc[undergrowth/api.Item]
noncomputable def F59_0 (n : Nat) (cl : CL) (v3 : Value) (v5 : Value) (v7 : Value) (v11 : Value) (h : PH) : R :=
 hb (F72 n cl v3 v5 v7 v11 h) fun v15 h =>
 some (Value.tuple ⟨[]⟩, h)
noncomputable def F59_1 (n : Nat) (cl : CL) (v3 : Value) (v5 : Value) (v7 : Value) (v11 : Value) (h : PH) : R :=
 hb (F73 n cl v3 v5 v7 v11 h) fun v17 h =>
 some (Value.tuple ⟨[]⟩, h)
noncomputable def F59_2 (n : Nat) (cl : CL) (v9 : Value) (v3 : Value) (v5 : Value) (v7 : Value) (v11 : Value) (h : PH) : R :=
 vb (xCmp ieq v9 (vN 0)) fun v16 =>
 bite v16 (F59_1 n cl v3 v5 v7 v11 h) (jn (fun y18 h => none) (fun k19 => none))
noncomputable def F59_3 (n : Nat) (cl : CL) (v7 : Value) (v5 : Value) (v3 : Value) (v11 : Value) (v9 : Value) (h : PH) : R :=
 vb (xAri Int.sub v7 v5) fun v13 =>
 vb (xCmp ile v13 (vN 12)) fun v14 =>
 bite v14 (F59_0 n cl v3 v5 v7 v11 h) (F59_2 n cl v9 v3 v5 v7 v11 h)
noncomputable def F59_4 (n : Nat) (cl : CL) (r2 : Kt) (y1 : List Value) (h : PH) : R :=
 ucons y1 fun v3 y4 => ucons y4 fun v5 y6 => ucons y6 fun v7 y8 => ucons y8 fun v9 y10 => ucons y10 fun v11 y12 => F59_3 n cl v7 v5 v3 v11 v9 h
noncomputable def F59 (n : Nat) (cl : CL) (a0 a1 a2 a3 a4 : Value) (h : PH) : R :=
 lp n (F59_4 n cl) [a0, a1, a2, a3, a4] h
noncomputable def D59 (n : Nat) (cl : CL) : CL := fun f xs h => sw f 72 (ucons xs fun b0 xs => ucons xs fun b1 xs => ucons xs fun b2 xs => ucons xs fun b3 xs => u0 xs (F72 n cl b0 b1 b2 b3 h)) (sw f 73 (ucons xs fun b0 xs => ucons xs fun b1 xs => ucons xs fun b2 xs => ucons xs fun b3 xs => u0 xs (F73 n cl b0 b1 b2 b3 h)) (cl f xs h))
theorem Dk59 {n : Nat} {cl : CL} (hcl : OkCL Try.prog cl) : OkCL Try.prog (D59 n cl) := by
  intro f xs h v h' hx
  rcases sw_ok hx with ⟨rfl, hx⟩ | hx
  · obtain ⟨_, _, rfl, hx⟩ := ucons_ok hx; obtain ⟨_, _, rfl, hx⟩ := ucons_ok hx; obtain ⟨_, _, rfl, hx⟩ := ucons_ok hx; obtain ⟨_, _, rfl, hx⟩ := ucons_ok hx; obtain ⟨rfl, hx⟩ := u0_ok hx; exact S72 (n := n) (cl := cl) hcl hx
  rcases sw_ok hx with ⟨rfl, hx⟩ | hx
  · obtain ⟨_, _, rfl, hx⟩ := ucons_ok hx; obtain ⟨_, _, rfl, hx⟩ := ucons_ok hx; obtain ⟨_, _, rfl, hx⟩ := ucons_ok hx; obtain ⟨_, _, rfl, hx⟩ := ucons_ok hx; obtain ⟨rfl, hx⟩ := u0_ok hx; exact S73 (n := n) (cl := cl) hcl hx
  exact hcl _ _ _ _ _ hx
theorem E59 (n : Nat) (cl : CL) (a0 a1 a2 a3 a4 : Value) (h : PH) : exF Try.prog n (D59 n cl) ⟨[], [], [(2, [0, 1, 2, 3, 4]), (10, []), (15, [0, 1, 2, 3, 4, 10, 11, 12, 13, 14]), (17, [0, 1, 2, 3, 4, 12, 13])], [(17, [0, 1, 2, 3, 4, 5, 6, 7, 9, 10, 11, 8, 12, 13, 14, 15, 16])], [], [7, 8, 9, 10]⟩ Try.f59 [a0, a1, a2, a3, a4] h = F59 n cl a0 a1 a2 a3 a4 h := by kernel_rfl
theorem S59 {n : Nat} {cl : CL} (hcl : OkCL Try.prog cl) {a0 a1 a2 a3 a4 : Value} {h h' : PH} {v : Value} (hx : F59 n cl a0 a1 a2 a3 a4 h = some (v, h')) : (enterable Try.prog 59 = true ∧ ACall Try.prog 59 [a0, a1, a2, a3, a4] h.abs (fun u k => u = v ∧ k = h'.abs)) ∧ Inv h h' :=
  exF_ok (Dk59 hcl) hmx Try.func59 (by kernel_rfl) ((E59 n cl a0 a1 a2 a3 a4 h).trans hx)
-- slices.SortFunc[[]undergrowth/api.Item,undergrowth/api.Item]
noncomputable def F38 (n : Nat) (cl : CL) (a0 a1 : Value) (h : PH) : R :=
 vb (xLenS a0) fun v1 =>
 vb (xConv Try.prog 3 77 v1) fun v2 =>
 vb (pcall (F37 n cl v2 (h.fzn))) fun v3 =>
 hb (cl 59 [a0, (vN 0), v1, v3, a1] h) fun v4 h =>
 some (Value.tuple ⟨[]⟩, h)
noncomputable def D38 (n : Nat) (cl : CL) : CL := fun f xs h => sw f 37 (ucons xs fun b0 xs => u0 xs (F37 n cl b0 h)) (cl f xs h)
theorem Dk38 {n : Nat} {cl : CL} (hcl : OkCL Try.prog cl) : OkCL Try.prog (D38 n cl) := by
  intro f xs h v h' hx
  rcases sw_ok hx with ⟨rfl, hx⟩ | hx
  · obtain ⟨_, _, rfl, hx⟩ := ucons_ok hx; obtain ⟨rfl, hx⟩ := u0_ok hx; exact S37 (n := n) (cl := cl) hcl hx
  exact hcl _ _ _ _ _ hx
theorem E38 (n : Nat) (cl : CL) (a0 a1 : Value) (h : PH) : exF Try.prog n (D38 n cl) ⟨[37], [], [], [], [], []⟩ Try.f38 [a0, a1] h = F38 n cl a0 a1 h := by kernel_rfl
theorem S38 {n : Nat} {cl : CL} (hcl : OkCL Try.prog cl) {a0 a1 : Value} {h h' : PH} {v : Value} (hx : F38 n cl a0 a1 h = some (v, h')) : (enterable Try.prog 38 = true ∧ ACall Try.prog 38 [a0, a1] h.abs (fun u k => u = v ∧ k = h'.abs)) ∧ Inv h h' :=
  exF_ok (Dk38 hcl) hmx Try.func38 (by kernel_rfl) ((E38 n cl a0 a1 h).trans hx)
-- cmp.isNaN[int]
noncomputable def F71 (n : Nat) (cl : CL) (a0 : Value) (h : PH) : R :=
 vb (xCmp ine a0 a0) fun v1 =>
 some (v1, h)
theorem E71 (n : Nat) (cl : CL) (a0 : Value) (h : PH) : exF Try.prog n cl ⟨[], [], [], [], [], []⟩ Try.f71 [a0] h = F71 n cl a0 h := by kernel_rfl
theorem S71 {n : Nat} {cl : CL} (hcl : OkCL Try.prog cl) {a0 : Value} {h h' : PH} {v : Value} (hx : F71 n cl a0 h = some (v, h')) : (enterable Try.prog 71 = true ∧ ACall Try.prog 71 [a0] h.abs (fun u k => u = v ∧ k = h'.abs)) ∧ Inv h h' :=
  exF_ok hcl hmx Try.func71 (by kernel_rfl) ((E71 n cl a0 h).trans hx)
-- cmp.Compare[int]
noncomputable def F61_0 (n : Nat) (cl : CL) (a0 : Value) (a1 : Value) (h : PH) : R :=
 vb (xCmp (fun x y => ilt y x) a0 a1) fun v4 =>
 bite v4 (some ((vN 1), h)) (some ((vN 0), h))
noncomputable def F61_1 (n : Nat) (cl : CL) (a0 : Value) (a1 : Value) (h : PH) : R :=
 vb (xCmp ilt a0 a1) fun v3 =>
 bite v3 (some ((vM 0), h)) (F61_0 n cl a0 a1 h)
noncomputable def F61 (n : Nat) (cl : CL) (a0 a1 : Value) (h : PH) : R :=
 vb (pcall (F71 n cl a0 (h.fzn))) fun v1 =>
 vb (pcall (F71 n cl a1 (h.fzn))) fun v2 =>
 bite v1 (bite v2 (some ((vN 0), h)) (some ((vM 0), h))) (bite v2 (some ((vN 1), h)) (F61_1 n cl a0 a1 h))
noncomputable def D61 (n : Nat) (cl : CL) : CL := fun f xs h => sw f 71 (ucons xs fun b0 xs => u0 xs (F71 n cl b0 h)) (cl f xs h)
theorem Dk61 {n : Nat} {cl : CL} (hcl : OkCL Try.prog cl) : OkCL Try.prog (D61 n cl) := by
  intro f xs h v h' hx
  rcases sw_ok hx with ⟨rfl, hx⟩ | hx
  · obtain ⟨_, _, rfl, hx⟩ := ucons_ok hx; obtain ⟨rfl, hx⟩ := u0_ok hx; exact S71 (n := n) (cl := cl) hcl hx
  exact hcl _ _ _ _ _ hx
theorem E61 (n : Nat) (cl : CL) (a0 a1 : Value) (h : PH) : exF Try.prog n (D61 n cl) ⟨[71], [], [], [], [], []⟩ Try.f61 [a0, a1] h = F61 n cl a0 a1 h := by kernel_rfl
theorem S61 {n : Nat} {cl : CL} (hcl : OkCL Try.prog cl) {a0 a1 : Value} {h h' : PH} {v : Value} (hx : F61 n cl a0 a1 h = some (v, h')) : (enterable Try.prog 61 = true ∧ ACall Try.prog 61 [a0, a1] h.abs (fun u k => u = v ∧ k = h'.abs)) ∧ Inv h h' :=
  exF_ok (Dk61 hcl) hmx Try.func61 (by kernel_rfl) ((E61 n cl a0 a1 h).trans hx)
-- cmp.Or[int]
noncomputable def F60_0 (n : Nat) (cl : CL) (v10 : Value) (r3 : Kt) (v4 : Value) (v6 : Value) (v8 : Value) (h : PH) : R :=
 vb (xAri Int.add v10 (vN 1)) fun v16 =>
 r3 [v4, v6, v8, v16] h
noncomputable def F60_1 (n : Nat) (cl : CL) (v6 : Value) (v10 : Value) (v4 : Value) (r3 : Kt) (v8 : Value) (h : PH) : R :=
 vb (xIdxS 1 v6 v10) fun v13 =>
 vb (xLd v13 h) fun v14 =>
 vb (xCmp ine v14 v4) fun v15 =>
 bite v15 (some (v14, h)) (F60_0 n cl v10 r3 v4 v6 v8 h)
noncomputable def F60_2 (n : Nat) (cl : CL) (v10 : Value) (v8 : Value) (v6 : Value) (v4 : Value) (r3 : Kt) (h : PH) : R :=
 vb (xCmp ilt v10 v8) fun v12 =>
 bite v12 (F60_1 n cl v6 v10 v4 r3 v8 h) (some (v4, h))
noncomputable def F60_3 (n : Nat) (cl : CL) (r3 : Kt) (y2 : List Value) (h : PH) : R :=
 ucons y2 fun v4 y5 => ucons y5 fun v6 y7 => ucons y7 fun v8 y9 => ucons y9 fun v10 y11 => F60_2 n cl v10 v8 v6 v4 r3 h
noncomputable def F60 (n : Nat) (cl : CL) (a0 : Value) (h : PH) : R :=
 vb (xLenS a0) fun v1 =>
 lp n (F60_3 n cl) [(vN 0), a0, v1, (vN 0)] h
theorem E60 (n : Nat) (cl : CL) (a0 : Value) (h : PH) : exF Try.prog n cl ⟨[], [], [(3, [3, 6, 7, 8])], [], [], []⟩ Try.f60 [a0] h = F60 n cl a0 h := by kernel_rfl
theorem S60 {n : Nat} {cl : CL} (hcl : OkCL Try.prog cl) {a0 : Value} {h h' : PH} {v : Value} (hx : F60 n cl a0 h = some (v, h')) : (enterable Try.prog 60 = true ∧ ACall Try.prog 60 [a0] h.abs (fun u k => u = v ∧ k = h'.abs)) ∧ Inv h h' :=
  exF_ok hcl hmx Try.func60 (by kernel_rfl) ((E60 n cl a0 h).trans hx)
-- undergrowth/items.compare
noncomputable def F39 (n : Nat) (cl : CL) (a0 a1 : Value) (h : PH) : R :=
 hb (xBox a0 h) fun v1 h =>
 hb (xBox a1 h) fun v2 h =>
 vb (xFld 0 v1) fun v3 =>
 vb (xFld 0 v2) fun v4 =>
 vb (xFld 1 v1) fun v5 =>
 vb (xFld 1 v2) fun v6 =>
 vb (xLd v3 h) fun v7 =>
 vb (xLd v4 h) fun v8 =>
 vb (xLd v5 h) fun v9 =>
 vb (xLd v6 h) fun v10 =>
 vb (pcall (F61 n cl v7 v8 (h.fzn))) fun v11 =>
 lchk (xLd v5 h) v9 <|
 lchk (xLd v6 h) v10 <|
 vb (pcall (F61 n cl v9 v10 (h.fzn))) fun v12 =>
 hb (xBS 2 (bsRow Try.prog 23 2 [(0, v11), (1, v12)]) h) fun v13 h =>
 vb (pcall (F60 n cl v13 (h.fzn))) fun v14 =>
 some (v14, h)
noncomputable def D39 (n : Nat) (cl : CL) : CL := fun f xs h => sw f 61 (ucons xs fun b0 xs => ucons xs fun b1 xs => u0 xs (F61 n cl b0 b1 h)) (sw f 60 (ucons xs fun b0 xs => u0 xs (F60 n cl b0 h)) (cl f xs h))
theorem Dk39 {n : Nat} {cl : CL} (hcl : OkCL Try.prog cl) : OkCL Try.prog (D39 n cl) := by
  intro f xs h v h' hx
  rcases sw_ok hx with ⟨rfl, hx⟩ | hx
  · obtain ⟨_, _, rfl, hx⟩ := ucons_ok hx; obtain ⟨_, _, rfl, hx⟩ := ucons_ok hx; obtain ⟨rfl, hx⟩ := u0_ok hx; exact S61 (n := n) (cl := cl) hcl hx
  rcases sw_ok hx with ⟨rfl, hx⟩ | hx
  · obtain ⟨_, _, rfl, hx⟩ := ucons_ok hx; obtain ⟨rfl, hx⟩ := u0_ok hx; exact S60 (n := n) (cl := cl) hcl hx
  exact hcl _ _ _ _ _ hx
theorem E39 (n : Nat) (cl : CL) (a0 a1 : Value) (h : PH) : exF Try.prog n (D39 n cl) ⟨[60, 61], [], [], [(1, [0, 2, 5, 7, 1, 3, 6, 8, 4, 9, 10, 11, 12])], [(1, [4, 6, 8])], []⟩ Try.f39 [a0, a1] h = F39 n cl a0 a1 h := by kernel_rfl
theorem S39 {n : Nat} {cl : CL} (hcl : OkCL Try.prog cl) {a0 a1 : Value} {h h' : PH} {v : Value} (hx : F39 n cl a0 a1 h = some (v, h')) : (enterable Try.prog 39 = true ∧ ACall Try.prog 39 [a0, a1] h.abs (fun u k => u = v ∧ k = h'.abs)) ∧ Inv h h' :=
  exF_ok (Dk39 hcl) hmx Try.func39 (by kernel_rfl) ((E39 n cl a0 a1 h).trans hx)
-- slices.Compact[[]undergrowth/api.Item,undergrowth/api.Item]
noncomputable def F40_0 (n : Nat) (cl : CL) (v38 : Value) (r19 : Kt) (v32 : Value) (v34 : Value) (v36 : Value) (h : PH) : R :=
 vb (xAri Int.add v38 (vN 1)) fun v40 =>
 r19 [v32, v34, v36, v40] h
noncomputable def F40_1 (n : Nat) (cl : CL) (v24 : Value) (v26 : Value) (v20 : Value) (v22 : Value) (k31 : Kt) (h : PH) : R :=
 vb (xIdxS 2 v24 v26) fun v47 =>
 vb (xLdA 2 v47 h) fun v48 =>
 vb (xIdxS 2 v20 v22) fun v49 =>
 hb (xStA 2 v49 v48 h) fun _ h =>
 vb (xAri Int.add v22 (vN 1)) fun v50 =>
 k31 [v20, v50, v24, v26] h
noncomputable def F40_2 (n : Nat) (cl : CL) (r19 : Kt) (y30 : List Value) (h : PH) : R :=
 ucons y30 fun v32 y33 => ucons y33 fun v34 y35 => ucons y35 fun v36 y37 => ucons y37 fun v38 y39 => F40_0 n cl v38 r19 v32 v34 v36 h
noncomputable def F40_3 (n : Nat) (cl : CL) (v24 : Value) (v26 : Value) (v20 : Value) (v22 : Value) (h : PH) (k31 : Kt) : R :=
 vb (xIdxS 2 v24 v26) fun v41 =>
 vb (xAri Int.sub v26 (vN 1)) fun v42 =>
 vb (xIdxS 2 v24 v42) fun v43 =>
 vb (xLdA 2 v41 h) fun v44 =>
 vb (xLdA 2 v43 h) fun v45 =>
 vb (abin Try.prog .neq 48 (Operand.tmp 38) (Operand.tmp 43) v44 v45) fun v46 =>
 bite v46 (F40_1 n cl v24 v26 v20 v22 k31 h) (k31 [v20, v22, v24, v26] h)
noncomputable def F40_4 (n : Nat) (cl : CL) (v24 : Value) (v26 : Value) (r19 : Kt) (v20 : Value) (v22 : Value) (h : PH) : R :=
 vb (xLenS v24) fun v28 =>
 vb (xCmp ilt v26 v28) fun v29 =>
 bite v29 (jn (F40_2 n cl r19) (F40_3 n cl v24 v26 v20 v22 h)) (none)
noncomputable def F40_5 (n : Nat) (cl : CL) (r19 : Kt) (y18 : List Value) (h : PH) : R :=
 ucons y18 fun v20 y21 => ucons y21 fun v22 y23 => ucons y23 fun v24 y25 => ucons y25 fun v26 y27 => F40_4 n cl v24 v26 r19 v20 v22 h
noncomputable def F40_6 (n : Nat) (cl : CL) (v5 : Value) (v7 : Value) (h : PH) : R :=
 vb (acut Try.prog 35 v5 (some v7) none none) fun v17 =>
 lp n (F40_5 n cl) [v5, v7, v17, (vN 1)] h
noncomputable def F40_7 (n : Nat) (cl : CL) (v7 : Value) (r4 : Kt) (v5 : Value) (h : PH) : R :=
 vb (xAri Int.add v7 (vN 1)) fun v51 =>
 r4 [v5, v51] h
noncomputable def F40_8 (n : Nat) (cl : CL) (v5 : Value) (v7 : Value) (r4 : Kt) (h : PH) : R :=
 vb (xIdxS 2 v5 v7) fun v11 =>
 vb (xAri Int.sub v7 (vN 1)) fun v12 =>
 vb (xIdxS 2 v5 v12) fun v13 =>
 vb (xLdA 2 v11 h) fun v14 =>
 vb (xLdA 2 v13 h) fun v15 =>
 vb (abin Try.prog .eql 48 (Operand.tmp 19) (Operand.tmp 24) v14 v15) fun v16 =>
 bite v16 (F40_6 n cl v5 v7 h) (F40_7 n cl v7 r4 v5 h)
noncomputable def F40_9 (n : Nat) (cl : CL) (v5 : Value) (v7 : Value) (r4 : Kt) (h : PH) : R :=
 vb (xLenS v5) fun v9 =>
 vb (xCmp ilt v7 v9) fun v10 =>
 bite v10 (F40_8 n cl v5 v7 r4 h) (some (v5, h))
noncomputable def F40_10 (n : Nat) (cl : CL) (a0 : Value) (h : PH) : R :=
 lp n (fun r4 y3 h => ucons y3 fun v5 y6 => ucons y6 fun v7 y8 => F40_9 n cl v5 v7 r4 h) [a0, (vN 1)] h
noncomputable def F40 (n : Nat) (cl : CL) (a0 : Value) (h : PH) : R :=
 vb (xLenS a0) fun v1 =>
 vb (xCmp ilt v1 (vN 2)) fun v2 =>
 bite v2 (some (a0, h)) (F40_10 n cl a0 h)
theorem E40 (n : Nat) (cl : CL) (a0 : Value) (h : PH) : exF Try.prog n cl ⟨[], [], [(4, [0, 3]), (9, [0, 3, 4, 5]), (10, [0, 3, 4, 5])], [(6, [0, 1, 2, 4, 5, 6, 7, 3, 8, 9]), (11, [0, 1, 2, 4, 5, 6, 7, 3, 8, 9])], [], [14]⟩ Try.f40 [a0] h = F40 n cl a0 h := by kernel_rfl
theorem S40 {n : Nat} {cl : CL} (hcl : OkCL Try.prog cl) {a0 : Value} {h h' : PH} {v : Value} (hx : F40 n cl a0 h = some (v, h')) : (enterable Try.prog 40 = true ∧ ACall Try.prog 40 [a0] h.abs (fun u k => u = v ∧ k = h'.abs)) ∧ Inv h h' :=
  exF_ok hcl hmx Try.func40 (by kernel_rfl) ((E40 n cl a0 h).trans hx)
-- undergrowth/items.rising
noncomputable def F24 (n : Nat) (cl : CL) (a0 : Value) (h : PH) : R :=
 hb (F38 n cl a0 (fnV 39 [] []) h) fun v1 h =>
 hb (F40 n cl a0 h) fun v2 h =>
 some (v2, h)
noncomputable def D24 (n : Nat) (cl : CL) : CL := fun f xs h => sw f 38 (ucons xs fun b0 xs => ucons xs fun b1 xs => u0 xs (F38 n cl b0 b1 h)) (sw f 40 (ucons xs fun b0 xs => u0 xs (F40 n cl b0 h)) (cl f xs h))
theorem Dk24 {n : Nat} {cl : CL} (hcl : OkCL Try.prog cl) : OkCL Try.prog (D24 n cl) := by
  intro f xs h v h' hx
  rcases sw_ok hx with ⟨rfl, hx⟩ | hx
  · obtain ⟨_, _, rfl, hx⟩ := ucons_ok hx; obtain ⟨_, _, rfl, hx⟩ := ucons_ok hx; obtain ⟨rfl, hx⟩ := u0_ok hx; exact S38 (n := n) (cl := cl) hcl hx
  rcases sw_ok hx with ⟨rfl, hx⟩ | hx
  · obtain ⟨_, _, rfl, hx⟩ := ucons_ok hx; obtain ⟨rfl, hx⟩ := u0_ok hx; exact S40 (n := n) (cl := cl) hcl hx
  exact hcl _ _ _ _ _ hx
theorem E24 (n : Nat) (cl : CL) (a0 : Value) (h : PH) : exF Try.prog n (D24 n cl) ⟨[], [], [], [], [], []⟩ Try.f24 [a0] h = F24 n cl a0 h := by kernel_rfl
theorem S24 {n : Nat} {cl : CL} (hcl : OkCL Try.prog cl) {a0 : Value} {h h' : PH} {v : Value} (hx : F24 n cl a0 h = some (v, h')) : (enterable Try.prog 24 = true ∧ ACall Try.prog 24 [a0] h.abs (fun u k => u = v ∧ k = h'.abs)) ∧ Inv h h' :=
  exF_ok (Dk24 hcl) hmx Try.func24 (by kernel_rfl) ((E24 n cl a0 h).trans hx)
-- undergrowth/items.closed
noncomputable def F12_0 (n : Nat) (cl : CL) (v26 : Value) (r7 : Kt) (v20 : Value) (v22 : Value) (v24 : Value) (h : PH) : R :=
 vb (xAri Int.add v26 (vN 1)) fun v28 =>
 r7 [v20, v22, v24, v28] h
noncomputable def F12_1 (n : Nat) (cl : CL) (v85 : Value) (r51 : Kt) (v71 : Value) (v73 : Value) (v75 : Value) (v77 : Value) (v79 : Value) (v81 : Value) (v83 : Value) (h : PH) : R :=
 vb (xAri Int.add v85 (vN 1)) fun v87 =>
 r51 [v71, v73, v75, v77, v79, v81, v83, v87] h
noncomputable def F12_2 (n : Nat) (cl : CL) (v66 : Value) (v54 : Value) (k70 : Kt) (v52 : Value) (v56 : Value) (v58 : Value) (v60 : Value) (v62 : Value) (v64 : Value) (h : PH) : R :=
 vb (abuild Try.prog 48 [(0, v66)]) fun v94 =>
 hb (xBS 1 (bsRow Try.prog 35 1 [(0, v94)]) h) fun v95 h =>
 hb (xApp (appInfo Try.prog #[35, 35]) v54 v95 h) fun v96 h =>
 k70 [v52, v96, v56, v58, v60, v62, v64, v66] h
noncomputable def F12_3 (n : Nat) (cl : CL) (r51 : Kt) (y69 : List Value) (h : PH) : R :=
 ucons y69 fun v71 y72 => ucons y72 fun v73 y74 => ucons y74 fun v75 y76 => ucons y76 fun v77 y78 => ucons y78 fun v79 y80 => ucons y80 fun v81 y82 => ucons y82 fun v83 y84 => ucons y84 fun v85 y86 => F12_1 n cl v85 r51 v71 v73 v75 v77 v79 v81 v83 h
noncomputable def F12_4 (n : Nat) (cl : CL) (v62 : Value) (v66 : Value) (v60 : Value) (v54 : Value) (v52 : Value) (v56 : Value) (v58 : Value) (v64 : Value) (h : PH) (k70 : Kt) : R :=
 vb (xIdxS 3 v62 v66) fun v88 =>
 vb (xLdA 3 v88 h) fun v89 =>
 hb (xAlloc (zcells Try.prog 25) h) fun v90 h =>
 hb (xStA 3 v90 v89 h) fun _ h =>
 vb (xFld 0 v90) fun v91 =>
 vb (xLd v91 h) fun v92 =>
 vb (xCmp ieq v92 v60) fun v93 =>
 bite v93 (F12_2 n cl v66 v54 k70 v52 v56 v58 v60 v62 v64 h) (k70 [v52, v54, v56, v58, v60, v62, v64, v66] h)
noncomputable def F12_5 (n : Nat) (cl : CL) (v66 : Value) (v64 : Value) (r51 : Kt) (v62 : Value) (v60 : Value) (v54 : Value) (v52 : Value) (v56 : Value) (v58 : Value) (k19 : Kt) (h : PH) : R :=
 vb (xCmp ilt v66 v64) fun v68 =>
 bite v68 (jn (F12_3 n cl r51) (F12_4 n cl v62 v66 v60 v54 v52 v56 v58 v64 h)) (k19 [v52, v54, v56, v58] h)
noncomputable def F12_6 (n : Nat) (cl : CL) (k19 : Kt) (r51 : Kt) (y50 : List Value) (h : PH) : R :=
 ucons y50 fun v52 y53 => ucons y53 fun v54 y55 => ucons y55 fun v56 y57 => ucons y57 fun v58 y59 => ucons y59 fun v60 y61 => ucons y61 fun v62 y63 => ucons y63 fun v64 y65 => ucons y65 fun v66 y67 => F12_5 n cl v66 v64 r51 v62 v60 v54 v52 v56 v58 k19 h
noncomputable def F12_7 (n : Nat) (cl : CL) (v12 : Value) (v33 : Value) (v8 : Value) (k19 : Kt) (v10 : Value) (v14 : Value) (h : PH) : R :=
 vb (xIdxS 1 v12 v33) fun v46 =>
 hb (xSt1 v46 tt h) fun _ h =>
 vb (xFld 3 v8) fun v47 =>
 vb (xLd v47 h) fun v48 =>
 vb (xLenS v48) fun v49 =>
 lp n (F12_6 n cl k19) [v8, v10, v12, v14, v33, v48, v49, (vN 0)] h
noncomputable def F12_8 (n : Nat) (cl : CL) (r7 : Kt) (y18 : List Value) (h : PH) : R :=
 ucons y18 fun v20 y21 => ucons y21 fun v22 y23 => ucons y23 fun v24 y25 => ucons y25 fun v26 y27 => F12_0 n cl v26 r7 v20 v22 v24 h
noncomputable def F12_9 (n : Nat) (cl : CL) (v10 : Value) (v14 : Value) (v8 : Value) (v12 : Value) (h : PH) (k19 : Kt) : R :=
 vb (xIdxS 2 v10 v14) fun v29 =>
 vb (xLdA 7 v8 h) fun v30 =>
 vb (xLdA 2 v29 h) fun v31 =>
 vb (pcall (F22 n cl v30 v31 (h.fzn))) fun v32 =>
 vb (xExt 0 v32) fun v33 =>
 vb (xExt 1 v32) fun v34 =>
 vb (xNot v34) fun v35 =>
 vb (gd (isB false v35) (xLdA 7 v8 h)) fun v36 =>
 vb (gd (isB false v35) (some v33)) fun v37 =>
 vb (gd (isB false v35) (pcall (F25 n cl v36 v37 (h.fzn)))) fun v38 =>
 vb (gd (isB false v35) (xNot v38)) fun v39 =>
 vb (xPick v35 tt v39) fun v40 =>
 vb (gd (isB false v40) (some v12)) fun v41 =>
 vb (gd (isB false v40) (some v33)) fun v42 =>
 vb (gd (isB false v40) (xIdxS 1 v41 v42)) fun v43 =>
 vb (gd (isB false v40) (xLd v43 h)) fun v44 =>
 vb (xPick v40 tt v44) fun v45 =>
 bite v45 (k19 [v8, v10, v12, v14] h) (F12_7 n cl v12 v33 v8 k19 v10 v14 h)
noncomputable def F12_10 (n : Nat) (cl : CL) (v10 : Value) (h : PH) : R :=
 hb (F24 n cl v10 h) fun v97 h =>
 some (v97, h)
noncomputable def F12_11 (n : Nat) (cl : CL) (v10 : Value) (v14 : Value) (r7 : Kt) (v8 : Value) (v12 : Value) (h : PH) : R :=
 vb (xLenS v10) fun v16 =>
 vb (xCmp ilt v14 v16) fun v17 =>
 bite v17 (jn (F12_8 n cl r7) (F12_9 n cl v10 v14 v8 v12 h)) (F12_10 n cl v10 h)
noncomputable def F12_12 (n : Nat) (cl : CL) (r7 : Kt) (y6 : List Value) (h : PH) : R :=
 ucons y6 fun v8 y9 => ucons y9 fun v10 y11 => ucons y11 fun v12 y13 => ucons y13 fun v14 y15 => F12_11 n cl v10 v14 r7 v8 v12 h
noncomputable def F12 (n : Nat) (cl : CL) (a0 a1 : Value) (h : PH) : R :=
 hb (xBox a0 h) fun v1 h =>
 hb (fcall h (F14 n cl a1 (h.fzn))) fun v2 h =>
 vb (xFld 0 v1) fun v3 =>
 vb (xLd v3 h) fun v4 =>
 hb (xMk (zinfo Try.prog 55) v4 v4 h) fun v5 h =>
 lp n (F12_12 n cl) [v1, v2, v5, (vN 0)] h
noncomputable def D12 (n : Nat) (cl : CL) : CL := fun f xs h => sw f 14 (ucons xs fun b0 xs => u0 xs (F14 n cl b0 h)) (sw f 22 (ucons xs fun b0 xs => ucons xs fun b1 xs => u0 xs (F22 n cl b0 b1 h)) (sw f 25 (ucons xs fun b0 xs => ucons xs fun b1 xs => u0 xs (F25 n cl b0 b1 h)) (sw f 24 (ucons xs fun b0 xs => u0 xs (F24 n cl b0 h)) (cl f xs h))))
theorem Dk12 {n : Nat} {cl : CL} (hcl : OkCL Try.prog cl) : OkCL Try.prog (D12 n cl) := by
  intro f xs h v h' hx
  rcases sw_ok hx with ⟨rfl, hx⟩ | hx
  · obtain ⟨_, _, rfl, hx⟩ := ucons_ok hx; obtain ⟨rfl, hx⟩ := u0_ok hx; exact S14 (n := n) (cl := cl) hcl hx
  rcases sw_ok hx with ⟨rfl, hx⟩ | hx
  · obtain ⟨_, _, rfl, hx⟩ := ucons_ok hx; obtain ⟨_, _, rfl, hx⟩ := ucons_ok hx; obtain ⟨rfl, hx⟩ := u0_ok hx; exact S22 (n := n) (cl := cl) hcl hx
  rcases sw_ok hx with ⟨rfl, hx⟩ | hx
  · obtain ⟨_, _, rfl, hx⟩ := ucons_ok hx; obtain ⟨_, _, rfl, hx⟩ := ucons_ok hx; obtain ⟨rfl, hx⟩ := u0_ok hx; exact S25 (n := n) (cl := cl) hcl hx
  rcases sw_ok hx with ⟨rfl, hx⟩ | hx
  · obtain ⟨_, _, rfl, hx⟩ := ucons_ok hx; obtain ⟨rfl, hx⟩ := u0_ok hx; exact S24 (n := n) (cl := cl) hcl hx
  exact hcl _ _ _ _ _ hx
theorem E12 (n : Nat) (cl : CL) (a0 a1 : Value) (h : PH) : exF Try.prog n (D12 n cl) ⟨[22, 25], [14], [(4, [2, 5, 6, 7]), (5, [2, 5, 6, 7]), (10, [2, 5, 6, 7, 8, 50, 51, 52]), (14, [2, 5, 6, 7, 8, 50, 51, 52])], [(6, [1, 2, 3, 0, 4, 5, 6, 7, 8, 9, 10])], [], []⟩ Try.f12 [a0, a1] h = F12 n cl a0 a1 h := by kernel_rfl
theorem S12 {n : Nat} {cl : CL} (hcl : OkCL Try.prog cl) {a0 a1 : Value} {h h' : PH} {v : Value} (hx : F12 n cl a0 a1 h = some (v, h')) : (enterable Try.prog 12 = true ∧ ACall Try.prog 12 [a0, a1] h.abs (fun u k => u = v ∧ k = h'.abs)) ∧ Inv h h' :=
  exF_ok (Dk12 hcl) hmx Try.func12 (by kernel_rfl) ((E12 n cl a0 a1 h).trans hx)
-- cmp.Less[int]
noncomputable def F54 (n : Nat) (cl : CL) (a0 a1 : Value) (h : PH) : R :=
 vb (pcall (F71 n cl a0 (h.fzn))) fun v1 =>
 vb (gd (isB true v1) (some a1)) fun v2 =>
 vb (gd (isB true v1) (pcall (F71 n cl v2 (h.fzn)))) fun v3 =>
 vb (gd (isB true v1) (xNot v3)) fun v4 =>
 vb (xPick v1 v4 ff) fun v5 =>
 vb (gd (isB false v5) (some a0)) fun v6 =>
 vb (gd (isB false v5) (some a1)) fun v7 =>
 vb (gd (isB false v5) (xCmp ilt v6 v7)) fun v8 =>
 vb (xPick v5 tt v8) fun v9 =>
 some (v9, h)
noncomputable def D54 (n : Nat) (cl : CL) : CL := fun f xs h => sw f 71 (ucons xs fun b0 xs => u0 xs (F71 n cl b0 h)) (cl f xs h)
theorem Dk54 {n : Nat} {cl : CL} (hcl : OkCL Try.prog cl) : OkCL Try.prog (D54 n cl) := by
  intro f xs h v h' hx
  rcases sw_ok hx with ⟨rfl, hx⟩ | hx
  · obtain ⟨_, _, rfl, hx⟩ := ucons_ok hx; obtain ⟨rfl, hx⟩ := u0_ok hx; exact S71 (n := n) (cl := cl) hcl hx
  exact hcl _ _ _ _ _ hx
theorem E54 (n : Nat) (cl : CL) (a0 a1 : Value) (h : PH) : exF Try.prog n (D54 n cl) ⟨[71], [], [], [], [], []⟩ Try.f54 [a0, a1] h = F54 n cl a0 a1 h := by kernel_rfl
theorem S54 {n : Nat} {cl : CL} (hcl : OkCL Try.prog cl) {a0 a1 : Value} {h h' : PH} {v : Value} (hx : F54 n cl a0 a1 h = some (v, h')) : (enterable Try.prog 54 = true ∧ ACall Try.prog 54 [a0, a1] h.abs (fun u k => u = v ∧ k = h'.abs)) ∧ Inv h h' :=
  exF_ok (Dk54 hcl) hmx Try.func54 (by kernel_rfl) ((E54 n cl a0 a1 h).trans hx)
-- slices.insertionSortOrdered[int]
noncomputable def F48_0 (n : Nat) (cl : CL) (v23 : Value) (v15 : Value) (r14 : Kt) (v17 : Value) (v19 : Value) (v21 : Value) (h : PH) : R :=
 vb (xAri Int.sub v23 (vN 1)) fun v37 =>
 vb (xAri Int.sub v23 (vN 1)) fun v38 =>
 vb (xIdxS 1 v15 v38) fun v39 =>
 vb (xIdxS 1 v15 v23) fun v40 =>
 vb (xLd v39 h) fun v41 =>
 vb (xLd v40 h) fun v42 =>
 vb (xIdxS 1 v15 v23) fun v43 =>
 hb (xSt1 v43 v41 h) fun _ h =>
 vb (xIdxS 1 v15 v37) fun v44 =>
 hb (xSt1 v44 v42 h) fun _ h =>
 vb (xAri Int.sub v23 (vN 1)) fun v45 =>
 r14 [v15, v17, v19, v21, v45] h
noncomputable def F48_1 (n : Nat) (cl : CL) (v21 : Value) (r3 : Kt) (v15 : Value) (v17 : Value) (v19 : Value) (h : PH) : R :=
 vb (xAri Int.add v21 (vN 1)) fun v46 =>
 r3 [v15, v17, v19, v46] h
noncomputable def F48_2 (n : Nat) (cl : CL) (v23 : Value) (v17 : Value) (v15 : Value) (r14 : Kt) (v19 : Value) (v21 : Value) (r3 : Kt) (h : PH) : R :=
 vb (xCmp (fun x y => ilt y x) v23 v17) fun v25 =>
 vb (gd (isB true v25) (some v15)) fun v26 =>
 vb (gd (isB true v25) (some v23)) fun v27 =>
 vb (gd (isB true v25) (xIdxS 1 v26 v27)) fun v28 =>
 vb (gd (isB true v25) (some v15)) fun v29 =>
 vb (gd (isB true v25) (some v23)) fun v30 =>
 vb (gd (isB true v25) (xAri Int.sub v30 (vN 1))) fun v31 =>
 vb (gd (isB true v25) (xIdxS 1 v29 v31)) fun v32 =>
 vb (gd (isB true v25) (xLd v28 h)) fun v33 =>
 vb (gd (isB true v25) (xLd v32 h)) fun v34 =>
 vb (gd (isB true v25) (pcall (F54 n cl v33 v34 (h.fzn)))) fun v35 =>
 vb (xPick v25 v35 ff) fun v36 =>
 bite v36 (F48_0 n cl v23 v15 r14 v17 v19 v21 h) (F48_1 n cl v21 r3 v15 v17 v19 h)
noncomputable def F48_3 (n : Nat) (cl : CL) (r3 : Kt) (r14 : Kt) (y13 : List Value) (h : PH) : R :=
 ucons y13 fun v15 y16 => ucons y16 fun v17 y18 => ucons y18 fun v19 y20 => ucons y20 fun v21 y22 => ucons y22 fun v23 y24 => F48_2 n cl v23 v17 v15 r14 v19 v21 r3 h
noncomputable def F48_4 (n : Nat) (cl : CL) (v10 : Value) (v8 : Value) (r3 : Kt) (v4 : Value) (v6 : Value) (h : PH) : R :=
 vb (xCmp ilt v10 v8) fun v12 =>
 bite v12 (lp n (F48_3 n cl r3) [v4, v6, v8, v10, v10] h) (some (Value.tuple ⟨[]⟩, h))
noncomputable def F48_5 (n : Nat) (cl : CL) (r3 : Kt) (y2 : List Value) (h : PH) : R :=
 ucons y2 fun v4 y5 => ucons y5 fun v6 y7 => ucons y7 fun v8 y9 => ucons y9 fun v10 y11 => F48_4 n cl v10 v8 r3 v4 v6 h
noncomputable def F48 (n : Nat) (cl : CL) (a0 a1 a2 : Value) (h : PH) : R :=
 vb (xAri Int.add a1 (vN 1)) fun v1 =>
 lp n (F48_5 n cl) [a0, a1, a2, v1] h
noncomputable def D48 (n : Nat) (cl : CL) : CL := fun f xs h => sw f 54 (ucons xs fun b0 xs => ucons xs fun b1 xs => u0 xs (F54 n cl b0 b1 h)) (cl f xs h)
theorem Dk48 {n : Nat} {cl : CL} (hcl : OkCL Try.prog cl) : OkCL Try.prog (D48 n cl) := by
  intro f xs h v h' hx
  rcases sw_ok hx with ⟨rfl, hx⟩ | hx
  · obtain ⟨_, _, rfl, hx⟩ := ucons_ok hx; obtain ⟨_, _, rfl, hx⟩ := ucons_ok hx; obtain ⟨rfl, hx⟩ := u0_ok hx; exact S54 (n := n) (cl := cl) hcl hx
  exact hcl _ _ _ _ _ hx
theorem E48 (n : Nat) (cl : CL) (a0 a1 a2 : Value) (h : PH) : exF Try.prog n (D48 n cl) ⟨[54], [], [(1, [0, 1, 2, 6]), (4, [0, 1, 2, 6, 7])], [(4, [0, 1, 2, 3, 4, 5, 6, 8, 9, 10, 11, 7, 12, 13, 14]), (6, [0, 1, 2, 3, 4, 5, 6, 7, 8, 10, 11, 12, 9, 13, 14, 15, 16, 17])], [], []⟩ Try.f48 [a0, a1, a2] h = F48 n cl a0 a1 a2 h := by kernel_rfl
theorem S48 {n : Nat} {cl : CL} (hcl : OkCL Try.prog cl) {a0 a1 a2 : Value} {h h' : PH} {v : Value} (hx : F48 n cl a0 a1 a2 h = some (v, h')) : (enterable Try.prog 48 = true ∧ ACall Try.prog 48 [a0, a1, a2] h.abs (fun u k => u = v ∧ k = h'.abs)) ∧ Inv h h' :=
  exF_ok (Dk48 hcl) hmx Try.func48 (by kernel_rfl) ((E48 n cl a0 a1 a2 h).trans hx)
-- slices.siftDownOrdered[int]
noncomputable def F66_0 (n : Nat) (cl : CL) (v20 : Value) (v22 : Value) (v24 : Value) (v16 : Value) (r2 : Kt) (v18 : Value) (h : PH) : R :=
 vb (xAri Int.add v20 v22) fun v34 =>
 vb (xAri Int.add v20 v24) fun v35 =>
 vb (xAri Int.add v20 v24) fun v36 =>
 vb (xIdxS 1 v16 v36) fun v37 =>
 vb (xAri Int.add v20 v22) fun v38 =>
 vb (xIdxS 1 v16 v38) fun v39 =>
 vb (xLd v37 h) fun v40 =>
 vb (xLd v39 h) fun v41 =>
 vb (xIdxS 1 v16 v34) fun v42 =>
 hb (xSt1 v42 v40 h) fun _ h =>
 vb (xIdxS 1 v16 v35) fun v43 =>
 hb (xSt1 v43 v41 h) fun _ h =>
 r2 [v16, v18, v20, v24] h
noncomputable def F66_1 (n : Nat) (cl : CL) (v20 : Value) (v22 : Value) (v16 : Value) (v24 : Value) (r2 : Kt) (v18 : Value) (h : PH) : R :=
 vb (xAri Int.add v20 v22) fun v26 =>
 vb (xIdxS 1 v16 v26) fun v27 =>
 vb (xAri Int.add v20 v24) fun v28 =>
 vb (xIdxS 1 v16 v28) fun v29 =>
 vb (xLd v27 h) fun v30 =>
 vb (xLd v29 h) fun v31 =>
 vb (pcall (F54 n cl v30 v31 (h.fzn))) fun v32 =>
 vb (xNot v32) fun v33 =>
 bite v33 (some (Value.tuple ⟨[]⟩, h)) (F66_0 n cl v20 v22 v24 v16 r2 v18 h)
noncomputable def F66_2 (n : Nat) (cl : CL) (v12 : Value) (k15 : Kt) (v3 : Value) (v5 : Value) (v7 : Value) (v9 : Value) (h : PH) : R :=
 vb (xAri Int.add v12 (vN 1)) fun v61 =>
 k15 [v3, v5, v7, v9, v61] h
noncomputable def F66_3 (n : Nat) (cl : CL) (r2 : Kt) (y14 : List Value) (h : PH) : R :=
 ucons y14 fun v16 y17 => ucons y17 fun v18 y19 => ucons y19 fun v20 y21 => ucons y21 fun v22 y23 => ucons y23 fun v24 y25 => F66_1 n cl v20 v22 v16 v24 r2 v18 h
noncomputable def F66_4 (n : Nat) (cl : CL) (v12 : Value) (v5 : Value) (v3 : Value) (v7 : Value) (v9 : Value) (h : PH) (k15 : Kt) : R :=
 vb (xAri Int.add v12 (vN 1)) fun v44 =>
 vb (xCmp ilt v44 v5) fun v45 =>
 vb (gd (isB true v45) (some v3)) fun v46 =>
 vb (gd (isB true v45) (some v7)) fun v47 =>
 vb (gd (isB true v45) (some v12)) fun v48 =>
 vb (gd (isB true v45) (xAri Int.add v47 v48)) fun v49 =>
 vb (gd (isB true v45) (xIdxS 1 v46 v49)) fun v50 =>
 vb (gd (isB true v45) (some v3)) fun v51 =>
 vb (gd (isB true v45) (some v7)) fun v52 =>
 vb (gd (isB true v45) (some v12)) fun v53 =>
 vb (gd (isB true v45) (xAri Int.add v52 v53)) fun v54 =>
 vb (gd (isB true v45) (xAri Int.add v54 (vN 1))) fun v55 =>
 vb (gd (isB true v45) (xIdxS 1 v51 v55)) fun v56 =>
 vb (gd (isB true v45) (xLd v50 h)) fun v57 =>
 vb (gd (isB true v45) (xLd v56 h)) fun v58 =>
 vb (gd (isB true v45) (pcall (F54 n cl v57 v58 (h.fzn)))) fun v59 =>
 vb (xPick v45 v59 ff) fun v60 =>
 bite v60 (F66_2 n cl v12 k15 v3 v5 v7 v9 h) (k15 [v3, v5, v7, v9, v12] h)
noncomputable def F66_5 (n : Nat) (cl : CL) (v9 : Value) (v5 : Value) (r2 : Kt) (v3 : Value) (v7 : Value) (h : PH) : R :=
 vb (xAri Int.mul (vN 2) v9) fun v11 =>
 vb (xAri Int.add v11 (vN 1)) fun v12 =>
 vb (xCmp (fun x y => ile y x) v12 v5) fun v13 =>
 bite v13 (some (Value.tuple ⟨[]⟩, h)) (jn (F66_3 n cl r2) (F66_4 n cl v12 v5 v3 v7 v9 h))
noncomputable def F66_6 (n : Nat) (cl : CL) (r2 : Kt) (y1 : List Value) (h : PH) : R :=
 ucons y1 fun v3 y4 => ucons y4 fun v5 y6 => ucons y6 fun v7 y8 => ucons y8 fun v9 y10 => F66_5 n cl v9 v5 r2 v3 v7 h
noncomputable def F66 (n : Nat) (cl : CL) (a0 a1 a2 a3 : Value) (h : PH) : R :=
 lp n (F66_6 n cl) [a0, a2, a3, a1] h
noncomputable def D66 (n : Nat) (cl : CL) : CL := fun f xs h => sw f 54 (ucons xs fun b0 xs => ucons xs fun b1 xs => u0 xs (F54 n cl b0 b1 h)) (cl f xs h)
theorem Dk66 {n : Nat} {cl : CL} (hcl : OkCL Try.prog cl) : OkCL Try.prog (D66 n cl) := by
  intro f xs h v h' hx
  rcases sw_ok hx with ⟨rfl, hx⟩ | hx
  · obtain ⟨_, _, rfl, hx⟩ := ucons_ok hx; obtain ⟨_, _, rfl, hx⟩ := ucons_ok hx; obtain ⟨rfl, hx⟩ := u0_ok hx; exact S54 (n := n) (cl := cl) hcl hx
  exact hcl _ _ _ _ _ hx
theorem E66 (n : Nat) (cl : CL) (a0 a1 a2 a3 : Value) (h : PH) : exF Try.prog n (D66 n cl) ⟨[54], [], [(1, [0, 2, 3, 8]), (5, [0, 2, 3, 8, 9])], [(3, [0, 1, 2, 3, 4, 5, 6, 7, 8, 9, 11, 12, 13, 14, 15, 16, 10, 17, 18, 19]), (5, [0, 1, 2, 3, 4, 6, 7, 8, 9, 10, 5, 11, 12, 13]), (6, [0, 1, 2, 3, 4, 5, 6, 7, 8, 9, 10, 11, 12, 14, 15, 16, 17, 18, 13, 19, 20, 21, 22, 23])], [], []⟩ Try.f66 [a0, a1, a2, a3] h = F66 n cl a0 a1 a2 a3 h := by kernel_rfl
theorem S66 {n : Nat} {cl : CL} (hcl : OkCL Try.prog cl) {a0 a1 a2 a3 : Value} {h h' : PH} {v : Value} (hx : F66 n cl a0 a1 a2 a3 h = some (v, h')) : (enterable Try.prog 66 = true ∧ ACall Try.prog 66 [a0, a1, a2, a3] h.abs (fun u k => u = v ∧ k = h'.abs)) ∧ Inv h h' :=
  exF_ok (Dk66 hcl) hmx Try.func66 (by kernel_rfl) ((E66 n cl a0 a1 a2 a3 h).trans hx)
-- slices.heapSortOrdered[int]
noncomputable def F49_0 (n : Nat) (cl : CL) (v6 : Value) (v14 : Value) (v12 : Value) (v8 : Value) (r5 : Kt) (v10 : Value) (h : PH) : R :=
 hb (F66 n cl v6 v14 v12 v8 h) fun v17 h =>
 vb (xAri Int.sub v14 (vN 1)) fun v18 =>
 r5 [v6, v8, v10, v12, v18] h
noncomputable def F49_1 (n : Nat) (cl : CL) (v24 : Value) (v28 : Value) (v22 : Value) (v26 : Value) (r21 : Kt) (h : PH) : R :=
 vb (xAri Int.add v24 v28) fun v31 =>
 vb (xAri Int.add v24 v28) fun v32 =>
 vb (xIdxS 1 v22 v32) fun v33 =>
 vb (xIdxS 1 v22 v24) fun v34 =>
 vb (xLd v33 h) fun v35 =>
 vb (xLd v34 h) fun v36 =>
 vb (xIdxS 1 v22 v24) fun v37 =>
 hb (xSt1 v37 v35 h) fun _ h =>
 vb (xIdxS 1 v22 v31) fun v38 =>
 hb (xSt1 v38 v36 h) fun _ h =>
 hb (F66 n cl v22 v26 v28 v24 h) fun v39 h =>
 vb (xAri Int.sub v28 (vN 1)) fun v40 =>
 r21 [v22, v24, v26, v40] h
noncomputable def F49_2 (n : Nat) (cl : CL) (v28 : Value) (v24 : Value) (v22 : Value) (v26 : Value) (r21 : Kt) (h : PH) : R :=
 vb (xCmp (fun x y => ile y x) v28 (vN 0)) fun v30 =>
 bite v30 (F49_1 n cl v24 v28 v22 v26 r21 h) (some (Value.tuple ⟨[]⟩, h))
noncomputable def F49_3 (n : Nat) (cl : CL) (r21 : Kt) (y20 : List Value) (h : PH) : R :=
 ucons y20 fun v22 y23 => ucons y23 fun v24 y25 => ucons y25 fun v26 y27 => ucons y27 fun v28 y29 => F49_2 n cl v28 v24 v22 v26 r21 h
noncomputable def F49_4 (n : Nat) (cl : CL) (v12 : Value) (v6 : Value) (v8 : Value) (v10 : Value) (h : PH) : R :=
 vb (xAri Int.sub v12 (vN 1)) fun v19 =>
 lp n (F49_3 n cl) [v6, v8, v10, v19] h
noncomputable def F49_5 (n : Nat) (cl : CL) (v14 : Value) (v6 : Value) (v12 : Value) (v8 : Value) (r5 : Kt) (v10 : Value) (h : PH) : R :=
 vb (xCmp (fun x y => ile y x) v14 (vN 0)) fun v16 =>
 bite v16 (F49_0 n cl v6 v14 v12 v8 r5 v10 h) (F49_4 n cl v12 v6 v8 v10 h)
noncomputable def F49_6 (n : Nat) (cl : CL) (r5 : Kt) (y4 : List Value) (h : PH) : R :=
 ucons y4 fun v6 y7 => ucons y7 fun v8 y9 => ucons y9 fun v10 y11 => ucons y11 fun v12 y13 => ucons y13 fun v14 y15 => F49_5 n cl v14 v6 v12 v8 r5 v10 h
noncomputable def F49 (n : Nat) (cl : CL) (a0 a1 a2 : Value) (h : PH) : R :=
 vb (xAri Int.sub a2 a1) fun v1 =>
 vb (xAri Int.sub v1 (vN 1)) fun v2 =>
 vb (abin Try.prog .quo 3 (Operand.tmp 16) (Operand.const (Value.int IntKind.i64 2)) v2 (vN 2)) fun v3 =>
 lp n (F49_6 n cl) [a0, a1, (vN 0), v1, v3] h
noncomputable def D49 (n : Nat) (cl : CL) : CL := fun f xs h => sw f 66 (ucons xs fun b0 xs => ucons xs fun b1 xs => ucons xs fun b2 xs => ucons xs fun b3 xs => u0 xs (F66 n cl b0 b1 b2 b3 h)) (cl f xs h)
theorem Dk49 {n : Nat} {cl : CL} (hcl : OkCL Try.prog cl) : OkCL Try.prog (D49 n cl) := by
  intro f xs h v h' hx
  rcases sw_ok hx with ⟨rfl, hx⟩ | hx
  · obtain ⟨_, _, rfl, hx⟩ := ucons_ok hx; obtain ⟨_, _, rfl, hx⟩ := ucons_ok hx; obtain ⟨_, _, rfl, hx⟩ := ucons_ok hx; obtain ⟨_, _, rfl, hx⟩ := ucons_ok hx; obtain ⟨rfl, hx⟩ := u0_ok hx; exact S66 (n := n) (cl := cl) hcl hx
  exact hcl _ _ _ _ _ hx
theorem E49 (n : Nat) (cl : CL) (a0 a1 a2 : Value) (h : PH) : exF Try.prog n (D49 n cl) ⟨[], [], [(4, [0, 6, 7, 8, 9]), (8, [0, 6, 7, 10])], [(10, [0, 1, 2, 3, 4, 5, 6, 7, 8, 9, 10, 12, 13, 14, 11, 15, 16, 17, 18, 19])], [], []⟩ Try.f49 [a0, a1, a2] h = F49 n cl a0 a1 a2 h := by kernel_rfl
theorem S49 {n : Nat} {cl : CL} (hcl : OkCL Try.prog cl) {a0 a1 a2 : Value} {h h' : PH} {v : Value} (hx : F49 n cl a0 a1 a2 h = some (v, h')) : (enterable Try.prog 49 = true ∧ ACall Try.prog 49 [a0, a1, a2] h.abs (fun u k => u = v ∧ k = h'.abs)) ∧ Inv h h' :=
  exF_ok (Dk49 hcl) hmx Try.func49 (by kernel_rfl) ((E49 n cl a0 a1 a2 h).trans hx)
-- slices.breakPatternsOrdered[int]
noncomputable def F50_0 (n : Nat) (cl : CL) (v37 : Value) (v47 : Value) (v35 : Value) (v45 : Value) (r11 : Kt) (v39 : Value) (v41 : Value) (v43 : Value) (h : PH) : R :=
 vb (xAri Int.add v37 v47) fun v49 =>
 vb (xAri Int.add v37 v47) fun v50 =>
 vb (xIdxS 1 v35 v50) fun v51 =>
 vb (xIdxS 1 v35 v45) fun v52 =>
 vb (xLd v51 h) fun v53 =>
 vb (xLd v52 h) fun v54 =>
 vb (xIdxS 1 v35 v45) fun v55 =>
 hb (xSt1 v55 v53 h) fun _ h =>
 vb (xIdxS 1 v35 v49) fun v56 =>
 hb (xSt1 v56 v54 h) fun _ h =>
 vb (xAri Int.add v45 (vN 1)) fun v57 =>
 r11 [v35, v37, v39, v41, v43, v57] h
noncomputable def F50_1 (n : Nat) (cl : CL) (v32 : Value) (v16 : Value) (k34 : Kt) (v12 : Value) (v14 : Value) (v18 : Value) (v20 : Value) (v22 : Value) (h : PH) : R :=
 vb (xAri Int.sub v32 v16) fun v59 =>
 k34 [v12, v14, v16, v18, v20, v22, v59] h
noncomputable def F50_2 (n : Nat) (cl : CL) (r11 : Kt) (y33 : List Value) (h : PH) : R :=
 ucons y33 fun v35 y36 => ucons y36 fun v37 y38 => ucons y38 fun v39 y40 => ucons y40 fun v41 y42 => ucons y42 fun v43 y44 => ucons y44 fun v45 y46 => ucons y46 fun v47 y48 => F50_0 n cl v37 v47 v35 v45 r11 v39 v41 v43 h
noncomputable def F50_3 (n : Nat) (cl : CL) (v32 : Value) (v16 : Value) (v12 : Value) (v14 : Value) (v18 : Value) (v20 : Value) (v22 : Value) (h : PH) (k34 : Kt) : R :=
 vb (xCmp (fun x y => ile y x) v32 v16) fun v58 =>
 bite v58 (F50_1 n cl v32 v16 k34 v12 v14 v18 v20 v22 h) (k34 [v12, v14, v16, v18, v20, v22, v32] h)
noncomputable def F50_4 (n : Nat) (cl : CL) (v18 : Value) (v20 : Value) (r11 : Kt) (v16 : Value) (v12 : Value) (v14 : Value) (v22 : Value) (h : PH) : R :=
 hb (F68 n cl v18 h) fun v29 h =>
 vb (xAri Int.sub v20 (Value.int .u64 (.ofNat 1))) fun v30 =>
 vb (abin Try.prog .and 77 (Operand.tmp 36) (Operand.tmp 38) v29 v30) fun v31 =>
 vb (xConv Try.prog 77 3 v31) fun v32 =>
 jn (F50_2 n cl r11) (F50_3 n cl v32 v16 v12 v14 v18 v20 v22 h)
noncomputable def F50_5 (n : Nat) (cl : CL) (v16 : Value) (v14 : Value) (v22 : Value) (v18 : Value) (v20 : Value) (r11 : Kt) (v12 : Value) (h : PH) : R :=
 vb (abin Try.prog .quo 3 (Operand.tmp 28) (Operand.const (Value.int IntKind.i64 4)) v16 (vN 4)) fun v24 =>
 vb (xAri Int.mul v24 (vN 2)) fun v25 =>
 vb (xAri Int.add v14 v25) fun v26 =>
 vb (xAri Int.add v26 (vN 1)) fun v27 =>
 vb (xCmp ile v22 v27) fun v28 =>
 bite v28 (F50_4 n cl v18 v20 r11 v16 v12 v14 v22 h) (some (Value.tuple ⟨[]⟩, h))
noncomputable def F50_6 (n : Nat) (cl : CL) (r11 : Kt) (y10 : List Value) (h : PH) : R :=
 ucons y10 fun v12 y13 => ucons y13 fun v14 y15 => ucons y15 fun v16 y17 => ucons y17 fun v18 y19 => ucons y19 fun v20 y21 => ucons y21 fun v22 y23 => F50_5 n cl v16 v14 v22 v18 v20 r11 v12 h
noncomputable def F50_7 (n : Nat) (cl : CL) (v1 : Value) (a1 : Value) (a0 : Value) (h : PH) : R :=
 vb (xConv Try.prog 3 102 v1) fun v3 =>
 hb (xAlloc (zcells Try.prog 102) h) fun v4 h =>
 hb (xSt1 v4 v3 h) fun _ h =>
 vb (pcall (F67 n cl v1 (h.fzn))) fun v5 =>
 vb (abin Try.prog .quo 3 (Operand.tmp 21) (Operand.const (Value.int IntKind.i64 4)) v1 (vN 4)) fun v6 =>
 vb (xAri Int.mul v6 (vN 2)) fun v7 =>
 vb (xAri Int.add a1 v7) fun v8 =>
 vb (xAri Int.sub v8 (vN 1)) fun v9 =>
 lp n (F50_6 n cl) [a0, a1, v1, v4, v5, v9] h
noncomputable def F50 (n : Nat) (cl : CL) (a0 a1 a2 : Value) (h : PH) : R :=
 vb (xAri Int.sub a2 a1) fun v1 =>
 vb (xCmp (fun x y => ile y x) v1 (vN 8)) fun v2 =>
 bite v2 (F50_7 n cl v1 a1 a0 h) (some (Value.tuple ⟨[]⟩, h))
noncomputable def D50 (n : Nat) (cl : CL) : CL := fun f xs h => sw f 67 (ucons xs fun b0 xs => u0 xs (F67 n cl b0 h)) (sw f 68 (ucons xs fun b0 xs => u0 xs (F68 n cl b0 h)) (cl f xs h))
theorem Dk50 {n : Nat} {cl : CL} (hcl : OkCL Try.prog cl) : OkCL Try.prog (D50 n cl) := by
  intro f xs h v h' hx
  rcases sw_ok hx with ⟨rfl, hx⟩ | hx
  · obtain ⟨_, _, rfl, hx⟩ := ucons_ok hx; obtain ⟨rfl, hx⟩ := u0_ok hx; exact S67 (n := n) (cl := cl) hcl hx
  rcases sw_ok hx with ⟨rfl, hx⟩ | hx
  · obtain ⟨_, _, rfl, hx⟩ := ucons_ok hx; obtain ⟨rfl, hx⟩ := u0_ok hx; exact S68 (n := n) (cl := cl) hcl hx
  exact hcl _ _ _ _ _ hx
theorem E50 (n : Nat) (cl : CL) (a0 a1 a2 : Value) (h : PH) : exF Try.prog n (D50 n cl) ⟨[67], [], [(5, [0, 1, 6, 7, 8, 9]), (10, [0, 1, 6, 7, 8, 9, 10])], [(10, [0, 1, 2, 3, 4, 5, 6, 7, 8, 9, 10, 12, 13, 14, 11, 15, 16, 17, 18, 19])], [], []⟩ Try.f50 [a0, a1, a2] h = F50 n cl a0 a1 a2 h := by kernel_rfl
theorem S50 {n : Nat} {cl : CL} (hcl : OkCL Try.prog cl) {a0 a1 a2 : Value} {h h' : PH} {v : Value} (hx : F50 n cl a0 a1 a2 h = some (v, h')) : (enterable Try.prog 50 = true ∧ ACall Try.prog 50 [a0, a1, a2] h.abs (fun u k => u = v ∧ k = h'.abs)) ∧ Inv h h' :=
  exF_ok (Dk50 hcl) hmx Try.func50 (by kernel_rfl) ((E50 n cl a0 a1 a2 h).trans hx)
-- slices.order2Ordered[int]
noncomputable def F80_0 (n : Nat) (cl : CL) (a3 : Value) (a2 : Value) (a1 : Value) (h : PH) : R :=
 vb (xNil a3) fun v6 =>
 vb (xLd v6 h) fun v7 =>
 vb (xAri Int.add v7 (vN 1)) fun v8 =>
 vb (xNil a3) fun v9 =>
 hb (xSt1 v9 v8 h) fun _ h =>
 some (Value.tuple ⟨[a2, a1]⟩, h)
noncomputable def F80 (n : Nat) (cl : CL) (a0 a1 a2 a3 : Value) (h : PH) : R :=
 vb (xIdxS 1 a0 a2) fun v1 =>
 vb (xIdxS 1 a0 a1) fun v2 =>
 vb (xLd v1 h) fun v3 =>
 vb (xLd v2 h) fun v4 =>
 vb (pcall (F54 n cl v3 v4 (h.fzn))) fun v5 =>
 bite v5 (F80_0 n cl a3 a2 a1 h) (some (Value.tuple ⟨[a1, a2]⟩, h))
noncomputable def D80 (n : Nat) (cl : CL) : CL := fun f xs h => sw f 54 (ucons xs fun b0 xs => ucons xs fun b1 xs => u0 xs (F54 n cl b0 b1 h)) (cl f xs h)
theorem Dk80 {n : Nat} {cl : CL} (hcl : OkCL Try.prog cl) : OkCL Try.prog (D80 n cl) := by
  intro f xs h v h' hx
  rcases sw_ok hx with ⟨rfl, hx⟩ | hx
  · obtain ⟨_, _, rfl, hx⟩ := ucons_ok hx; obtain ⟨_, _, rfl, hx⟩ := ucons_ok hx; obtain ⟨rfl, hx⟩ := u0_ok hx; exact S54 (n := n) (cl := cl) hcl hx
  exact hcl _ _ _ _ _ hx
theorem E80 (n : Nat) (cl : CL) (a0 a1 a2 a3 : Value) (h : PH) : exF Try.prog n (D80 n cl) ⟨[54], [], [], [(1, [0, 1, 2, 4, 5, 6, 3, 7, 8])], [], []⟩ Try.f80 [a0, a1, a2, a3] h = F80 n cl a0 a1 a2 a3 h := by kernel_rfl
theorem S80 {n : Nat} {cl : CL} (hcl : OkCL Try.prog cl) {a0 a1 a2 a3 : Value} {h h' : PH} {v : Value} (hx : F80 n cl a0 a1 a2 a3 h = some (v, h')) : (enterable Try.prog 80 = true ∧ ACall Try.prog 80 [a0, a1, a2, a3] h.abs (fun u k => u = v ∧ k = h'.abs)) ∧ Inv h h' :=
  exF_ok (Dk80 hcl) hmx Try.func80 (by kernel_rfl) ((E80 n cl a0 a1 a2 a3 h).trans hx)
-- slices.medianOrdered[int]
noncomputable def F70 (n : Nat) (cl : CL) (a0 a1 a2 a3 a4 : Value) (h : PH) : R :=
 hb (F80 n cl a0 a1 a2 a4 h) fun v1 h =>
 vb (xExt 0 v1) fun v2 =>
 vb (xExt 1 v1) fun v3 =>
 hb (F80 n cl a0 v3 a3 a4 h) fun v4 h =>
 vb (xExt 0 v4) fun v5 =>
 vb (xExt 1 v4) fun v6 =>
 hb (F80 n cl a0 v2 v5 a4 h) fun v7 h =>
 vb (xExt 0 v7) fun v8 =>
 vb (xExt 1 v7) fun v9 =>
 some (v9, h)
noncomputable def D70 (n : Nat) (cl : CL) : CL := fun f xs h => sw f 80 (ucons xs fun b0 xs => ucons xs fun b1 xs => ucons xs fun b2 xs => ucons xs fun b3 xs => u0 xs (F80 n cl b0 b1 b2 b3 h)) (cl f xs h)
theorem Dk70 {n : Nat} {cl : CL} (hcl : OkCL Try.prog cl) : OkCL Try.prog (D70 n cl) := by
  intro f xs h v h' hx
  rcases sw_ok hx with ⟨rfl, hx⟩ | hx
  · obtain ⟨_, _, rfl, hx⟩ := ucons_ok hx; obtain ⟨_, _, rfl, hx⟩ := ucons_ok hx; obtain ⟨_, _, rfl, hx⟩ := ucons_ok hx; obtain ⟨_, _, rfl, hx⟩ := ucons_ok hx; obtain ⟨rfl, hx⟩ := u0_ok hx; exact S80 (n := n) (cl := cl) hcl hx
  exact hcl _ _ _ _ _ hx
theorem E70 (n : Nat) (cl : CL) (a0 a1 a2 a3 a4 : Value) (h : PH) : exF Try.prog n (D70 n cl) ⟨[], [], [], [], [], []⟩ Try.f70 [a0, a1, a2, a3, a4] h = F70 n cl a0 a1 a2 a3 a4 h := by kernel_rfl
theorem S70 {n : Nat} {cl : CL} (hcl : OkCL Try.prog cl) {a0 a1 a2 a3 a4 : Value} {h h' : PH} {v : Value} (hx : F70 n cl a0 a1 a2 a3 a4 h = some (v, h')) : (enterable Try.prog 70 = true ∧ ACall Try.prog 70 [a0, a1, a2, a3, a4] h.abs (fun u k => u = v ∧ k = h'.abs)) ∧ Inv h h' :=
  exF_ok (Dk70 hcl) hmx Try.func70 (by kernel_rfl) ((E70 n cl a0 a1 a2 a3 a4 h).trans hx)
-- slices.medianAdjacentOrdered[int]
noncomputable def F69 (n : Nat) (cl : CL) (a0 a1 a2 : Value) (h : PH) : R :=
 vb (xAri Int.sub a1 (vN 1)) fun v1 =>
 vb (xAri Int.add a1 (vN 1)) fun v2 =>
 hb (F70 n cl a0 v1 a1 v2 a2 h) fun v3 h =>
 some (v3, h)
noncomputable def D69 (n : Nat) (cl : CL) : CL := fun f xs h => sw f 70 (ucons xs fun b0 xs => ucons xs fun b1 xs => ucons xs fun b2 xs => ucons xs fun b3 xs => ucons xs fun b4 xs => u0 xs (F70 n cl b0 b1 b2 b3 b4 h)) (cl f xs h)
theorem Dk69 {n : Nat} {cl : CL} (hcl : OkCL Try.prog cl) : OkCL Try.prog (D69 n cl) := by
  intro f xs h v h' hx
  rcases sw_ok hx with ⟨rfl, hx⟩ | hx
  · obtain ⟨_, _, rfl, hx⟩ := ucons_ok hx; obtain ⟨_, _, rfl, hx⟩ := ucons_ok hx; obtain ⟨_, _, rfl, hx⟩ := ucons_ok hx; obtain ⟨_, _, rfl, hx⟩ := ucons_ok hx; obtain ⟨_, _, rfl, hx⟩ := ucons_ok hx; obtain ⟨rfl, hx⟩ := u0_ok hx; exact S70 (n := n) (cl := cl) hcl hx
  exact hcl _ _ _ _ _ hx
theorem E69 (n : Nat) (cl : CL) (a0 a1 a2 : Value) (h : PH) : exF Try.prog n (D69 n cl) ⟨[], [], [], [], [], []⟩ Try.f69 [a0, a1, a2] h = F69 n cl a0 a1 a2 h := by kernel_rfl
theorem S69 {n : Nat} {cl : CL} (hcl : OkCL Try.prog cl) {a0 a1 a2 : Value} {h h' : PH} {v : Value} (hx : F69 n cl a0 a1 a2 h = some (v, h')) : (enterable Try.prog 69 = true ∧ ACall Try.prog 69 [a0, a1, a2] h.abs (fun u k => u = v ∧ k = h'.abs)) ∧ Inv h h' :=
  exF_ok (Dk69 hcl) hmx Try.func69 (by kernel_rfl) ((E69 n cl a0 a1 a2 h).trans hx)
-- slices.choosePivotOrdered[int]
noncomputable def F51_0 (n : Nat) (cl : CL) (v18 : Value) (v16 : Value) (h : PH) : R :=
 vb (xCmp ieq v18 (vN 12)) fun v20 =>
 bite v20 (some (Value.tuple ⟨[v16, (vN 2)]⟩, h)) (some (Value.tuple ⟨[v16, (vN 0)]⟩, h))
noncomputable def F51_1 (n : Nat) (cl : CL) (v14 : Value) (v16 : Value) (h : PH) : R :=
 vb (xLd v14 h) fun v18 =>
 vb (xCmp ieq v18 (vN 0)) fun v19 =>
 bite v19 (some (Value.tuple ⟨[v16, (vN 1)]⟩, h)) (F51_0 n cl v18 v16 h)
noncomputable def F51_2 (n : Nat) (cl : CL) (v24 : Value) (v28 : Value) (v30 : Value) (v32 : Value) (v26 : Value) (k13 : Kt) (h : PH) : R :=
 hb (F70 n cl v24 v28 v30 v32 v26 h) fun v34 h =>
 k13 [v26, v34] h
noncomputable def F51_3 (n : Nat) (cl : CL) (a0 : Value) (v5 : Value) (v2 : Value) (v8 : Value) (v11 : Value) (k23 : Kt) (h : PH) : R :=
 hb (F69 n cl a0 v5 v2 h) fun v36 h =>
 hb (F69 n cl a0 v8 v2 h) fun v37 h =>
 hb (F69 n cl a0 v11 v2 h) fun v38 h =>
 k23 [a0, v2, v36, v37, v38] h
noncomputable def F51_4 (n : Nat) (cl : CL) (k13 : Kt) (y22 : List Value) (h : PH) : R :=
 ucons y22 fun v24 y25 => ucons y25 fun v26 y27 => ucons y27 fun v28 y29 => ucons y29 fun v30 y31 => ucons y31 fun v32 y33 => F51_2 n cl v24 v28 v30 v32 v26 k13 h
noncomputable def F51_5 (n : Nat) (cl : CL) (v1 : Value) (a0 : Value) (v5 : Value) (v2 : Value) (v8 : Value) (v11 : Value) (h : PH) (k23 : Kt) : R :=
 vb (xCmp (fun x y => ile y x) v1 (vN 50)) fun v35 =>
 bite v35 (F51_3 n cl a0 v5 v2 v8 v11 k23 h) (k23 [a0, v2, v5, v8, v11] h)
noncomputable def F51_6 (n : Nat) (cl : CL) (v1 : Value) (a0 : Value) (v5 : Value) (v2 : Value) (v8 : Value) (v11 : Value) (h : PH) (k13 : Kt) : R :=
 vb (xCmp (fun x y => ile y x) v1 (vN 8)) fun v21 =>
 bite v21 (jn (F51_4 n cl k13) (F51_5 n cl v1 a0 v5 v2 v8 v11 h)) (k13 [v2, v8] h)
noncomputable def F51 (n : Nat) (cl : CL) (a0 a1 a2 : Value) (h : PH) : R :=
 vb (xAri Int.sub a2 a1) fun v1 =>
 hb (xAlloc (zcells Try.prog 3) h) fun v2 h =>
 vb (abin Try.prog .quo 3 (Operand.tmp 17) (Operand.const (Value.int IntKind.i64 4)) v1 (vN 4)) fun v3 =>
 vb (xAri Int.mul v3 (vN 1)) fun v4 =>
 vb (xAri Int.add a1 v4) fun v5 =>
 vb (abin Try.prog .quo 3 (Operand.tmp 22) (Operand.const (Value.int IntKind.i64 4)) v1 (vN 4)) fun v6 =>
 vb (xAri Int.mul v6 (vN 2)) fun v7 =>
 vb (xAri Int.add a1 v7) fun v8 =>
 vb (abin Try.prog .quo 3 (Operand.tmp 27) (Operand.const (Value.int IntKind.i64 4)) v1 (vN 4)) fun v9 =>
 vb (xAri Int.mul v9 (vN 3)) fun v10 =>
 vb (xAri Int.add a1 v10) fun v11 =>
 jn (fun y12 h => ucons y12 fun v14 y15 => ucons y15 fun v16 y17 => F51_1 n cl v14 v16 h) (F51_6 n cl v1 a0 v5 v2 v8 v11 h)
noncomputable def D51 (n : Nat) (cl : CL) : CL := fun f xs h => sw f 70 (ucons xs fun b0 xs => ucons xs fun b1 xs => ucons xs fun b2 xs => ucons xs fun b3 xs => ucons xs fun b4 xs => u0 xs (F70 n cl b0 b1 b2 b3 b4 h)) (sw f 69 (ucons xs fun b0 xs => ucons xs fun b1 xs => ucons xs fun b2 xs => u0 xs (F69 n cl b0 b1 b2 h)) (cl f xs h))
theorem Dk51 {n : Nat} {cl : CL} (hcl : OkCL Try.prog cl) : OkCL Try.prog (D51 n cl) := by
  intro f xs h v h' hx
  rcases sw_ok hx with ⟨rfl, hx⟩ | hx
  · obtain ⟨_, _, rfl, hx⟩ := ucons_ok hx; obtain ⟨_, _, rfl, hx⟩ := ucons_ok hx; obtain ⟨_, _, rfl, hx⟩ := ucons_ok hx; obtain ⟨_, _, rfl, hx⟩ := ucons_ok hx; obtain ⟨_, _, rfl, hx⟩ := ucons_ok hx; obtain ⟨rfl, hx⟩ := u0_ok hx; exact S70 (n := n) (cl := cl) hcl hx
  rcases sw_ok hx with ⟨rfl, hx⟩ | hx
  · obtain ⟨_, _, rfl, hx⟩ := ucons_ok hx; obtain ⟨_, _, rfl, hx⟩ := ucons_ok hx; obtain ⟨_, _, rfl, hx⟩ := ucons_ok hx; obtain ⟨rfl, hx⟩ := u0_ok hx; exact S69 (n := n) (cl := cl) hcl hx
  exact hcl _ _ _ _ _ hx
theorem E51 (n : Nat) (cl : CL) (a0 a1 a2 : Value) (h : PH) : exF Try.prog n (D51 n cl) ⟨[], [], [(11, [0, 9, 10, 11, 12]), (12, [9, 11])], [], [], []⟩ Try.f51 [a0, a1, a2] h = F51 n cl a0 a1 a2 h := by kernel_rfl
theorem S51 {n : Nat} {cl : CL} (hcl : OkCL Try.prog cl) {a0 a1 a2 : Value} {h h' : PH} {v : Value} (hx : F51 n cl a0 a1 a2 h = some (v, h')) : (enterable Try.prog 51 = true ∧ ACall Try.prog 51 [a0, a1, a2] h.abs (fun u k => u = v ∧ k = h'.abs)) ∧ Inv h h' :=
  exF_ok (Dk51 hcl) hmx Try.func51 (by kernel_rfl) ((E51 n cl a0 a1 a2 h).trans hx)
-- slices.reverseRangeOrdered[int]
noncomputable def F52_0 (n : Nat) (cl : CL) (v4 : Value) (v8 : Value) (v6 : Value) (r3 : Kt) (h : PH) : R :=
 vb (xIdxS 1 v4 v8) fun v11 =>
 vb (xIdxS 1 v4 v6) fun v12 =>
 vb (xLd v11 h) fun v13 =>
 vb (xLd v12 h) fun v14 =>
 vb (xIdxS 1 v4 v6) fun v15 =>
 hb (xSt1 v15 v13 h) fun _ h =>
 vb (xIdxS 1 v4 v8) fun v16 =>
 hb (xSt1 v16 v14 h) fun _ h =>
 vb (xAri Int.add v6 (vN 1)) fun v17 =>
 vb (xAri Int.sub v8 (vN 1)) fun v18 =>
 r3 [v4, v17, v18] h
noncomputable def F52_1 (n : Nat) (cl : CL) (v6 : Value) (v8 : Value) (v4 : Value) (r3 : Kt) (h : PH) : R :=
 vb (xCmp ilt v6 v8) fun v10 =>
 bite v10 (F52_0 n cl v4 v8 v6 r3 h) (some (Value.tuple ⟨[]⟩, h))
noncomputable def F52_2 (n : Nat) (cl : CL) (r3 : Kt) (y2 : List Value) (h : PH) : R :=
 ucons y2 fun v4 y5 => ucons y5 fun v6 y7 => ucons y7 fun v8 y9 => F52_1 n cl v6 v8 v4 r3 h
noncomputable def F52 (n : Nat) (cl : CL) (a0 a1 a2 : Value) (h : PH) : R :=
 vb (xAri Int.sub a2 (vN 1)) fun v1 =>
 lp n (F52_2 n cl) [a0, a1, v1] h
theorem E52 (n : Nat) (cl : CL) (a0 a1 a2 : Value) (h : PH) : exF Try.prog n cl ⟨[], [], [(2, [0, 6, 7])], [(3, [0, 1, 2, 3, 4, 5, 6, 8, 9, 10, 7, 11, 12, 13, 14, 15])], [], []⟩ Try.f52 [a0, a1, a2] h = F52 n cl a0 a1 a2 h := by kernel_rfl
theorem S52 {n : Nat} {cl : CL} (hcl : OkCL Try.prog cl) {a0 a1 a2 : Value} {h h' : PH} {v : Value} (hx : F52 n cl a0 a1 a2 h = some (v, h')) : (enterable Try.prog 52 = true ∧ ACall Try.prog 52 [a0, a1, a2] h.abs (fun u k => u = v ∧ k = h'.abs)) ∧ Inv h h' :=
  exF_ok hcl hmx Try.func52 (by kernel_rfl) ((E52 n cl a0 a1 a2 h).trans hx)
-- slices.partialInsertionSortOrdered[int]
noncomputable def F53_0 (n : Nat) (cl : CL) (v25 : Value) (r3 : Kt) (v17 : Value) (v19 : Value) (v21 : Value) (v23 : Value) (h : PH) : R :=
 vb (xAri Int.add v25 (vN 1)) fun v27 =>
 r3 [v17, v19, v21, v23, v27] h
noncomputable def F53_1 (n : Nat) (cl : CL) (v36 : Value) (r29 : Kt) (v30 : Value) (v32 : Value) (v34 : Value) (v38 : Value) (h : PH) : R :=
 vb (xAri Int.add v36 (vN 1)) fun v53 =>
 r29 [v30, v32, v34, v53, v38] h
noncomputable def F53_2 (n : Nat) (cl : CL) (v92 : Value) (v82 : Value) (r81 : Kt) (v84 : Value) (v86 : Value) (v88 : Value) (v90 : Value) (h : PH) : R :=
 vb (xAri Int.sub v92 (vN 1)) fun v102 =>
 vb (xAri Int.sub v92 (vN 1)) fun v103 =>
 vb (xIdxS 1 v82 v103) fun v104 =>
 vb (xIdxS 1 v82 v92) fun v105 =>
 vb (xLd v104 h) fun v106 =>
 vb (xLd v105 h) fun v107 =>
 vb (xIdxS 1 v82 v92) fun v108 =>
 hb (xSt1 v108 v106 h) fun _ h =>
 vb (xIdxS 1 v82 v102) fun v109 =>
 hb (xSt1 v109 v107 h) fun _ h =>
 vb (xAri Int.add v92 (vN 1)) fun v110 =>
 r81 [v82, v84, v86, v88, v90, v110] h
noncomputable def F53_3 (n : Nat) (cl : CL) (v82 : Value) (v92 : Value) (k16 : Kt) (v84 : Value) (v86 : Value) (v88 : Value) (v90 : Value) (r81 : Kt) (h : PH) : R :=
 vb (xIdxS 1 v82 v92) fun v95 =>
 vb (xAri Int.sub v92 (vN 1)) fun v96 =>
 vb (xIdxS 1 v82 v96) fun v97 =>
 vb (xLd v95 h) fun v98 =>
 vb (xLd v97 h) fun v99 =>
 vb (pcall (F54 n cl v98 v99 (h.fzn))) fun v100 =>
 vb (xNot v100) fun v101 =>
 bite v101 (k16 [v82, v84, v86, v88, v90] h) (F53_2 n cl v92 v82 r81 v84 v86 v88 v90 h)
noncomputable def F53_4 (n : Nat) (cl : CL) (v92 : Value) (v86 : Value) (v82 : Value) (k16 : Kt) (v84 : Value) (v88 : Value) (v90 : Value) (r81 : Kt) (h : PH) : R :=
 vb (xCmp ilt v92 v86) fun v94 =>
 bite v94 (F53_3 n cl v82 v92 k16 v84 v86 v88 v90 r81 h) (k16 [v82, v84, v86, v88, v90] h)
noncomputable def F53_5 (n : Nat) (cl : CL) (k16 : Kt) (r81 : Kt) (y80 : List Value) (h : PH) : R :=
 ucons y80 fun v82 y83 => ucons y83 fun v84 y85 => ucons y85 fun v86 y87 => ucons y87 fun v88 y89 => ucons y89 fun v90 y91 => ucons y91 fun v92 y93 => F53_4 n cl v92 v86 v82 k16 v84 v88 v90 r81 h
noncomputable def F53_6 (n : Nat) (cl : CL) (v73 : Value) (k16 : Kt) (v67 : Value) (v69 : Value) (v71 : Value) (v75 : Value) (h : PH) : R :=
 vb (xAri Int.add v73 (vN 1)) fun v79 =>
 lp n (F53_5 n cl k16) [v67, v69, v71, v73, v75, v79] h
noncomputable def F53_7 (n : Nat) (cl : CL) (v71 : Value) (v73 : Value) (k16 : Kt) (v67 : Value) (v69 : Value) (v75 : Value) (h : PH) : R :=
 vb (xAri Int.sub v71 v73) fun v77 =>
 vb (xCmp (fun x y => ile y x) v77 (vN 2)) fun v78 =>
 bite v78 (F53_6 n cl v73 k16 v67 v69 v71 v75 h) (k16 [v67, v69, v71, v73, v75] h)
noncomputable def F53_8 (n : Nat) (cl : CL) (v126 : Value) (v116 : Value) (r115 : Kt) (v118 : Value) (v120 : Value) (v122 : Value) (v124 : Value) (h : PH) : R :=
 vb (xAri Int.sub v126 (vN 1)) fun v136 =>
 vb (xAri Int.sub v126 (vN 1)) fun v137 =>
 vb (xIdxS 1 v116 v137) fun v138 =>
 vb (xIdxS 1 v116 v126) fun v139 =>
 vb (xLd v138 h) fun v140 =>
 vb (xLd v139 h) fun v141 =>
 vb (xIdxS 1 v116 v126) fun v142 =>
 hb (xSt1 v142 v140 h) fun _ h =>
 vb (xIdxS 1 v116 v136) fun v143 =>
 hb (xSt1 v143 v141 h) fun _ h =>
 vb (xAri Int.sub v126 (vN 1)) fun v144 =>
 r115 [v116, v118, v120, v122, v124, v144] h
noncomputable def F53_9 (n : Nat) (cl : CL) (v116 : Value) (v126 : Value) (k66 : Kt) (v118 : Value) (v120 : Value) (v122 : Value) (v124 : Value) (r115 : Kt) (h : PH) : R :=
 vb (xIdxS 1 v116 v126) fun v129 =>
 vb (xAri Int.sub v126 (vN 1)) fun v130 =>
 vb (xIdxS 1 v116 v130) fun v131 =>
 vb (xLd v129 h) fun v132 =>
 vb (xLd v131 h) fun v133 =>
 vb (pcall (F54 n cl v132 v133 (h.fzn))) fun v134 =>
 vb (xNot v134) fun v135 =>
 bite v135 (k66 [v116, v118, v120, v122, v124] h) (F53_8 n cl v126 v116 r115 v118 v120 v122 v124 h)
noncomputable def F53_10 (n : Nat) (cl : CL) (v126 : Value) (v116 : Value) (k66 : Kt) (v118 : Value) (v120 : Value) (v122 : Value) (v124 : Value) (r115 : Kt) (h : PH) : R :=
 vb (xCmp (fun x y => ile y x) v126 (vN 1)) fun v128 =>
 bite v128 (F53_9 n cl v116 v126 k66 v118 v120 v122 v124 r115 h) (k66 [v116, v118, v120, v122, v124] h)
noncomputable def F53_11 (n : Nat) (cl : CL) (k66 : Kt) (r115 : Kt) (y114 : List Value) (h : PH) : R :=
 ucons y114 fun v116 y117 => ucons y117 fun v118 y119 => ucons y119 fun v120 y121 => ucons y121 fun v122 y123 => ucons y123 fun v124 y125 => ucons y125 fun v126 y127 => F53_10 n cl v126 v116 k66 v118 v120 v122 v124 r115 h
noncomputable def F53_12 (n : Nat) (cl : CL) (v36 : Value) (k66 : Kt) (v30 : Value) (v32 : Value) (v34 : Value) (v38 : Value) (h : PH) : R :=
 vb (xAri Int.sub v36 (vN 1)) fun v113 =>
 lp n (F53_11 n cl k66) [v30, v32, v34, v36, v38, v113] h
noncomputable def F53_13 (n : Nat) (cl : CL) (k16 : Kt) (y65 : List Value) (h : PH) : R :=
 ucons y65 fun v67 y68 => ucons y68 fun v69 y70 => ucons y70 fun v71 y72 => ucons y72 fun v73 y74 => ucons y74 fun v75 y76 => F53_7 n cl v71 v73 k16 v67 v69 v75 h
noncomputable def F53_14 (n : Nat) (cl : CL) (v36 : Value) (v32 : Value) (v30 : Value) (v34 : Value) (v38 : Value) (h : PH) (k66 : Kt) : R :=
 vb (xAri Int.sub v36 v32) fun v111 =>
 vb (xCmp (fun x y => ile y x) v111 (vN 2)) fun v112 =>
 bite v112 (F53_12 n cl v36 k66 v30 v32 v34 v38 h) (k66 [v30, v32, v34, v36, v38] h)
noncomputable def F53_15 (n : Nat) (cl : CL) (v36 : Value) (v30 : Value) (k16 : Kt) (v32 : Value) (v34 : Value) (v38 : Value) (h : PH) : R :=
 vb (xAri Int.sub v36 (vN 1)) fun v57 =>
 vb (xAri Int.sub v36 (vN 1)) fun v58 =>
 vb (xIdxS 1 v30 v58) fun v59 =>
 vb (xIdxS 1 v30 v36) fun v60 =>
 vb (xLd v59 h) fun v61 =>
 vb (xLd v60 h) fun v62 =>
 vb (xIdxS 1 v30 v36) fun v63 =>
 hb (xSt1 v63 v61 h) fun _ h =>
 vb (xIdxS 1 v30 v57) fun v64 =>
 hb (xSt1 v64 v62 h) fun _ h =>
 jn (F53_13 n cl k16) (F53_14 n cl v36 v32 v30 v34 v38 h)
noncomputable def F53_16 (n : Nat) (cl : CL) (v34 : Value) (v32 : Value) (v36 : Value) (v30 : Value) (k16 : Kt) (v38 : Value) (h : PH) : R :=
 vb (xAri Int.sub v34 v32) fun v55 =>
 vb (xCmp ilt v55 (vN 50)) fun v56 =>
 bite v56 (some (ff, h)) (F53_15 n cl v36 v30 k16 v32 v34 v38 h)
noncomputable def F53_17 (n : Nat) (cl : CL) (v36 : Value) (v34 : Value) (v32 : Value) (v30 : Value) (k16 : Kt) (v38 : Value) (h : PH) : R :=
 vb (xCmp ieq v36 v34) fun v54 =>
 bite v54 (some (tt, h)) (F53_16 n cl v34 v32 v36 v30 k16 v38 h)
noncomputable def F53_18 (n : Nat) (cl : CL) (v36 : Value) (v34 : Value) (v30 : Value) (r29 : Kt) (v32 : Value) (v38 : Value) (k16 : Kt) (h : PH) : R :=
 vb (xCmp ilt v36 v34) fun v40 =>
 vb (gd (isB true v40) (some v30)) fun v41 =>
 vb (gd (isB true v40) (some v36)) fun v42 =>
 vb (gd (isB true v40) (xIdxS 1 v41 v42)) fun v43 =>
 vb (gd (isB true v40) (some v30)) fun v44 =>
 vb (gd (isB true v40) (some v36)) fun v45 =>
 vb (gd (isB true v40) (xAri Int.sub v45 (vN 1))) fun v46 =>
 vb (gd (isB true v40) (xIdxS 1 v44 v46)) fun v47 =>
 vb (gd (isB true v40) (xLd v43 h)) fun v48 =>
 vb (gd (isB true v40) (xLd v47 h)) fun v49 =>
 vb (gd (isB true v40) (pcall (F54 n cl v48 v49 (h.fzn)))) fun v50 =>
 vb (gd (isB true v40) (xNot v50)) fun v51 =>
 vb (xPick v40 v51 ff) fun v52 =>
 bite v52 (F53_1 n cl v36 r29 v30 v32 v34 v38 h) (F53_17 n cl v36 v34 v32 v30 k16 v38 h)
noncomputable def F53_19 (n : Nat) (cl : CL) (k16 : Kt) (r29 : Kt) (y28 : List Value) (h : PH) : R :=
 ucons y28 fun v30 y31 => ucons y31 fun v32 y33 => ucons y33 fun v34 y35 => ucons y35 fun v36 y37 => ucons y37 fun v38 y39 => F53_18 n cl v36 v34 v30 r29 v32 v38 k16 h
noncomputable def F53_20 (n : Nat) (cl : CL) (r3 : Kt) (y15 : List Value) (h : PH) : R :=
 ucons y15 fun v17 y18 => ucons y18 fun v19 y20 => ucons y20 fun v21 y22 => ucons y22 fun v23 y24 => ucons y24 fun v25 y26 => F53_0 n cl v25 r3 v17 v19 v21 v23 h
noncomputable def F53_21 (n : Nat) (cl : CL) (v12 : Value) (r3 : Kt) (v4 : Value) (v6 : Value) (v8 : Value) (v10 : Value) (h : PH) : R :=
 vb (xCmp ilt v12 (vN 5)) fun v14 =>
 bite v14 (jn (F53_20 n cl r3) (fun k16 => lp n (F53_19 n cl k16) [v4, v6, v8, v10, v12] h)) (some (ff, h))
noncomputable def F53_22 (n : Nat) (cl : CL) (r3 : Kt) (y2 : List Value) (h : PH) : R :=
 ucons y2 fun v4 y5 => ucons y5 fun v6 y7 => ucons y7 fun v8 y9 => ucons y9 fun v10 y11 => ucons y11 fun v12 y13 => F53_21 n cl v12 r3 v4 v6 v8 v10 h
noncomputable def F53 (n : Nat) (cl : CL) (a0 a1 a2 : Value) (h : PH) : R :=
 vb (xAri Int.add a1 (vN 1)) fun v1 =>
 lp n (F53_22 n cl) [a0, a1, a2, v1, (vN 0)] h
noncomputable def D53 (n : Nat) (cl : CL) : CL := fun f xs h => sw f 54 (ucons xs fun b0 xs => ucons xs fun b1 xs => u0 xs (F54 n cl b0 b1 h)) (cl f xs h)
theorem Dk53 {n : Nat} {cl : CL} (hcl : OkCL Try.prog cl) : OkCL Try.prog (D53 n cl) := by
  intro f xs h v h' hx
  rcases sw_ok hx with ⟨rfl, hx⟩ | hx
  · obtain ⟨_, _, rfl, hx⟩ := ucons_ok hx; obtain ⟨_, _, rfl, hx⟩ := ucons_ok hx; obtain ⟨rfl, hx⟩ := u0_ok hx; exact S54 (n := n) (cl := cl) hcl hx
  exact hcl _ _ _ _ _ hx
theorem E53 (n : Nat) (cl : CL) (a0 a1 a2 : Value) (h : PH) : exF Try.prog n (D53 n cl) ⟨[54], [], [(3, [0, 1, 2, 7, 8]), (4, [0, 1, 2, 7, 8]), (5, [0, 1, 2, 7, 8]), (14, [0, 1, 2, 7, 8, 9]), (18, [0, 1, 2, 7, 8]), (20, [0, 1, 2, 7, 8, 10])], [(5, [0, 1, 2, 3, 4, 5, 6, 8, 9, 10, 11, 7, 12, 13, 14, 15]), (11, [0, 1, 2, 3, 4, 5, 6, 7, 8, 10, 11, 12, 9, 13, 14, 15, 16, 17]), (16, [0, 1, 2, 4, 5, 6, 7, 3, 8, 9, 10]), (17, [0, 1, 2, 3, 4, 5, 6, 7, 8, 10, 11, 12, 9, 13, 14, 15, 16, 17]), (22, [0, 1, 2, 4, 5, 6, 7, 3, 8, 9, 10]), (23, [0, 1, 2, 3, 4, 5, 6, 7, 8, 10, 11, 12, 9, 13, 14, 15, 16, 17])], [], []⟩ Try.f53 [a0, a1, a2] h = F53 n cl a0 a1 a2 h := by kernel_rfl
theorem S53 {n : Nat} {cl : CL} (hcl : OkCL Try.prog cl) {a0 a1 a2 : Value} {h h' : PH} {v : Value} (hx : F53 n cl a0 a1 a2 h = some (v, h')) : (enterable Try.prog 53 = true ∧ ACall Try.prog 53 [a0, a1, a2] h.abs (fun u k => u = v ∧ k = h'.abs)) ∧ Inv h h' :=
  exF_ok (Dk53 hcl) hmx Try.func53 (by kernel_rfl) ((E53 n cl a0 a1 a2 h).trans hx)
-- slices.partitionEqualOrdered[int]
noncomputable def F55_0 (n : Nat) (cl : CL) (v25 : Value) (r20 : Kt) (v21 : Value) (v23 : Value) (v27 : Value) (h : PH) : R :=
 vb (xAri Int.add v25 (vN 1)) fun v41 =>
 r20 [v21, v23, v41, v27] h
noncomputable def F55_1 (n : Nat) (cl : CL) (v50 : Value) (r43 : Kt) (v44 : Value) (v46 : Value) (v48 : Value) (h : PH) : R :=
 vb (xAri Int.sub v50 (vN 1)) fun v63 =>
 r43 [v44, v46, v48, v63] h
noncomputable def F55_2 (n : Nat) (cl : CL) (v44 : Value) (v50 : Value) (v48 : Value) (r10 : Kt) (v46 : Value) (h : PH) : R :=
 vb (xIdxS 1 v44 v50) fun v65 =>
 vb (xIdxS 1 v44 v48) fun v66 =>
 vb (xLd v65 h) fun v67 =>
 vb (xLd v66 h) fun v68 =>
 vb (xIdxS 1 v44 v48) fun v69 =>
 hb (xSt1 v69 v67 h) fun _ h =>
 vb (xIdxS 1 v44 v50) fun v70 =>
 hb (xSt1 v70 v68 h) fun _ h =>
 vb (xAri Int.add v48 (vN 1)) fun v71 =>
 vb (xAri Int.sub v50 (vN 1)) fun v72 =>
 r10 [v44, v46, v71, v72] h
noncomputable def F55_3 (n : Nat) (cl : CL) (v48 : Value) (v50 : Value) (v44 : Value) (r10 : Kt) (v46 : Value) (h : PH) : R :=
 vb (xCmp (fun x y => ilt y x) v48 v50) fun v64 =>
 bite v64 (some (v48, h)) (F55_2 n cl v44 v50 v48 r10 v46 h)
noncomputable def F55_4 (n : Nat) (cl : CL) (v48 : Value) (v50 : Value) (v44 : Value) (v46 : Value) (r43 : Kt) (r10 : Kt) (h : PH) : R :=
 vb (xCmp ile v48 v50) fun v52 =>
 vb (gd (isB true v52) (some v44)) fun v53 =>
 vb (gd (isB true v52) (some v46)) fun v54 =>
 vb (gd (isB true v52) (xIdxS 1 v53 v54)) fun v55 =>
 vb (gd (isB true v52) (some v44)) fun v56 =>
 vb (gd (isB true v52) (some v50)) fun v57 =>
 vb (gd (isB true v52) (xIdxS 1 v56 v57)) fun v58 =>
 vb (gd (isB true v52) (xLd v55 h)) fun v59 =>
 vb (gd (isB true v52) (xLd v58 h)) fun v60 =>
 vb (gd (isB true v52) (pcall (F54 n cl v59 v60 (h.fzn)))) fun v61 =>
 vb (xPick v52 v61 ff) fun v62 =>
 bite v62 (F55_1 n cl v50 r43 v44 v46 v48 h) (F55_3 n cl v48 v50 v44 r10 v46 h)
noncomputable def F55_5 (n : Nat) (cl : CL) (r10 : Kt) (r43 : Kt) (y42 : List Value) (h : PH) : R :=
 ucons y42 fun v44 y45 => ucons y45 fun v46 y47 => ucons y47 fun v48 y49 => ucons y49 fun v50 y51 => F55_4 n cl v48 v50 v44 v46 r43 r10 h
noncomputable def F55_6 (n : Nat) (cl : CL) (v25 : Value) (v27 : Value) (v21 : Value) (v23 : Value) (r20 : Kt) (r10 : Kt) (h : PH) : R :=
 vb (xCmp ile v25 v27) fun v29 =>
 vb (gd (isB true v29) (some v21)) fun v30 =>
 vb (gd (isB true v29) (some v23)) fun v31 =>
 vb (gd (isB true v29) (xIdxS 1 v30 v31)) fun v32 =>
 vb (gd (isB true v29) (some v21)) fun v33 =>
 vb (gd (isB true v29) (some v25)) fun v34 =>
 vb (gd (isB true v29) (xIdxS 1 v33 v34)) fun v35 =>
 vb (gd (isB true v29) (xLd v32 h)) fun v36 =>
 vb (gd (isB true v29) (xLd v35 h)) fun v37 =>
 vb (gd (isB true v29) (pcall (F54 n cl v36 v37 (h.fzn)))) fun v38 =>
 vb (gd (isB true v29) (xNot v38)) fun v39 =>
 vb (xPick v29 v39 ff) fun v40 =>
 bite v40 (F55_0 n cl v25 r20 v21 v23 v27 h) (lp n (F55_5 n cl r10) [v21, v23, v25, v27] h)
noncomputable def F55_7 (n : Nat) (cl : CL) (r10 : Kt) (r20 : Kt) (y19 : List Value) (h : PH) : R :=
 ucons y19 fun v21 y22 => ucons y22 fun v23 y24 => ucons y24 fun v25 y26 => ucons y26 fun v27 y28 => F55_6 n cl v25 v27 v21 v23 r20 r10 h
noncomputable def F55_8 (n : Nat) (cl : CL) (r10 : Kt) (y9 : List Value) (h : PH) : R :=
 ucons y9 fun v11 y12 => ucons y12 fun v13 y14 => ucons y14 fun v15 y16 => ucons y16 fun v17 y18 => lp n (F55_7 n cl r10) [v11, v13, v15, v17] h
noncomputable def F55 (n : Nat) (cl : CL) (a0 a1 a2 a3 : Value) (h : PH) : R :=
 vb (xIdxS 1 a0 a3) fun v1 =>
 vb (xIdxS 1 a0 a1) fun v2 =>
 vb (xLd v1 h) fun v3 =>
 vb (xLd v2 h) fun v4 =>
 vb (xIdxS 1 a0 a1) fun v5 =>
 hb (xSt1 v5 v3 h) fun _ h =>
 vb (xIdxS 1 a0 a3) fun v6 =>
 hb (xSt1 v6 v4 h) fun _ h =>
 vb (xAri Int.add a1 (vN 1)) fun v7 =>
 vb (xAri Int.sub a2 (vN 1)) fun v8 =>
 lp n (F55_8 n cl) [a0, a1, v7, v8] h
noncomputable def D55 (n : Nat) (cl : CL) : CL := fun f xs h => sw f 54 (ucons xs fun b0 xs => ucons xs fun b1 xs => u0 xs (F54 n cl b0 b1 h)) (cl f xs h)
theorem Dk55 {n : Nat} {cl : CL} (hcl : OkCL Try.prog cl) : OkCL Try.prog (D55 n cl) := by
  intro f xs h v h' hx
  rcases sw_ok hx with ⟨rfl, hx⟩ | hx
  · obtain ⟨_, _, rfl, hx⟩ := ucons_ok hx; obtain ⟨_, _, rfl, hx⟩ := ucons_ok hx; obtain ⟨rfl, hx⟩ := u0_ok hx; exact S54 (n := n) (cl := cl) hcl hx
  exact hcl _ _ _ _ _ hx
theorem E55 (n : Nat) (cl : CL) (a0 a1 a2 a3 : Value) (h : PH) : exF Try.prog n (D55 n cl) ⟨[54], [], [(3, [0, 1, 9, 10]), (5, [0, 1, 9, 10])], [(1, [0, 1, 2, 3, 4, 5, 6, 8, 9, 10, 7, 11, 12, 13, 14, 15]), (3, [0, 1, 2, 3, 4, 5, 6, 8, 9, 10, 7, 11, 12, 13, 14]), (5, [0, 1, 2, 3, 4, 5, 6, 8, 9, 10, 7, 11, 12, 13]), (8, [0, 1, 2, 3, 4, 5, 6, 8, 9, 10, 7, 11, 12, 13, 14, 15])], [], []⟩ Try.f55 [a0, a1, a2, a3] h = F55 n cl a0 a1 a2 a3 h := by kernel_rfl
theorem S55 {n : Nat} {cl : CL} (hcl : OkCL Try.prog cl) {a0 a1 a2 a3 : Value} {h h' : PH} {v : Value} (hx : F55 n cl a0 a1 a2 a3 h = some (v, h')) : (enterable Try.prog 55 = true ∧ ACall Try.prog 55 [a0, a1, a2, a3] h.abs (fun u k => u = v ∧ k = h'.abs)) ∧ Inv h h' :=
  exF_ok (Dk55 hcl) hmx Try.func55 (by kernel_rfl) ((E55 n cl a0 a1 a2 a3 h).trans hx)
-- slices.partitionOrdered[int]
noncomputable def F56_0 (n : Nat) (cl : CL) (v15 : Value) (r10 : Kt) (v11 : Value) (v13 : Value) (v17 : Value) (h : PH) : R :=
 vb (xAri Int.add v15 (vN 1)) fun v30 =>
 r10 [v11, v13, v30, v17] h
noncomputable def F56_1 (n : Nat) (cl : CL) (v39 : Value) (r32 : Kt) (v33 : Value) (v35 : Value) (v37 : Value) (h : PH) : R :=
 vb (xAri Int.sub v39 (vN 1)) fun v53 =>
 r32 [v33, v35, v37, v53] h
noncomputable def F56_2 (n : Nat) (cl : CL) (v33 : Value) (v35 : Value) (v39 : Value) (h : PH) : R :=
 vb (xIdxS 1 v33 v35) fun v55 =>
 vb (xIdxS 1 v33 v39) fun v56 =>
 vb (xLd v55 h) fun v57 =>
 vb (xLd v56 h) fun v58 =>
 vb (xIdxS 1 v33 v39) fun v59 =>
 hb (xSt1 v59 v57 h) fun _ h =>
 vb (xIdxS 1 v33 v35) fun v60 =>
 hb (xSt1 v60 v58 h) fun _ h =>
 some (Value.tuple ⟨[v39, tt]⟩, h)
noncomputable def F56_3 (n : Nat) (cl : CL) (v85 : Value) (r80 : Kt) (v81 : Value) (v83 : Value) (v87 : Value) (h : PH) : R :=
 vb (xAri Int.add v85 (vN 1)) fun v100 =>
 r80 [v81, v83, v100, v87] h
noncomputable def F56_4 (n : Nat) (cl : CL) (v109 : Value) (r102 : Kt) (v103 : Value) (v105 : Value) (v107 : Value) (h : PH) : R :=
 vb (xAri Int.sub v109 (vN 1)) fun v123 =>
 r102 [v103, v105, v107, v123] h
noncomputable def F56_5 (n : Nat) (cl : CL) (v103 : Value) (v105 : Value) (v109 : Value) (h : PH) : R :=
 vb (xIdxS 1 v103 v105) fun v125 =>
 vb (xIdxS 1 v103 v109) fun v126 =>
 vb (xLd v125 h) fun v127 =>
 vb (xLd v126 h) fun v128 =>
 vb (xIdxS 1 v103 v109) fun v129 =>
 hb (xSt1 v129 v127 h) fun _ h =>
 vb (xIdxS 1 v103 v105) fun v130 =>
 hb (xSt1 v130 v128 h) fun _ h =>
 some (Value.tuple ⟨[v109, ff]⟩, h)
noncomputable def F56_6 (n : Nat) (cl : CL) (v103 : Value) (v109 : Value) (v107 : Value) (r70 : Kt) (v105 : Value) (h : PH) : R :=
 vb (xIdxS 1 v103 v109) fun v131 =>
 vb (xIdxS 1 v103 v107) fun v132 =>
 vb (xLd v131 h) fun v133 =>
 vb (xLd v132 h) fun v134 =>
 vb (xIdxS 1 v103 v107) fun v135 =>
 hb (xSt1 v135 v133 h) fun _ h =>
 vb (xIdxS 1 v103 v109) fun v136 =>
 hb (xSt1 v136 v134 h) fun _ h =>
 vb (xAri Int.add v107 (vN 1)) fun v137 =>
 vb (xAri Int.sub v109 (vN 1)) fun v138 =>
 r70 [v103, v105, v137, v138] h
noncomputable def F56_7 (n : Nat) (cl : CL) (v107 : Value) (v109 : Value) (v103 : Value) (v105 : Value) (r70 : Kt) (h : PH) : R :=
 vb (xCmp (fun x y => ilt y x) v107 v109) fun v124 =>
 bite v124 (F56_5 n cl v103 v105 v109 h) (F56_6 n cl v103 v109 v107 r70 v105 h)
noncomputable def F56_8 (n : Nat) (cl : CL) (v107 : Value) (v109 : Value) (v103 : Value) (v105 : Value) (r102 : Kt) (r70 : Kt) (h : PH) : R :=
 vb (xCmp ile v107 v109) fun v111 =>
 vb (gd (isB true v111) (some v103)) fun v112 =>
 vb (gd (isB true v111) (some v109)) fun v113 =>
 vb (gd (isB true v111) (xIdxS 1 v112 v113)) fun v114 =>
 vb (gd (isB true v111) (some v103)) fun v115 =>
 vb (gd (isB true v111) (some v105)) fun v116 =>
 vb (gd (isB true v111) (xIdxS 1 v115 v116)) fun v117 =>
 vb (gd (isB true v111) (xLd v114 h)) fun v118 =>
 vb (gd (isB true v111) (xLd v117 h)) fun v119 =>
 vb (gd (isB true v111) (pcall (F54 n cl v118 v119 (h.fzn)))) fun v120 =>
 vb (gd (isB true v111) (xNot v120)) fun v121 =>
 vb (xPick v111 v121 ff) fun v122 =>
 bite v122 (F56_4 n cl v109 r102 v103 v105 v107 h) (F56_7 n cl v107 v109 v103 v105 r70 h)
noncomputable def F56_9 (n : Nat) (cl : CL) (r70 : Kt) (r102 : Kt) (y101 : List Value) (h : PH) : R :=
 ucons y101 fun v103 y104 => ucons y104 fun v105 y106 => ucons y106 fun v107 y108 => ucons y108 fun v109 y110 => F56_8 n cl v107 v109 v103 v105 r102 r70 h
noncomputable def F56_10 (n : Nat) (cl : CL) (v85 : Value) (v87 : Value) (v81 : Value) (v83 : Value) (r80 : Kt) (r70 : Kt) (h : PH) : R :=
 vb (xCmp ile v85 v87) fun v89 =>
 vb (gd (isB true v89) (some v81)) fun v90 =>
 vb (gd (isB true v89) (some v85)) fun v91 =>
 vb (gd (isB true v89) (xIdxS 1 v90 v91)) fun v92 =>
 vb (gd (isB true v89) (some v81)) fun v93 =>
 vb (gd (isB true v89) (some v83)) fun v94 =>
 vb (gd (isB true v89) (xIdxS 1 v93 v94)) fun v95 =>
 vb (gd (isB true v89) (xLd v92 h)) fun v96 =>
 vb (gd (isB true v89) (xLd v95 h)) fun v97 =>
 vb (gd (isB true v89) (pcall (F54 n cl v96 v97 (h.fzn)))) fun v98 =>
 vb (xPick v89 v98 ff) fun v99 =>
 bite v99 (F56_3 n cl v85 r80 v81 v83 v87 h) (lp n (F56_9 n cl r70) [v81, v83, v85, v87] h)
noncomputable def F56_11 (n : Nat) (cl : CL) (r70 : Kt) (r80 : Kt) (y79 : List Value) (h : PH) : R :=
 ucons y79 fun v81 y82 => ucons y82 fun v83 y84 => ucons y84 fun v85 y86 => ucons y86 fun v87 y88 => F56_10 n cl v85 v87 v81 v83 r80 r70 h
noncomputable def F56_12 (n : Nat) (cl : CL) (r70 : Kt) (y69 : List Value) (h : PH) : R :=
 ucons y69 fun v71 y72 => ucons y72 fun v73 y74 => ucons y74 fun v75 y76 => ucons y76 fun v77 y78 => lp n (F56_11 n cl r70) [v71, v73, v75, v77] h
noncomputable def F56_13 (n : Nat) (cl : CL) (v33 : Value) (v39 : Value) (v37 : Value) (v35 : Value) (h : PH) : R :=
 vb (xIdxS 1 v33 v39) fun v61 =>
 vb (xIdxS 1 v33 v37) fun v62 =>
 vb (xLd v61 h) fun v63 =>
 vb (xLd v62 h) fun v64 =>
 vb (xIdxS 1 v33 v37) fun v65 =>
 hb (xSt1 v65 v63 h) fun _ h =>
 vb (xIdxS 1 v33 v39) fun v66 =>
 hb (xSt1 v66 v64 h) fun _ h =>
 vb (xAri Int.add v37 (vN 1)) fun v67 =>
 vb (xAri Int.sub v39 (vN 1)) fun v68 =>
 lp n (F56_12 n cl) [v33, v35, v67, v68] h
noncomputable def F56_14 (n : Nat) (cl : CL) (v37 : Value) (v39 : Value) (v33 : Value) (v35 : Value) (h : PH) : R :=
 vb (xCmp (fun x y => ilt y x) v37 v39) fun v54 =>
 bite v54 (F56_2 n cl v33 v35 v39 h) (F56_13 n cl v33 v39 v37 v35 h)
noncomputable def F56_15 (n : Nat) (cl : CL) (v37 : Value) (v39 : Value) (v33 : Value) (v35 : Value) (r32 : Kt) (h : PH) : R :=
 vb (xCmp ile v37 v39) fun v41 =>
 vb (gd (isB true v41) (some v33)) fun v42 =>
 vb (gd (isB true v41) (some v39)) fun v43 =>
 vb (gd (isB true v41) (xIdxS 1 v42 v43)) fun v44 =>
 vb (gd (isB true v41) (some v33)) fun v45 =>
 vb (gd (isB true v41) (some v35)) fun v46 =>
 vb (gd (isB true v41) (xIdxS 1 v45 v46)) fun v47 =>
 vb (gd (isB true v41) (xLd v44 h)) fun v48 =>
 vb (gd (isB true v41) (xLd v47 h)) fun v49 =>
 vb (gd (isB true v41) (pcall (F54 n cl v48 v49 (h.fzn)))) fun v50 =>
 vb (gd (isB true v41) (xNot v50)) fun v51 =>
 vb (xPick v41 v51 ff) fun v52 =>
 bite v52 (F56_1 n cl v39 r32 v33 v35 v37 h) (F56_14 n cl v37 v39 v33 v35 h)
noncomputable def F56_16 (n : Nat) (cl : CL) (r32 : Kt) (y31 : List Value) (h : PH) : R :=
 ucons y31 fun v33 y34 => ucons y34 fun v35 y36 => ucons y36 fun v37 y38 => ucons y38 fun v39 y40 => F56_15 n cl v37 v39 v33 v35 r32 h
noncomputable def F56_17 (n : Nat) (cl : CL) (v15 : Value) (v17 : Value) (v11 : Value) (v13 : Value) (r10 : Kt) (h : PH) : R :=
 vb (xCmp ile v15 v17) fun v19 =>
 vb (gd (isB true v19) (some v11)) fun v20 =>
 vb (gd (isB true v19) (some v15)) fun v21 =>
 vb (gd (isB true v19) (xIdxS 1 v20 v21)) fun v22 =>
 vb (gd (isB true v19) (some v11)) fun v23 =>
 vb (gd (isB true v19) (some v13)) fun v24 =>
 vb (gd (isB true v19) (xIdxS 1 v23 v24)) fun v25 =>
 vb (gd (isB true v19) (xLd v22 h)) fun v26 =>
 vb (gd (isB true v19) (xLd v25 h)) fun v27 =>
 vb (gd (isB true v19) (pcall (F54 n cl v26 v27 (h.fzn)))) fun v28 =>
 vb (xPick v19 v28 ff) fun v29 =>
 bite v29 (F56_0 n cl v15 r10 v11 v13 v17 h) (lp n (F56_16 n cl) [v11, v13, v15, v17] h)
noncomputable def F56_18 (n : Nat) (cl : CL) (r10 : Kt) (y9 : List Value) (h : PH) : R :=
 ucons y9 fun v11 y12 => ucons y12 fun v13 y14 => ucons y14 fun v15 y16 => ucons y16 fun v17 y18 => F56_17 n cl v15 v17 v11 v13 r10 h
noncomputable def F56 (n : Nat) (cl : CL) (a0 a1 a2 a3 : Value) (h : PH) : R :=
 vb (xIdxS 1 a0 a3) fun v1 =>
 vb (xIdxS 1 a0 a1) fun v2 =>
 vb (xLd v1 h) fun v3 =>
 vb (xLd v2 h) fun v4 =>
 vb (xIdxS 1 a0 a1) fun v5 =>
 hb (xSt1 v5 v3 h) fun _ h =>
 vb (xIdxS 1 a0 a3) fun v6 =>
 hb (xSt1 v6 v4 h) fun _ h =>
 vb (xAri Int.add a1 (vN 1)) fun v7 =>
 vb (xAri Int.sub a2 (vN 1)) fun v8 =>
 lp n (F56_18 n cl) [a0, a1, v7, v8] h
noncomputable def D56 (n : Nat) (cl : CL) : CL := fun f xs h => sw f 54 (ucons xs fun b0 xs => ucons xs fun b1 xs => u0 xs (F54 n cl b0 b1 h)) (cl f xs h)
theorem Dk56 {n : Nat} {cl : CL} (hcl : OkCL Try.prog cl) : OkCL Try.prog (D56 n cl) := by
  intro f xs h v h' hx
  rcases sw_ok hx with ⟨rfl, hx⟩ | hx
  · obtain ⟨_, _, rfl, hx⟩ := ucons_ok hx; obtain ⟨_, _, rfl, hx⟩ := ucons_ok hx; obtain ⟨rfl, hx⟩ := u0_ok hx; exact S54 (n := n) (cl := cl) hcl hx
  exact hcl _ _ _ _ _ hx
theorem E56 (n : Nat) (cl : CL) (a0 a1 a2 a3 : Value) (h : PH) : exF Try.prog n (D56 n cl) ⟨[54], [], [(3, [0, 1, 10, 11]), (5, [0, 1, 10, 11]), (13, [0, 1, 10, 11]), (15, [0, 1, 10, 11])], [(1, [0, 1, 2, 3, 4, 5, 6, 8, 9, 10, 7, 11, 12, 13, 14, 15]), (3, [0, 1, 2, 3, 4, 5, 6, 8, 9, 10, 7, 11, 12, 13]), (5, [0, 1, 2, 3, 4, 5, 6, 8, 9, 10, 7, 11, 12, 13, 14]), (8, [0, 1, 2, 3, 4, 5, 6, 8, 9, 10, 7, 11, 12, 13, 14, 15]), (10, [0, 1, 2, 3, 4, 5, 6, 8, 9, 10, 7, 11, 12, 13, 14, 15]), (13, [0, 1, 2, 3, 4, 5, 6, 8, 9, 10, 7, 11, 12, 13]), (15, [0, 1, 2, 3, 4, 5, 6, 8, 9, 10, 7, 11, 12, 13, 14]), (18, [0, 1, 2, 3, 4, 5, 6, 8, 9, 10, 7, 11, 12, 13, 14, 15]), (21, [0, 1, 2, 3, 4, 5, 6, 8, 9, 10, 7, 11, 12, 13, 14, 15])], [], []⟩ Try.f56 [a0, a1, a2, a3] h = F56 n cl a0 a1 a2 a3 h := by kernel_rfl
theorem S56 {n : Nat} {cl : CL} (hcl : OkCL Try.prog cl) {a0 a1 a2 a3 : Value} {h h' : PH} {v : Value} (hx : F56 n cl a0 a1 a2 a3 h = some (v, h')) : (enterable Try.prog 56 = true ∧ ACall Try.prog 56 [a0, a1, a2, a3] h.abs (fun u k => u = v ∧ k = h'.abs)) ∧ Inv h h' :=
  exF_ok (Dk56 hcl) hmx Try.func56 (by kernel_rfl) ((E56 n cl a0 a1 a2 a3 h).trans hx)
-- slices.pdqsortOrdered[int]
noncomputable def F36_0 (n : Nat) (cl : CL) (v3 : Value) (v5 : Value) (v7 : Value) (h : PH) : R :=
 hb (F48 n cl v3 v5 v7 h) fun v17 h =>
 some (Value.tuple ⟨[]⟩, h)
noncomputable def F36_1 (n : Nat) (cl : CL) (v3 : Value) (v5 : Value) (v7 : Value) (h : PH) : R :=
 hb (F49 n cl v3 v5 v7 h) fun v19 h =>
 some (Value.tuple ⟨[]⟩, h)
noncomputable def F36_2 (n : Nat) (cl : CL) (v61 : Value) (v63 : Value) (v65 : Value) (v75 : Value) (r2 : Kt) (v67 : Value) (v69 : Value) (v71 : Value) (h : PH) : R :=
 hb (F55 n cl v61 v63 v65 v75 h) fun v90 h =>
 r2 [v61, v90, v65, v67, v69, v71] h
noncomputable def F36_3 (n : Nat) (cl : CL) (v94 : Value) (v96 : Value) (v61 : Value) (v63 : Value) (v92 : Value) (v67 : Value) (r2 : Kt) (v65 : Value) (v93 : Value) (h : PH) : R :=
 vb (xCmp (fun x y => ile y x) v94 v96) fun v98 =>
 hb (cl 36 [v61, v63, v92, v67] h) fun v99 h =>
 vb (xAri Int.add v92 (vN 1)) fun v100 =>
 r2 [v61, v100, v65, v67, v98, v93] h
noncomputable def F36_4 (n : Nat) (cl : CL) (v95 : Value) (v96 : Value) (v92 : Value) (v61 : Value) (v65 : Value) (v67 : Value) (r2 : Kt) (v63 : Value) (v93 : Value) (h : PH) : R :=
 vb (xCmp (fun x y => ile y x) v95 v96) fun v101 =>
 vb (xAri Int.add v92 (vN 1)) fun v102 =>
 hb (cl 36 [v61, v102, v65, v67] h) fun v103 h =>
 r2 [v61, v63, v92, v67, v101, v93] h
noncomputable def F36_5 (n : Nat) (cl : CL) (v61 : Value) (v63 : Value) (v65 : Value) (v75 : Value) (v73 : Value) (v67 : Value) (r2 : Kt) (h : PH) : R :=
 hb (F56 n cl v61 v63 v65 v75 h) fun v91 h =>
 vb (xExt 0 v91) fun v92 =>
 vb (xExt 1 v91) fun v93 =>
 vb (xAri Int.sub v92 v63) fun v94 =>
 vb (xAri Int.sub v65 v92) fun v95 =>
 vb (abin Try.prog .quo 3 (Operand.tmp 109) (Operand.const (Value.int IntKind.i64 8)) v73 (vN 8)) fun v96 =>
 vb (xCmp ilt v94 v95) fun v97 =>
 bite v97 (F36_3 n cl v94 v96 v61 v63 v92 v67 r2 v65 v93 h) (F36_4 n cl v95 v96 v92 v61 v65 v67 r2 v63 v93 h)
noncomputable def F36_6 (n : Nat) (cl : CL) (v63 : Value) (v61 : Value) (v75 : Value) (v65 : Value) (r2 : Kt) (v67 : Value) (v69 : Value) (v71 : Value) (v73 : Value) (h : PH) : R :=
 vb (xCmp (fun x y => ilt y x) v63 (vN 0)) fun v77 =>
 vb (gd (isB true v77) (some v61)) fun v78 =>
 vb (gd (isB true v77) (some v63)) fun v79 =>
 vb (gd (isB true v77) (xAri Int.sub v79 (vN 1))) fun v80 =>
 vb (gd (isB true v77) (xIdxS 1 v78 v80)) fun v81 =>
 vb (gd (isB true v77) (some v61)) fun v82 =>
 vb (gd (isB true v77) (some v75)) fun v83 =>
 vb (gd (isB true v77) (xIdxS 1 v82 v83)) fun v84 =>
 vb (gd (isB true v77) (xLd v81 h)) fun v85 =>
 vb (gd (isB true v77) (xLd v84 h)) fun v86 =>
 vb (gd (isB true v77) (pcall (F54 n cl v85 v86 (h.fzn)))) fun v87 =>
 vb (gd (isB true v77) (xNot v87)) fun v88 =>
 vb (xPick v77 v88 ff) fun v89 =>
 bite v89 (F36_2 n cl v61 v63 v65 v75 r2 v67 v69 v71 h) (F36_5 n cl v61 v63 v65 v75 v73 v67 r2 h)
noncomputable def F36_7 (n : Nat) (cl : CL) (v41 : Value) (v43 : Value) (v45 : Value) (k60 : Kt) (v47 : Value) (v49 : Value) (v51 : Value) (v53 : Value) (v55 : Value) (h : PH) : R :=
 hb (F53 n cl v41 v43 v45 h) fun v109 h =>
 bite v109 (some (Value.tuple ⟨[]⟩, h)) (k60 [v41, v43, v45, v47, v49, v51, v53, v55] h)
noncomputable def F36_8 (n : Nat) (cl : CL) (r2 : Kt) (y59 : List Value) (h : PH) : R :=
 ucons y59 fun v61 y62 => ucons y62 fun v63 y64 => ucons y64 fun v65 y66 => ucons y66 fun v67 y68 => ucons y68 fun v69 y70 => ucons y70 fun v71 y72 => ucons y72 fun v73 y74 => ucons y74 fun v75 y76 => F36_6 n cl v63 v61 v75 v65 r2 v67 v69 v71 v73 h
noncomputable def F36_9 (n : Nat) (cl : CL) (v49 : Value) (v51 : Value) (v57 : Value) (v41 : Value) (v43 : Value) (v45 : Value) (v47 : Value) (v53 : Value) (v55 : Value) (h : PH) (k60 : Kt) : R :=
 vb (gd (isB true v49) (some v51)) fun v104 =>
 vb (xPick v49 v104 ff) fun v105 =>
 vb (gd (isB true v105) (some v57)) fun v106 =>
 vb (gd (isB true v105) (xCmp ieq v106 (vN 1))) fun v107 =>
 vb (xPick v105 v107 ff) fun v108 =>
 bite v108 (F36_7 n cl v41 v43 v45 k60 v47 v49 v51 v53 v55 h) (k60 [v41, v43, v45, v47, v49, v51, v53, v55] h)
noncomputable def F36_10 (n : Nat) (cl : CL) (v22 : Value) (v24 : Value) (v26 : Value) (v37 : Value) (k40 : Kt) (v28 : Value) (v30 : Value) (v32 : Value) (v34 : Value) (h : PH) : R :=
 hb (F52 n cl v22 v24 v26 h) fun v111 h =>
 vb (xAri Int.sub v26 (vN 1)) fun v112 =>
 vb (xAri Int.sub v37 v24) fun v113 =>
 vb (xAri Int.sub v112 v113) fun v114 =>
 k40 [v22, v24, v26, v28, v30, v32, v34, v114, (vN 1)] h
noncomputable def F36_11 (n : Nat) (cl : CL) (r2 : Kt) (y39 : List Value) (h : PH) : R :=
 ucons y39 fun v41 y42 => ucons y42 fun v43 y44 => ucons y44 fun v45 y46 => ucons y46 fun v47 y48 => ucons y48 fun v49 y50 => ucons y50 fun v51 y52 => ucons y52 fun v53 y54 => ucons y54 fun v55 y56 => ucons y56 fun v57 y58 => jn (F36_8 n cl r2) (F36_9 n cl v49 v51 v57 v41 v43 v45 v47 v53 v55 h)
noncomputable def F36_12 (n : Nat) (cl : CL) (v38 : Value) (v22 : Value) (v24 : Value) (v26 : Value) (v37 : Value) (v28 : Value) (v30 : Value) (v32 : Value) (v34 : Value) (h : PH) (k40 : Kt) : R :=
 vb (xCmp ieq v38 (vN 2)) fun v110 =>
 bite v110 (F36_10 n cl v22 v24 v26 v37 k40 v28 v30 v32 v34 h) (k40 [v22, v24, v26, v28, v30, v32, v34, v37, v38] h)
noncomputable def F36_13 (n : Nat) (cl : CL) (v22 : Value) (v24 : Value) (v26 : Value) (r2 : Kt) (v28 : Value) (v30 : Value) (v32 : Value) (v34 : Value) (h : PH) : R :=
 hb (F51 n cl v22 v24 v26 h) fun v36 h =>
 vb (xExt 0 v36) fun v37 =>
 vb (xExt 1 v36) fun v38 =>
 jn (F36_11 n cl r2) (F36_12 n cl v38 v22 v24 v26 v37 v28 v30 v32 v34 h)
noncomputable def F36_14 (n : Nat) (cl : CL) (v3 : Value) (v5 : Value) (v7 : Value) (v9 : Value) (k21 : Kt) (v11 : Value) (v13 : Value) (v15 : Value) (h : PH) : R :=
 hb (F50 n cl v3 v5 v7 h) fun v116 h =>
 vb (xAri Int.sub v9 (vN 1)) fun v117 =>
 k21 [v3, v5, v7, v117, v11, v13, v15] h
noncomputable def F36_15 (n : Nat) (cl : CL) (r2 : Kt) (y20 : List Value) (h : PH) : R :=
 ucons y20 fun v22 y23 => ucons y23 fun v24 y25 => ucons y25 fun v26 y27 => ucons y27 fun v28 y29 => ucons y29 fun v30 y31 => ucons y31 fun v32 y33 => ucons y33 fun v34 y35 => F36_13 n cl v22 v24 v26 r2 v28 v30 v32 v34 h
noncomputable def F36_16 (n : Nat) (cl : CL) (v11 : Value) (v3 : Value) (v5 : Value) (v7 : Value) (v9 : Value) (v13 : Value) (v15 : Value) (h : PH) (k21 : Kt) : R :=
 vb (xNot v11) fun v115 =>
 bite v115 (F36_14 n cl v3 v5 v7 v9 k21 v11 v13 v15 h) (k21 [v3, v5, v7, v9, v11, v13, v15] h)
noncomputable def F36_17 (n : Nat) (cl : CL) (v9 : Value) (v3 : Value) (v5 : Value) (v7 : Value) (r2 : Kt) (v11 : Value) (v13 : Value) (v15 : Value) (h : PH) : R :=
 vb (xCmp ieq v9 (vN 0)) fun v18 =>
 bite v18 (F36_1 n cl v3 v5 v7 h) (jn (F36_15 n cl r2) (F36_16 n cl v11 v3 v5 v7 v9 v13 v15 h))
noncomputable def F36_18 (n : Nat) (cl : CL) (v7 : Value) (v5 : Value) (v3 : Value) (v9 : Value) (r2 : Kt) (v11 : Value) (v13 : Value) (h : PH) : R :=
 vb (xAri Int.sub v7 v5) fun v15 =>
 vb (xCmp ile v15 (vN 12)) fun v16 =>
 bite v16 (F36_0 n cl v3 v5 v7 h) (F36_17 n cl v9 v3 v5 v7 r2 v11 v13 v15 h)
noncomputable def F36_19 (n : Nat) (cl : CL) (r2 : Kt) (y1 : List Value) (h : PH) : R :=
 ucons y1 fun v3 y4 => ucons y4 fun v5 y6 => ucons y6 fun v7 y8 => ucons y8 fun v9 y10 => ucons y10 fun v11 y12 => ucons y12 fun v13 y14 => F36_18 n cl v7 v5 v3 v9 r2 v11 v13 h
noncomputable def F36 (n : Nat) (cl : CL) (a0 a1 a2 a3 : Value) (h : PH) : R :=
 lp n (F36_19 n cl) [a0, a1, a2, a3, tt, tt] h
noncomputable def D36 (n : Nat) (cl : CL) : CL := fun f xs h => sw f 48 (ucons xs fun b0 xs => ucons xs fun b1 xs => ucons xs fun b2 xs => u0 xs (F48 n cl b0 b1 b2 h)) (sw f 49 (ucons xs fun b0 xs => ucons xs fun b1 xs => ucons xs fun b2 xs => u0 xs (F49 n cl b0 b1 b2 h)) (sw f 51 (ucons xs fun b0 xs => ucons xs fun b1 xs => ucons xs fun b2 xs => u0 xs (F51 n cl b0 b1 b2 h)) (sw f 54 (ucons xs fun b0 xs => ucons xs fun b1 xs => u0 xs (F54 n cl b0 b1 h)) (sw f 55 (ucons xs fun b0 xs => ucons xs fun b1 xs => ucons xs fun b2 xs => ucons xs fun b3 xs => u0 xs (F55 n cl b0 b1 b2 b3 h)) (sw f 56 (ucons xs fun b0 xs => ucons xs fun b1 xs => ucons xs fun b2 xs => ucons xs fun b3 xs => u0 xs (F56 n cl b0 b1 b2 b3 h)) (sw f 53 (ucons xs fun b0 xs => ucons xs fun b1 xs => ucons xs fun b2 xs => u0 xs (F53 n cl b0 b1 b2 h)) (sw f 52 (ucons xs fun b0 xs => ucons xs fun b1 xs => ucons xs fun b2 xs => u0 xs (F52 n cl b0 b1 b2 h)) (sw f 50 (ucons xs fun b0 xs => ucons xs fun b1 xs => ucons xs fun b2 xs => u0 xs (F50 n cl b0 b1 b2 h)) (cl f xs h)))))))))
theorem Dk36 {n : Nat} {cl : CL} (hcl : OkCL Try.prog cl) : OkCL Try.prog (D36 n cl) := by
  intro f xs h v h' hx
  rcases sw_ok hx with ⟨rfl, hx⟩ | hx
  · obtain ⟨_, _, rfl, hx⟩ := ucons_ok hx; obtain ⟨_, _, rfl, hx⟩ := ucons_ok hx; obtain ⟨_, _, rfl, hx⟩ := ucons_ok hx; obtain ⟨rfl, hx⟩ := u0_ok hx; exact S48 (n := n) (cl := cl) hcl hx
  rcases sw_ok hx with ⟨rfl, hx⟩ | hx
  · obtain ⟨_, _, rfl, hx⟩ := ucons_ok hx; obtain ⟨_, _, rfl, hx⟩ := ucons_ok hx; obtain ⟨_, _, rfl, hx⟩ := ucons_ok hx; obtain ⟨rfl, hx⟩ := u0_ok hx; exact S49 (n := n) (cl := cl) hcl hx
  rcases sw_ok hx with ⟨rfl, hx⟩ | hx
  · obtain ⟨_, _, rfl, hx⟩ := ucons_ok hx; obtain ⟨_, _, rfl, hx⟩ := ucons_ok hx; obtain ⟨_, _, rfl, hx⟩ := ucons_ok hx; obtain ⟨rfl, hx⟩ := u0_ok hx; exact S51 (n := n) (cl := cl) hcl hx
  rcases sw_ok hx with ⟨rfl, hx⟩ | hx
  · obtain ⟨_, _, rfl, hx⟩ := ucons_ok hx; obtain ⟨_, _, rfl, hx⟩ := ucons_ok hx; obtain ⟨rfl, hx⟩ := u0_ok hx; exact S54 (n := n) (cl := cl) hcl hx
  rcases sw_ok hx with ⟨rfl, hx⟩ | hx
  · obtain ⟨_, _, rfl, hx⟩ := ucons_ok hx; obtain ⟨_, _, rfl, hx⟩ := ucons_ok hx; obtain ⟨_, _, rfl, hx⟩ := ucons_ok hx; obtain ⟨_, _, rfl, hx⟩ := ucons_ok hx; obtain ⟨rfl, hx⟩ := u0_ok hx; exact S55 (n := n) (cl := cl) hcl hx
  rcases sw_ok hx with ⟨rfl, hx⟩ | hx
  · obtain ⟨_, _, rfl, hx⟩ := ucons_ok hx; obtain ⟨_, _, rfl, hx⟩ := ucons_ok hx; obtain ⟨_, _, rfl, hx⟩ := ucons_ok hx; obtain ⟨_, _, rfl, hx⟩ := ucons_ok hx; obtain ⟨rfl, hx⟩ := u0_ok hx; exact S56 (n := n) (cl := cl) hcl hx
  rcases sw_ok hx with ⟨rfl, hx⟩ | hx
  · obtain ⟨_, _, rfl, hx⟩ := ucons_ok hx; obtain ⟨_, _, rfl, hx⟩ := ucons_ok hx; obtain ⟨_, _, rfl, hx⟩ := ucons_ok hx; obtain ⟨rfl, hx⟩ := u0_ok hx; exact S53 (n := n) (cl := cl) hcl hx
  rcases sw_ok hx with ⟨rfl, hx⟩ | hx
  · obtain ⟨_, _, rfl, hx⟩ := ucons_ok hx; obtain ⟨_, _, rfl, hx⟩ := ucons_ok hx; obtain ⟨_, _, rfl, hx⟩ := ucons_ok hx; obtain ⟨rfl, hx⟩ := u0_ok hx; exact S52 (n := n) (cl := cl) hcl hx
  rcases sw_ok hx with ⟨rfl, hx⟩ | hx
  · obtain ⟨_, _, rfl, hx⟩ := ucons_ok hx; obtain ⟨_, _, rfl, hx⟩ := ucons_ok hx; obtain ⟨_, _, rfl, hx⟩ := ucons_ok hx; obtain ⟨rfl, hx⟩ := u0_ok hx; exact S50 (n := n) (cl := cl) hcl hx
  exact hcl _ _ _ _ _ hx
theorem E36 (n : Nat) (cl : CL) (a0 a1 a2 a3 : Value) (h : PH) : exF Try.prog n (D36 n cl) ⟨[54], [], [(2, [0, 1, 2, 3, 8, 9]), (10, [0, 1, 2, 3, 8, 9, 10]), (15, [0, 1, 2, 3, 8, 9, 10, 11, 12]), (17, [0, 1, 2, 3, 8, 9, 10, 11])], [(17, [0, 1, 2, 3, 4, 5, 6, 8, 9, 10, 7, 11, 12, 13, 14])], [], []⟩ Try.f36 [a0, a1, a2, a3] h = F36 n cl a0 a1 a2 a3 h := by kernel_rfl
theorem S36 {n : Nat} {cl : CL} (hcl : OkCL Try.prog cl) {a0 a1 a2 a3 : Value} {h h' : PH} {v : Value} (hx : F36 n cl a0 a1 a2 a3 h = some (v, h')) : (enterable Try.prog 36 = true ∧ ACall Try.prog 36 [a0, a1, a2, a3] h.abs (fun u k => u = v ∧ k = h'.abs)) ∧ Inv h h' :=
  exF_ok (Dk36 hcl) hmx Try.func36 (by kernel_rfl) ((E36 n cl a0 a1 a2 a3 h).trans hx)
-- slices.Sort[[]int,int]
noncomputable def F23 (n : Nat) (cl : CL) (a0 : Value) (h : PH) : R :=
 vb (xLenS a0) fun v1 =>
 vb (xConv Try.prog 3 77 v1) fun v2 =>
 vb (pcall (F37 n cl v2 (h.fzn))) fun v3 =>
 hb (cl 36 [a0, (vN 0), v1, v3] h) fun v4 h =>
 some (Value.tuple ⟨[]⟩, h)
noncomputable def D23 (n : Nat) (cl : CL) : CL := fun f xs h => sw f 37 (ucons xs fun b0 xs => u0 xs (F37 n cl b0 h)) (cl f xs h)
theorem Dk23 {n : Nat} {cl : CL} (hcl : OkCL Try.prog cl) : OkCL Try.prog (D23 n cl) := by
  intro f xs h v h' hx
  rcases sw_ok hx with ⟨rfl, hx⟩ | hx
  · obtain ⟨_, _, rfl, hx⟩ := ucons_ok hx; obtain ⟨rfl, hx⟩ := u0_ok hx; exact S37 (n := n) (cl := cl) hcl hx
  exact hcl _ _ _ _ _ hx
theorem E23 (n : Nat) (cl : CL) (a0 : Value) (h : PH) : exF Try.prog n (D23 n cl) ⟨[37], [], [], [], [], []⟩ Try.f23 [a0] h = F23 n cl a0 h := by kernel_rfl
theorem S23 {n : Nat} {cl : CL} (hcl : OkCL Try.prog cl) {a0 : Value} {h h' : PH} {v : Value} (hx : F23 n cl a0 h = some (v, h')) : (enterable Try.prog 23 = true ∧ ACall Try.prog 23 [a0] h.abs (fun u k => u = v ∧ k = h'.abs)) ∧ Inv h h' :=
  exF_ok (Dk23 hcl) hmx Try.func23 (by kernel_rfl) ((E23 n cl a0 h).trans hx)
-- (*undergrowth/items.maker).lead
noncomputable def F10_0 (n : Nat) (cl : CL) (v44 : Value) (r14 : Kt) (v32 : Value) (v34 : Value) (v36 : Value) (v38 : Value) (v40 : Value) (v42 : Value) (h : PH) : R :=
 vb (xAri Int.add v44 (vN 1)) fun v46 =>
 r14 [v32, v34, v36, v38, v40, v42, v46] h
noncomputable def F10_1 (n : Nat) (cl : CL) (v64 : Value) (v70 : Value) (v68 : Value) (k31 : Kt) (v60 : Value) (v62 : Value) (v66 : Value) (v72 : Value) (v74 : Value) (v76 : Value) (h : PH) : R :=
 vb (xLkp Try.prog 3 35 false v64 v70 h) fun v78 =>
 vb (xFld 0 v68) fun v79 =>
 vb (xLd v79 h) fun v80 =>
 vb (xFld 1 v68) fun v81 =>
 vb (xLd v81 h) fun v82 =>
 vb (xAri Int.add v82 (vN 1)) fun v83 =>
 vb (abuild Try.prog 48 [(0, v80), (1, v83)]) fun v84 =>
 hb (xBS 1 (bsRow Try.prog 35 1 [(0, v84)]) h) fun v85 h =>
 hb (xApp (appInfo Try.prog #[35, 35]) v78 v85 h) fun v86 h =>
 hb (xMUpd Try.prog 3 v64 v70 v86 h) fun _ h =>
 k31 [v60, v62, v64, v66, v72, v74, v76] h
noncomputable def F10_2 (n : Nat) (cl : CL) (v55 : Value) (v21 : Value) (k59 : Kt) (v15 : Value) (v17 : Value) (v19 : Value) (v49 : Value) (v23 : Value) (v25 : Value) (v27 : Value) (h : PH) : R :=
 hb (xBS 1 (bsRow Try.prog 23 1 [(0, v55)]) h) fun v90 h =>
 hb (xApp (appInfo Try.prog #[23, 23]) v21 v90 h) fun v91 h =>
 k59 [v15, v17, v19, v91, v49, v55, v23, v25, v27] h
noncomputable def F10_3 (n : Nat) (cl : CL) (k31 : Kt) (y58 : List Value) (h : PH) : R :=
 ucons y58 fun v60 y61 => ucons y61 fun v62 y63 => ucons y63 fun v64 y65 => ucons y65 fun v66 y67 => ucons y67 fun v68 y69 => ucons y69 fun v70 y71 => ucons y71 fun v72 y73 => ucons y73 fun v74 y75 => ucons y75 fun v76 y77 => F10_1 n cl v64 v70 v68 k31 v60 v62 v66 v72 v74 v76 h
noncomputable def F10_4 (n : Nat) (cl : CL) (v19 : Value) (v55 : Value) (v21 : Value) (v15 : Value) (v17 : Value) (v49 : Value) (v23 : Value) (v25 : Value) (v27 : Value) (h : PH) (k59 : Kt) : R :=
 vb (xLkp Try.prog 3 35 false v19 v55 h) fun v87 =>
 vb (xLenS v87) fun v88 =>
 vb (xCmp ieq v88 (vN 0)) fun v89 =>
 bite v89 (F10_2 n cl v55 v21 k59 v15 v17 v19 v49 v23 v25 v27 h) (k59 [v15, v17, v19, v21, v49, v55, v23, v25, v27] h)
noncomputable def F10_5 (n : Nat) (cl : CL) (r14 : Kt) (y30 : List Value) (h : PH) : R :=
 ucons y30 fun v32 y33 => ucons y33 fun v34 y35 => ucons y35 fun v36 y37 => ucons y37 fun v38 y39 => ucons y39 fun v40 y41 => ucons y41 fun v42 y43 => ucons y43 fun v44 y45 => F10_0 n cl v44 r14 v32 v34 v36 v38 v40 v42 h
noncomputable def F10_6 (n : Nat) (cl : CL) (v23 : Value) (v27 : Value) (v15 : Value) (v17 : Value) (v19 : Value) (v21 : Value) (v25 : Value) (h : PH) (k31 : Kt) : R :=
 vb (xIdxS 2 v23 v27) fun v47 =>
 vb (xLdA 2 v47 h) fun v48 =>
 hb (xAlloc (zcells Try.prog 48) h) fun v49 h =>
 hb (xStA 2 v49 v48 h) fun _ h =>
 vb (xNil v15) fun v50 =>
 vb (xFld 0 v50) fun v51 =>
 vb (xLdA 7 v51 h) fun v52 =>
 vb (xLdA 2 v49 h) fun v53 =>
 vb (pcall (F22 n cl v52 v53 (h.fzn))) fun v54 =>
 vb (xExt 0 v54) fun v55 =>
 vb (xExt 1 v54) fun v56 =>
 vb (xNot v56) fun v57 =>
 bite v57 (k31 [v15, v17, v19, v21, v23, v25, v27] h) (jn (F10_3 n cl k31) (F10_4 n cl v19 v55 v21 v15 v17 v49 v23 v25 v27 h))
noncomputable def F10_7 (n : Nat) (cl : CL) (v102 : Value) (v106 : Value) (v100 : Value) (v96 : Value) (v98 : Value) (r95 : Kt) (v104 : Value) (h : PH) : R :=
 vb (xIdxS 1 v102 v106) fun v109 =>
 vb (xLd v109 h) fun v110 =>
 vb (xLkp Try.prog 3 35 false v100 v110 h) fun v111 =>
 hb (F24 n cl v111 h) fun v112 h =>
 hb (F9 n cl v96 v112 h) fun v113 h =>
 vb (xNil v96) fun v114 =>
 vb (xFld 8 v114) fun v115 =>
 vb (xNil v96) fun v116 =>
 vb (xFld 8 v116) fun v117 =>
 vb (xLd v115 h) fun v118 =>
 vb (xLd v117 h) fun v119 =>
 vb (xIdxS 3 v119 v98) fun v120 =>
 vb (xFld 1 v120) fun v121 =>
 vb (xLd v121 h) fun v122 =>
 hb (xBS 1 (bsRow Try.prog 23 1 [(0, v110)]) h) fun v123 h =>
 hb (xApp (appInfo Try.prog #[23, 23]) v122 v123 h) fun v124 h =>
 lchk (xLd v115 h) v118 <|
 vb (xIdxS 3 v118 v98) fun v125 =>
 vb (xFld 1 v125) fun v126 =>
 hb (xSt1 v126 v124 h) fun _ h =>
 vb (xNil v96) fun v127 =>
 vb (xFld 8 v127) fun v128 =>
 vb (xNil v96) fun v129 =>
 vb (xFld 8 v129) fun v130 =>
 vb (xLd v128 h) fun v131 =>
 vb (xLd v130 h) fun v132 =>
 vb (xIdxS 3 v132 v98) fun v133 =>
 vb (xFld 2 v133) fun v134 =>
 vb (xLd v134 h) fun v135 =>
 hb (xBS 1 (bsRow Try.prog 23 1 [(0, v113)]) h) fun v136 h =>
 hb (xApp (appInfo Try.prog #[23, 23]) v135 v136 h) fun v137 h =>
 lchk (xLd v128 h) v131 <|
 vb (xIdxS 3 v131 v98) fun v138 =>
 vb (xFld 2 v138) fun v139 =>
 hb (xSt1 v139 v137 h) fun _ h =>
 vb (xAri Int.add v106 (vN 1)) fun v140 =>
 r95 [v96, v98, v100, v102, v104, v140] h
noncomputable def F10_8 (n : Nat) (cl : CL) (v106 : Value) (v104 : Value) (v102 : Value) (v100 : Value) (v96 : Value) (v98 : Value) (r95 : Kt) (h : PH) : R :=
 vb (xCmp ilt v106 v104) fun v108 =>
 bite v108 (F10_7 n cl v102 v106 v100 v96 v98 r95 v104 h) (some (Value.tuple ⟨[]⟩, h))
noncomputable def F10_9 (n : Nat) (cl : CL) (r95 : Kt) (y94 : List Value) (h : PH) : R :=
 ucons y94 fun v96 y97 => ucons y97 fun v98 y99 => ucons y99 fun v100 y101 => ucons y101 fun v102 y103 => ucons y103 fun v104 y105 => ucons y105 fun v106 y107 => F10_8 n cl v106 v104 v102 v100 v96 v98 r95 h
noncomputable def F10_10 (n : Nat) (cl : CL) (v21 : Value) (v15 : Value) (v17 : Value) (v19 : Value) (h : PH) : R :=
 hb (F23 n cl v21 h) fun v92 h =>
 vb (xLenS v21) fun v93 =>
 lp n (F10_9 n cl) [v15, v17, v19, v21, v93, (vN 0)] h
noncomputable def F10_11 (n : Nat) (cl : CL) (v27 : Value) (v25 : Value) (r14 : Kt) (v23 : Value) (v15 : Value) (v17 : Value) (v19 : Value) (v21 : Value) (h : PH) : R :=
 vb (xCmp ilt v27 v25) fun v29 =>
 bite v29 (jn (F10_5 n cl r14) (F10_6 n cl v23 v27 v15 v17 v19 v21 v25 h)) (F10_10 n cl v21 v15 v17 v19 h)
noncomputable def F10_12 (n : Nat) (cl : CL) (r14 : Kt) (y13 : List Value) (h : PH) : R :=
 ucons y13 fun v15 y16 => ucons y16 fun v17 y18 => ucons y18 fun v19 y20 => ucons y20 fun v21 y22 => ucons y22 fun v23 y24 => ucons y24 fun v25 y26 => ucons y26 fun v27 y28 => F10_11 n cl v27 v25 r14 v23 v15 v17 v19 v21 h
noncomputable def F10 (n : Nat) (cl : CL) (a0 a1 : Value) (h : PH) : R :=
 hb (xMMk h) fun v1 h =>
 vb (xNil a0) fun v2 =>
 vb (xFld 0 v2) fun v3 =>
 vb (xNil a0) fun v4 =>
 vb (xFld 8 v4) fun v5 =>
 vb (xLdA 7 v3 h) fun v6 =>
 vb (xLd v5 h) fun v7 =>
 vb (xIdxS 3 v7 a1) fun v8 =>
 vb (xFld 0 v8) fun v9 =>
 vb (xLd v9 h) fun v10 =>
 hb (fcall h (F12 n cl v6 v10 (h.fzn))) fun v11 h =>
 vb (xLenS v11) fun v12 =>
 lp n (F10_12 n cl) [a0, a1, v1, nils, v11, v12, (vN 0)] h
noncomputable def D10 (n : Nat) (cl : CL) : CL := fun f xs h => sw f 12 (ucons xs fun b0 xs => ucons xs fun b1 xs => u0 xs (F12 n cl b0 b1 h)) (sw f 22 (ucons xs fun b0 xs => ucons xs fun b1 xs => u0 xs (F22 n cl b0 b1 h)) (sw f 23 (ucons xs fun b0 xs => u0 xs (F23 n cl b0 h)) (sw f 24 (ucons xs fun b0 xs => u0 xs (F24 n cl b0 h)) (sw f 9 (ucons xs fun b0 xs => ucons xs fun b1 xs => u0 xs (F9 n cl b0 b1 h)) (cl f xs h)))))
theorem Dk10 {n : Nat} {cl : CL} (hcl : OkCL Try.prog cl) : OkCL Try.prog (D10 n cl) := by
  intro f xs h v h' hx
  rcases sw_ok hx with ⟨rfl, hx⟩ | hx
  · obtain ⟨_, _, rfl, hx⟩ := ucons_ok hx; obtain ⟨_, _, rfl, hx⟩ := ucons_ok hx; obtain ⟨rfl, hx⟩ := u0_ok hx; exact S12 (n := n) (cl := cl) hcl hx
  rcases sw_ok hx with ⟨rfl, hx⟩ | hx
  · obtain ⟨_, _, rfl, hx⟩ := ucons_ok hx; obtain ⟨_, _, rfl, hx⟩ := ucons_ok hx; obtain ⟨rfl, hx⟩ := u0_ok hx; exact S22 (n := n) (cl := cl) hcl hx
  rcases sw_ok hx with ⟨rfl, hx⟩ | hx
  · obtain ⟨_, _, rfl, hx⟩ := ucons_ok hx; obtain ⟨rfl, hx⟩ := u0_ok hx; exact S23 (n := n) (cl := cl) hcl hx
  rcases sw_ok hx with ⟨rfl, hx⟩ | hx
  · obtain ⟨_, _, rfl, hx⟩ := ucons_ok hx; obtain ⟨rfl, hx⟩ := u0_ok hx; exact S24 (n := n) (cl := cl) hcl hx
  rcases sw_ok hx with ⟨rfl, hx⟩ | hx
  · obtain ⟨_, _, rfl, hx⟩ := ucons_ok hx; obtain ⟨_, _, rfl, hx⟩ := ucons_ok hx; obtain ⟨rfl, hx⟩ := u0_ok hx; exact S9 (n := n) (cl := cl) hcl hx
  exact hcl _ _ _ _ _ hx
theorem E10 (n : Nat) (cl : CL) (a0 a1 : Value) (h : PH) : exF Try.prog n (D10 n cl) ⟨[22], [12], [(3, [0, 1, 4, 5, 26, 27, 28]), (9, [0, 1, 4, 5, 7, 8, 26, 27, 28]), (10, [0, 1, 4, 5, 26, 27, 28]), (13, [0, 1, 4, 68, 69, 70])], [(2, [0, 1, 2, 4, 5, 6, 8, 14, 3, 7, 9, 10, 11, 12, 13]), (5, [0, 1, 2, 3, 4, 5, 6, 7, 8, 9, 10]), (16, [0, 1, 2, 4, 5, 6, 7, 9, 13, 3, 8, 10, 11, 12, 14, 15, 16, 17, 18]), (17, [0, 1, 2, 4, 5, 6, 7, 9, 13, 3, 8, 10, 11, 12, 14, 15, 16, 17, 18])], [(16, [3, 15]), (17, [3, 15])], []⟩ Try.f10 [a0, a1] h = F10 n cl a0 a1 h := by kernel_rfl
theorem S10 {n : Nat} {cl : CL} (hcl : OkCL Try.prog cl) {a0 a1 : Value} {h h' : PH} {v : Value} (hx : F10 n cl a0 a1 h = some (v, h')) : (enterable Try.prog 10 = true ∧ ACall Try.prog 10 [a0, a1] h.abs (fun u k => u = v ∧ k = h'.abs)) ∧ Inv h h' :=
  exF_ok (Dk10 hcl) hmx Try.func10 (by kernel_rfl) ((E10 n cl a0 a1 h).trans hx)
-- undergrowth/items.States
noncomputable def F5_0 (n : Nat) (cl : CL) (v18 : Value) (r15 : Kt) (v16 : Value) (h : PH) : R :=
 vb (xAri Int.add v18 (vN 1)) fun v31 =>
 r15 [v16, v31] h
noncomputable def F5_1 (n : Nat) (cl : CL) (v16 : Value) (v18 : Value) (r15 : Kt) (h : PH) : R :=
 hb (F10 n cl v16 v18 h) fun v25 h =>
 vb (xNil v16) fun v26 =>
 vb (xFld 8 v26) fun v27 =>
 vb (xLd v27 h) fun v28 =>
 vb (xLenS v28) fun v29 =>
 vb (xCmp (fun x y => ilt y x) v29 (vN 2000)) fun v30 =>
 bite v30 (some (Value.tuple ⟨[nils, (vN 3)]⟩, h)) (F5_0 n cl v18 r15 v16 h)
noncomputable def F5_2 (n : Nat) (cl : CL) (v16 : Value) (h : PH) : R :=
 vb (xNil v16) fun v32 =>
 vb (xFld 8 v32) fun v33 =>
 vb (xLd v33 h) fun v34 =>
 some (Value.tuple ⟨[v34, (vN 0)]⟩, h)
noncomputable def F5_3 (n : Nat) (cl : CL) (v16 : Value) (v18 : Value) (r15 : Kt) (h : PH) : R :=
 vb (xNil v16) fun v20 =>
 vb (xFld 8 v20) fun v21 =>
 vb (xLd v21 h) fun v22 =>
 vb (xLenS v22) fun v23 =>
 vb (xCmp ilt v18 v23) fun v24 =>
 bite v24 (F5_1 n cl v16 v18 r15 h) (F5_2 n cl v16 h)
noncomputable def F5_4 (n : Nat) (cl : CL) (v1 : Value) (h : PH) : R :=
 vb (xLdA 7 v1 h) fun v7 =>
 hb (xMMk h) fun v8 h =>
 vb (abuild Try.prog 45 [(0, v7), (1, v8)]) fun v9 =>
 hb (xBox v9 h) fun v10 h =>
 vb (abuild Try.prog 48 [(0, (vM 0))]) fun v11 =>
 hb (xBS 1 (bsRow Try.prog 35 1 [(0, v11)]) h) fun v12 h =>
 hb (F9 n cl v10 v12 h) fun v13 h =>
 lp n (fun r15 y14 h => ucons y14 fun v16 y17 => ucons y17 fun v18 y19 => F5_3 n cl v16 v18 r15 h) [v10, (vN 0)] h
noncomputable def F5 (n : Nat) (cl : CL) (a0 : Value) (h : PH) : R :=
 hb (xBox a0 h) fun v1 h =>
 vb (xLdA 7 v1 h) fun v2 =>
 vb (pcall (F8 n cl v2 (h.fzn))) fun v3 =>
 vb (xExt 0 v3) fun v4 =>
 vb (xExt 1 v3) fun v5 =>
 vb (xCmp ine v5 (vN 0)) fun v6 =>
 bite v6 (some (Value.tuple ⟨[nils, v5]⟩, h)) (F5_4 n cl v1 h)
noncomputable def D5 (n : Nat) (cl : CL) : CL := fun f xs h => sw f 8 (ucons xs fun b0 xs => u0 xs (F8 n cl b0 h)) (sw f 9 (ucons xs fun b0 xs => ucons xs fun b1 xs => u0 xs (F9 n cl b0 b1 h)) (sw f 10 (ucons xs fun b0 xs => ucons xs fun b1 xs => u0 xs (F10 n cl b0 b1 h)) (cl f xs h)))
theorem Dk5 {n : Nat} {cl : CL} (hcl : OkCL Try.prog cl) : OkCL Try.prog (D5 n cl) := by
  intro f xs h v h' hx
  rcases sw_ok hx with ⟨rfl, hx⟩ | hx
  · obtain ⟨_, _, rfl, hx⟩ := ucons_ok hx; obtain ⟨rfl, hx⟩ := u0_ok hx; exact S8 (n := n) (cl := cl) hcl hx
  rcases sw_ok hx with ⟨rfl, hx⟩ | hx
  · obtain ⟨_, _, rfl, hx⟩ := ucons_ok hx; obtain ⟨_, _, rfl, hx⟩ := ucons_ok hx; obtain ⟨rfl, hx⟩ := u0_ok hx; exact S9 (n := n) (cl := cl) hcl hx
  rcases sw_ok hx with ⟨rfl, hx⟩ | hx
  · obtain ⟨_, _, rfl, hx⟩ := ucons_ok hx; obtain ⟨_, _, rfl, hx⟩ := ucons_ok hx; obtain ⟨rfl, hx⟩ := u0_ok hx; exact S10 (n := n) (cl := cl) hcl hx
  exact hcl _ _ _ _ _ hx
theorem E5 (n : Nat) (cl : CL) (a0 : Value) (h : PH) : exF Try.prog n (D5 n cl) ⟨[8], [], [(7, [6, 7])], [], [], []⟩ Try.f5 [a0] h = F5 n cl a0 h := by kernel_rfl
theorem S5 {n : Nat} {cl : CL} (hcl : OkCL Try.prog cl) {a0 : Value} {h h' : PH} {v : Value} (hx : F5 n cl a0 h = some (v, h')) : (enterable Try.prog 5 = true ∧ ACall Try.prog 5 [a0] h.abs (fun u k => u = v ∧ k = h'.abs)) ∧ Inv h h' :=
  exF_ok (Dk5 hcl) hmx Try.func5 (by kernel_rfl) ((E5 n cl a0 h).trans hx)
-- undergrowth/items.is
noncomputable def F16 (n : Nat) (cl : CL) (a0 a1 : Value) (h : PH) : R :=
 hb (xBox a0 h) fun v1 h =>
 hb (xBox a1 h) fun v2 h =>
 vb (xFld 0 v2) fun v3 =>
 vb (xLd v3 h) fun v4 =>
 vb (xCmp (fun x y => ile y x) v4 (vM 0)) fun v5 =>
 vb (gd (isB true v5) (xFld 0 v2)) fun v6 =>
 vb (gd (isB true v5) (xFld 3 v1)) fun v7 =>
 vb (gd (isB true v5) (xLd v6 h)) fun v8 =>
 vb (gd (isB true v5) (xLd v7 h)) fun v9 =>
 vb (gd (isB true v5) (xLenS v9)) fun v10 =>
 vb (gd (isB true v5) (xCmp ilt v8 v10)) fun v11 =>
 vb (xPick v5 v11 ff) fun v12 =>
 vb (gd (isB true v12) (xFld 1 v2)) fun v13 =>
 vb (gd (isB true v12) (xLd v13 h)) fun v14 =>
 vb (gd (isB true v12) (xCmp (fun x y => ile y x) v14 (vN 0))) fun v15 =>
 vb (xPick v12 v15 ff) fun v16 =>
 vb (gd (isB true v16) (xFld 1 v2)) fun v17 =>
 vb (gd (isB true v16) (xFld 0 v2)) fun v18 =>
 vb (gd (isB true v16) (xLd v17 h)) fun v19 =>
 vb (gd (isB true v16) (xLdA 7 v1 h)) fun v20 =>
 vb (gd (isB true v16) (xLd v18 h)) fun v21 =>
 hb (gh (isB true v16) h (fcall h (F27 n cl v20 v21 (h.fzn)))) fun v22 h =>
 lchk (gd (isB true v16) (xLd v17 h)) v19 <|
 vb (gd (isB true v16) (xLenS v22)) fun v23 =>
 vb (gd (isB true v16) (xCmp ile v19 v23)) fun v24 =>
 vb (xPick v16 v24 ff) fun v25 =>
 some (v25, h)
noncomputable def D16 (n : Nat) (cl : CL) : CL := fun f xs h => sw f 27 (ucons xs fun b0 xs => ucons xs fun b1 xs => u0 xs (F27 n cl b0 b1 h)) (cl f xs h)
theorem Dk16 {n : Nat} {cl : CL} (hcl : OkCL Try.prog cl) : OkCL Try.prog (D16 n cl) := by
  intro f xs h v h' hx
  rcases sw_ok hx with ⟨rfl, hx⟩ | hx
  · obtain ⟨_, _, rfl, hx⟩ := ucons_ok hx; obtain ⟨_, _, rfl, hx⟩ := ucons_ok hx; obtain ⟨rfl, hx⟩ := u0_ok hx; exact S27 (n := n) (cl := cl) hcl hx
  exact hcl _ _ _ _ _ hx
theorem E16 (n : Nat) (cl : CL) (a0 a1 : Value) (h : PH) : exF Try.prog n (D16 n cl) ⟨[], [27], [], [(1, [0, 1, 2, 3, 4, 6, 5, 7, 8, 9, 10, 11, 12, 13, 14, 15, 16, 17, 20, 18, 19, 21, 22, 23, 24, 25, 26])], [(1, [18, 22])], []⟩ Try.f16 [a0, a1] h = F16 n cl a0 a1 h := by kernel_rfl
theorem S16 {n : Nat} {cl : CL} (hcl : OkCL Try.prog cl) {a0 a1 : Value} {h h' : PH} {v : Value} (hx : F16 n cl a0 a1 h = some (v, h')) : (enterable Try.prog 16 = true ∧ ACall Try.prog 16 [a0, a1] h.abs (fun u k => u = v ∧ k = h'.abs)) ∧ Inv h h' :=
  exF_ok (Dk16 hcl) hmx Try.func16 (by kernel_rfl) ((E16 n cl a0 a1 h).trans hx)
-- undergrowth/items.Close$1
noncomputable def F15 (n : Nat) (cl : CL) (a0 a1 : Value) (h : PH) : R :=
 hb (xBox a0 h) fun v1 h =>
 vb (xLdA 7 a1 h) fun v2 =>
 vb (xLdA 2 v1 h) fun v3 =>
 vb (pcall (F16 n cl v2 v3 (h.fzn))) fun v4 =>
 vb (xNot v4) fun v5 =>
 some (v5, h)
noncomputable def D15 (n : Nat) (cl : CL) : CL := fun f xs h => sw f 16 (ucons xs fun b0 xs => ucons xs fun b1 xs => u0 xs (F16 n cl b0 b1 h)) (cl f xs h)
theorem Dk15 {n : Nat} {cl : CL} (hcl : OkCL Try.prog cl) : OkCL Try.prog (D15 n cl) := by
  intro f xs h v h' hx
  rcases sw_ok hx with ⟨rfl, hx⟩ | hx
  · obtain ⟨_, _, rfl, hx⟩ := ucons_ok hx; obtain ⟨_, _, rfl, hx⟩ := ucons_ok hx; obtain ⟨rfl, hx⟩ := u0_ok hx; exact S16 (n := n) (cl := cl) hcl hx
  exact hcl _ _ _ _ _ hx
theorem E15 (n : Nat) (cl : CL) (a0 a1 : Value) (h : PH) : exF Try.prog n (D15 n cl) ⟨[16], [], [], [], [], []⟩ Try.f15 [a0, a1] h = F15 n cl a0 a1 h := by kernel_rfl
theorem S15 {n : Nat} {cl : CL} (hcl : OkCL Try.prog cl) {a0 a1 : Value} {h h' : PH} {v : Value} (hx : F15 n cl a0 a1 h = some (v, h')) : (enterable Try.prog 15 = true ∧ ACall Try.prog 15 [a0, a1] h.abs (fun u k => u = v ∧ k = h'.abs)) ∧ Inv h h' :=
  exF_ok (Dk15 hcl) hmx Try.func15 (by kernel_rfl) ((E15 n cl a0 a1 h).trans hx)
-- slices.IndexFunc[[]undergrowth/api.Item,undergrowth/api.Item]
noncomputable def F26_0 (n : Nat) (cl : CL) (v10 : Value) (r3 : Kt) (v4 : Value) (v6 : Value) (v8 : Value) (h : PH) : R :=
 vb (xAri Int.add v10 (vN 1)) fun v16 =>
 r3 [v4, v6, v8, v16] h
noncomputable def F26_1 (n : Nat) (cl : CL) (v4 : Value) (v10 : Value) (v6 : Value) (r3 : Kt) (v8 : Value) (h : PH) : R :=
 vb (xIdxS 2 v4 v10) fun v13 =>
 vb (xLdA 2 v13 h) fun v14 =>
 hb (xCall cl v6 [v14] h) fun v15 h =>
 bite v15 (some (v10, h)) (F26_0 n cl v10 r3 v4 v6 v8 h)
noncomputable def F26_2 (n : Nat) (cl : CL) (v10 : Value) (v8 : Value) (v4 : Value) (v6 : Value) (r3 : Kt) (h : PH) : R :=
 vb (xCmp ilt v10 v8) fun v12 =>
 bite v12 (F26_1 n cl v4 v10 v6 r3 v8 h) (some ((vM 0), h))
noncomputable def F26_3 (n : Nat) (cl : CL) (r3 : Kt) (y2 : List Value) (h : PH) : R :=
 ucons y2 fun v4 y5 => ucons y5 fun v6 y7 => ucons y7 fun v8 y9 => ucons y9 fun v10 y11 => F26_2 n cl v10 v8 v4 v6 r3 h
noncomputable def F26 (n : Nat) (cl : CL) (a0 a1 : Value) (h : PH) : R :=
 vb (xLenS a0) fun v1 =>
 lp n (F26_3 n cl) [a0, a1, v1, (vN 0)] h
theorem E26 (n : Nat) (cl : CL) (a0 a1 : Value) (h : PH) : exF Try.prog n cl ⟨[], [], [(2, [0, 1, 7, 8])], [], [], []⟩ Try.f26 [a0, a1] h = F26 n cl a0 a1 h := by kernel_rfl
theorem S26 {n : Nat} {cl : CL} (hcl : OkCL Try.prog cl) {a0 a1 : Value} {h h' : PH} {v : Value} (hx : F26 n cl a0 a1 h = some (v, h')) : (enterable Try.prog 26 = true ∧ ACall Try.prog 26 [a0, a1] h.abs (fun u k => u = v ∧ k = h'.abs)) ∧ Inv h h' :=
  exF_ok hcl hmx Try.func26 (by kernel_rfl) ((E26 n cl a0 a1 h).trans hx)
-- slices.DeleteFunc[[]undergrowth/api.Item,undergrowth/api.Item]
noncomputable def F13 (n : Nat) (cl : CL) (a0 a1 : Value) (h : PH) : R :=
 none
theorem E13 (n : Nat) (cl : CL) (a0 a1 : Value) (h : PH) : exF Try.prog n cl ⟨[], [], [(5, [0, 1, 5, 6]), (6, [0, 1, 5, 6])], [], [], [0, 1, 11]⟩ Try.f13 [a0, a1] h = F13 n cl a0 a1 h := by kernel_rfl
theorem S13 {n : Nat} {cl : CL} (hcl : OkCL Try.prog cl) {a0 a1 : Value} {h h' : PH} {v : Value} (hx : F13 n cl a0 a1 h = some (v, h')) : (enterable Try.prog 13 = true ∧ ACall Try.prog 13 [a0, a1] h.abs (fun u k => u = v ∧ k = h'.abs)) ∧ Inv h h' :=
  exF_ok hcl hmx Try.func13 (by kernel_rfl) ((E13 n cl a0 a1 h).trans hx)
-- undergrowth/items.Close
noncomputable def F7_0 (n : Nat) (cl : CL) (v1 : Value) (a1 : Value) (h : PH) : R :=
 vb (some (Value.func (Fn.func 15) ⟨[]⟩ ⟨[v1]⟩)) fun v5 =>
 vb (xLdA 7 v1 h) fun v6 =>
 hb (fcall h (F14 n cl a1 (h.fzn))) fun v7 h =>
 lchk (xLdA 7 v1 h) v6 <|
 hb (F13 n cl v7 v5 h) fun v8 h =>
 lchk (xLdA 7 v1 h) v6 <|
 hb (fcall h (F12 n cl v6 v8 (h.fzn))) fun v9 h =>
 some (v9, h)
noncomputable def F7 (n : Nat) (cl : CL) (a0 a1 : Value) (h : PH) : R :=
 hb (xBox a0 h) fun v1 h =>
 vb (xLdA 7 v1 h) fun v2 =>
 vb (pcall (F11 n cl v2 (h.fzn))) fun v3 =>
 vb (xNot v3) fun v4 =>
 bite v4 (some (nils, h)) (F7_0 n cl v1 a1 h)
noncomputable def D7 (n : Nat) (cl : CL) : CL := fun f xs h => sw f 11 (ucons xs fun b0 xs => u0 xs (F11 n cl b0 h)) (sw f 14 (ucons xs fun b0 xs => u0 xs (F14 n cl b0 h)) (sw f 13 (ucons xs fun b0 xs => ucons xs fun b1 xs => u0 xs (F13 n cl b0 b1 h)) (sw f 12 (ucons xs fun b0 xs => ucons xs fun b1 xs => u0 xs (F12 n cl b0 b1 h)) (cl f xs h))))
theorem Dk7 {n : Nat} {cl : CL} (hcl : OkCL Try.prog cl) : OkCL Try.prog (D7 n cl) := by
  intro f xs h v h' hx
  rcases sw_ok hx with ⟨rfl, hx⟩ | hx
  · obtain ⟨_, _, rfl, hx⟩ := ucons_ok hx; obtain ⟨rfl, hx⟩ := u0_ok hx; exact S11 (n := n) (cl := cl) hcl hx
  rcases sw_ok hx with ⟨rfl, hx⟩ | hx
  · obtain ⟨_, _, rfl, hx⟩ := ucons_ok hx; obtain ⟨rfl, hx⟩ := u0_ok hx; exact S14 (n := n) (cl := cl) hcl hx
  rcases sw_ok hx with ⟨rfl, hx⟩ | hx
  · obtain ⟨_, _, rfl, hx⟩ := ucons_ok hx; obtain ⟨_, _, rfl, hx⟩ := ucons_ok hx; obtain ⟨rfl, hx⟩ := u0_ok hx; exact S13 (n := n) (cl := cl) hcl hx
  rcases sw_ok hx with ⟨rfl, hx⟩ | hx
  · obtain ⟨_, _, rfl, hx⟩ := ucons_ok hx; obtain ⟨_, _, rfl, hx⟩ := ucons_ok hx; obtain ⟨rfl, hx⟩ := u0_ok hx; exact S12 (n := n) (cl := cl) hcl hx
  exact hcl _ _ _ _ _ hx
theorem E7 (n : Nat) (cl : CL) (a0 a1 : Value) (h : PH) : exF Try.prog n (D7 n cl) ⟨[11], [12, 14], [], [(3, [1, 3, 0, 2, 4, 5, 6])], [(3, [0, 2, 4])], []⟩ Try.f7 [a0, a1] h = F7 n cl a0 a1 h := by kernel_rfl
theorem S7 {n : Nat} {cl : CL} (hcl : OkCL Try.prog cl) {a0 a1 : Value} {h h' : PH} {v : Value} (hx : F7 n cl a0 a1 h = some (v, h')) : (enterable Try.prog 7 = true ∧ ACall Try.prog 7 [a0, a1] h.abs (fun u k => u = v ∧ k = h'.abs)) ∧ Inv h h' :=
  exF_ok (Dk7 hcl) hmx Try.func7 (by kernel_rfl) ((E7 n cl a0 a1 h).trans hx)
-- undergrowth/undergrowthlaw14.num
noncomputable def F6 (n : Nat) (cl : CL) (a0 : Value) (h : PH) : R :=
 some (a0, h)
theorem E6 (n : Nat) (cl : CL) (a0 : Value) (h : PH) : exF Try.prog n cl ⟨[], [], [], [], [], []⟩ Try.f6 [a0] h = F6 n cl a0 h := by kernel_rfl
theorem S6 {n : Nat} {cl : CL} (hcl : OkCL Try.prog cl) {a0 : Value} {h h' : PH} {v : Value} (hx : F6 n cl a0 h = some (v, h')) : (enterable Try.prog 6 = true ∧ ACall Try.prog 6 [a0] h.abs (fun u k => u = v ∧ k = h'.abs)) ∧ Inv h h' :=
  exF_ok hcl hmx Try.func6 (by kernel_rfl) ((E6 n cl a0 h).trans hx)
-- undergrowth/undergrowthlaw14.alive
noncomputable def F4 (n : Nat) (cl : CL) (h : PH) : R :=
 hb (xBS 1 (bsRow Try.prog 23 1 [(0, (vM 0))]) h) fun v1 h =>
 vb (abuild Try.prog 25 [(1, v1)]) fun v2 =>
 hb (xBS 1 (bsRow Try.prog 26 1 [(0, v2)]) h) fun v3 h =>
 vb (abuild Try.prog 29 [(0, (vN 1)), (1, (vN 1)), (3, v3)]) fun v4 =>
 hb (fcall h (F5 n cl v4 (h.fzn))) fun v5 h =>
 vb (xExt 0 v5) fun v6 =>
 vb (xExt 1 v5) fun v7 =>
 vb (abuild Try.prog 29 []) fun v8 =>
 hb (fcall h (F7 n cl v8 nils (h.fzn))) fun v9 h =>
 vb (xLenS v9) fun v10 =>
 vb (xCmp ieq v10 (vN 0)) fun v11 =>
 vb (gd (isB true v11) (some v7)) fun v12 =>
 vb (gd (isB true v11) (pcall (F6 n cl v12 (h.fzn)))) fun v13 =>
 vb (gd (isB true v11) (xCmp ieq v13 (vN 0))) fun v14 =>
 vb (xPick v11 v14 ff) fun v15 =>
 vb (gd (isB true v15) (some v6)) fun v16 =>
 vb (gd (isB true v15) (xLenS v16)) fun v17 =>
 vb (gd (isB true v15) (xCmp ieq v17 (vN 3))) fun v18 =>
 vb (xPick v15 v18 ff) fun v19 =>
 vb (gd (isB true v19) (some v6)) fun v20 =>
 vb (gd (isB true v19) (xIdxS 3 v20 (vN 0))) fun v21 =>
 vb (gd (isB true v19) (xFld 1 v21)) fun v22 =>
 vb (gd (isB true v19) (xLd v22 h)) fun v23 =>
 vb (gd (isB true v19) (xLenS v23)) fun v24 =>
 vb (gd (isB true v19) (xCmp ieq v24 (vN 2))) fun v25 =>
 vb (xPick v19 v25 ff) fun v26 =>
 some (v26, h)
noncomputable def D4 (n : Nat) (cl : CL) : CL := fun f xs h => sw f 5 (ucons xs fun b0 xs => u0 xs (F5 n cl b0 h)) (sw f 7 (ucons xs fun b0 xs => ucons xs fun b1 xs => u0 xs (F7 n cl b0 b1 h)) (sw f 6 (ucons xs fun b0 xs => u0 xs (F6 n cl b0 h)) (cl f xs h)))
theorem Dk4 {n : Nat} {cl : CL} (hcl : OkCL Try.prog cl) : OkCL Try.prog (D4 n cl) := by
  intro f xs h v h' hx
  rcases sw_ok hx with ⟨rfl, hx⟩ | hx
  · obtain ⟨_, _, rfl, hx⟩ := ucons_ok hx; obtain ⟨rfl, hx⟩ := u0_ok hx; exact S5 (n := n) (cl := cl) hcl hx
  rcases sw_ok hx with ⟨rfl, hx⟩ | hx
  · obtain ⟨_, _, rfl, hx⟩ := ucons_ok hx; obtain ⟨_, _, rfl, hx⟩ := ucons_ok hx; obtain ⟨rfl, hx⟩ := u0_ok hx; exact S7 (n := n) (cl := cl) hcl hx
  rcases sw_ok hx with ⟨rfl, hx⟩ | hx
  · obtain ⟨_, _, rfl, hx⟩ := ucons_ok hx; obtain ⟨rfl, hx⟩ := u0_ok hx; exact S6 (n := n) (cl := cl) hcl hx
  exact hcl _ _ _ _ _ hx
theorem E4 (n : Nat) (cl : CL) (h : PH) : exF Try.prog n (D4 n cl) ⟨[6], [5, 7], [], [], [], []⟩ Try.f4 [] h = F4 n cl  h := by kernel_rfl
theorem S4 {n : Nat} {cl : CL} (hcl : OkCL Try.prog cl) {h h' : PH} {v : Value} (hx : F4 n cl h = some (v, h')) : (enterable Try.prog 4 = true ∧ ACall Try.prog 4 [] h.abs (fun u k => u = v ∧ k = h'.abs)) ∧ Inv h h' :=
  exF_ok (Dk4 hcl) hmx Try.func4 (by kernel_rfl) ((E4 n cl h).trans hx)
-- undergrowth/undergrowthlaw14.ItemsRow
noncomputable def F3_0 (n : Nat) (cl : CL) (v17 : Value) (v19 : Value) (r14 : Kt) (v15 : Value) (h : PH) : R :=
 vb (xFld 3 v17) fun v22 =>
 vb (xFld 3 v17) fun v23 =>
 vb (xAri Int.sub (vM 0) v19) fun v24 =>
 vb (xLd v22 h) fun v25 =>
 vb (xLd v23 h) fun v26 =>
 vb (xIdxS 3 v26 (vN 0)) fun v27 =>
 vb (xFld 1 v27) fun v28 =>
 vb (xLd v28 h) fun v29 =>
 hb (xBS 1 (bsRow Try.prog 23 1 [(0, v24)]) h) fun v30 h =>
 hb (xApp (appInfo Try.prog #[23, 23]) v29 v30 h) fun v31 h =>
 lchk (xLd v22 h) v25 <|
 vb (xIdxS 3 v25 (vN 0)) fun v32 =>
 vb (xFld 1 v32) fun v33 =>
 hb (xSt1 v33 v31 h) fun _ h =>
 vb (xAri Int.add v19 (vN 1)) fun v34 =>
 r14 [v15, v17, v34] h
noncomputable def F3_1 (n : Nat) (cl : CL) (v62 : Value) (r48 : Kt) (v58 : Value) (v60 : Value) (h : PH) : R :=
 vb (xAri Int.add v62 (vN 1)) fun v64 =>
 r48 [v58, v60, v64] h
noncomputable def F3_2 (n : Nat) (cl : CL) (v69 : Value) (k57 : Kt) (v67 : Value) (v71 : Value) (h : PH) : R :=
 vb (xIdxS 3 v69 (vN 0)) fun v76 =>
 vb (xFld 1 v76) fun v77 =>
 vb (xLd v77 h) fun v78 =>
 vb (xLenS v78) fun v79 =>
 vb (xCmp ine v79 (vN 2)) fun v80 =>
 vb (gd (isB false v80) (some v69)) fun v81 =>
 vb (gd (isB false v80) (xIdxS 3 v81 (vN 0))) fun v82 =>
 vb (gd (isB false v80) (xFld 1 v82)) fun v83 =>
 vb (gd (isB false v80) (xLd v83 h)) fun v84 =>
 vb (gd (isB false v80) (xIdxS 1 v84 (vN 0))) fun v85 =>
 vb (gd (isB false v80) (xLd v85 h)) fun v86 =>
 vb (gd (isB false v80) (xCmp ine v86 (vM 0))) fun v87 =>
 vb (xPick v80 tt v87) fun v88 =>
 vb (gd (isB false v88) (some v69)) fun v89 =>
 vb (gd (isB false v88) (xIdxS 3 v89 (vN 0))) fun v90 =>
 vb (gd (isB false v88) (xFld 1 v90)) fun v91 =>
 vb (gd (isB false v88) (xLd v91 h)) fun v92 =>
 vb (gd (isB false v88) (xIdxS 1 v92 (vN 1))) fun v93 =>
 vb (gd (isB false v88) (xLd v93 h)) fun v94 =>
 vb (gd (isB false v88) (xCmp ine v94 (vN 0))) fun v95 =>
 vb (xPick v88 tt v95) fun v96 =>
 vb (gd (isB false v96) (some v69)) fun v97 =>
 vb (gd (isB false v96) (xIdxS 3 v97 (vN 0))) fun v98 =>
 vb (gd (isB false v96) (xFld 2 v98)) fun v99 =>
 vb (gd (isB false v96) (xLd v99 h)) fun v100 =>
 vb (gd (isB false v96) (xIdxS 1 v100 (vN 0))) fun v101 =>
 vb (gd (isB false v96) (xLd v101 h)) fun v102 =>
 vb (gd (isB false v96) (xCmp ine v102 (vN 1))) fun v103 =>
 vb (xPick v96 tt v103) fun v104 =>
 vb (gd (isB false v104) (some v69)) fun v105 =>
 vb (gd (isB false v104) (xIdxS 3 v105 (vN 0))) fun v106 =>
 vb (gd (isB false v104) (xFld 2 v106)) fun v107 =>
 vb (gd (isB false v104) (xLd v107 h)) fun v108 =>
 vb (gd (isB false v104) (xIdxS 1 v108 (vN 1))) fun v109 =>
 vb (gd (isB false v104) (xLd v109 h)) fun v110 =>
 vb (gd (isB false v104) (xCmp ine v110 (vN 2))) fun v111 =>
 vb (xPick v104 tt v111) fun v112 =>
 bite v112 (some (ff, h)) (k57 [v67, v69, v71] h)
noncomputable def F3_3 (n : Nat) (cl : CL) (v117 : Value) (v121 : Value) (v119 : Value) (k57 : Kt) (v115 : Value) (h : PH) : R :=
 vb (xIdxS 3 v117 v121) fun v123 =>
 vb (xFld 1 v123) fun v124 =>
 vb (xLd v124 h) fun v125 =>
 vb (xLenS v125) fun v126 =>
 vb (xCmp ine v126 (vN 1)) fun v127 =>
 vb (gd (isB false v127) (some v117)) fun v128 =>
 vb (gd (isB false v127) (some v121)) fun v129 =>
 vb (gd (isB false v127) (xIdxS 3 v128 v129)) fun v130 =>
 vb (gd (isB false v127) (xFld 1 v130)) fun v131 =>
 vb (gd (isB false v127) (xLd v131 h)) fun v132 =>
 vb (gd (isB false v127) (xIdxS 1 v132 (vN 0))) fun v133 =>
 vb (gd (isB false v127) (xLd v133 h)) fun v134 =>
 vb (gd (isB false v127) (some v119)) fun v135 =>
 vb (gd (isB false v127) (xAri Int.sub (vM 0) v135)) fun v136 =>
 vb (gd (isB false v127) (xCmp ine v134 v136)) fun v137 =>
 vb (xPick v127 tt v137) fun v138 =>
 vb (gd (isB false v138) (some v117)) fun v139 =>
 vb (gd (isB false v138) (some v121)) fun v140 =>
 vb (gd (isB false v138) (xIdxS 3 v139 v140)) fun v141 =>
 vb (gd (isB false v138) (xFld 2 v141)) fun v142 =>
 vb (gd (isB false v138) (xLd v142 h)) fun v143 =>
 vb (gd (isB false v138) (xIdxS 1 v143 (vN 0))) fun v144 =>
 vb (gd (isB false v138) (xLd v144 h)) fun v145 =>
 vb (gd (isB false v138) (some v119)) fun v146 =>
 vb (gd (isB false v138) (xAri Int.add v146 (vN 2))) fun v147 =>
 vb (gd (isB false v138) (xCmp ine v145 v147)) fun v148 =>
 vb (xPick v138 tt v148) fun v149 =>
 bite v149 (some (ff, h)) (k57 [v115, v117, v119] h)
noncomputable def F3_4 (n : Nat) (cl : CL) (v71 : Value) (k114 : Kt) (v67 : Value) (v69 : Value) (h : PH) : R :=
 vb (xAri Int.add v71 (vN 1)) fun v151 =>
 k114 [v67, v69, v71, v151] h
noncomputable def F3_5 (n : Nat) (cl : CL) (k57 : Kt) (y113 : List Value) (h : PH) : R :=
 ucons y113 fun v115 y116 => ucons y116 fun v117 y118 => ucons y118 fun v119 y120 => ucons y120 fun v121 y122 => F3_3 n cl v117 v121 v119 k57 v115 h
noncomputable def F3_6 (n : Nat) (cl : CL) (v73 : Value) (v71 : Value) (v67 : Value) (v69 : Value) (h : PH) (k114 : Kt) : R :=
 vb (xCmp (fun x y => ilt y x) v73 (vN 1)) fun v150 =>
 bite v150 (F3_4 n cl v71 k114 v67 v69 h) (k114 [v67, v69, v71, v73] h)
noncomputable def F3_7 (n : Nat) (cl : CL) (v71 : Value) (v69 : Value) (k57 : Kt) (v67 : Value) (v73 : Value) (h : PH) : R :=
 vb (xCmp ieq v71 (vN 0)) fun v75 =>
 bite v75 (F3_2 n cl v69 k57 v67 v71 h) (jn (F3_5 n cl k57) (F3_6 n cl v73 v71 v67 v69 h))
noncomputable def F3_8 (n : Nat) (cl : CL) (v53 : Value) (k66 : Kt) (v49 : Value) (v51 : Value) (h : PH) : R :=
 vb (xCmp ieq v53 (vN 1)) fun v153 =>
 bite v153 (k66 [v49, v51, v53, (vN 1)] h) (k66 [v49, v51, v53, v53] h)
noncomputable def F3_9 (n : Nat) (cl : CL) (k57 : Kt) (y65 : List Value) (h : PH) : R :=
 ucons y65 fun v67 y68 => ucons y68 fun v69 y70 => ucons y70 fun v71 y72 => ucons y72 fun v73 y74 => F3_7 n cl v71 v69 k57 v67 v73 h
noncomputable def F3_10 (n : Nat) (cl : CL) (v53 : Value) (v49 : Value) (v51 : Value) (h : PH) (k66 : Kt) : R :=
 vb (xCmp (fun x y => ilt y x) v53 (vN 0)) fun v152 =>
 bite v152 (F3_8 n cl v53 k66 v49 v51 h) (k66 [v49, v51, v53, (vN 0)] h)
noncomputable def F3_11 (n : Nat) (cl : CL) (r48 : Kt) (y56 : List Value) (h : PH) : R :=
 ucons y56 fun v58 y59 => ucons y59 fun v60 y61 => ucons y61 fun v62 y63 => F3_1 n cl v62 r48 v58 v60 h
noncomputable def F3_12 (n : Nat) (cl : CL) (v53 : Value) (v49 : Value) (r48 : Kt) (v51 : Value) (h : PH) : R :=
 vb (xCmp ilt v53 v49) fun v55 =>
 bite v55 (jn (F3_11 n cl r48) (fun k57 => jn (F3_9 n cl k57) (F3_10 n cl v53 v49 v51 h))) (some (tt, h))
noncomputable def F3_13 (n : Nat) (cl : CL) (r48 : Kt) (y47 : List Value) (h : PH) : R :=
 ucons y47 fun v49 y50 => ucons y50 fun v51 y52 => ucons y52 fun v53 y54 => F3_12 n cl v53 v49 r48 v51 h
noncomputable def F3_14 (n : Nat) (cl : CL) (v17 : Value) (v15 : Value) (h : PH) : R :=
 vb (xLdA 7 v17 h) fun v35 =>
 hb (fcall h (F5 n cl v35 (h.fzn))) fun v36 h =>
 vb (xExt 0 v36) fun v37 =>
 vb (xExt 1 v36) fun v38 =>
 vb (pcall (F6 n cl v38 (h.fzn))) fun v39 =>
 vb (xCmp ine v39 (vN 0)) fun v40 =>
 vb (gd (isB false v40) (some v37)) fun v41 =>
 vb (gd (isB false v40) (xLenS v41)) fun v42 =>
 vb (gd (isB false v40) (some v15)) fun v43 =>
 vb (gd (isB false v40) (xAri Int.add v43 (vN 2))) fun v44 =>
 vb (gd (isB false v40) (xCmp ine v42 v44)) fun v45 =>
 vb (xPick v40 tt v45) fun v46 =>
 bite v46 (some (ff, h)) (lp n (F3_13 n cl) [v15, v37, (vN 0)] h)
noncomputable def F3_15 (n : Nat) (cl : CL) (v19 : Value) (v15 : Value) (v17 : Value) (r14 : Kt) (h : PH) : R :=
 vb (xCmp ilt v19 v15) fun v21 =>
 bite v21 (F3_0 n cl v17 v19 r14 v15 h) (F3_14 n cl v17 v15 h)
noncomputable def F3_16 (n : Nat) (cl : CL) (r14 : Kt) (y13 : List Value) (h : PH) : R :=
 ucons y13 fun v15 y16 => ucons y16 fun v17 y18 => ucons y18 fun v19 y20 => F3_15 n cl v19 v15 v17 r14 h
noncomputable def F3_17 (n : Nat) (cl : CL) (a0 : Value) (h : PH) : R :=
 vb (abuild Try.prog 25 []) fun v9 =>
 hb (xBS 1 (bsRow Try.prog 26 1 [(0, v9)]) h) fun v10 h =>
 vb (abuild Try.prog 29 [(0, (vN 1)), (1, (vN 8)), (3, v10)]) fun v11 =>
 hb (xAlloc (zcells Try.prog 29) h) fun v12 h =>
 hb (xStA 7 v12 v11 h) fun _ h =>
 lp n (F3_16 n cl) [a0, v12, (vN 0)] h
noncomputable def F3 (n : Nat) (cl : CL) (a0 : Value) (h : PH) : R :=
 vb (pcall (F4 n cl (h.fzn))) fun v1 =>
 vb (xNot v1) fun v2 =>
 vb (gd (isB false v2) (some a0)) fun v3 =>
 vb (gd (isB false v2) (xCmp ilt v3 (vN 0))) fun v4 =>
 vb (xPick v2 tt v4) fun v5 =>
 vb (gd (isB false v5) (some a0)) fun v6 =>
 vb (gd (isB false v5) (xCmp (fun x y => ilt y x) v6 (vN 8))) fun v7 =>
 vb (xPick v5 tt v7) fun v8 =>
 bite v8 (some (v1, h)) (F3_17 n cl a0 h)
noncomputable def D3 (n : Nat) (cl : CL) : CL := fun f xs h => sw f 4 (u0 xs (F4 n cl h)) (sw f 5 (ucons xs fun b0 xs => u0 xs (F5 n cl b0 h)) (sw f 6 (ucons xs fun b0 xs => u0 xs (F6 n cl b0 h)) (cl f xs h)))
theorem Dk3 {n : Nat} {cl : CL} (hcl : OkCL Try.prog cl) : OkCL Try.prog (D3 n cl) := by
  intro f xs h v h' hx
  rcases sw_ok hx with ⟨rfl, hx⟩ | hx
  · obtain ⟨rfl, hx⟩ := u0_ok hx; exact S4 (n := n) (cl := cl) hcl hx
  rcases sw_ok hx with ⟨rfl, hx⟩ | hx
  · obtain ⟨_, _, rfl, hx⟩ := ucons_ok hx; obtain ⟨rfl, hx⟩ := u0_ok hx; exact S5 (n := n) (cl := cl) hcl hx
  rcases sw_ok hx with ⟨rfl, hx⟩ | hx
  · obtain ⟨_, _, rfl, hx⟩ := ucons_ok hx; obtain ⟨rfl, hx⟩ := u0_ok hx; exact S6 (n := n) (cl := cl) hcl hx
  exact hcl _ _ _ _ _ hx
theorem E3 (n : Nat) (cl : CL) (a0 : Value) (h : PH) : exF Try.prog n (D3 n cl) ⟨[4, 6], [5], [(6, [0, 4, 5]), (13, [0, 6, 8]), (14, [0, 6, 8]), (20, [0, 6, 8, 9]), (25, [0, 6, 8, 9])], [(8, [0, 2, 7, 8, 1, 3, 4, 5, 6, 9, 10, 11, 12, 13])], [(8, [1, 10])], []⟩ Try.f3 [a0] h = F3 n cl a0 h := by kernel_rfl
theorem S3 {n : Nat} {cl : CL} (hcl : OkCL Try.prog cl) {a0 : Value} {h h' : PH} {v : Value} (hx : F3 n cl a0 h = some (v, h')) : (enterable Try.prog 3 = true ∧ ACall Try.prog 3 [a0] h.abs (fun u k => u = v ∧ k = h'.abs)) ∧ Inv h h' :=
  exF_ok (Dk3 hcl) hmx Try.func3 (by kernel_rfl) ((E3 n cl a0 h).trans hx)

/-- Functions that are called by value, or that call themselves; so deep. -/
noncomputable def CLs (n : Nat) (ih : CL) : CL := fun f xs h => sw f 62 (ucons xs fun b0 xs => u0 xs (F62 n ih b0 h)) (sw f 43 (ucons xs fun b0 xs => ucons xs fun b1 xs => u0 xs (F43 n ih b0 b1 h)) (sw f 31 (ucons xs fun b0 xs => ucons xs fun b1 xs => u0 xs (F31 n ih b0 b1 h)) (sw f 59 (ucons xs fun b0 xs => ucons xs fun b1 xs => ucons xs fun b2 xs => ucons xs fun b3 xs => ucons xs fun b4 xs => u0 xs (F59 n ih b0 b1 b2 b3 b4 h)) (sw f 39 (ucons xs fun b0 xs => ucons xs fun b1 xs => u0 xs (F39 n ih b0 b1 h)) (sw f 36 (ucons xs fun b0 xs => ucons xs fun b1 xs => ucons xs fun b2 xs => ucons xs fun b3 xs => u0 xs (F36 n ih b0 b1 b2 b3 h)) (sw f 15 (ucons xs fun b0 xs => ucons xs fun b1 xs => u0 xs (F15 n ih b0 b1 h)) (none)))))))
theorem CLs_ok {n : Nat} {ih : CL} (hcl : OkCL Try.prog ih) : OkCL Try.prog (CLs n ih) := by
  intro f xs h v h' hx
  unfold CLs at hx
  rcases sw_ok hx with ⟨rfl, hx⟩ | hx
  · obtain ⟨_, _, rfl, hx⟩ := ucons_ok hx; obtain ⟨rfl, hx⟩ := u0_ok hx; exact S62 (n := n) (cl := ih) hcl hx
  rcases sw_ok hx with ⟨rfl, hx⟩ | hx
  · obtain ⟨_, _, rfl, hx⟩ := ucons_ok hx; obtain ⟨_, _, rfl, hx⟩ := ucons_ok hx; obtain ⟨rfl, hx⟩ := u0_ok hx; exact S43 (n := n) (cl := ih) hcl hx
  rcases sw_ok hx with ⟨rfl, hx⟩ | hx
  · obtain ⟨_, _, rfl, hx⟩ := ucons_ok hx; obtain ⟨_, _, rfl, hx⟩ := ucons_ok hx; obtain ⟨rfl, hx⟩ := u0_ok hx; exact S31 (n := n) (cl := ih) hcl hx
  rcases sw_ok hx with ⟨rfl, hx⟩ | hx
  · obtain ⟨_, _, rfl, hx⟩ := ucons_ok hx; obtain ⟨_, _, rfl, hx⟩ := ucons_ok hx; obtain ⟨_, _, rfl, hx⟩ := ucons_ok hx; obtain ⟨_, _, rfl, hx⟩ := ucons_ok hx; obtain ⟨_, _, rfl, hx⟩ := ucons_ok hx; obtain ⟨rfl, hx⟩ := u0_ok hx; exact S59 (n := n) (cl := ih) hcl hx
  rcases sw_ok hx with ⟨rfl, hx⟩ | hx
  · obtain ⟨_, _, rfl, hx⟩ := ucons_ok hx; obtain ⟨_, _, rfl, hx⟩ := ucons_ok hx; obtain ⟨rfl, hx⟩ := u0_ok hx; exact S39 (n := n) (cl := ih) hcl hx
  rcases sw_ok hx with ⟨rfl, hx⟩ | hx
  · obtain ⟨_, _, rfl, hx⟩ := ucons_ok hx; obtain ⟨_, _, rfl, hx⟩ := ucons_ok hx; obtain ⟨_, _, rfl, hx⟩ := ucons_ok hx; obtain ⟨_, _, rfl, hx⟩ := ucons_ok hx; obtain ⟨rfl, hx⟩ := u0_ok hx; exact S36 (n := n) (cl := ih) hcl hx
  rcases sw_ok hx with ⟨rfl, hx⟩ | hx
  · obtain ⟨_, _, rfl, hx⟩ := ucons_ok hx; obtain ⟨_, _, rfl, hx⟩ := ucons_ok hx; obtain ⟨rfl, hx⟩ := u0_ok hx; exact S15 (n := n) (cl := ih) hcl hx
  cases hx
noncomputable def CLV (n d : Nat) : CL := Nat.rec (motive := fun _ => CL) CNo (fun _ ih => CLs n ih) d
theorem CLV_ok (n : Nat) : ∀ d, OkCL Try.prog (CLV n d)
  | 0 => CNo_ok _
  | .succ d => CLs_ok (CLV_ok n d)

end Go.Am
