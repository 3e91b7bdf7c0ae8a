import Derived.Test.YtdmfanikejcgjaaX8
import Derived.Test.YtdmfanikejcgjaaProg
set_option linter.unusedVariables false
set_option maxRecDepth 100000
namespace Go.Am
open Go Go.RowKit Go.Proofs
theorem hmx : Try.prog.follows .mixedOrders = true := by kernel_rfl
-- undergrowth/grammar.IsName
noncomputable def F29 (n : Nat) (cl : CL) (a0 a1 : Value) (h : PH) : R :=
 hb (xBox a0 h) fun v1 h =>
 vb (xCmp (fun x y => ile y x) a1 (vN 0)) fun v2 =>
 vb (gd (isB true v2) (some a1)) fun v3 =>
 vb (gd (isB true v2) (xFld 0 v1)) fun v4 =>
 vb (gd (isB true v2) (xLd v4 h)) fun v5 =>
 vb (gd (isB true v2) (xCmp ilt v3 v5)) fun v6 =>
 vb (xPick v2 v6 ff) fun v7 =>
 some (v7, h)
theorem E29 (n : Nat) (cl : CL) (a0 a1 : Value) (h : PH) : exF Try.prog n cl ⟨[], [], [], [], []⟩ Try.f29 [a0, a1] h = F29 n cl a0 a1 h := by kernel_rfl
theorem S29 {n : Nat} {cl : CL} (hcl : OkCL Try.prog cl) {a0 a1 : Value} {h h' : PH} {v : Value} (hx : F29 n cl a0 a1 h = some (v, h')) : (enterable Try.prog 29 = true ∧ ACall Try.prog 29 [a0, a1] h.abs (fun u k => u = v ∧ k = h'.abs)) ∧ Inv h h' :=
  exF_ok hcl hmx Try.func29 (by kernel_rfl) ((E29 n cl a0 a1 h).trans hx)
-- slices.IndexFunc[[]int,int]
noncomputable def F50_0 (n : Nat) (cl : CL) (v9 : Value) (r2 : Kt) (v3 : Value) (v5 : Value) (v7 : Value) (h : PH) : R :=
 vb (xAri Int.add v9 (vN 1)) fun v15 =>
 r2 [v3, v5, v7, v15] h
noncomputable def F50_1 (n : Nat) (cl : CL) (v3 : Value) (v9 : Value) (v5 : Value) (r2 : Kt) (v7 : Value) (h : PH) : R :=
 vb (xIdxS 1 v3 v9) fun v12 =>
 vb (xLd v12 h) fun v13 =>
 hb (xCall cl v5 [v13] h) fun v14 h =>
 bite v14 (some (v9, h)) (F50_0 n cl v9 r2 v3 v5 v7 h)
noncomputable def F50_2 (n : Nat) (cl : CL) (v9 : Value) (v7 : Value) (v3 : Value) (v5 : Value) (r2 : Kt) (h : PH) : R :=
 vb (xCmp ilt v9 v7) fun v11 =>
 bite v11 (F50_1 n cl v3 v9 v5 r2 v7 h) (some ((vM 0), h))
noncomputable def F50_3 (n : Nat) (cl : CL) (r2 : Kt) (y2 : List Value) (h : PH) : R :=
 ucons y2 fun v3 y4 => ucons y4 fun v5 y6 => ucons y6 fun v7 y8 => ucons y8 fun v9 y10 => F50_2 n cl v9 v7 v3 v5 r2 h
noncomputable def F50 (n : Nat) (cl : CL) (a0 a1 : Value) (h : PH) : R :=
 vb (xLenS a0) fun v1 =>
 lp n (F50_3 n cl) [a0, a1, v1, (vN 0)] h
theorem E50 (n : Nat) (cl : CL) (a0 a1 : Value) (h : PH) : exF Try.prog n cl ⟨[], [], [(2, [0, 1, 7, 8])], [], []⟩ Try.f50 [a0, a1] h = F50 n cl a0 a1 h := by kernel_rfl
theorem S50 {n : Nat} {cl : CL} (hcl : OkCL Try.prog cl) {a0 a1 : Value} {h h' : PH} {v : Value} (hx : F50 n cl a0 a1 h = some (v, h')) : (enterable Try.prog 50 = true ∧ ACall Try.prog 50 [a0, a1] h.abs (fun u k => u = v ∧ k = h'.abs)) ∧ Inv h h' :=
  exF_ok hcl hmx Try.func50 (by kernel_rfl) ((E50 n cl a0 a1 h).trans hx)
-- slices.ContainsFunc[[]int,int]
noncomputable def F44 (n : Nat) (cl : CL) (a0 a1 : Value) (h : PH) : R :=
 vb (pcall (F50 n cl a0 a1 (h.fzn))) fun v1 =>
 vb (xCmp (fun x y => ile y x) v1 (vN 0)) fun v2 =>
 some (v2, h)
noncomputable def D44 (n : Nat) (cl : CL) : CL := fun f xs h => sw f 50 (ucons xs fun b0 xs => ucons xs fun b1 xs => u0 xs (F50 n cl b0 b1 h)) (cl f xs h)
theorem Dk44 {n : Nat} {cl : CL} (hcl : OkCL Try.prog cl) : OkCL Try.prog (D44 n cl) := by
  intro f xs h v h' hx
  rcases sw_ok hx with ⟨rfl, hx⟩ | hx
  · obtain ⟨_, _, rfl, hx⟩ := ucons_ok hx; obtain ⟨_, _, rfl, hx⟩ := ucons_ok hx; obtain ⟨rfl, hx⟩ := u0_ok hx; exact S50 (n := n) (cl := cl) hcl hx
  exact hcl _ _ _ _ _ hx
theorem E44 (n : Nat) (cl : CL) (a0 a1 : Value) (h : PH) : exF Try.prog n (D44 n cl) ⟨[50], [], [], [], []⟩ Try.f44 [a0, a1] h = F44 n cl a0 a1 h := by kernel_rfl
theorem S44 {n : Nat} {cl : CL} (hcl : OkCL Try.prog cl) {a0 a1 : Value} {h h' : PH} {v : Value} (hx : F44 n cl a0 a1 h = some (v, h')) : (enterable Try.prog 44 = true ∧ ACall Try.prog 44 [a0, a1] h.abs (fun u k => u = v ∧ k = h'.abs)) ∧ Inv h h' :=
  exF_ok (Dk44 hcl) hmx Try.func44 (by kernel_rfl) ((E44 n cl a0 a1 h).trans hx)
-- undergrowth/grammar.classes$1
noncomputable def F49 (n : Nat) (cl : CL) (a0 : Value) (h : PH) : R :=
 vb (xCmp ilt a0 (vN 0)) fun v1 =>
 vb (gd (isB false v1) (some a0)) fun v2 =>
 vb (gd (isB false v1) (xCmp (fun x y => ilt y x) v2 (vN 100))) fun v3 =>
 vb (xPick v1 tt v3) fun v4 =>
 some (v4, h)
theorem E49 (n : Nat) (cl : CL) (a0 : Value) (h : PH) : exF Try.prog n cl ⟨[], [], [], [], []⟩ Try.f49 [a0] h = F49 n cl a0 h := by kernel_rfl
theorem S49 {n : Nat} {cl : CL} (hcl : OkCL Try.prog cl) {a0 : Value} {h h' : PH} {v : Value} (hx : F49 n cl a0 h = some (v, h')) : (enterable Try.prog 49 = true ∧ ACall Try.prog 49 [a0] h.abs (fun u k => u = v ∧ k = h'.abs)) ∧ Inv h h' :=
  exF_ok hcl hmx Try.func49 (by kernel_rfl) ((E49 n cl a0 h).trans hx)
-- undergrowth/grammar.classes
noncomputable def F43 (n : Nat) (cl : CL) (a0 a1 : Value) (h : PH) : R :=
 vb (xLenS a0) fun v1 =>
 vb (xCmp ile v1 a1) fun v2 =>
 vb (gd (isB true v2) (some a0)) fun v3 =>
 vb (gd (isB true v2) (pcall (F44 n cl v3 (fnV 49 [] []) (h.fzn)))) fun v4 =>
 vb (gd (isB true v2) (xNot v4)) fun v5 =>
 vb (xPick v2 v5 ff) fun v6 =>
 some (v6, h)
noncomputable def D43 (n : Nat) (cl : CL) : CL := fun f xs h => sw f 44 (ucons xs fun b0 xs => ucons xs fun b1 xs => u0 xs (F44 n cl b0 b1 h)) (cl f xs h)
theorem Dk43 {n : Nat} {cl : CL} (hcl : OkCL Try.prog cl) : OkCL Try.prog (D43 n cl) := by
  intro f xs h v h' hx
  rcases sw_ok hx with ⟨rfl, hx⟩ | hx
  · obtain ⟨_, _, rfl, hx⟩ := ucons_ok hx; obtain ⟨_, _, rfl, hx⟩ := ucons_ok hx; obtain ⟨rfl, hx⟩ := u0_ok hx; exact S44 (n := n) (cl := cl) hcl hx
  exact hcl _ _ _ _ _ hx
theorem E43 (n : Nat) (cl : CL) (a0 a1 : Value) (h : PH) : exF Try.prog n (D43 n cl) ⟨[44], [], [], [], []⟩ Try.f43 [a0, a1] h = F43 n cl a0 a1 h := by kernel_rfl
theorem S43 {n : Nat} {cl : CL} (hcl : OkCL Try.prog cl) {a0 a1 : Value} {h h' : PH} {v : Value} (hx : F43 n cl a0 a1 h = some (v, h')) : (enterable Try.prog 43 = true ∧ ACall Try.prog 43 [a0, a1] h.abs (fun u k => u = v ∧ k = h'.abs)) ∧ Inv h h' :=
  exF_ok (Dk43 hcl) hmx Try.func43 (by kernel_rfl) ((E43 n cl a0 a1 h).trans hx)
-- undergrowth/grammar.whole
noncomputable def F37_0 (n : Nat) (cl : CL) (v1 : Value) (h : PH) : R :=
 vb (xFld 5 v1) fun v32 =>
 vb (xLd v32 h) fun v33 =>
 vb (xFld 3 v1) fun v34 =>
 vb (xLd v34 h) fun v35 =>
 vb (xLenS v35) fun v36 =>
 vb (pcall (F43 n cl v33 v36 (h.fzn))) fun v37 =>
 vb (xNot v37) fun v38 =>
 vb (gd (isB false v38) (xFld 6 v1)) fun v39 =>
 vb (gd (isB false v38) (xLd v39 h)) fun v40 =>
 vb (gd (isB false v38) (xFld 1 v1)) fun v41 =>
 vb (gd (isB false v38) (xLd v41 h)) fun v42 =>
 vb (gd (isB false v38) (pcall (F43 n cl v40 v42 (h.fzn)))) fun v43 =>
 vb (gd (isB false v38) (xNot v43)) fun v44 =>
 vb (xPick v38 tt v44) fun v45 =>
 bite v45 (some ((vN 1), h)) (some ((vN 0), h))
noncomputable def F37_1 (n : Nat) (cl : CL) (v1 : Value) (h : PH) : R :=
 vb (xLdA 7 v1 h) fun v27 =>
 vb (xFld 2 v1) fun v28 =>
 vb (xLd v28 h) fun v29 =>
 vb (pcall (F29 n cl v27 v29 (h.fzn))) fun v30 =>
 vb (xNot v30) fun v31 =>
 bite v31 (some ((vN 6), h)) (F37_0 n cl v1 h)
noncomputable def F37 (n : Nat) (cl : CL) (a0 : Value) (h : PH) : R :=
 hb (xBox a0 h) fun v1 h =>
 vb (xFld 0 v1) fun v2 =>
 vb (xLd v2 h) fun v3 =>
 vb (xCmp ilt v3 (vN 1)) fun v4 =>
 vb (gd (isB false v4) (xFld 0 v1)) fun v5 =>
 vb (gd (isB false v4) (xLd v5 h)) fun v6 =>
 vb (gd (isB false v4) (xCmp (fun x y => ilt y x) v6 (vN 40))) fun v7 =>
 vb (xPick v4 tt v7) fun v8 =>
 vb (gd (isB false v8) (xFld 1 v1)) fun v9 =>
 vb (gd (isB false v8) (xLd v9 h)) fun v10 =>
 vb (gd (isB false v8) (xCmp ilt v10 (vN 0))) fun v11 =>
 vb (xPick v8 tt v11) fun v12 =>
 vb (gd (isB false v12) (xFld 1 v1)) fun v13 =>
 vb (gd (isB false v12) (xLd v13 h)) fun v14 =>
 vb (gd (isB false v12) (xCmp (fun x y => ilt y x) v14 (vN 40))) fun v15 =>
 vb (xPick v12 tt v15) fun v16 =>
 vb (gd (isB false v16) (xFld 3 v1)) fun v17 =>
 vb (gd (isB false v16) (xLd v17 h)) fun v18 =>
 vb (gd (isB false v16) (xLenS v18)) fun v19 =>
 vb (gd (isB false v16) (xCmp (fun x y => ilt y x) v19 (vN 60))) fun v20 =>
 vb (xPick v16 tt v20) fun v21 =>
 vb (gd (isB false v21) (xFld 4 v1)) fun v22 =>
 vb (gd (isB false v21) (xLd v22 h)) fun v23 =>
 vb (gd (isB false v21) (xLenS v23)) fun v24 =>
 vb (gd (isB false v21) (xCmp (fun x y => ilt y x) v24 (vN 200))) fun v25 =>
 vb (xPick v21 tt v25) fun v26 =>
 bite v26 (some ((vN 3), h)) (F37_1 n cl v1 h)
noncomputable def D37 (n : Nat) (cl : CL) : CL := fun f xs h => sw f 29 (ucons xs fun b0 xs => ucons xs fun b1 xs => u0 xs (F29 n cl b0 b1 h)) (sw f 43 (ucons xs fun b0 xs => ucons xs fun b1 xs => u0 xs (F43 n cl b0 b1 h)) (cl f xs h))
theorem Dk37 {n : Nat} {cl : CL} (hcl : OkCL Try.prog cl) : OkCL Try.prog (D37 n cl) := by
  intro f xs h v h' hx
  rcases sw_ok hx with ⟨rfl, hx⟩ | hx
  · obtain ⟨_, _, rfl, hx⟩ := ucons_ok hx; obtain ⟨_, _, rfl, hx⟩ := ucons_ok hx; obtain ⟨rfl, hx⟩ := u0_ok hx; exact S29 (n := n) (cl := cl) hcl hx
  rcases sw_ok hx with ⟨rfl, hx⟩ | hx
  · obtain ⟨_, _, rfl, hx⟩ := ucons_ok hx; obtain ⟨_, _, rfl, hx⟩ := ucons_ok hx; obtain ⟨rfl, hx⟩ := u0_ok hx; exact S43 (n := n) (cl := cl) hcl hx
  exact hcl _ _ _ _ _ hx
theorem E37 (n : Nat) (cl : CL) (a0 : Value) (h : PH) : exF Try.prog n (D37 n cl) ⟨[29, 43], [], [], [], []⟩ Try.f37 [a0] h = F37 n cl a0 h := by kernel_rfl
theorem S37 {n : Nat} {cl : CL} (hcl : OkCL Try.prog cl) {a0 : Value} {h h' : PH} {v : Value} (hx : F37 n cl a0 h = some (v, h')) : (enterable Try.prog 37 = true ∧ ACall Try.prog 37 [a0] h.abs (fun u k => u = v ∧ k = h'.abs)) ∧ Inv h h' :=
  exF_ok (Dk37 hcl) hmx Try.func37 (by kernel_rfl) ((E37 n cl a0 h).trans hx)
-- undergrowth/grammar.KindOf
noncomputable def F51 (n : Nat) (cl : CL) (a0 a1 : Value) (h : PH) : R :=
 hb (xBox a0 h) fun v1 h =>
 vb (xAri Int.sub (vM 0) a1) fun v2 =>
 vb (xCmp ilt a1 (vN 0)) fun v3 =>
 vb (gd (isB true v3) (some v2)) fun v4 =>
 vb (gd (isB true v3) (xFld 1 v1)) fun v5 =>
 vb (gd (isB true v3) (xLd v5 h)) fun v6 =>
 vb (gd (isB true v3) (xCmp ilt v4 v6)) fun v7 =>
 vb (xPick v3 v7 ff) fun v8 =>
 some (Value.tuple ⟨[v2, v8]⟩, h)
theorem E51 (n : Nat) (cl : CL) (a0 a1 : Value) (h : PH) : exF Try.prog n cl ⟨[], [], [], [(2, [0, 1, 2, 3, 4, 5, 9, 6, 7, 8, 10])], []⟩ Try.f51 [a0, a1] h = F51 n cl a0 a1 h := by kernel_rfl
theorem S51 {n : Nat} {cl : CL} (hcl : OkCL Try.prog cl) {a0 a1 : Value} {h h' : PH} {v : Value} (hx : F51 n cl a0 a1 h = some (v, h')) : (enterable Try.prog 51 = true ∧ ACall Try.prog 51 [a0, a1] h.abs (fun u k => u = v ∧ k = h'.abs)) ∧ Inv h h' :=
  exF_ok hcl hmx Try.func51 (by kernel_rfl) ((E51 n cl a0 a1 h).trans hx)
-- undergrowth/grammar.IsSymbol
noncomputable def F46 (n : Nat) (cl : CL) (a0 a1 : Value) (h : PH) : R :=
 hb (xBox a0 h) fun v1 h =>
 vb (xLdA 7 v1 h) fun v2 =>
 vb (pcall (F51 n cl v2 a1 (h.fzn))) fun v3 =>
 vb (xExt 0 v3) fun v4 =>
 vb (xExt 1 v3) fun v5 =>
 vb (gd (isB false v5) (xLdA 7 v1 h)) fun v6 =>
 vb (gd (isB false v5) (some a1)) fun v7 =>
 vb (gd (isB false v5) (pcall (F29 n cl v6 v7 (h.fzn)))) fun v8 =>
 vb (xPick v5 tt v8) fun v9 =>
 some (v9, h)
noncomputable def D46 (n : Nat) (cl : CL) : CL := fun f xs h => sw f 51 (ucons xs fun b0 xs => ucons xs fun b1 xs => u0 xs (F51 n cl b0 b1 h)) (sw f 29 (ucons xs fun b0 xs => ucons xs fun b1 xs => u0 xs (F29 n cl b0 b1 h)) (cl f xs h))
theorem Dk46 {n : Nat} {cl : CL} (hcl : OkCL Try.prog cl) : OkCL Try.prog (D46 n cl) := by
  intro f xs h v h' hx
  rcases sw_ok hx with ⟨rfl, hx⟩ | hx
  · obtain ⟨_, _, rfl, hx⟩ := ucons_ok hx; obtain ⟨_, _, rfl, hx⟩ := ucons_ok hx; obtain ⟨rfl, hx⟩ := u0_ok hx; exact S51 (n := n) (cl := cl) hcl hx
  rcases sw_ok hx with ⟨rfl, hx⟩ | hx
  · obtain ⟨_, _, rfl, hx⟩ := ucons_ok hx; obtain ⟨_, _, rfl, hx⟩ := ucons_ok hx; obtain ⟨rfl, hx⟩ := u0_ok hx; exact S29 (n := n) (cl := cl) hcl hx
  exact hcl _ _ _ _ _ hx
theorem E46 (n : Nat) (cl : CL) (a0 a1 : Value) (h : PH) : exF Try.prog n (D46 n cl) ⟨[29, 51], [], [], [], []⟩ Try.f46 [a0, a1] h = F46 n cl a0 a1 h := by kernel_rfl
theorem S46 {n : Nat} {cl : CL} (hcl : OkCL Try.prog cl) {a0 a1 : Value} {h h' : PH} {v : Value} (hx : F46 n cl a0 a1 h = some (v, h')) : (enterable Try.prog 46 = true ∧ ACall Try.prog 46 [a0, a1] h.abs (fun u k => u = v ∧ k = h'.abs)) ∧ Inv h h' :=
  exF_ok (Dk46 hcl) hmx Try.func46 (by kernel_rfl) ((E46 n cl a0 a1 h).trans hx)
-- undergrowth/grammar.rule$1
noncomputable def F45 (n : Nat) (cl : CL) (a0 a1 : Value) (h : PH) : R :=
 vb (xLdA 7 a1 h) fun v1 =>
 vb (pcall (F46 n cl v1 a0 (h.fzn))) fun v2 =>
 vb (xNot v2) fun v3 =>
 some (v3, h)
noncomputable def D45 (n : Nat) (cl : CL) : CL := fun f xs h => sw f 46 (ucons xs fun b0 xs => ucons xs fun b1 xs => u0 xs (F46 n cl b0 b1 h)) (cl f xs h)
theorem Dk45 {n : Nat} {cl : CL} (hcl : OkCL Try.prog cl) : OkCL Try.prog (D45 n cl) := by
  intro f xs h v h' hx
  rcases sw_ok hx with ⟨rfl, hx⟩ | hx
  · obtain ⟨_, _, rfl, hx⟩ := ucons_ok hx; obtain ⟨_, _, rfl, hx⟩ := ucons_ok hx; obtain ⟨rfl, hx⟩ := u0_ok hx; exact S46 (n := n) (cl := cl) hcl hx
  exact hcl _ _ _ _ _ hx
theorem E45 (n : Nat) (cl : CL) (a0 a1 : Value) (h : PH) : exF Try.prog n (D45 n cl) ⟨[46], [], [], [], []⟩ Try.f45 [a0, a1] h = F45 n cl a0 a1 h := by kernel_rfl
theorem S45 {n : Nat} {cl : CL} (hcl : OkCL Try.prog cl) {a0 a1 : Value} {h h' : PH} {v : Value} (hx : F45 n cl a0 a1 h = some (v, h')) : (enterable Try.prog 45 = true ∧ ACall Try.prog 45 [a0, a1] h.abs (fun u k => u = v ∧ k = h'.abs)) ∧ Inv h h' :=
  exF_ok (Dk45 hcl) hmx Try.func45 (by kernel_rfl) ((E45 n cl a0 a1 h).trans hx)
-- undergrowth/grammar.rule
noncomputable def F38_0 (n : Nat) (cl : CL) (v2 : Value) (h : PH) : R :=
 vb (xFld 2 v2) fun v17 =>
 vb (xLd v17 h) fun v18 =>
 vb (xCmp ilt v18 (vM 999)) fun v19 =>
 vb (gd (isB false v19) (xFld 2 v2)) fun v20 =>
 vb (gd (isB false v19) (xLd v20 h)) fun v21 =>
 vb (gd (isB false v19) (xCmp (fun x y => ilt y x) v21 (vN 1000))) fun v22 =>
 vb (xPick v19 tt v22) fun v23 =>
 bite v23 (some ((vN 1), h)) (some ((vN 0), h))
noncomputable def F38_1 (n : Nat) (cl : CL) (v2 : Value) (h : PH) : R :=
 vb (xFld 1 v2) fun v13 =>
 vb (xLd v13 h) fun v14 =>
 vb (xLenS v14) fun v15 =>
 vb (xCmp (fun x y => ilt y x) v15 (vN 8)) fun v16 =>
 bite v16 (some ((vN 3), h)) (F38_0 n cl v2 h)
noncomputable def F38 (n : Nat) (cl : CL) (a0 a1 : Value) (h : PH) : R :=
 hb (xBox a0 h) fun v1 h =>
 hb (xBox a1 h) fun v2 h =>
 vb (xLdA 7 v1 h) fun v3 =>
 vb (xFld 0 v2) fun v4 =>
 vb (xLd v4 h) fun v5 =>
 vb (pcall (F29 n cl v3 v5 (h.fzn))) fun v6 =>
 vb (xNot v6) fun v7 =>
 vb (gd (isB false v7) (xFld 1 v2)) fun v8 =>
 vb (gd (isB false v7) (xLd v8 h)) fun v9 =>
 vb (gd (isB false v7) (some (Value.func (Fn.func 45) ⟨[]⟩ ⟨[v1]⟩))) fun v10 =>
 vb (gd (isB false v7) (pcall (F44 n cl v9 v10 (h.fzn)))) fun v11 =>
 vb (xPick v7 tt v11) fun v12 =>
 bite v12 (some ((vN 6), h)) (F38_1 n cl v2 h)
noncomputable def D38 (n : Nat) (cl : CL) : CL := fun f xs h => sw f 29 (ucons xs fun b0 xs => ucons xs fun b1 xs => u0 xs (F29 n cl b0 b1 h)) (sw f 44 (ucons xs fun b0 xs => ucons xs fun b1 xs => u0 xs (F44 n cl b0 b1 h)) (cl f xs h))
theorem Dk38 {n : Nat} {cl : CL} (hcl : OkCL Try.prog cl) : OkCL Try.prog (D38 n cl) := by
  intro f xs h v h' hx
  rcases sw_ok hx with ⟨rfl, hx⟩ | hx
  · obtain ⟨_, _, rfl, hx⟩ := ucons_ok hx; obtain ⟨_, _, rfl, hx⟩ := ucons_ok hx; obtain ⟨rfl, hx⟩ := u0_ok hx; exact S29 (n := n) (cl := cl) hcl hx
  rcases sw_ok hx with ⟨rfl, hx⟩ | hx
  · obtain ⟨_, _, rfl, hx⟩ := ucons_ok hx; obtain ⟨_, _, rfl, hx⟩ := ucons_ok hx; obtain ⟨rfl, hx⟩ := u0_ok hx; exact S44 (n := n) (cl := cl) hcl hx
  exact hcl _ _ _ _ _ hx
theorem E38 (n : Nat) (cl : CL) (a0 a1 : Value) (h : PH) : exF Try.prog n (D38 n cl) ⟨[29, 44], [], [], [], []⟩ Try.f38 [a0, a1] h = F38 n cl a0 a1 h := by kernel_rfl
theorem S38 {n : Nat} {cl : CL} (hcl : OkCL Try.prog cl) {a0 a1 : Value} {h h' : PH} {v : Value} (hx : F38 n cl a0 a1 h = some (v, h')) : (enterable Try.prog 38 = true ∧ ACall Try.prog 38 [a0, a1] h.abs (fun u k => u = v ∧ k = h'.abs)) ∧ Inv h h' :=
  exF_ok (Dk38 hcl) hmx Try.func38 (by kernel_rfl) ((E38 n cl a0 a1 h).trans hx)
-- undergrowth/grammar.forbid
noncomputable def F41_0 (n : Nat) (cl : CL) (v1 : Value) (v2 : Value) (h : PH) : R :=
 vb (xFld 3 v1) fun v24 =>
 vb (xLd v24 h) fun v25 =>
 vb (xIdxA 3 1 v2 (vN 0)) fun v26 =>
 vb (xLd v26 h) fun v27 =>
 vb (xIdxS 3 v25 v27) fun v28 =>
 vb (xFld 1 v28) fun v29 =>
 vb (xLd v29 h) fun v30 =>
 vb (xIdxA 3 1 v2 (vN 1)) fun v31 =>
 vb (xLd v31 h) fun v32 =>
 vb (xCmp (fun x y => ile y x) v32 (vN 0)) fun v33 =>
 vb (gd (isB true v33) (xIdxA 3 1 v2 (vN 1))) fun v34 =>
 vb (gd (isB true v33) (some v30)) fun v35 =>
 vb (gd (isB true v33) (xLd v34 h)) fun v36 =>
 vb (gd (isB true v33) (xLenS v35)) fun v37 =>
 vb (gd (isB true v33) (xCmp ilt v36 v37)) fun v38 =>
 vb (xPick v33 v38 ff) fun v39 =>
 vb (gd (isB true v39) (some v30)) fun v40 =>
 vb (gd (isB true v39) (xIdxA 3 1 v2 (vN 1))) fun v41 =>
 vb (gd (isB true v39) (xFld 3 v1)) fun v42 =>
 vb (gd (isB true v39) (xIdxA 3 1 v2 (vN 2))) fun v43 =>
 vb (gd (isB true v39) (xLd v41 h)) fun v44 =>
 vb (gd (isB true v39) (xIdxS 1 v40 v44)) fun v45 =>
 vb (gd (isB true v39) (xLd v45 h)) fun v46 =>
 vb (gd (isB true v39) (xLd v42 h)) fun v47 =>
 vb (gd (isB true v39) (xLd v43 h)) fun v48 =>
 vb (gd (isB true v39) (xIdxS 3 v47 v48)) fun v49 =>
 vb (gd (isB true v39) (xFld 0 v49)) fun v50 =>
 vb (gd (isB true v39) (xLd v50 h)) fun v51 =>
 vb (gd (isB true v39) (xCmp ieq v46 v51)) fun v52 =>
 vb (xPick v39 v52 ff) fun v53 =>
 some (v53, h)
noncomputable def F41 (n : Nat) (cl : CL) (a0 a1 : Value) (h : PH) : R :=
 hb (xBox a0 h) fun v1 h =>
 hb (xBox a1 h) fun v2 h =>
 vb (xIdxA 3 1 v2 (vN 0)) fun v3 =>
 vb (xLd v3 h) fun v4 =>
 vb (xCmp ilt v4 (vN 0)) fun v5 =>
 vb (gd (isB false v5) (xIdxA 3 1 v2 (vN 0))) fun v6 =>
 vb (gd (isB false v5) (xLd v6 h)) fun v7 =>
 vb (gd (isB false v5) (xFld 3 v1)) fun v8 =>
 vb (gd (isB false v5) (xLd v8 h)) fun v9 =>
 vb (gd (isB false v5) (xLenS v9)) fun v10 =>
 vb (gd (isB false v5) (xCmp (fun x y => ile y x) v7 v10)) fun v11 =>
 vb (xPick v5 tt v11) fun v12 =>
 vb (gd (isB false v12) (xIdxA 3 1 v2 (vN 2))) fun v13 =>
 vb (gd (isB false v12) (xLd v13 h)) fun v14 =>
 vb (gd (isB false v12) (xCmp ilt v14 (vN 0))) fun v15 =>
 vb (xPick v12 tt v15) fun v16 =>
 vb (gd (isB false v16) (xIdxA 3 1 v2 (vN 2))) fun v17 =>
 vb (gd (isB false v16) (xLd v17 h)) fun v18 =>
 vb (gd (isB false v16) (xFld 3 v1)) fun v19 =>
 vb (gd (isB false v16) (xLd v19 h)) fun v20 =>
 vb (gd (isB false v16) (xLenS v20)) fun v21 =>
 vb (gd (isB false v16) (xCmp (fun x y => ile y x) v18 v21)) fun v22 =>
 vb (xPick v16 tt v22) fun v23 =>
 bite v23 (some (ff, h)) (F41_0 n cl v1 v2 h)
theorem E41 (n : Nat) (cl : CL) (a0 a1 : Value) (h : PH) : exF Try.prog n cl ⟨[], [], [], [(4, [0, 1, 2, 3, 4, 6, 5, 7, 8, 9, 10, 11, 12, 16, 18, 13, 14, 15, 17, 19, 20, 21, 22, 23, 24, 25])], []⟩ Try.f41 [a0, a1] h = F41 n cl a0 a1 h := by kernel_rfl
theorem S41 {n : Nat} {cl : CL} (hcl : OkCL Try.prog cl) {a0 a1 : Value} {h h' : PH} {v : Value} (hx : F41 n cl a0 a1 h = some (v, h')) : (enterable Try.prog 41 = true ∧ ACall Try.prog 41 [a0, a1] h.abs (fun u k => u = v ∧ k = h'.abs)) ∧ Inv h h' :=
  exF_ok hcl hmx Try.func41 (by kernel_rfl) ((E41 n cl a0 a1 h).trans hx)
-- undergrowth/grammar.Form$1
noncomputable def F40 (n : Nat) (cl : CL) (a0 a1 : Value) (h : PH) : R :=
 hb (xBox a0 h) fun v1 h =>
 vb (xLdA 7 a1 h) fun v2 =>
 vb (xLdA 3 v1 h) fun v3 =>
 vb (pcall (F41 n cl v2 v3 (h.fzn))) fun v4 =>
 vb (xNot v4) fun v5 =>
 some (v5, h)
noncomputable def D40 (n : Nat) (cl : CL) : CL := fun f xs h => sw f 41 (ucons xs fun b0 xs => ucons xs fun b1 xs => u0 xs (F41 n cl b0 b1 h)) (cl f xs h)
theorem Dk40 {n : Nat} {cl : CL} (hcl : OkCL Try.prog cl) : OkCL Try.prog (D40 n cl) := by
  intro f xs h v h' hx
  rcases sw_ok hx with ⟨rfl, hx⟩ | hx
  · obtain ⟨_, _, rfl, hx⟩ := ucons_ok hx; obtain ⟨_, _, rfl, hx⟩ := ucons_ok hx; obtain ⟨rfl, hx⟩ := u0_ok hx; exact S41 (n := n) (cl := cl) hcl hx
  exact hcl _ _ _ _ _ hx
theorem E40 (n : Nat) (cl : CL) (a0 a1 : Value) (h : PH) : exF Try.prog n (D40 n cl) ⟨[41], [], [], [], []⟩ Try.f40 [a0, a1] h = F40 n cl a0 a1 h := by kernel_rfl
theorem S40 {n : Nat} {cl : CL} (hcl : OkCL Try.prog cl) {a0 a1 : Value} {h h' : PH} {v : Value} (hx : F40 n cl a0 a1 h = some (v, h')) : (enterable Try.prog 40 = true ∧ ACall Try.prog 40 [a0, a1] h.abs (fun u k => u = v ∧ k = h'.abs)) ∧ Inv h h' :=
  exF_ok (Dk40 hcl) hmx Try.func40 (by kernel_rfl) ((E40 n cl a0 a1 h).trans hx)
-- slices.IndexFunc[[][3]int,[3]int]
noncomputable def F47_0 (n : Nat) (cl : CL) (v9 : Value) (r2 : Kt) (v3 : Value) (v5 : Value) (v7 : Value) (h : PH) : R :=
 vb (xAri Int.add v9 (vN 1)) fun v15 =>
 r2 [v3, v5, v7, v15] h
noncomputable def F47_1 (n : Nat) (cl : CL) (v3 : Value) (v9 : Value) (v5 : Value) (r2 : Kt) (v7 : Value) (h : PH) : R :=
 vb (xIdxS 3 v3 v9) fun v12 =>
 vb (xLdA 3 v12 h) fun v13 =>
 hb (xCall cl v5 [v13] h) fun v14 h =>
 bite v14 (some (v9, h)) (F47_0 n cl v9 r2 v3 v5 v7 h)
noncomputable def F47_2 (n : Nat) (cl : CL) (v9 : Value) (v7 : Value) (v3 : Value) (v5 : Value) (r2 : Kt) (h : PH) : R :=
 vb (xCmp ilt v9 v7) fun v11 =>
 bite v11 (F47_1 n cl v3 v9 v5 r2 v7 h) (some ((vM 0), h))
noncomputable def F47_3 (n : Nat) (cl : CL) (r2 : Kt) (y2 : List Value) (h : PH) : R :=
 ucons y2 fun v3 y4 => ucons y4 fun v5 y6 => ucons y6 fun v7 y8 => ucons y8 fun v9 y10 => F47_2 n cl v9 v7 v3 v5 r2 h
noncomputable def F47 (n : Nat) (cl : CL) (a0 a1 : Value) (h : PH) : R :=
 vb (xLenS a0) fun v1 =>
 lp n (F47_3 n cl) [a0, a1, v1, (vN 0)] h
theorem E47 (n : Nat) (cl : CL) (a0 a1 : Value) (h : PH) : exF Try.prog n cl ⟨[], [], [(2, [0, 1, 7, 8])], [], []⟩ Try.f47 [a0, a1] h = F47 n cl a0 a1 h := by kernel_rfl
theorem S47 {n : Nat} {cl : CL} (hcl : OkCL Try.prog cl) {a0 a1 : Value} {h h' : PH} {v : Value} (hx : F47 n cl a0 a1 h = some (v, h')) : (enterable Try.prog 47 = true ∧ ACall Try.prog 47 [a0, a1] h.abs (fun u k => u = v ∧ k = h'.abs)) ∧ Inv h h' :=
  exF_ok hcl hmx Try.func47 (by kernel_rfl) ((E47 n cl a0 a1 h).trans hx)
-- slices.ContainsFunc[[][3]int,[3]int]
noncomputable def F39 (n : Nat) (cl : CL) (a0 a1 : Value) (h : PH) : R :=
 vb (pcall (F47 n cl a0 a1 (h.fzn))) fun v1 =>
 vb (xCmp (fun x y => ile y x) v1 (vN 0)) fun v2 =>
 some (v2, h)
noncomputable def D39 (n : Nat) (cl : CL) : CL := fun f xs h => sw f 47 (ucons xs fun b0 xs => ucons xs fun b1 xs => u0 xs (F47 n cl b0 b1 h)) (cl f xs h)
theorem Dk39 {n : Nat} {cl : CL} (hcl : OkCL Try.prog cl) : OkCL Try.prog (D39 n cl) := by
  intro f xs h v h' hx
  rcases sw_ok hx with ⟨rfl, hx⟩ | hx
  · obtain ⟨_, _, rfl, hx⟩ := ucons_ok hx; obtain ⟨_, _, rfl, hx⟩ := ucons_ok hx; obtain ⟨rfl, hx⟩ := u0_ok hx; exact S47 (n := n) (cl := cl) hcl hx
  exact hcl _ _ _ _ _ hx
theorem E39 (n : Nat) (cl : CL) (a0 a1 : Value) (h : PH) : exF Try.prog n (D39 n cl) ⟨[47], [], [], [], []⟩ Try.f39 [a0, a1] h = F39 n cl a0 a1 h := by kernel_rfl
theorem S39 {n : Nat} {cl : CL} (hcl : OkCL Try.prog cl) {a0 a1 : Value} {h h' : PH} {v : Value} (hx : F39 n cl a0 a1 h = some (v, h')) : (enterable Try.prog 39 = true ∧ ACall Try.prog 39 [a0, a1] h.abs (fun u k => u = v ∧ k = h'.abs)) ∧ Inv h h' :=
  exF_ok (Dk39 hcl) hmx Try.func39 (by kernel_rfl) ((E39 n cl a0 a1 h).trans hx)
-- undergrowth/grammar.Form
noncomputable def F33_0 (n : Nat) (cl : CL) (v15 : Value) (r5 : Kt) (v9 : Value) (v11 : Value) (v13 : Value) (h : PH) : R :=
 vb (xAri Int.add v15 (vN 1)) fun v25 =>
 r5 [v9, v11, v13, v25] h
noncomputable def F33_1 (n : Nat) (cl : CL) (v11 : Value) (v15 : Value) (v9 : Value) (r5 : Kt) (v13 : Value) (h : PH) : R :=
 vb (xIdxS 3 v11 v15) fun v18 =>
 vb (xLdA 3 v18 h) fun v19 =>
 hb (xAlloc (zcells Try.prog 29) h) fun v20 h =>
 hb (xStA 3 v20 v19 h) fun _ h =>
 vb (xLdA 7 v9 h) fun v21 =>
 vb (xLdA 3 v20 h) fun v22 =>
 vb (pcall (F38 n cl v21 v22 (h.fzn))) fun v23 =>
 vb (xCmp ine v23 (vN 0)) fun v24 =>
 bite v24 (some (Value.tuple ⟨[v15, v23]⟩, h)) (F33_0 n cl v15 r5 v9 v11 v13 h)
noncomputable def F33_2 (n : Nat) (cl : CL) (v9 : Value) (h : PH) : R :=
 vb (xFld 4 v9) fun v26 =>
 vb (xLd v26 h) fun v27 =>
 vb (some (Value.func (Fn.func 40) ⟨[]⟩ ⟨[v9]⟩)) fun v28 =>
 vb (pcall (F39 n cl v27 v28 (h.fzn))) fun v29 =>
 bite v29 (some (Value.tuple ⟨[(vM 0), (vN 6)]⟩, h)) (some (Value.tuple ⟨[(vM 0), (vN 0)]⟩, h))
noncomputable def F33_3 (n : Nat) (cl : CL) (v15 : Value) (v13 : Value) (v11 : Value) (v9 : Value) (r5 : Kt) (h : PH) : R :=
 vb (xCmp ilt v15 v13) fun v17 =>
 bite v17 (F33_1 n cl v11 v15 v9 r5 v13 h) (F33_2 n cl v9 h)
noncomputable def F33_4 (n : Nat) (cl : CL) (r5 : Kt) (y8 : List Value) (h : PH) : R :=
 ucons y8 fun v9 y10 => ucons y10 fun v11 y12 => ucons y12 fun v13 y14 => ucons y14 fun v15 y16 => F33_3 n cl v15 v13 v11 v9 r5 h
noncomputable def F33_5 (n : Nat) (cl : CL) (v1 : Value) (h : PH) : R :=
 vb (xFld 3 v1) fun v5 =>
 vb (xLd v5 h) fun v6 =>
 vb (xLenS v6) fun v7 =>
 lp n (F33_4 n cl) [v1, v6, v7, (vN 0)] h
noncomputable def F33 (n : Nat) (cl : CL) (a0 : Value) (h : PH) : R :=
 hb (xBox a0 h) fun v1 h =>
 vb (xLdA 7 v1 h) fun v2 =>
 vb (pcall (F37 n cl v2 (h.fzn))) fun v3 =>
 vb (xCmp ine v3 (vN 0)) fun v4 =>
 bite v4 (some (Value.tuple ⟨[(vM 0), v3]⟩, h)) (F33_5 n cl v1 h)
noncomputable def D33 (n : Nat) (cl : CL) : CL := fun f xs h => sw f 37 (ucons xs fun b0 xs => u0 xs (F37 n cl b0 h)) (sw f 38 (ucons xs fun b0 xs => ucons xs fun b1 xs => u0 xs (F38 n cl b0 b1 h)) (sw f 39 (ucons xs fun b0 xs => ucons xs fun b1 xs => u0 xs (F39 n cl b0 b1 h)) (cl f xs h)))
theorem Dk33 {n : Nat} {cl : CL} (hcl : OkCL Try.prog cl) : OkCL Try.prog (D33 n cl) := by
  intro f xs h v h' hx
  rcases sw_ok hx with ⟨rfl, hx⟩ | hx
  · obtain ⟨_, _, rfl, hx⟩ := ucons_ok hx; obtain ⟨rfl, hx⟩ := u0_ok hx; exact S37 (n := n) (cl := cl) hcl hx
  rcases sw_ok hx with ⟨rfl, hx⟩ | hx
  · obtain ⟨_, _, rfl, hx⟩ := ucons_ok hx; obtain ⟨_, _, rfl, hx⟩ := ucons_ok hx; obtain ⟨rfl, hx⟩ := u0_ok hx; exact S38 (n := n) (cl := cl) hcl hx
  rcases sw_ok hx with ⟨rfl, hx⟩ | hx
  · obtain ⟨_, _, rfl, hx⟩ := ucons_ok hx; obtain ⟨_, _, rfl, hx⟩ := ucons_ok hx; obtain ⟨rfl, hx⟩ := u0_ok hx; exact S39 (n := n) (cl := cl) hcl hx
  exact hcl _ _ _ _ _ hx
theorem E33 (n : Nat) (cl : CL) (a0 : Value) (h : PH) : exF Try.prog n (D33 n cl) ⟨[37, 38, 39], [], [(5, [1, 14, 15, 16])], [], []⟩ Try.f33 [a0] h = F33 n cl a0 h := by kernel_rfl
theorem S33 {n : Nat} {cl : CL} (hcl : OkCL Try.prog cl) {a0 : Value} {h h' : PH} {v : Value} (hx : F33 n cl a0 h = some (v, h')) : (enterable Try.prog 33 = true ∧ ACall Try.prog 33 [a0] h.abs (fun u k => u = v ∧ k = h'.abs)) ∧ Inv h h' :=
  exF_ok (Dk33 hcl) hmx Try.func33 (by kernel_rfl) ((E33 n cl a0 h).trans hx)
-- undergrowth/grammar.Good
noncomputable def F27 (n : Nat) (cl : CL) (a0 : Value) (h : PH) : R :=
 hb (xBox a0 h) fun v1 h =>
 vb (xLdA 7 v1 h) fun v2 =>
 vb (pcall (F33 n cl v2 (h.fzn))) fun v3 =>
 vb (xExt 0 v3) fun v4 =>
 vb (xExt 1 v3) fun v5 =>
 vb (xCmp ieq v5 (vN 0)) fun v6 =>
 some (v6, h)
noncomputable def D27 (n : Nat) (cl : CL) : CL := fun f xs h => sw f 33 (ucons xs fun b0 xs => u0 xs (F33 n cl b0 h)) (cl f xs h)
theorem Dk27 {n : Nat} {cl : CL} (hcl : OkCL Try.prog cl) : OkCL Try.prog (D27 n cl) := by
  intro f xs h v h' hx
  rcases sw_ok hx with ⟨rfl, hx⟩ | hx
  · obtain ⟨_, _, rfl, hx⟩ := ucons_ok hx; obtain ⟨rfl, hx⟩ := u0_ok hx; exact S33 (n := n) (cl := cl) hcl hx
  exact hcl _ _ _ _ _ hx
theorem E27 (n : Nat) (cl : CL) (a0 : Value) (h : PH) : exF Try.prog n (D27 n cl) ⟨[33], [], [], [], []⟩ Try.f27 [a0] h = F27 n cl a0 h := by kernel_rfl
theorem S27 {n : Nat} {cl : CL} (hcl : OkCL Try.prog cl) {a0 : Value} {h h' : PH} {v : Value} (hx : F27 n cl a0 h = some (v, h')) : (enterable Try.prog 27 = true ∧ ACall Try.prog 27 [a0] h.abs (fun u k => u = v ∧ k = h'.abs)) ∧ Inv h h' :=
  exF_ok (Dk27 hcl) hmx Try.func27 (by kernel_rfl) ((E27 n cl a0 h).trans hx)
-- undergrowth/reach.Reachable
noncomputable def F14_0 (n : Nat) (cl : CL) (v51 : Value) (r9 : Kt) (v41 : Value) (v43 : Value) (v45 : Value) (v47 : Value) (v49 : Value) (h : PH) : R :=
 vb (xAri Int.add v51 (vN 1)) fun v53 =>
 r9 [v41, v43, v45, v47, v49, v53] h
noncomputable def F14_1 (n : Nat) (cl : CL) (v102 : Value) (r13 : Kt) (v86 : Value) (v88 : Value) (v90 : Value) (v92 : Value) (v94 : Value) (v96 : Value) (v98 : Value) (v100 : Value) (h : PH) : R :=
 vb (xAri Int.add v102 (vN 1)) fun v104 =>
 r13 [v86, v88, v90, v92, v94, v96, v98, v100, v104] h
noncomputable def F14_2 (n : Nat) (cl : CL) (v68 : Value) (v106 : Value) (v70 : Value) (k18 : Kt) (v66 : Value) (v72 : Value) (v74 : Value) (v76 : Value) (v78 : Value) (v80 : Value) (v82 : Value) (h : PH) : R :=
 vb (xIdxS 1 v68 v106) fun v115 =>
 hb (xSt1 v115 tt h) fun _ h =>
 hb (xBS 1 (bsRow Try.prog 25 1 [(0, v106)]) h) fun v116 h =>
 hb (xApp (appInfo Try.prog #[25, 25]) v70 v116 h) fun v117 h =>
 k18 [v66, v68, v117, v72, v74, v76, v78, v80, v82] h
noncomputable def F14_3 (n : Nat) (cl : CL) (r13 : Kt) (y85 : List Value) (h : PH) : R :=
 ucons y85 fun v86 y87 => ucons y87 fun v88 y89 => ucons y89 fun v90 y91 => ucons y91 fun v92 y93 => ucons y93 fun v94 y95 => ucons y95 fun v96 y97 => ucons y97 fun v98 y99 => ucons y99 fun v100 y101 => ucons y101 fun v102 y103 => F14_1 n cl v102 r13 v86 v88 v90 v92 v94 v96 v98 v100 h
noncomputable def F14_4 (n : Nat) (cl : CL) (v78 : Value) (v82 : Value) (v66 : Value) (v68 : Value) (v70 : Value) (v72 : Value) (v74 : Value) (v76 : Value) (v80 : Value) (h : PH) (k18 : Kt) : R :=
 vb (xIdxS 1 v78 v82) fun v105 =>
 vb (xLd v105 h) fun v106 =>
 vb (xLdA 7 v66 h) fun v107 =>
 vb (pcall (F29 n cl v107 v106 (h.fzn))) fun v108 =>
 vb (gd (isB true v108) (some v68)) fun v109 =>
 vb (gd (isB true v108) (some v106)) fun v110 =>
 vb (gd (isB true v108) (xIdxS 1 v109 v110)) fun v111 =>
 vb (gd (isB true v108) (xLd v111 h)) fun v112 =>
 vb (gd (isB true v108) (xNot v112)) fun v113 =>
 vb (xPick v108 v113 ff) fun v114 =>
 bite v114 (F14_2 n cl v68 v106 v70 k18 v66 v72 v74 v76 v78 v80 v82 h) (k18 [v66, v68, v70, v72, v74, v76, v78, v80, v82] h)
noncomputable def F14_5 (n : Nat) (cl : CL) (v82 : Value) (v80 : Value) (r13 : Kt) (v78 : Value) (v66 : Value) (v68 : Value) (v70 : Value) (v72 : Value) (v74 : Value) (v76 : Value) (k19 : Kt) (h : PH) : R :=
 vb (xCmp ilt v82 v80) fun v84 =>
 bite v84 (jn (F14_3 n cl r13) (F14_4 n cl v78 v82 v66 v68 v70 v72 v74 v76 v80 h)) (k19 [v66, v68, v70, v72, v74, v76] h)
noncomputable def F14_6 (n : Nat) (cl : CL) (k19 : Kt) (r13 : Kt) (y65 : List Value) (h : PH) : R :=
 ucons y65 fun v66 y67 => ucons y67 fun v68 y69 => ucons y69 fun v70 y71 => ucons y71 fun v72 y73 => ucons y73 fun v74 y75 => ucons y75 fun v76 y77 => ucons y77 fun v78 y79 => ucons y79 fun v80 y81 => ucons y81 fun v82 y83 => F14_5 n cl v82 v80 r13 v78 v66 v68 v70 v72 v74 v76 k19 h
noncomputable def F14_7 (n : Nat) (cl : CL) (v56 : Value) (k19 : Kt) (v27 : Value) (v29 : Value) (v31 : Value) (v33 : Value) (v35 : Value) (v37 : Value) (h : PH) : R :=
 vb (xFld 1 v56) fun v62 =>
 vb (xLd v62 h) fun v63 =>
 vb (xLenS v63) fun v64 =>
 lp n (F14_6 n cl k19) [v27, v29, v31, v33, v35, v37, v63, v64, (vN 0)] h
noncomputable def F14_8 (n : Nat) (cl : CL) (r9 : Kt) (y40 : List Value) (h : PH) : R :=
 ucons y40 fun v41 y42 => ucons y42 fun v43 y44 => ucons y44 fun v45 y46 => ucons y46 fun v47 y48 => ucons y48 fun v49 y50 => ucons y50 fun v51 y52 => F14_0 n cl v51 r9 v41 v43 v45 v47 v49 h
noncomputable def F14_9 (n : Nat) (cl : CL) (v33 : Value) (v37 : Value) (v31 : Value) (v27 : Value) (v29 : Value) (v35 : Value) (h : PH) (k19 : Kt) : R :=
 vb (xIdxS 3 v33 v37) fun v54 =>
 vb (xLdA 3 v54 h) fun v55 =>
 hb (xAlloc (zcells Try.prog 29) h) fun v56 h =>
 hb (xStA 3 v56 v55 h) fun _ h =>
 vb (xFld 0 v56) fun v57 =>
 vb (xIdxS 1 v31 (vN 0)) fun v58 =>
 vb (xLd v57 h) fun v59 =>
 vb (xLd v58 h) fun v60 =>
 vb (xCmp ine v59 v60) fun v61 =>
 bite v61 (k19 [v27, v29, v31, v33, v35, v37] h) (F14_7 n cl v56 k19 v27 v29 v31 v33 v35 v37 h)
noncomputable def F14_10 (n : Nat) (cl : CL) (v31 : Value) (r6 : Kt) (v27 : Value) (v29 : Value) (h : PH) : R :=
 vb (acut Try.prog 25 v31 (some (vN 1)) none none) fun v118 =>
 r6 [v27, v29, v118] h
noncomputable def F14_11 (n : Nat) (cl : CL) (v37 : Value) (v35 : Value) (r9 : Kt) (v33 : Value) (v31 : Value) (v27 : Value) (v29 : Value) (r6 : Kt) (h : PH) : R :=
 vb (xCmp ilt v37 v35) fun v39 =>
 bite v39 (jn (F14_8 n cl r9) (F14_9 n cl v33 v37 v31 v27 v29 v35 h)) (F14_10 n cl v31 r6 v27 v29 h)
noncomputable def F14_12 (n : Nat) (cl : CL) (r6 : Kt) (r9 : Kt) (y26 : List Value) (h : PH) : R :=
 ucons y26 fun v27 y28 => ucons y28 fun v29 y30 => ucons y30 fun v31 y32 => ucons y32 fun v33 y34 => ucons y34 fun v35 y36 => ucons y36 fun v37 y38 => F14_11 n cl v37 v35 r9 v33 v31 v27 v29 r6 h
noncomputable def F14_13 (n : Nat) (cl : CL) (v15 : Value) (r6 : Kt) (v17 : Value) (v19 : Value) (h : PH) : R :=
 vb (xFld 3 v15) fun v23 =>
 vb (xLd v23 h) fun v24 =>
 vb (xLenS v24) fun v25 =>
 lp n (F14_12 n cl r6) [v15, v17, v19, v24, v25, (vN 0)] h
noncomputable def F14_14 (n : Nat) (cl : CL) (v19 : Value) (v15 : Value) (r6 : Kt) (v17 : Value) (h : PH) : R :=
 vb (xLenS v19) fun v21 =>
 vb (xCmp (fun x y => ilt y x) v21 (vN 0)) fun v22 =>
 bite v22 (F14_13 n cl v15 r6 v17 v19 h) (some (v17, h))
noncomputable def F14_15 (n : Nat) (cl : CL) (r6 : Kt) (y14 : List Value) (h : PH) : R :=
 ucons y14 fun v15 y16 => ucons y16 fun v17 y18 => ucons y18 fun v19 y20 => F14_14 n cl v19 v15 r6 v17 h
noncomputable def F14_16 (n : Nat) (cl : CL) (v1 : Value) (h : PH) : R :=
 vb (xFld 0 v1) fun v5 =>
 vb (xLd v5 h) fun v6 =>
 hb (xMk (zinfo Try.prog 34) v6 v6 h) fun v7 h =>
 vb (xFld 2 v1) fun v8 =>
 vb (xLd v8 h) fun v9 =>
 vb (xIdxS 1 v7 v9) fun v10 =>
 hb (xSt1 v10 tt h) fun _ h =>
 vb (xFld 2 v1) fun v11 =>
 vb (xLd v11 h) fun v12 =>
 hb (xBS 1 (bsRow Try.prog 25 1 [(0, v12)]) h) fun v13 h =>
 lp n (F14_15 n cl) [v1, v7, v13] h
noncomputable def F14 (n : Nat) (cl : CL) (a0 : Value) (h : PH) : R :=
 hb (xBox a0 h) fun v1 h =>
 vb (xLdA 7 v1 h) fun v2 =>
 vb (pcall (F27 n cl v2 (h.fzn))) fun v3 =>
 vb (xNot v3) fun v4 =>
 bite v4 (some (nils, h)) (F14_16 n cl v1 h)
noncomputable def D14 (n : Nat) (cl : CL) : CL := fun f xs h => sw f 27 (ucons xs fun b0 xs => u0 xs (F27 n cl b0 h)) (sw f 29 (ucons xs fun b0 xs => ucons xs fun b1 xs => u0 xs (F29 n cl b0 b1 h)) (cl f xs h))
theorem Dk14 {n : Nat} {cl : CL} (hcl : OkCL Try.prog cl) : OkCL Try.prog (D14 n cl) := by
  intro f xs h v h' hx
  rcases sw_ok hx with ⟨rfl, hx⟩ | hx
  · obtain ⟨_, _, rfl, hx⟩ := ucons_ok hx; obtain ⟨rfl, hx⟩ := u0_ok hx; exact S27 (n := n) (cl := cl) hcl hx
  rcases sw_ok hx with ⟨rfl, hx⟩ | hx
  · obtain ⟨_, _, rfl, hx⟩ := ucons_ok hx; obtain ⟨_, _, rfl, hx⟩ := ucons_ok hx; obtain ⟨rfl, hx⟩ := u0_ok hx; exact S29 (n := n) (cl := cl) hcl hx
  exact hcl _ _ _ _ _ hx
theorem E14 (n : Nat) (cl : CL) (a0 : Value) (h : PH) : exF Try.prog n (D14 n cl) ⟨[27, 29], [], [(6, [1, 3, 4]), (9, [1, 3, 4, 28, 29, 30]), (13, [1, 3, 4, 28, 29, 30, 41, 42, 43]), (18, [1, 3, 4, 28, 29, 30, 41, 42, 43]), (19, [1, 3, 4, 28, 29, 30])], [(11, [0, 2, 3, 1, 4, 5])], []⟩ Try.f14 [a0] h = F14 n cl a0 h := by kernel_rfl
theorem S14 {n : Nat} {cl : CL} (hcl : OkCL Try.prog cl) {a0 : Value} {h h' : PH} {v : Value} (hx : F14 n cl a0 h = some (v, h')) : (enterable Try.prog 14 = true ∧ ACall Try.prog 14 [a0] h.abs (fun u k => u = v ∧ k = h'.abs)) ∧ Inv h h' :=
  exF_ok (Dk14 hcl) hmx Try.func14 (by kernel_rfl) ((E14 n cl a0 h).trans hx)
-- undergrowth/reach.long
noncomputable def F28_0 (n : Nat) (cl : CL) (v28 : Value) (r3 : Kt) (v18 : Value) (v20 : Value) (v22 : Value) (v24 : Value) (v26 : Value) (h : PH) : R :=
 vb (xAri Int.add v28 (vN 1)) fun v30 =>
 r3 [v18, v20, v22, v24, v26, v30] h
noncomputable def F28_1 (n : Nat) (cl : CL) (v8 : Value) (k10 : Kt) (v4 : Value) (v6 : Value) (v10 : Value) (v12 : Value) (v14 : Value) (h : PH) : R :=
 vb (xAri Int.add v8 (vN 1)) fun v36 =>
 k10 [v4, v6, v36, v10, v12, v14] h
noncomputable def F28_2 (n : Nat) (cl : CL) (v4 : Value) (v32 : Value) (v8 : Value) (k10 : Kt) (v6 : Value) (v10 : Value) (v12 : Value) (v14 : Value) (h : PH) : R :=
 vb (xIdxS 1 v4 v32) fun v40 =>
 vb (xLd v40 h) fun v41 =>
 vb (xAri Int.add v8 v41) fun v42 =>
 k10 [v4, v6, v42, v10, v12, v14] h
noncomputable def F28_3 (n : Nat) (cl : CL) (v4 : Value) (v32 : Value) (v8 : Value) (k10 : Kt) (v6 : Value) (v10 : Value) (v12 : Value) (v14 : Value) (h : PH) : R :=
 vb (xIdxS 1 v4 v32) fun v37 =>
 vb (xLd v37 h) fun v38 =>
 vb (xCmp ieq v38 (vM 0)) fun v39 =>
 bite v39 (some ((vM 0), h)) (F28_2 n cl v4 v32 v8 k10 v6 v10 v12 v14 h)
noncomputable def F28_4 (n : Nat) (cl : CL) (r3 : Kt) (y17 : List Value) (h : PH) : R :=
 ucons y17 fun v18 y19 => ucons y19 fun v20 y21 => ucons y21 fun v22 y23 => ucons y23 fun v24 y25 => ucons y25 fun v26 y27 => ucons y27 fun v28 y29 => F28_0 n cl v28 r3 v18 v20 v22 v24 v26 h
noncomputable def F28_5 (n : Nat) (cl : CL) (v10 : Value) (v14 : Value) (v6 : Value) (v8 : Value) (v4 : Value) (v12 : Value) (h : PH) (k10 : Kt) : R :=
 vb (xIdxS 1 v10 v14) fun v31 =>
 vb (xLd v31 h) fun v32 =>
 vb (xLdA 7 v6 h) fun v33 =>
 vb (pcall (F29 n cl v33 v32 (h.fzn))) fun v34 =>
 vb (xNot v34) fun v35 =>
 bite v35 (F28_1 n cl v8 k10 v4 v6 v10 v12 v14 h) (F28_3 n cl v4 v32 v8 k10 v6 v10 v12 v14 h)
noncomputable def F28_6 (n : Nat) (cl : CL) (v8 : Value) (h : PH) : R :=
 vb ((if plainV.plainVs [v8, (vN 1000000000)] then prun Try.prog (Builtin.min_ #[3, 3] 3 ⟨[v8, (vN 1000000000)]⟩) else none)) fun v43 =>
 some (v43, h)
noncomputable def F28_7 (n : Nat) (cl : CL) (v14 : Value) (v12 : Value) (r3 : Kt) (v10 : Value) (v6 : Value) (v8 : Value) (v4 : Value) (h : PH) : R :=
 vb (xCmp ilt v14 v12) fun v16 =>
 bite v16 (jn (F28_4 n cl r3) (F28_5 n cl v10 v14 v6 v8 v4 v12 h)) (F28_6 n cl v8 h)
noncomputable def F28_8 (n : Nat) (cl : CL) (r3 : Kt) (y3 : List Value) (h : PH) : R :=
 ucons y3 fun v4 y5 => ucons y5 fun v6 y7 => ucons y7 fun v8 y9 => ucons y9 fun v10 y11 => ucons y11 fun v12 y13 => ucons y13 fun v14 y15 => F28_7 n cl v14 v12 r3 v10 v6 v8 v4 h
noncomputable def F28 (n : Nat) (cl : CL) (a0 a1 a2 : Value) (h : PH) : R :=
 hb (xBox a0 h) fun v1 h =>
 vb (xLenS a2) fun v2 =>
 lp n (F28_8 n cl) [a1, v1, (vN 0), a2, v2, (vN 0)] h
noncomputable def D28 (n : Nat) (cl : CL) : CL := fun f xs h => sw f 29 (ucons xs fun b0 xs => ucons xs fun b1 xs => u0 xs (F29 n cl b0 b1 h)) (cl f xs h)
theorem Dk28 {n : Nat} {cl : CL} (hcl : OkCL Try.prog cl) : OkCL Try.prog (D28 n cl) := by
  intro f xs h v h' hx
  rcases sw_ok hx with ⟨rfl, hx⟩ | hx
  · obtain ⟨_, _, rfl, hx⟩ := ucons_ok hx; obtain ⟨_, _, rfl, hx⟩ := ucons_ok hx; obtain ⟨rfl, hx⟩ := u0_ok hx; exact S29 (n := n) (cl := cl) hcl hx
  exact hcl _ _ _ _ _ hx
theorem E28 (n : Nat) (cl : CL) (a0 a1 a2 : Value) (h : PH) : exF Try.prog n (D28 n cl) ⟨[29], [], [(3, [1, 3, 7, 10, 11, 12]), (10, [1, 3, 7, 10, 11, 12])], [], []⟩ Try.f28 [a0, a1, a2] h = F28 n cl a0 a1 a2 h := by kernel_rfl
theorem S28 {n : Nat} {cl : CL} (hcl : OkCL Try.prog cl) {a0 a1 a2 : Value} {h h' : PH} {v : Value} (hx : F28 n cl a0 a1 a2 h = some (v, h')) : (enterable Try.prog 28 = true ∧ ACall Try.prog 28 [a0, a1, a2] h.abs (fun u k => u = v ∧ k = h'.abs)) ∧ Inv h h' :=
  exF_ok (Dk28 hcl) hmx Try.func28 (by kernel_rfl) ((E28 n cl a0 a1 a2 h).trans hx)
-- undergrowth/reach.Shortest
noncomputable def F11_0 (n : Nat) (cl : CL) (v12 : Value) (v16 : Value) (r5 : Kt) (v10 : Value) (v14 : Value) (h : PH) : R :=
 vb (xIdxS 1 v12 v16) fun v19 =>
 hb (xSt1 v19 (vM 0) h) fun _ h =>
 vb (xAri Int.add v16 (vN 1)) fun v20 =>
 r5 [v10, v12, v14, v20] h
noncomputable def F11_1 (n : Nat) (cl : CL) (v56 : Value) (r13 : Kt) (v46 : Value) (v48 : Value) (v50 : Value) (v52 : Value) (v54 : Value) (h : PH) : R :=
 vb (xAri Int.add v56 (vN 1)) fun v58 =>
 r13 [v46, v48, v50, v52, v54, v58] h
noncomputable def F11_2 (n : Nat) (cl : CL) (v61 : Value) (v34 : Value) (v65 : Value) (k18 : Kt) (v32 : Value) (v38 : Value) (v40 : Value) (v42 : Value) (h : PH) : R :=
 vb (xFld 0 v61) fun v83 =>
 vb (xLd v83 h) fun v84 =>
 vb (xIdxS 1 v34 v84) fun v85 =>
 hb (xSt1 v85 v65 h) fun _ h =>
 k18 [v32, v34, tt, v38, v40, v42] h
noncomputable def F11_3 (n : Nat) (cl : CL) (r13 : Kt) (y45 : List Value) (h : PH) : R :=
 ucons y45 fun v46 y47 => ucons y47 fun v48 y49 => ucons y49 fun v50 y51 => ucons y51 fun v52 y53 => ucons y53 fun v54 y55 => ucons y55 fun v56 y57 => F11_1 n cl v56 r13 v46 v48 v50 v52 v54 h
noncomputable def F11_4 (n : Nat) (cl : CL) (v38 : Value) (v42 : Value) (v32 : Value) (v34 : Value) (v40 : Value) (v36 : Value) (h : PH) (k18 : Kt) : R :=
 vb (xIdxS 3 v38 v42) fun v59 =>
 vb (xLdA 3 v59 h) fun v60 =>
 hb (xAlloc (zcells Try.prog 29) h) fun v61 h =>
 hb (xStA 3 v61 v60 h) fun _ h =>
 vb (xLdA 7 v32 h) fun v62 =>
 vb (xFld 1 v61) fun v63 =>
 vb (xLd v63 h) fun v64 =>
 vb (pcall (F28 n cl v62 v34 v64 (h.fzn))) fun v65 =>
 vb (xCmp ine v65 (vM 0)) fun v66 =>
 vb (gd (isB true v66) (some v34)) fun v67 =>
 vb (gd (isB true v66) (xFld 0 v61)) fun v68 =>
 vb (gd (isB true v66) (xLd v68 h)) fun v69 =>
 vb (gd (isB true v66) (xIdxS 1 v67 v69)) fun v70 =>
 vb (gd (isB true v66) (xLd v70 h)) fun v71 =>
 vb (gd (isB true v66) (xCmp ieq v71 (vM 0))) fun v72 =>
 vb (gd (isB true v66) (some v72)) fun v73 =>
 vb (gd (isB false v73) (some v65)) fun v74 =>
 vb (gd (isB false v73) (some v34)) fun v75 =>
 vb (gd (isB false v73) (xFld 0 v61)) fun v76 =>
 vb (gd (isB false v73) (xLd v76 h)) fun v77 =>
 vb (gd (isB false v73) (xIdxS 1 v75 v77)) fun v78 =>
 vb (gd (isB false v73) (xLd v78 h)) fun v79 =>
 vb (gd (isB false v73) (xCmp ilt v74 v79)) fun v80 =>
 vb (gd (isB true v66) (xPick v73 tt v80)) fun v81 =>
 vb (xPick v66 v81 ff) fun v82 =>
 bite v82 (F11_2 n cl v61 v34 v65 k18 v32 v38 v40 v42 h) (k18 [v32, v34, v36, v38, v40, v42] h)
noncomputable def F11_5 (n : Nat) (cl : CL) (v42 : Value) (v40 : Value) (r13 : Kt) (v38 : Value) (v32 : Value) (v34 : Value) (v36 : Value) (r10 : Kt) (h : PH) : R :=
 vb (xCmp ilt v42 v40) fun v44 =>
 bite v44 (jn (F11_3 n cl r13) (F11_4 n cl v38 v42 v32 v34 v40 v36 h)) (r10 [v32, v34, v36] h)
noncomputable def F11_6 (n : Nat) (cl : CL) (r10 : Kt) (r13 : Kt) (y31 : List Value) (h : PH) : R :=
 ucons y31 fun v32 y33 => ucons y33 fun v34 y35 => ucons y35 fun v36 y37 => ucons y37 fun v38 y39 => ucons y39 fun v40 y41 => ucons y41 fun v42 y43 => F11_5 n cl v42 v40 r13 v38 v32 v34 v36 r10 h
noncomputable def F11_7 (n : Nat) (cl : CL) (v22 : Value) (r10 : Kt) (v24 : Value) (h : PH) : R :=
 vb (xFld 3 v22) fun v28 =>
 vb (xLd v28 h) fun v29 =>
 vb (xLenS v29) fun v30 =>
 lp n (F11_6 n cl r10) [v22, v24, ff, v29, v30, (vN 0)] h
noncomputable def F11_8 (n : Nat) (cl : CL) (r10 : Kt) (y21 : List Value) (h : PH) : R :=
 ucons y21 fun v22 y23 => ucons y23 fun v24 y25 => ucons y25 fun v26 y27 => bite v26 (F11_7 n cl v22 r10 v24 h) (some (v24, h))
noncomputable def F11_9 (n : Nat) (cl : CL) (v16 : Value) (v14 : Value) (v12 : Value) (r5 : Kt) (v10 : Value) (h : PH) : R :=
 vb (xCmp ilt v16 v14) fun v18 =>
 bite v18 (F11_0 n cl v12 v16 r5 v10 v14 h) (lp n (F11_8 n cl) [v10, v12, tt] h)
noncomputable def F11_10 (n : Nat) (cl : CL) (r5 : Kt) (y9 : List Value) (h : PH) : R :=
 ucons y9 fun v10 y11 => ucons y11 fun v12 y13 => ucons y13 fun v14 y15 => ucons y15 fun v16 y17 => F11_9 n cl v16 v14 v12 r5 v10 h
noncomputable def F11_11 (n : Nat) (cl : CL) (v1 : Value) (h : PH) : R :=
 vb (xFld 0 v1) fun v5 =>
 vb (xLd v5 h) fun v6 =>
 hb (xMk (zinfo Try.prog 25) v6 v6 h) fun v7 h =>
 vb (xLenS v7) fun v8 =>
 lp n (F11_10 n cl) [v1, v7, v8, (vN 0)] h
noncomputable def F11 (n : Nat) (cl : CL) (a0 : Value) (h : PH) : R :=
 hb (xBox a0 h) fun v1 h =>
 vb (xLdA 7 v1 h) fun v2 =>
 vb (pcall (F27 n cl v2 (h.fzn))) fun v3 =>
 vb (xNot v3) fun v4 =>
 bite v4 (some (nils, h)) (F11_11 n cl v1 h)
noncomputable def D11 (n : Nat) (cl : CL) : CL := fun f xs h => sw f 27 (ucons xs fun b0 xs => u0 xs (F27 n cl b0 h)) (sw f 28 (ucons xs fun b0 xs => ucons xs fun b1 xs => ucons xs fun b2 xs => u0 xs (F28 n cl b0 b1 b2 h)) (cl f xs h))
theorem Dk11 {n : Nat} {cl : CL} (hcl : OkCL Try.prog cl) : OkCL Try.prog (D11 n cl) := by
  intro f xs h v h' hx
  rcases sw_ok hx with ⟨rfl, hx⟩ | hx
  · obtain ⟨_, _, rfl, hx⟩ := ucons_ok hx; obtain ⟨rfl, hx⟩ := u0_ok hx; exact S27 (n := n) (cl := cl) hcl hx
  rcases sw_ok hx with ⟨rfl, hx⟩ | hx
  · obtain ⟨_, _, rfl, hx⟩ := ucons_ok hx; obtain ⟨_, _, rfl, hx⟩ := ucons_ok hx; obtain ⟨_, _, rfl, hx⟩ := ucons_ok hx; obtain ⟨rfl, hx⟩ := u0_ok hx; exact S28 (n := n) (cl := cl) hcl hx
  exact hcl _ _ _ _ _ hx
theorem E11 (n : Nat) (cl : CL) (a0 : Value) (h : PH) : exF Try.prog n (D11 n cl) ⟨[27, 28], [], [(5, [1, 3, 16, 17]), (10, [1, 3, 5]), (13, [1, 3, 5, 26, 27, 28]), (18, [1, 3, 5, 26, 27, 28])], [], []⟩ Try.f11 [a0] h = F11 n cl a0 h := by kernel_rfl
theorem S11 {n : Nat} {cl : CL} (hcl : OkCL Try.prog cl) {a0 : Value} {h h' : PH} {v : Value} (hx : F11 n cl a0 h = some (v, h')) : (enterable Try.prog 11 = true ∧ ACall Try.prog 11 [a0] h.abs (fun u k => u = v ∧ k = h'.abs)) ∧ Inv h h' :=
  exF_ok (Dk11 hcl) hmx Try.func11 (by kernel_rfl) ((E11 n cl a0 h).trans hx)
-- undergrowth/reach.Productive
noncomputable def F16_0 (n : Nat) (cl : CL) (v8 : Value) (v12 : Value) (v6 : Value) (r3 : Kt) (v10 : Value) (h : PH) : R :=
 vb (xIdxS 1 v8 v12) fun v15 =>
 vb (xLd v15 h) fun v16 =>
 vb (xCmp ine v16 (vM 0)) fun v17 =>
 hb (xBS 1 (bsRow Try.prog 34 1 [(0, v17)]) h) fun v18 h =>
 hb (xApp (appInfo Try.prog #[34, 34]) v6 v18 h) fun v19 h =>
 vb (xAri Int.add v12 (vN 1)) fun v20 =>
 r3 [v19, v8, v10, v20] h
noncomputable def F16_1 (n : Nat) (cl : CL) (v12 : Value) (v10 : Value) (v8 : Value) (v6 : Value) (r3 : Kt) (h : PH) : R :=
 vb (xCmp ilt v12 v10) fun v14 =>
 bite v14 (F16_0 n cl v8 v12 v6 r3 v10 h) (some (v6, h))
noncomputable def F16_2 (n : Nat) (cl : CL) (r3 : Kt) (y5 : List Value) (h : PH) : R :=
 ucons y5 fun v6 y7 => ucons y7 fun v8 y9 => ucons y9 fun v10 y11 => ucons y11 fun v12 y13 => F16_1 n cl v12 v10 v8 v6 r3 h
noncomputable def F16 (n : Nat) (cl : CL) (a0 : Value) (h : PH) : R :=
 hb (xBox a0 h) fun v1 h =>
 vb (xLdA 7 v1 h) fun v2 =>
 hb (fcall h (F11 n cl v2 (h.fzn))) fun v3 h =>
 vb (xLenS v3) fun v4 =>
 lp n (F16_2 n cl) [nils, v3, v4, (vN 0)] h
noncomputable def D16 (n : Nat) (cl : CL) : CL := fun f xs h => sw f 11 (ucons xs fun b0 xs => u0 xs (F11 n cl b0 h)) (cl f xs h)
theorem Dk16 {n : Nat} {cl : CL} (hcl : OkCL Try.prog cl) : OkCL Try.prog (D16 n cl) := by
  intro f xs h v h' hx
  rcases sw_ok hx with ⟨rfl, hx⟩ | hx
  · obtain ⟨_, _, rfl, hx⟩ := ucons_ok hx; obtain ⟨rfl, hx⟩ := u0_ok hx; exact S11 (n := n) (cl := cl) hcl hx
  exact hcl _ _ _ _ _ hx
theorem E16 (n : Nat) (cl : CL) (a0 : Value) (h : PH) : exF Try.prog n (D16 n cl) ⟨[], [11], [(3, [3, 7, 8, 9])], [], []⟩ Try.f16 [a0] h = F16 n cl a0 h := by kernel_rfl
theorem S16 {n : Nat} {cl : CL} (hcl : OkCL Try.prog cl) {a0 : Value} {h h' : PH} {v : Value} (hx : F16 n cl a0 h = some (v, h')) : (enterable Try.prog 16 = true ∧ ACall Try.prog 16 [a0] h.abs (fun u k => u = v ∧ k = h'.abs)) ∧ Inv h h' :=
  exF_ok (Dk16 hcl) hmx Try.func16 (by kernel_rfl) ((E16 n cl a0 h).trans hx)
-- undergrowth/sets.empty
noncomputable def F48_0 (n : Nat) (cl : CL) (v12 : Value) (r2 : Kt) (v4 : Value) (v6 : Value) (v8 : Value) (v10 : Value) (h : PH) : R :=
 vb (xAri Int.add v12 (vN 1)) fun v26 =>
 r2 [v4, v6, v8, v10, v26] h
noncomputable def F48_1 (n : Nat) (cl : CL) (v8 : Value) (v12 : Value) (v6 : Value) (v4 : Value) (r2 : Kt) (v10 : Value) (h : PH) : R :=
 vb (xIdxS 1 v8 v12) fun v15 =>
 vb (xLd v15 h) fun v16 =>
 vb (xLdA 7 v6 h) fun v17 =>
 vb (pcall (F29 n cl v17 v16 (h.fzn))) fun v18 =>
 vb (xNot v18) fun v19 =>
 vb (gd (isB false v19) (some v4)) fun v20 =>
 vb (gd (isB false v19) (some v16)) fun v21 =>
 vb (gd (isB false v19) (xIdxS 1 v20 v21)) fun v22 =>
 vb (gd (isB false v19) (xLd v22 h)) fun v23 =>
 vb (gd (isB false v19) (xNot v23)) fun v24 =>
 vb (xPick v19 tt v24) fun v25 =>
 bite v25 (some (ff, h)) (F48_0 n cl v12 r2 v4 v6 v8 v10 h)
noncomputable def F48_2 (n : Nat) (cl : CL) (v12 : Value) (v10 : Value) (v8 : Value) (v6 : Value) (v4 : Value) (r2 : Kt) (h : PH) : R :=
 vb (xCmp ilt v12 v10) fun v14 =>
 bite v14 (F48_1 n cl v8 v12 v6 v4 r2 v10 h) (some (tt, h))
noncomputable def F48_3 (n : Nat) (cl : CL) (r2 : Kt) (y3 : List Value) (h : PH) : R :=
 ucons y3 fun v4 y5 => ucons y5 fun v6 y7 => ucons y7 fun v8 y9 => ucons y9 fun v10 y11 => ucons y11 fun v12 y13 => F48_2 n cl v12 v10 v8 v6 v4 r2 h
noncomputable def F48 (n : Nat) (cl : CL) (a0 a1 a2 : Value) (h : PH) : R :=
 hb (xBox a0 h) fun v1 h =>
 vb (xLenS a2) fun v2 =>
 lp n (F48_3 n cl) [a1, v1, a2, v2, (vN 0)] h
noncomputable def D48 (n : Nat) (cl : CL) : CL := fun f xs h => sw f 29 (ucons xs fun b0 xs => ucons xs fun b1 xs => u0 xs (F29 n cl b0 b1 h)) (cl f xs h)
theorem Dk48 {n : Nat} {cl : CL} (hcl : OkCL Try.prog cl) : OkCL Try.prog (D48 n cl) := by
  intro f xs h v h' hx
  rcases sw_ok hx with ⟨rfl, hx⟩ | hx
  · obtain ⟨_, _, rfl, hx⟩ := ucons_ok hx; obtain ⟨_, _, rfl, hx⟩ := ucons_ok hx; obtain ⟨rfl, hx⟩ := u0_ok hx; exact S29 (n := n) (cl := cl) hcl hx
  exact hcl _ _ _ _ _ hx
theorem E48 (n : Nat) (cl : CL) (a0 a1 a2 : Value) (h : PH) : exF Try.prog n (D48 n cl) ⟨[29], [], [(2, [1, 3, 9, 10, 11])], [], []⟩ Try.f48 [a0, a1, a2] h = F48 n cl a0 a1 a2 h := by kernel_rfl
theorem S48 {n : Nat} {cl : CL} (hcl : OkCL Try.prog cl) {a0 a1 a2 : Value} {h h' : PH} {v : Value} (hx : F48 n cl a0 a1 a2 h = some (v, h')) : (enterable Try.prog 48 = true ∧ ACall Try.prog 48 [a0, a1, a2] h.abs (fun u k => u = v ∧ k = h'.abs)) ∧ Inv h h' :=
  exF_ok (Dk48 hcl) hmx Try.func48 (by kernel_rfl) ((E48 n cl a0 a1 a2 h).trans hx)
-- undergrowth/sets.nullable
noncomputable def F42_0 (n : Nat) (cl : CL) (v40 : Value) (r6 : Kt) (v30 : Value) (v32 : Value) (v34 : Value) (v36 : Value) (v38 : Value) (h : PH) : R :=
 vb (xAri Int.add v40 (vN 1)) fun v42 =>
 r6 [v30, v32, v34, v36, v38, v42] h
noncomputable def F42_1 (n : Nat) (cl : CL) (v45 : Value) (v18 : Value) (k10 : Kt) (v16 : Value) (v22 : Value) (v24 : Value) (v26 : Value) (h : PH) : R :=
 vb (xFld 0 v45) fun v57 =>
 vb (xLd v57 h) fun v58 =>
 vb (xIdxS 1 v18 v58) fun v59 =>
 hb (xSt1 v59 tt h) fun _ h =>
 k10 [v16, v18, tt, v22, v24, v26] h
noncomputable def F42_2 (n : Nat) (cl : CL) (r6 : Kt) (y29 : List Value) (h : PH) : R :=
 ucons y29 fun v30 y31 => ucons y31 fun v32 y33 => ucons y33 fun v34 y35 => ucons y35 fun v36 y37 => ucons y37 fun v38 y39 => ucons y39 fun v40 y41 => F42_0 n cl v40 r6 v30 v32 v34 v36 v38 h
noncomputable def F42_3 (n : Nat) (cl : CL) (v22 : Value) (v26 : Value) (v18 : Value) (v16 : Value) (v24 : Value) (v20 : Value) (h : PH) (k10 : Kt) : R :=
 vb (xIdxS 3 v22 v26) fun v43 =>
 vb (xLdA 3 v43 h) fun v44 =>
 hb (xAlloc (zcells Try.prog 29) h) fun v45 h =>
 hb (xStA 3 v45 v44 h) fun _ h =>
 vb (xFld 0 v45) fun v46 =>
 vb (xLd v46 h) fun v47 =>
 vb (xIdxS 1 v18 v47) fun v48 =>
 vb (xLd v48 h) fun v49 =>
 vb (xNot v49) fun v50 =>
 vb (gd (isB true v50) (xLdA 7 v16 h)) fun v51 =>
 vb (gd (isB true v50) (some v18)) fun v52 =>
 vb (gd (isB true v50) (xFld 1 v45)) fun v53 =>
 vb (gd (isB true v50) (xLd v53 h)) fun v54 =>
 vb (gd (isB true v50) (pcall (F48 n cl v51 v52 v54 (h.fzn)))) fun v55 =>
 vb (xPick v50 v55 ff) fun v56 =>
 bite v56 (F42_1 n cl v45 v18 k10 v16 v22 v24 v26 h) (k10 [v16, v18, v20, v22, v24, v26] h)
noncomputable def F42_4 (n : Nat) (cl : CL) (v26 : Value) (v24 : Value) (r6 : Kt) (v22 : Value) (v18 : Value) (v16 : Value) (v20 : Value) (r3 : Kt) (h : PH) : R :=
 vb (xCmp ilt v26 v24) fun v28 =>
 bite v28 (jn (F42_2 n cl r6) (F42_3 n cl v22 v26 v18 v16 v24 v20 h)) (r3 [v16, v18, v20] h)
noncomputable def F42_5 (n : Nat) (cl : CL) (r3 : Kt) (r6 : Kt) (y15 : List Value) (h : PH) : R :=
 ucons y15 fun v16 y17 => ucons y17 fun v18 y19 => ucons y19 fun v20 y21 => ucons y21 fun v22 y23 => ucons y23 fun v24 y25 => ucons y25 fun v26 y27 => F42_4 n cl v26 v24 r6 v22 v18 v16 v20 r3 h
noncomputable def F42_6 (n : Nat) (cl : CL) (v6 : Value) (r3 : Kt) (v8 : Value) (h : PH) : R :=
 vb (xFld 3 v6) fun v12 =>
 vb (xLd v12 h) fun v13 =>
 vb (xLenS v13) fun v14 =>
 lp n (F42_5 n cl r3) [v6, v8, ff, v13, v14, (vN 0)] h
noncomputable def F42_7 (n : Nat) (cl : CL) (r3 : Kt) (y5 : List Value) (h : PH) : R :=
 ucons y5 fun v6 y7 => ucons y7 fun v8 y9 => ucons y9 fun v10 y11 => bite v10 (F42_6 n cl v6 r3 v8 h) (some (v8, h))
noncomputable def F42 (n : Nat) (cl : CL) (a0 : Value) (h : PH) : R :=
 hb (xBox a0 h) fun v1 h =>
 vb (xFld 0 v1) fun v2 =>
 vb (xLd v2 h) fun v3 =>
 hb (xMk (zinfo Try.prog 34) v3 v3 h) fun v4 h =>
 lp n (F42_7 n cl) [v1, v4, tt] h
noncomputable def D42 (n : Nat) (cl : CL) : CL := fun f xs h => sw f 48 (ucons xs fun b0 xs => ucons xs fun b1 xs => ucons xs fun b2 xs => u0 xs (F48 n cl b0 b1 b2 h)) (cl f xs h)
theorem Dk42 {n : Nat} {cl : CL} (hcl : OkCL Try.prog cl) : OkCL Try.prog (D42 n cl) := by
  intro f xs h v h' hx
  rcases sw_ok hx with ⟨rfl, hx⟩ | hx
  · obtain ⟨_, _, rfl, hx⟩ := ucons_ok hx; obtain ⟨_, _, rfl, hx⟩ := ucons_ok hx; obtain ⟨_, _, rfl, hx⟩ := ucons_ok hx; obtain ⟨rfl, hx⟩ := u0_ok hx; exact S48 (n := n) (cl := cl) hcl hx
  exact hcl _ _ _ _ _ hx
theorem E42 (n : Nat) (cl : CL) (a0 : Value) (h : PH) : exF Try.prog n (D42 n cl) ⟨[48], [], [(3, [1, 3, 4]), (6, [1, 3, 4, 12, 13, 14]), (10, [1, 3, 4, 12, 13, 14])], [], []⟩ Try.f42 [a0] h = F42 n cl a0 h := by kernel_rfl
theorem S42 {n : Nat} {cl : CL} (hcl : OkCL Try.prog cl) {a0 : Value} {h h' : PH} {v : Value} (hx : F42 n cl a0 h = some (v, h')) : (enterable Try.prog 42 = true ∧ ACall Try.prog 42 [a0] h.abs (fun u k => u = v ∧ k = h'.abs)) ∧ Inv h h' :=
  exF_ok (Dk42 hcl) hmx Try.func42 (by kernel_rfl) ((E42 n cl a0 h).trans hx)
-- undergrowth/sets.Nullable
noncomputable def F34_0 (n : Nat) (cl : CL) (v1 : Value) (h : PH) : R :=
 vb (xLdA 7 v1 h) fun v5 =>
 hb (fcall h (F42 n cl v5 (h.fzn))) fun v6 h =>
 some (v6, h)
noncomputable def F34 (n : Nat) (cl : CL) (a0 : Value) (h : PH) : R :=
 hb (xBox a0 h) fun v1 h =>
 vb (xLdA 7 v1 h) fun v2 =>
 vb (pcall (F27 n cl v2 (h.fzn))) fun v3 =>
 vb (xNot v3) fun v4 =>
 bite v4 (some (nils, h)) (F34_0 n cl v1 h)
noncomputable def D34 (n : Nat) (cl : CL) : CL := fun f xs h => sw f 27 (ucons xs fun b0 xs => u0 xs (F27 n cl b0 h)) (sw f 42 (ucons xs fun b0 xs => u0 xs (F42 n cl b0 h)) (cl f xs h))
theorem Dk34 {n : Nat} {cl : CL} (hcl : OkCL Try.prog cl) : OkCL Try.prog (D34 n cl) := by
  intro f xs h v h' hx
  rcases sw_ok hx with ⟨rfl, hx⟩ | hx
  · obtain ⟨_, _, rfl, hx⟩ := ucons_ok hx; obtain ⟨rfl, hx⟩ := u0_ok hx; exact S27 (n := n) (cl := cl) hcl hx
  rcases sw_ok hx with ⟨rfl, hx⟩ | hx
  · obtain ⟨_, _, rfl, hx⟩ := ucons_ok hx; obtain ⟨rfl, hx⟩ := u0_ok hx; exact S42 (n := n) (cl := cl) hcl hx
  exact hcl _ _ _ _ _ hx
theorem E34 (n : Nat) (cl : CL) (a0 : Value) (h : PH) : exF Try.prog n (D34 n cl) ⟨[27], [42], [], [], []⟩ Try.f34 [a0] h = F34 n cl a0 h := by kernel_rfl
theorem S34 {n : Nat} {cl : CL} (hcl : OkCL Try.prog cl) {a0 : Value} {h h' : PH} {v : Value} (hx : F34 n cl a0 h = some (v, h')) : (enterable Try.prog 34 = true ∧ ACall Try.prog 34 [a0] h.abs (fun u k => u = v ∧ k = h'.abs)) ∧ Inv h h' :=
  exF_ok (Dk34 hcl) hmx Try.func34 (by kernel_rfl) ((E34 n cl a0 h).trans hx)
-- undergrowth/cycle.alone
noncomputable def F35_0 (n : Nat) (cl : CL) (v35 : Value) (r3 : Kt) (v23 : Value) (v25 : Value) (v27 : Value) (v29 : Value) (v31 : Value) (v33 : Value) (h : PH) : R :=
 vb (xAri Int.add v35 (vN 1)) fun v37 =>
 r3 [v23, v25, v27, v29, v31, v33, v37] h
noncomputable def F35_1 (n : Nat) (cl : CL) (v66 : Value) (v70 : Value) (v58 : Value) (v54 : Value) (v48 : Value) (v46 : Value) (r7 : Kt) (v50 : Value) (v52 : Value) (v56 : Value) (v60 : Value) (v62 : Value) (v64 : Value) (v68 : Value) (h : PH) : R :=
 vb (xIdxS 1 v66 v70) fun v73 =>
 vb (xLd v73 h) fun v74 =>
 vb (gd (isB true v58) (some v70)) fun v75 =>
 vb (gd (isB true v58) (some v54)) fun v76 =>
 vb (gd (isB true v58) (xCmp ieq v75 v76)) fun v77 =>
 vb (gd (isB true v58) (some v77)) fun v78 =>
 vb (gd (isB false v78) (xLdA 7 v48 h)) fun v79 =>
 vb (gd (isB false v78) (some v74)) fun v80 =>
 vb (gd (isB false v78) (pcall (F29 n cl v79 v80 (h.fzn)))) fun v81 =>
 vb (gd (isB false v78) (some v81)) fun v82 =>
 vb (gd (isB true v82) (some v46)) fun v83 =>
 vb (gd (isB true v82) (some v74)) fun v84 =>
 vb (gd (isB true v82) (xIdxS 1 v83 v84)) fun v85 =>
 vb (gd (isB true v82) (xLd v85 h)) fun v86 =>
 vb (gd (isB false v78) (xPick v82 v86 ff)) fun v87 =>
 vb (gd (isB true v58) (xPick v78 tt v87)) fun v88 =>
 vb (xPick v58 v88 ff) fun v89 =>
 vb (xAri Int.add v70 (vN 1)) fun v90 =>
 r7 [v46, v48, v50, v52, v54, v56, v89, v60, v62, v64, v66, v68, v90] h
noncomputable def F35_2 (n : Nat) (cl : CL) (v56 : Value) (v52 : Value) (k13 : Kt) (v46 : Value) (v48 : Value) (v50 : Value) (v60 : Value) (v62 : Value) (v64 : Value) (h : PH) : R :=
 hb (xBS 1 (bsRow Try.prog 25 1 [(0, v56)]) h) fun v91 h =>
 hb (xApp (appInfo Try.prog #[25, 25]) v52 v91 h) fun v92 h =>
 k13 [v46, v48, v50, v92, v60, v62, v64] h
noncomputable def F35_3 (n : Nat) (cl : CL) (v58 : Value) (v56 : Value) (v52 : Value) (k13 : Kt) (v46 : Value) (v48 : Value) (v50 : Value) (v60 : Value) (v62 : Value) (v64 : Value) (h : PH) : R :=
 bite v58 (F35_2 n cl v56 v52 k13 v46 v48 v50 v60 v62 v64 h) (k13 [v46, v48, v50, v52, v60, v62, v64] h)
noncomputable def F35_4 (n : Nat) (cl : CL) (v70 : Value) (v68 : Value) (v66 : Value) (v58 : Value) (v54 : Value) (v48 : Value) (v46 : Value) (r7 : Kt) (v50 : Value) (v52 : Value) (v56 : Value) (v60 : Value) (v62 : Value) (v64 : Value) (k13 : Kt) (h : PH) : R :=
 vb (xCmp ilt v70 v68) fun v72 =>
 bite v72 (F35_1 n cl v66 v70 v58 v54 v48 v46 r7 v50 v52 v56 v60 v62 v64 v68 h) (F35_3 n cl v58 v56 v52 k13 v46 v48 v50 v60 v62 v64 h)
noncomputable def F35_5 (n : Nat) (cl : CL) (k13 : Kt) (r7 : Kt) (y45 : List Value) (h : PH) : R :=
 ucons y45 fun v46 y47 => ucons y47 fun v48 y49 => ucons y49 fun v50 y51 => ucons y51 fun v52 y53 => ucons y53 fun v54 y55 => ucons y55 fun v56 y57 => ucons y57 fun v58 y59 => ucons y59 fun v60 y61 => ucons y61 fun v62 y63 => ucons y63 fun v64 y65 => ucons y65 fun v66 y67 => ucons y67 fun v68 y69 => ucons y69 fun v70 y71 => F35_4 n cl v70 v68 v66 v58 v54 v48 v46 r7 v50 v52 v56 v60 v62 v64 k13 h
noncomputable def F35_6 (n : Nat) (cl : CL) (r3 : Kt) (y22 : List Value) (h : PH) : R :=
 ucons y22 fun v23 y24 => ucons y24 fun v25 y26 => ucons y26 fun v27 y28 => ucons y28 fun v29 y30 => ucons y30 fun v31 y32 => ucons y32 fun v33 y34 => ucons y34 fun v35 y36 => F35_0 n cl v35 r3 v23 v25 v27 v29 v31 v33 h
noncomputable def F35_7 (n : Nat) (cl : CL) (v15 : Value) (v19 : Value) (v9 : Value) (v11 : Value) (v7 : Value) (v13 : Value) (v17 : Value) (h : PH) (k13 : Kt) : R :=
 vb (xIdxS 1 v15 v19) fun v38 =>
 vb (xLd v38 h) fun v39 =>
 vb (xLdA 7 v9 h) fun v40 =>
 vb (pcall (F29 n cl v40 v39 (h.fzn))) fun v41 =>
 vb (xFld 1 v11) fun v42 =>
 vb (xLd v42 h) fun v43 =>
 vb (xLenS v43) fun v44 =>
 lp n (F35_5 n cl k13) [v7, v9, v11, v13, v19, v39, v41, v15, v17, v19, v43, v44, (vN 0)] h
noncomputable def F35_8 (n : Nat) (cl : CL) (v19 : Value) (v17 : Value) (r3 : Kt) (v15 : Value) (v9 : Value) (v11 : Value) (v7 : Value) (v13 : Value) (h : PH) : R :=
 vb (xCmp ilt v19 v17) fun v21 =>
 bite v21 (jn (F35_6 n cl r3) (F35_7 n cl v15 v19 v9 v11 v7 v13 v17 h)) (some (v13, h))
noncomputable def F35_9 (n : Nat) (cl : CL) (r3 : Kt) (y6 : List Value) (h : PH) : R :=
 ucons y6 fun v7 y8 => ucons y8 fun v9 y10 => ucons y10 fun v11 y12 => ucons y12 fun v13 y14 => ucons y14 fun v15 y16 => ucons y16 fun v17 y18 => ucons y18 fun v19 y20 => F35_8 n cl v19 v17 r3 v15 v9 v11 v7 v13 h
noncomputable def F35 (n : Nat) (cl : CL) (a0 a1 a2 : Value) (h : PH) : R :=
 hb (xBox a0 h) fun v1 h =>
 hb (xBox a2 h) fun v2 h =>
 vb (xFld 1 v2) fun v3 =>
 vb (xLd v3 h) fun v4 =>
 vb (xLenS v4) fun v5 =>
 lp n (F35_9 n cl) [a1, v1, v2, nils, v4, v5, (vN 0)] h
noncomputable def D35 (n : Nat) (cl : CL) : CL := fun f xs h => sw f 29 (ucons xs fun b0 xs => ucons xs fun b1 xs => u0 xs (F29 n cl b0 b1 h)) (cl f xs h)
theorem Dk35 {n : Nat} {cl : CL} (hcl : OkCL Try.prog cl) : OkCL Try.prog (D35 n cl) := by
  intro f xs h v h' hx
  rcases sw_ok hx with ⟨rfl, hx⟩ | hx
  · obtain ⟨_, _, rfl, hx⟩ := ucons_ok hx; obtain ⟨_, _, rfl, hx⟩ := ucons_ok hx; obtain ⟨rfl, hx⟩ := u0_ok hx; exact S29 (n := n) (cl := cl) hcl hx
  exact hcl _ _ _ _ _ hx
theorem E35 (n : Nat) (cl : CL) (a0 a1 a2 : Value) (h : PH) : exF Try.prog n (D35 n cl) ⟨[29], [], [(3, [1, 3, 5, 7, 14, 15, 16]), (7, [1, 3, 5, 7, 8, 9, 10, 14, 15, 16, 25, 26, 27]), (13, [1, 3, 5, 7, 14, 15, 16])], [], []⟩ Try.f35 [a0, a1, a2] h = F35 n cl a0 a1 a2 h := by kernel_rfl
theorem S35 {n : Nat} {cl : CL} (hcl : OkCL Try.prog cl) {a0 a1 a2 : Value} {h h' : PH} {v : Value} (hx : F35 n cl a0 a1 a2 h = some (v, h')) : (enterable Try.prog 35 = true ∧ ACall Try.prog 35 [a0, a1, a2] h.abs (fun u k => u = v ∧ k = h'.abs)) ∧ Inv h h' :=
  exF_ok (Dk35 hcl) hmx Try.func35 (by kernel_rfl) ((E35 n cl a0 a1 a2 h).trans hx)
-- undergrowth/cycle.Cyclic
noncomputable def F24_0 (n : Nat) (cl : CL) (v12 : Value) (v16 : Value) (v20 : Value) (r6 : Kt) (v14 : Value) (v18 : Value) (h : PH) : R :=
 vb (xFld 0 v12) fun v23 =>
 vb (xLd v23 h) fun v24 =>
 hb (xMk (zinfo Try.prog 34) v24 v24 h) fun v25 h =>
 vb (xIdxS 1 v16 v20) fun v26 =>
 hb (xSt1 v26 v25 h) fun _ h =>
 vb (xAri Int.add v20 (vN 1)) fun v27 =>
 r6 [v12, v14, v16, v18, v27] h
noncomputable def F24_1 (n : Nat) (cl : CL) (v67 : Value) (v71 : Value) (v59 : Value) (v57 : Value) (r14 : Kt) (v53 : Value) (v55 : Value) (v61 : Value) (v63 : Value) (v65 : Value) (v69 : Value) (h : PH) : R :=
 vb (xIdxS 1 v67 v71) fun v74 =>
 vb (xLd v74 h) fun v75 =>
 vb (xFld 0 v59) fun v76 =>
 vb (xLd v76 h) fun v77 =>
 vb (xIdxS 1 v57 v77) fun v78 =>
 vb (xLd v78 h) fun v79 =>
 vb (xIdxS 1 v79 v75) fun v80 =>
 hb (xSt1 v80 tt h) fun _ h =>
 vb (xAri Int.add v71 (vN 1)) fun v81 =>
 r14 [v53, v55, v57, v59, v61, v63, v65, v67, v69, v81] h
noncomputable def F24_2 (n : Nat) (cl : CL) (v65 : Value) (r11 : Kt) (v53 : Value) (v55 : Value) (v57 : Value) (v61 : Value) (v63 : Value) (h : PH) : R :=
 vb (xAri Int.add v65 (vN 1)) fun v82 =>
 r11 [v53, v55, v57, v61, v63, v82] h
noncomputable def F24_3 (n : Nat) (cl : CL) (v71 : Value) (v69 : Value) (v67 : Value) (v59 : Value) (v57 : Value) (r14 : Kt) (v53 : Value) (v55 : Value) (v61 : Value) (v63 : Value) (v65 : Value) (r11 : Kt) (h : PH) : R :=
 vb (xCmp ilt v71 v69) fun v73 =>
 bite v73 (F24_1 n cl v67 v71 v59 v57 r14 v53 v55 v61 v63 v65 v69 h) (F24_2 n cl v65 r11 v53 v55 v57 v61 v63 h)
noncomputable def F24_4 (n : Nat) (cl : CL) (r11 : Kt) (r14 : Kt) (y52 : List Value) (h : PH) : R :=
 ucons y52 fun v53 y54 => ucons y54 fun v55 y56 => ucons y56 fun v57 y58 => ucons y58 fun v59 y60 => ucons y60 fun v61 y62 => ucons y62 fun v63 y64 => ucons y64 fun v65 y66 => ucons y66 fun v67 y68 => ucons y68 fun v69 y70 => ucons y70 fun v71 y72 => F24_3 n cl v71 v69 v67 v59 v57 r14 v53 v55 v61 v63 v65 r11 h
noncomputable def F24_5 (n : Nat) (cl : CL) (v38 : Value) (v42 : Value) (v32 : Value) (v34 : Value) (r11 : Kt) (v36 : Value) (v40 : Value) (h : PH) : R :=
 vb (xIdxS 3 v38 v42) fun v45 =>
 vb (xLdA 3 v45 h) fun v46 =>
 hb (xAlloc (zcells Try.prog 29) h) fun v47 h =>
 hb (xStA 3 v47 v46 h) fun _ h =>
 vb (xLdA 7 v32 h) fun v48 =>
 vb (xLdA 3 v47 h) fun v49 =>
 hb (fcall h (F35 n cl v48 v34 v49 (h.fzn))) fun v50 h =>
 vb (xLenS v50) fun v51 =>
 lp n (F24_4 n cl r11) [v32, v34, v36, v47, v38, v40, v42, v50, v51, (vN 0)] h
noncomputable def F24_6 (n : Nat) (cl : CL) (v115 : Value) (v119 : Value) (v131 : Value) (v117 : Value) (r26 : Kt) (v113 : Value) (v121 : Value) (v123 : Value) (v125 : Value) (v127 : Value) (v129 : Value) (h : PH) : R :=
 vb (xIdxS 1 v115 v119) fun v134 =>
 vb (xIdxS 1 v115 v119) fun v135 =>
 vb (xLd v134 h) fun v136 =>
 vb (xLd v135 h) fun v137 =>
 vb (xIdxS 1 v137 v131) fun v138 =>
 vb (xLd v138 h) fun v139 =>
 vb (gd (isB false v139) (some v115)) fun v140 =>
 vb (gd (isB false v139) (some v119)) fun v141 =>
 vb (gd (isB false v139) (xIdxS 1 v140 v141)) fun v142 =>
 vb (gd (isB false v139) (some v117)) fun v143 =>
 vb (gd (isB false v139) (xLd v142 h)) fun v144 =>
 vb (gd (isB false v139) (xIdxS 1 v144 v143)) fun v145 =>
 vb (gd (isB false v139) (xLd v145 h)) fun v146 =>
 vb (gd (isB false v139) (some v146)) fun v147 =>
 vb (gd (isB true v147) (some v115)) fun v148 =>
 vb (gd (isB true v147) (some v117)) fun v149 =>
 vb (gd (isB true v147) (xIdxS 1 v148 v149)) fun v150 =>
 vb (gd (isB true v147) (some v131)) fun v151 =>
 vb (gd (isB true v147) (xLd v150 h)) fun v152 =>
 vb (gd (isB true v147) (xIdxS 1 v152 v151)) fun v153 =>
 vb (gd (isB true v147) (xLd v153 h)) fun v154 =>
 vb (gd (isB false v139) (xPick v147 v154 ff)) fun v155 =>
 vb (xPick v139 tt v155) fun v156 =>
 vb (xIdxS 1 v136 v131) fun v157 =>
 hb (xSt1 v157 v156 h) fun _ h =>
 vb (xAri Int.add v131 (vN 1)) fun v158 =>
 r26 [v113, v115, v117, v119, v121, v123, v125, v127, v129, v158] h
noncomputable def F24_7 (n : Nat) (cl : CL) (v127 : Value) (r23 : Kt) (v113 : Value) (v115 : Value) (v117 : Value) (v121 : Value) (v123 : Value) (v125 : Value) (h : PH) : R :=
 vb (xAri Int.add v127 (vN 1)) fun v159 =>
 r23 [v113, v115, v117, v121, v123, v125, v159] h
noncomputable def F24_8 (n : Nat) (cl : CL) (v131 : Value) (v129 : Value) (v115 : Value) (v119 : Value) (v117 : Value) (r26 : Kt) (v113 : Value) (v121 : Value) (v123 : Value) (v125 : Value) (v127 : Value) (r23 : Kt) (h : PH) : R :=
 vb (xCmp ilt v131 v129) fun v133 =>
 bite v133 (F24_6 n cl v115 v119 v131 v117 r26 v113 v121 v123 v125 v127 v129 h) (F24_7 n cl v127 r23 v113 v115 v117 v121 v123 v125 h)
noncomputable def F24_9 (n : Nat) (cl : CL) (r23 : Kt) (r26 : Kt) (y112 : List Value) (h : PH) : R :=
 ucons y112 fun v113 y114 => ucons y114 fun v115 y116 => ucons y116 fun v117 y118 => ucons y118 fun v119 y120 => ucons y120 fun v121 y122 => ucons y122 fun v123 y124 => ucons y124 fun v125 y126 => ucons y126 fun v127 y128 => ucons y128 fun v129 y130 => ucons y130 fun v131 y132 => F24_8 n cl v131 v129 v115 v119 v117 r26 v113 v121 v123 v125 v127 r23 h
noncomputable def F24_10 (n : Nat) (cl : CL) (v98 : Value) (r23 : Kt) (v96 : Value) (v100 : Value) (v108 : Value) (v102 : Value) (v104 : Value) (v106 : Value) (h : PH) : R :=
 vb (xLenS v98) fun v111 =>
 lp n (F24_9 n cl r23) [v96, v98, v100, v108, v102, v104, v106, v108, v111, (vN 0)] h
noncomputable def F24_11 (n : Nat) (cl : CL) (v104 : Value) (r20 : Kt) (v96 : Value) (v98 : Value) (v102 : Value) (h : PH) : R :=
 vb (xAri Int.add v104 (vN 1)) fun v160 =>
 r20 [v96, v98, v102, v160] h
noncomputable def F24_12 (n : Nat) (cl : CL) (v108 : Value) (v106 : Value) (v98 : Value) (r23 : Kt) (v96 : Value) (v100 : Value) (v102 : Value) (v104 : Value) (r20 : Kt) (h : PH) : R :=
 vb (xCmp ilt v108 v106) fun v110 =>
 bite v110 (F24_10 n cl v98 r23 v96 v100 v108 v102 v104 v106 h) (F24_11 n cl v104 r20 v96 v98 v102 h)
noncomputable def F24_13 (n : Nat) (cl : CL) (r20 : Kt) (r23 : Kt) (y95 : List Value) (h : PH) : R :=
 ucons y95 fun v96 y97 => ucons y97 fun v98 y99 => ucons y99 fun v100 y101 => ucons y101 fun v102 y103 => ucons y103 fun v104 y105 => ucons y105 fun v106 y107 => ucons y107 fun v108 y109 => F24_12 n cl v108 v106 v98 r23 v96 v100 v102 v104 r20 h
noncomputable def F24_14 (n : Nat) (cl : CL) (v87 : Value) (r20 : Kt) (v85 : Value) (v91 : Value) (v89 : Value) (h : PH) : R :=
 vb (xLenS v87) fun v94 =>
 lp n (F24_13 n cl r20) [v85, v87, v91, v89, v91, v94, (vN 0)] h
noncomputable def F24_15 (n : Nat) (cl : CL) (v166 : Value) (v172 : Value) (v168 : Value) (r34 : Kt) (v170 : Value) (h : PH) : R :=
 vb (xIdxS 1 v166 v172) fun v175 =>
 vb (xLd v175 h) fun v176 =>
 vb (xIdxS 1 v176 v172) fun v177 =>
 vb (xLd v177 h) fun v178 =>
 vb (xIdxS 1 v168 v172) fun v179 =>
 hb (xSt1 v179 v178 h) fun _ h =>
 vb (xAri Int.add v172 (vN 1)) fun v180 =>
 r34 [v166, v168, v170, v180] h
noncomputable def F24_16 (n : Nat) (cl : CL) (v172 : Value) (v170 : Value) (v166 : Value) (v168 : Value) (r34 : Kt) (h : PH) : R :=
 vb (xCmp ilt v172 v170) fun v174 =>
 bite v174 (F24_15 n cl v166 v172 v168 r34 v170 h) (some (v168, h))
noncomputable def F24_17 (n : Nat) (cl : CL) (r34 : Kt) (y165 : List Value) (h : PH) : R :=
 ucons y165 fun v166 y167 => ucons y167 fun v168 y169 => ucons y169 fun v170 y171 => ucons y171 fun v172 y173 => F24_16 n cl v172 v170 v166 v168 r34 h
noncomputable def F24_18 (n : Nat) (cl : CL) (v85 : Value) (v87 : Value) (h : PH) : R :=
 vb (xFld 0 v85) fun v161 =>
 vb (xLd v161 h) fun v162 =>
 hb (xMk (zinfo Try.prog 34) v162 v162 h) fun v163 h =>
 vb (xLenS v163) fun v164 =>
 lp n (F24_17 n cl) [v87, v163, v164, (vN 0)] h
noncomputable def F24_19 (n : Nat) (cl : CL) (v91 : Value) (v89 : Value) (v87 : Value) (r20 : Kt) (v85 : Value) (h : PH) : R :=
 vb (xCmp ilt v91 v89) fun v93 =>
 bite v93 (F24_14 n cl v87 r20 v85 v91 v89 h) (F24_18 n cl v85 v87 h)
noncomputable def F24_20 (n : Nat) (cl : CL) (r20 : Kt) (y84 : List Value) (h : PH) : R :=
 ucons y84 fun v85 y86 => ucons y86 fun v87 y88 => ucons y88 fun v89 y90 => ucons y90 fun v91 y92 => F24_19 n cl v91 v89 v87 r20 v85 h
noncomputable def F24_21 (n : Nat) (cl : CL) (v36 : Value) (v32 : Value) (h : PH) : R :=
 vb (xLenS v36) fun v83 =>
 lp n (F24_20 n cl) [v32, v36, v83, (vN 0)] h
noncomputable def F24_22 (n : Nat) (cl : CL) (v42 : Value) (v40 : Value) (v38 : Value) (v32 : Value) (v34 : Value) (r11 : Kt) (v36 : Value) (h : PH) : R :=
 vb (xCmp ilt v42 v40) fun v44 =>
 bite v44 (F24_5 n cl v38 v42 v32 v34 r11 v36 v40 h) (F24_21 n cl v36 v32 h)
noncomputable def F24_23 (n : Nat) (cl : CL) (r11 : Kt) (y31 : List Value) (h : PH) : R :=
 ucons y31 fun v32 y33 => ucons y33 fun v34 y35 => ucons y35 fun v36 y37 => ucons y37 fun v38 y39 => ucons y39 fun v40 y41 => ucons y41 fun v42 y43 => F24_22 n cl v42 v40 v38 v32 v34 r11 v36 h
noncomputable def F24_24 (n : Nat) (cl : CL) (v12 : Value) (v14 : Value) (v16 : Value) (h : PH) : R :=
 vb (xFld 3 v12) fun v28 =>
 vb (xLd v28 h) fun v29 =>
 vb (xLenS v29) fun v30 =>
 lp n (F24_23 n cl) [v12, v14, v16, v29, v30, (vN 0)] h
noncomputable def F24_25 (n : Nat) (cl : CL) (v20 : Value) (v18 : Value) (v12 : Value) (v16 : Value) (r6 : Kt) (v14 : Value) (h : PH) : R :=
 vb (xCmp ilt v20 v18) fun v22 =>
 bite v22 (F24_0 n cl v12 v16 v20 r6 v14 v18 h) (F24_24 n cl v12 v14 v16 h)
noncomputable def F24_26 (n : Nat) (cl : CL) (r6 : Kt) (y11 : List Value) (h : PH) : R :=
 ucons y11 fun v12 y13 => ucons y13 fun v14 y15 => ucons y15 fun v16 y17 => ucons y17 fun v18 y19 => ucons y19 fun v20 y21 => F24_25 n cl v20 v18 v12 v16 r6 v14 h
noncomputable def F24_27 (n : Nat) (cl : CL) (v1 : Value) (h : PH) : R :=
 vb (xLdA 7 v1 h) fun v5 =>
 hb (fcall h (F34 n cl v5 (h.fzn))) fun v6 h =>
 vb (xFld 0 v1) fun v7 =>
 vb (xLd v7 h) fun v8 =>
 hb (xMk (zinfo Try.prog 50) v8 v8 h) fun v9 h =>
 vb (xLenS v9) fun v10 =>
 lp n (F24_26 n cl) [v1, v6, v9, v10, (vN 0)] h
noncomputable def F24 (n : Nat) (cl : CL) (a0 : Value) (h : PH) : R :=
 hb (xBox a0 h) fun v1 h =>
 vb (xLdA 7 v1 h) fun v2 =>
 vb (pcall (F27 n cl v2 (h.fzn))) fun v3 =>
 vb (xNot v3) fun v4 =>
 bite v4 (some (nils, h)) (F24_27 n cl v1 h)
noncomputable def D24 (n : Nat) (cl : CL) : CL := fun f xs h => sw f 27 (ucons xs fun b0 xs => u0 xs (F27 n cl b0 h)) (sw f 34 (ucons xs fun b0 xs => u0 xs (F34 n cl b0 h)) (sw f 35 (ucons xs fun b0 xs => ucons xs fun b1 xs => ucons xs fun b2 xs => u0 xs (F35 n cl b0 b1 b2 h)) (cl f xs h)))
theorem Dk24 {n : Nat} {cl : CL} (hcl : OkCL Try.prog cl) : OkCL Try.prog (D24 n cl) := by
  intro f xs h v h' hx
  rcases sw_ok hx with ⟨rfl, hx⟩ | hx
  · obtain ⟨_, _, rfl, hx⟩ := ucons_ok hx; obtain ⟨rfl, hx⟩ := u0_ok hx; exact S27 (n := n) (cl := cl) hcl hx
  rcases sw_ok hx with ⟨rfl, hx⟩ | hx
  · obtain ⟨_, _, rfl, hx⟩ := ucons_ok hx; obtain ⟨rfl, hx⟩ := u0_ok hx; exact S34 (n := n) (cl := cl) hcl hx
  rcases sw_ok hx with ⟨rfl, hx⟩ | hx
  · obtain ⟨_, _, rfl, hx⟩ := ucons_ok hx; obtain ⟨_, _, rfl, hx⟩ := ucons_ok hx; obtain ⟨_, _, rfl, hx⟩ := ucons_ok hx; obtain ⟨rfl, hx⟩ := u0_ok hx; exact S35 (n := n) (cl := cl) hcl hx
  exact hcl _ _ _ _ _ hx
theorem E24 (n : Nat) (cl : CL) (a0 : Value) (h : PH) : exF Try.prog n (D24 n cl) ⟨[27], [34, 35], [(6, [1, 3, 4, 24, 25]), (11, [1, 3, 4, 36, 37, 38]), (14, [1, 3, 4, 7, 36, 37, 38, 45, 46, 47]), (20, [1, 4, 61, 62]), (23, [1, 4, 10, 61, 62, 66, 67]), (26, [1, 4, 10, 11, 61, 62, 66, 67, 71, 72]), (34, [4, 13, 113, 114])], [(28, [0, 1, 2, 4, 5, 6, 7, 9, 3, 8, 10, 11, 12, 13, 14, 15, 17, 16, 18, 19, 20, 21, 22, 23, 25, 24, 26, 27, 28, 29, 30, 31])], []⟩ Try.f24 [a0] h = F24 n cl a0 h := by kernel_rfl
theorem S24 {n : Nat} {cl : CL} (hcl : OkCL Try.prog cl) {a0 : Value} {h h' : PH} {v : Value} (hx : F24 n cl a0 h = some (v, h')) : (enterable Try.prog 24 = true ∧ ACall Try.prog 24 [a0] h.abs (fun u k => u = v ∧ k = h'.abs)) ∧ Inv h h' :=
  exF_ok (Dk24 hcl) hmx Try.func24 (by kernel_rfl) ((E24 n cl a0 h).trans hx)
-- undergrowth/cycle.Check
noncomputable def F22_0 (n : Nat) (cl : CL) (v22 : Value) (r6 : Kt) (v14 : Value) (v16 : Value) (v18 : Value) (v20 : Value) (h : PH) : R :=
 vb (xAri Int.add v22 (vN 1)) fun v34 =>
 r6 [v14, v16, v18, v20, v34] h
noncomputable def F22_1 (n : Nat) (cl : CL) (v16 : Value) (v22 : Value) (v18 : Value) (r6 : Kt) (v14 : Value) (v20 : Value) (h : PH) : R :=
 vb (xIdxS 1 v16 v22) fun v25 =>
 vb (xLd v25 h) fun v26 =>
 vb (xNot v26) fun v27 =>
 vb (gd (isB false v27) (some v18)) fun v28 =>
 vb (gd (isB false v27) (some v22)) fun v29 =>
 vb (gd (isB false v27) (xIdxS 1 v28 v29)) fun v30 =>
 vb (gd (isB false v27) (xLd v30 h)) fun v31 =>
 vb (gd (isB false v27) (xNot v31)) fun v32 =>
 vb (xPick v27 tt v32) fun v33 =>
 bite v33 (some (Value.tuple ⟨[v22, (vN 7)]⟩, h)) (F22_0 n cl v22 r6 v14 v16 v18 v20 h)
noncomputable def F22_2 (n : Nat) (cl : CL) (v43 : Value) (r12 : Kt) (v39 : Value) (v41 : Value) (h : PH) : R :=
 vb (xAri Int.add v43 (vN 1)) fun v48 =>
 r12 [v39, v41, v48] h
noncomputable def F22_3 (n : Nat) (cl : CL) (v39 : Value) (v43 : Value) (r12 : Kt) (v41 : Value) (h : PH) : R :=
 vb (xIdxS 1 v39 v43) fun v46 =>
 vb (xLd v46 h) fun v47 =>
 bite v47 (some (Value.tuple ⟨[v43, (vN 8)]⟩, h)) (F22_2 n cl v43 r12 v39 v41 h)
noncomputable def F22_4 (n : Nat) (cl : CL) (v43 : Value) (v41 : Value) (v39 : Value) (r12 : Kt) (h : PH) : R :=
 vb (xCmp ilt v43 v41) fun v45 =>
 bite v45 (F22_3 n cl v39 v43 r12 v41 h) (some (Value.tuple ⟨[(vM 0), (vN 0)]⟩, h))
noncomputable def F22_5 (n : Nat) (cl : CL) (r12 : Kt) (y38 : List Value) (h : PH) : R :=
 ucons y38 fun v39 y40 => ucons y40 fun v41 y42 => ucons y42 fun v43 y44 => F22_4 n cl v43 v41 v39 r12 h
noncomputable def F22_6 (n : Nat) (cl : CL) (v14 : Value) (h : PH) : R :=
 vb (xLdA 7 v14 h) fun v35 =>
 hb (fcall h (F24 n cl v35 (h.fzn))) fun v36 h =>
 vb (xLenS v36) fun v37 =>
 lp n (F22_5 n cl) [v36, v37, (vN 0)] h
noncomputable def F22_7 (n : Nat) (cl : CL) (v22 : Value) (v20 : Value) (v16 : Value) (v18 : Value) (r6 : Kt) (v14 : Value) (h : PH) : R :=
 vb (xCmp ilt v22 v20) fun v24 =>
 bite v24 (F22_1 n cl v16 v22 v18 r6 v14 v20 h) (F22_6 n cl v14 h)
noncomputable def F22_8 (n : Nat) (cl : CL) (r6 : Kt) (y13 : List Value) (h : PH) : R :=
 ucons y13 fun v14 y15 => ucons y15 fun v16 y17 => ucons y17 fun v18 y19 => ucons y19 fun v20 y21 => ucons y21 fun v22 y23 => F22_7 n cl v22 v20 v16 v18 r6 v14 h
noncomputable def F22_9 (n : Nat) (cl : CL) (v1 : Value) (h : PH) : R :=
 nb h fun m7 =>
 vb (xLdA 7 v1 h) fun v8 =>
 vb (oldB m7 v1 (xLdA 7 v1 h)) fun v9 =>
 hb (fcall h (F14 n cl v8 (h.fzn))) fun v10 h =>
 hb (fcall h (F16 n cl v9 (h.fzn))) fun v11 h =>
 vb (xLenS v10) fun v12 =>
 lp n (F22_8 n cl) [v1, v10, v11, v12, (vN 0)] h
noncomputable def F22 (n : Nat) (cl : CL) (a0 : Value) (h : PH) : R :=
 hb (xBox a0 h) fun v1 h =>
 vb (xLdA 7 v1 h) fun v2 =>
 vb (pcall (F33 n cl v2 (h.fzn))) fun v3 =>
 vb (xExt 0 v3) fun v4 =>
 vb (xExt 1 v3) fun v5 =>
 vb (xCmp ine v5 (vN 0)) fun v6 =>
 bite v6 (some (Value.tuple ⟨[v4, v5]⟩, h)) (F22_9 n cl v1 h)
noncomputable def D22 (n : Nat) (cl : CL) : CL := fun f xs h => sw f 33 (ucons xs fun b0 xs => u0 xs (F33 n cl b0 h)) (sw f 14 (ucons xs fun b0 xs => u0 xs (F14 n cl b0 h)) (sw f 16 (ucons xs fun b0 xs => u0 xs (F16 n cl b0 h)) (sw f 24 (ucons xs fun b0 xs => u0 xs (F24 n cl b0 h)) (cl f xs h))))
theorem Dk22 {n : Nat} {cl : CL} (hcl : OkCL Try.prog cl) : OkCL Try.prog (D22 n cl) := by
  intro f xs h v h' hx
  rcases sw_ok hx with ⟨rfl, hx⟩ | hx
  · obtain ⟨_, _, rfl, hx⟩ := ucons_ok hx; obtain ⟨rfl, hx⟩ := u0_ok hx; exact S33 (n := n) (cl := cl) hcl hx
  rcases sw_ok hx with ⟨rfl, hx⟩ | hx
  · obtain ⟨_, _, rfl, hx⟩ := ucons_ok hx; obtain ⟨rfl, hx⟩ := u0_ok hx; exact S14 (n := n) (cl := cl) hcl hx
  rcases sw_ok hx with ⟨rfl, hx⟩ | hx
  · obtain ⟨_, _, rfl, hx⟩ := ucons_ok hx; obtain ⟨rfl, hx⟩ := u0_ok hx; exact S16 (n := n) (cl := cl) hcl hx
  rcases sw_ok hx with ⟨rfl, hx⟩ | hx
  · obtain ⟨_, _, rfl, hx⟩ := ucons_ok hx; obtain ⟨rfl, hx⟩ := u0_ok hx; exact S24 (n := n) (cl := cl) hcl hx
  exact hcl _ _ _ _ _ hx
theorem E22 (n : Nat) (cl : CL) (a0 : Value) (h : PH) : exF Try.prog n (D22 n cl) ⟨[33], [14, 16, 24], [(6, [1, 6, 7, 25, 26]), (12, [44, 45, 46])], [(4, [0, 2, 1, 3, 4, 5])], [(4, [1, 2])]⟩ Try.f22 [a0] h = F22 n cl a0 h := by kernel_rfl
theorem S22 {n : Nat} {cl : CL} (hcl : OkCL Try.prog cl) {a0 : Value} {h h' : PH} {v : Value} (hx : F22 n cl a0 h = some (v, h')) : (enterable Try.prog 22 = true ∧ ACall Try.prog 22 [a0] h.abs (fun u k => u = v ∧ k = h'.abs)) ∧ Inv h h' :=
  exF_ok (Dk22 hcl) hmx Try.func22 (by kernel_rfl) ((E22 n cl a0 h).trans hx)
-- undergrowth/undergrowthlaw13.num
noncomputable def F26 (n : Nat) (cl : CL) (a0 : Value) (h : PH) : R :=
 some (a0, h)
theorem E26 (n : Nat) (cl : CL) (a0 : Value) (h : PH) : exF Try.prog n cl ⟨[], [], [], [], []⟩ Try.f26 [a0] h = F26 n cl a0 h := by kernel_rfl
theorem S26 {n : Nat} {cl : CL} (hcl : OkCL Try.prog cl) {a0 : Value} {h h' : PH} {v : Value} (hx : F26 n cl a0 h = some (v, h')) : (enterable Try.prog 26 = true ∧ ACall Try.prog 26 [a0] h.abs (fun u k => u = v ∧ k = h'.abs)) ∧ Inv h h' :=
  exF_ok hcl hmx Try.func26 (by kernel_rfl) ((E26 n cl a0 h).trans hx)
-- undergrowth/undergrowthlaw13.alive
noncomputable def F21 (n : Nat) (cl : CL) (h : PH) : R :=
 vb (abuild Try.prog 27 [(0, (vN 1))]) fun v1 =>
 vb (pcall (F22 n cl v1 (h.fzn))) fun v2 =>
 vb (xExt 0 v2) fun v3 =>
 vb (xExt 1 v2) fun v4 =>
 vb (abuild Try.prog 29 []) fun v5 =>
 hb (xBS 1 (bsRow Try.prog 25 1 [(0, (vN 0))]) h) fun v6 h =>
 vb (abuild Try.prog 29 [(1, v6)]) fun v7 =>
 hb (xBS 2 (bsRow Try.prog 23 2 [(0, v5), (1, v7)]) h) fun v8 h =>
 vb (abuild Try.prog 27 [(0, (vN 1)), (3, v8)]) fun v9 =>
 vb (pcall (F22 n cl v9 (h.fzn))) fun v10 =>
 vb (xExt 0 v10) fun v11 =>
 vb (xExt 1 v10) fun v12 =>
 vb (pcall (F26 n cl v4 (h.fzn))) fun v13 =>
 vb (xCmp ieq v13 (vN 7)) fun v14 =>
 vb (gd (isB true v14) (some v3)) fun v15 =>
 vb (gd (isB true v14) (xCmp ieq v15 (vN 0))) fun v16 =>
 vb (xPick v14 v16 ff) fun v17 =>
 vb (gd (isB true v17) (some v12)) fun v18 =>
 vb (gd (isB true v17) (pcall (F26 n cl v18 (h.fzn)))) fun v19 =>
 vb (gd (isB true v17) (xCmp ieq v19 (vN 8))) fun v20 =>
 vb (xPick v17 v20 ff) fun v21 =>
 some (v21, h)
noncomputable def D21 (n : Nat) (cl : CL) : CL := fun f xs h => sw f 22 (ucons xs fun b0 xs => u0 xs (F22 n cl b0 h)) (sw f 26 (ucons xs fun b0 xs => u0 xs (F26 n cl b0 h)) (cl f xs h))
theorem Dk21 {n : Nat} {cl : CL} (hcl : OkCL Try.prog cl) : OkCL Try.prog (D21 n cl) := by
  intro f xs h v h' hx
  rcases sw_ok hx with ⟨rfl, hx⟩ | hx
  · obtain ⟨_, _, rfl, hx⟩ := ucons_ok hx; obtain ⟨rfl, hx⟩ := u0_ok hx; exact S22 (n := n) (cl := cl) hcl hx
  rcases sw_ok hx with ⟨rfl, hx⟩ | hx
  · obtain ⟨_, _, rfl, hx⟩ := ucons_ok hx; obtain ⟨rfl, hx⟩ := u0_ok hx; exact S26 (n := n) (cl := cl) hcl hx
  exact hcl _ _ _ _ _ hx
theorem E21 (n : Nat) (cl : CL) (h : PH) : exF Try.prog n (D21 n cl) ⟨[22, 26], [], [], [], []⟩ Try.f21 [] h = F21 n cl  h := by kernel_rfl
theorem S21 {n : Nat} {cl : CL} (hcl : OkCL Try.prog cl) {h h' : PH} {v : Value} (hx : F21 n cl h = some (v, h')) : (enterable Try.prog 21 = true ∧ ACall Try.prog 21 [] h.abs (fun u k => u = v ∧ k = h'.abs)) ∧ Inv h h' :=
  exF_ok (Dk21 hcl) hmx Try.func21 (by kernel_rfl) ((E21 n cl h).trans hx)
-- undergrowth/undergrowthlaw13.CycleHidden
noncomputable def F9_0 (n : Nat) (cl : CL) (v45 : Value) (r6 : Kt) (v37 : Value) (v39 : Value) (v41 : Value) (v43 : Value) (h : PH) : R :=
 vb (xAri Int.add v45 (vN 1)) fun v47 =>
 r6 [v37, v39, v41, v43, v47] h
noncomputable def F9_1 (n : Nat) (cl : CL) (v55 : Value) (k7 : Kt) (v49 : Value) (v51 : Value) (v53 : Value) (v57 : Value) (h : PH) : R :=
 hb (xBS 1 (bsRow Try.prog 25 1 [(0, (vN 2))]) h) fun v60 h =>
 hb (xApp (appInfo Try.prog #[25, 25]) v55 v60 h) fun v61 h =>
 k7 [v49, v51, v53, v61, v57] h
noncomputable def F9_2 (n : Nat) (cl : CL) (v55 : Value) (k7 : Kt) (v49 : Value) (v51 : Value) (v53 : Value) (v57 : Value) (h : PH) : R :=
 hb (xBS 1 (bsRow Try.prog 25 1 [(0, (vN 1))]) h) fun v62 h =>
 hb (xApp (appInfo Try.prog #[25, 25]) v55 v62 h) fun v63 h =>
 k7 [v49, v51, v53, v63, v57] h
noncomputable def F9_3 (n : Nat) (cl : CL) (v57 : Value) (v53 : Value) (v55 : Value) (k7 : Kt) (v49 : Value) (v51 : Value) (h : PH) : R :=
 vb (xCmp ieq v57 v53) fun v59 =>
 bite v59 (F9_1 n cl v55 k7 v49 v51 v53 v57 h) (F9_2 n cl v55 k7 v49 v51 v53 v57 h)
noncomputable def F9_4 (n : Nat) (cl : CL) (v30 : Value) (k10 : Kt) (v24 : Value) (v26 : Value) (v28 : Value) (v32 : Value) (h : PH) : R :=
 hb (xBS 1 (bsRow Try.prog 25 1 [(0, (vN 0))]) h) fun v65 h =>
 hb (xApp (appInfo Try.prog #[25, 25]) v30 v65 h) fun v66 h =>
 k10 [v24, v26, v28, v66, v32] h
noncomputable def F9_5 (n : Nat) (cl : CL) (k7 : Kt) (y48 : List Value) (h : PH) : R :=
 ucons y48 fun v49 y50 => ucons y50 fun v51 y52 => ucons y52 fun v53 y54 => ucons y54 fun v55 y56 => ucons y56 fun v57 y58 => F9_3 n cl v57 v53 v55 k7 v49 v51 h
noncomputable def F9_6 (n : Nat) (cl : CL) (v32 : Value) (v24 : Value) (v30 : Value) (v26 : Value) (v28 : Value) (h : PH) (k10 : Kt) : R :=
 vb (xCmp ieq v32 v24) fun v64 =>
 bite v64 (F9_4 n cl v30 k10 v24 v26 v28 v32 h) (k10 [v24, v26, v28, v30, v32] h)
noncomputable def F9_7 (n : Nat) (cl : CL) (r6 : Kt) (y36 : List Value) (h : PH) : R :=
 ucons y36 fun v37 y38 => ucons y38 fun v39 y40 => ucons y40 fun v41 y42 => ucons y42 fun v43 y44 => ucons y44 fun v45 y46 => F9_0 n cl v45 r6 v37 v39 v41 v43 h
noncomputable def F9_8 (n : Nat) (cl : CL) (v84 : Value) (v68 : Value) (v88 : Value) (h : PH) : R :=
 vb (xIdxS 1 v84 (vN 0)) fun v99 =>
 vb (xLd v99 h) fun v100 =>
 vb (xCmp ilt v68 (vN 0)) fun v101 =>
 vb (abin Try.prog .eql 4 (Operand.tmp 103) (Operand.tmp 105) v100 v101) fun v102 =>
 vb (gd (isB true v102) (some v88)) fun v103 =>
 vb (gd (isB true v102) (pcall (F26 n cl v103 (h.fzn)))) fun v104 =>
 vb (gd (isB true v102) (xCmp ieq v104 (vN 8))) fun v105 =>
 vb (gd (isB true v102) (some v68)) fun v106 =>
 vb (gd (isB true v102) (xCmp ilt v106 (vN 0))) fun v107 =>
 vb (gd (isB true v102) (abin Try.prog .eql 4 (Operand.tmp 110) (Operand.tmp 112) v105 v107)) fun v108 =>
 vb (xPick v102 v108 ff) fun v109 =>
 vb (gd (isB true v109) (some v88)) fun v110 =>
 vb (gd (isB true v109) (pcall (F26 n cl v110 (h.fzn)))) fun v111 =>
 vb (gd (isB true v109) (xCmp ieq v111 (vN 0))) fun v112 =>
 vb (gd (isB true v109) (some v68)) fun v113 =>
 vb (gd (isB true v109) (xCmp (fun x y => ile y x) v113 (vN 0))) fun v114 =>
 vb (gd (isB true v109) (abin Try.prog .eql 4 (Operand.tmp 118) (Operand.tmp 120) v112 v114)) fun v115 =>
 vb (xPick v109 v115 ff) fun v116 =>
 some (v116, h)
noncomputable def F9_9 (n : Nat) (cl : CL) (v70 : Value) (v68 : Value) (h : PH) : R :=
 vb (abuild Try.prog 29 [(1, v70)]) fun v72 =>
 hb (xBS 2 (bsRow Try.prog 25 2 [(0, (vN 1)), (1, (vN 2))]) h) fun v73 h =>
 vb (abuild Try.prog 29 [(1, v73)]) fun v74 =>
 vb (abuild Try.prog 29 [(0, (vN 1))]) fun v75 =>
 hb (xBS 1 (bsRow Try.prog 25 1 [(0, (vM 0))]) h) fun v76 h =>
 vb (abuild Try.prog 29 [(0, (vN 1)), (1, v76)]) fun v77 =>
 hb (xBS 1 (bsRow Try.prog 25 1 [(0, (vM 1))]) h) fun v78 h =>
 vb (abuild Try.prog 29 [(0, (vN 2)), (1, v78)]) fun v79 =>
 hb (xBS 5 (bsRow Try.prog 23 5 [(0, v72), (1, v74), (2, v75), (3, v77), (4, v79)]) h) fun v80 h =>
 vb (abuild Try.prog 27 [(0, (vN 3)), (1, (vN 2)), (3, v80)]) fun v81 =>
 hb (xAlloc (zcells Try.prog 27) h) fun v82 h =>
 hb (xStA 7 v82 v81 h) fun _ h =>
 vb (xLdA 7 v82 h) fun v83 =>
 hb (fcall h (F24 n cl v83 (h.fzn))) fun v84 h =>
 vb (xLdA 7 v82 h) fun v85 =>
 vb (pcall (F22 n cl v85 (h.fzn))) fun v86 =>
 vb (xExt 0 v86) fun v87 =>
 vb (xExt 1 v86) fun v88 =>
 vb (xLenS v84) fun v89 =>
 vb (xCmp ine v89 (vN 3)) fun v90 =>
 vb (gd (isB false v90) (some v84)) fun v91 =>
 vb (gd (isB false v90) (xIdxS 1 v91 (vN 1))) fun v92 =>
 vb (gd (isB false v90) (xLd v92 h)) fun v93 =>
 vb (xPick v90 tt v93) fun v94 =>
 vb (gd (isB false v94) (some v84)) fun v95 =>
 vb (gd (isB false v94) (xIdxS 1 v95 (vN 2))) fun v96 =>
 vb (gd (isB false v94) (xLd v96 h)) fun v97 =>
 vb (xPick v94 tt v97) fun v98 =>
 bite v98 (some (ff, h)) (F9_8 n cl v84 v68 v88 h)
noncomputable def F9_10 (n : Nat) (cl : CL) (v30 : Value) (k15 : Kt) (v28 : Value) (h : PH) : R :=
 hb (xBS 1 (bsRow Try.prog 25 1 [(0, (vN 0))]) h) fun v118 h =>
 hb (xApp (appInfo Try.prog #[25, 25]) v30 v118 h) fun v119 h =>
 k15 [v28, v119] h
noncomputable def F9_11 (n : Nat) (cl : CL) (v26 : Value) (v30 : Value) (v28 : Value) (h : PH) (k15 : Kt) : R :=
 vb (xCmp ieq v26 (vN 0)) fun v117 =>
 bite v117 (F9_10 n cl v30 k15 v28 h) (k15 [v28, v30] h)
noncomputable def F9_12 (n : Nat) (cl : CL) (v26 : Value) (v30 : Value) (v28 : Value) (h : PH) : R :=
 jn (fun y67 h => ucons y67 fun v68 y69 => ucons y69 fun v70 y71 => F9_9 n cl v70 v68 h) (F9_11 n cl v26 v30 v28 h)
noncomputable def F9_13 (n : Nat) (cl : CL) (v24 : Value) (v26 : Value) (v32 : Value) (r6 : Kt) (v30 : Value) (v28 : Value) (h : PH) : R :=
 vb (xAri Int.add v24 v26) fun v34 =>
 vb (xCmp ilt v32 v34) fun v35 =>
 bite v35 (jn (F9_7 n cl r6) (fun k7 => jn (F9_5 n cl k7) (F9_6 n cl v32 v24 v30 v26 v28 h))) (F9_12 n cl v26 v30 v28 h)
noncomputable def F9_14 (n : Nat) (cl : CL) (r6 : Kt) (y23 : List Value) (h : PH) : R :=
 ucons y23 fun v24 y25 => ucons y25 fun v26 y27 => ucons y27 fun v28 y29 => ucons y29 fun v30 y31 => ucons y31 fun v32 y33 => F9_13 n cl v24 v26 v32 r6 v30 v28 h
noncomputable def F9 (n : Nat) (cl : CL) (a0 a1 a2 : Value) (h : PH) : R :=
 vb (pcall (F21 n cl (h.fzn))) fun v1 =>
 vb (xNot v1) fun v2 =>
 vb (gd (isB false v2) (some a0)) fun v3 =>
 vb (gd (isB false v2) (xCmp ilt v3 (vN 0))) fun v4 =>
 vb (xPick v2 tt v4) fun v5 =>
 vb (gd (isB false v5) (some a1)) fun v6 =>
 vb (gd (isB false v5) (xCmp ilt v6 (vN 0))) fun v7 =>
 vb (xPick v5 tt v7) fun v8 =>
 vb (gd (isB false v8) (some a0)) fun v9 =>
 vb (gd (isB false v8) (some a1)) fun v10 =>
 vb (gd (isB false v8) (xAri Int.add v9 v10)) fun v11 =>
 vb (gd (isB false v8) (xCmp (fun x y => ilt y x) v11 (vN 7))) fun v12 =>
 vb (xPick v8 tt v12) fun v13 =>
 vb (gd (isB false v13) (some a2)) fun v14 =>
 vb (gd (isB false v13) (xCmp ilt v14 (vM 0))) fun v15 =>
 vb (xPick v13 tt v15) fun v16 =>
 vb (gd (isB false v16) (some a2)) fun v17 =>
 vb (gd (isB false v16) (some a0)) fun v18 =>
 vb (gd (isB false v16) (some a1)) fun v19 =>
 vb (gd (isB false v16) (xAri Int.add v18 v19)) fun v20 =>
 vb (gd (isB false v16) (xCmp (fun x y => ile y x) v17 v20)) fun v21 =>
 vb (xPick v16 tt v21) fun v22 =>
 bite v22 (some (v1, h)) (lp n (F9_14 n cl) [a0, a1, a2, nils, (vN 0)] h)
noncomputable def D9 (n : Nat) (cl : CL) : CL := fun f xs h => sw f 21 (u0 xs (F21 n cl h)) (sw f 24 (ucons xs fun b0 xs => u0 xs (F24 n cl b0 h)) (sw f 22 (ucons xs fun b0 xs => u0 xs (F22 n cl b0 h)) (sw f 26 (ucons xs fun b0 xs => u0 xs (F26 n cl b0 h)) (cl f xs h))))
theorem Dk9 {n : Nat} {cl : CL} (hcl : OkCL Try.prog cl) : OkCL Try.prog (D9 n cl) := by
  intro f xs h v h' hx
  rcases sw_ok hx with ⟨rfl, hx⟩ | hx
  · obtain ⟨rfl, hx⟩ := u0_ok hx; exact S21 (n := n) (cl := cl) hcl hx
  rcases sw_ok hx with ⟨rfl, hx⟩ | hx
  · obtain ⟨_, _, rfl, hx⟩ := ucons_ok hx; obtain ⟨rfl, hx⟩ := u0_ok hx; exact S24 (n := n) (cl := cl) hcl hx
  rcases sw_ok hx with ⟨rfl, hx⟩ | hx
  · obtain ⟨_, _, rfl, hx⟩ := ucons_ok hx; obtain ⟨rfl, hx⟩ := u0_ok hx; exact S22 (n := n) (cl := cl) hcl hx
  rcases sw_ok hx with ⟨rfl, hx⟩ | hx
  · obtain ⟨_, _, rfl, hx⟩ := ucons_ok hx; obtain ⟨rfl, hx⟩ := u0_ok hx; exact S26 (n := n) (cl := cl) hcl hx
  exact hcl _ _ _ _ _ hx
theorem E9 (n : Nat) (cl : CL) (a0 a1 a2 : Value) (h : PH) : exF Try.prog n (D9 n cl) ⟨[21, 22, 26], [24], [(6, [0, 1, 2, 8, 9]), (7, [0, 1, 2, 8, 9]), (10, [0, 1, 2, 8, 9]), (15, [2, 8])], [], []⟩ Try.f9 [a0, a1, a2] h = F9 n cl a0 a1 a2 h := by kernel_rfl
theorem S9 {n : Nat} {cl : CL} (hcl : OkCL Try.prog cl) {a0 a1 a2 : Value} {h h' : PH} {v : Value} (hx : F9 n cl a0 a1 a2 h = some (v, h')) : (enterable Try.prog 9 = true ∧ ACall Try.prog 9 [a0, a1, a2] h.abs (fun u k => u = v ∧ k = h'.abs)) ∧ Inv h h' :=
  exF_ok (Dk9 hcl) hmx Try.func9 (by kernel_rfl) ((E9 n cl a0 a1 a2 h).trans hx)

/-- Functions that are called by value, or that call themselves; so deep. -/
noncomputable def CLs (n : Nat) (ih : CL) : CL := fun f xs h => sw f 49 (ucons xs fun b0 xs => u0 xs (F49 n ih b0 h)) (sw f 45 (ucons xs fun b0 xs => ucons xs fun b1 xs => u0 xs (F45 n ih b0 b1 h)) (sw f 40 (ucons xs fun b0 xs => ucons xs fun b1 xs => u0 xs (F40 n ih b0 b1 h)) (none)))
theorem CLs_ok {n : Nat} {ih : CL} (hcl : OkCL Try.prog ih) : OkCL Try.prog (CLs n ih) := by
  intro f xs h v h' hx
  unfold CLs at hx
  rcases sw_ok hx with ⟨rfl, hx⟩ | hx
  · obtain ⟨_, _, rfl, hx⟩ := ucons_ok hx; obtain ⟨rfl, hx⟩ := u0_ok hx; exact S49 (n := n) (cl := ih) hcl hx
  rcases sw_ok hx with ⟨rfl, hx⟩ | hx
  · obtain ⟨_, _, rfl, hx⟩ := ucons_ok hx; obtain ⟨_, _, rfl, hx⟩ := ucons_ok hx; obtain ⟨rfl, hx⟩ := u0_ok hx; exact S45 (n := n) (cl := ih) hcl hx
  rcases sw_ok hx with ⟨rfl, hx⟩ | hx
  · obtain ⟨_, _, rfl, hx⟩ := ucons_ok hx; obtain ⟨_, _, rfl, hx⟩ := ucons_ok hx; obtain ⟨rfl, hx⟩ := u0_ok hx; exact S40 (n := n) (cl := ih) hcl hx
  cases hx
noncomputable def CLV (n d : Nat) : CL := Nat.rec (motive := fun _ => CL) CNo (fun _ ih => CLs n ih) d
theorem CLV_ok (n : Nat) : ∀ d, OkCL Try.prog (CLV n d)
  | 0 => CNo_ok _
  | .succ d => CLs_ok (CLV_ok n d)

end Go.Am
