import Derived.Test.YtdmfanikejcgjaaX8
import Derived.Test.YtdmfanikejcgjaaProg
set_option linter.unusedVariables false
set_option maxRecDepth 100000
namespace Go.Am
open Go Go.RowKit Go.Proofs
theorem hmx : Try.prog.follows .mixedOrders = true := by kernel_rfl
-- undergrowth/grammar.IsName
noncomputable def F29 (n : Nat) (cl : CL) (a0 a1 : Value) (h : PH) : R :=
 hb (xBox a0 h) fun v1 h =>
 vb (xCmp (fun x y => ile y x) a1 (vN 0)) fun v2 =>
 vb (gd (isB true v2) (some a1)) fun v3 =>
 vb (gd (isB true v2) (xFld 0 v1)) fun v4 =>
 vb (gd (isB true v2) (xLd v4 h)) fun v5 =>
 vb (gd (isB true v2) (xCmp ilt v3 v5)) fun v6 =>
 vb (xPick v2 v6 ff) fun v7 =>
 some (v7, h)
theorem E29 (n : Nat) (cl : CL) (a0 a1 : Value) (h : PH) : exF Try.prog n cl ⟨[], [], [], [], []⟩ Try.f29 [a0, a1] h = F29 n cl a0 a1 h := by kernel_rfl
theorem S29 {n : Nat} {cl : CL} (hcl : OkCL Try.prog cl) {a0 a1 : Value} {h h' : PH} {v : Value} (hx : F29 n cl a0 a1 h = some (v, h')) : (enterable Try.prog 29 = true ∧ ACall Try.prog 29 [a0, a1] h.abs (fun u k => u = v ∧ k = h'.abs)) ∧ Inv h h' :=
  exF_ok hcl hmx Try.func29 (by kernel_rfl) ((E29 n cl a0 a1 h).trans hx)
-- slices.IndexFunc[[]int,int]
noncomputable def F50_0 (n : Nat) (cl : CL) (v9 : Value) (r2 : Kt) (v3 : Value) (v5 : Value) (v7 : Value) (h : PH) : R :=
 vb (xAri Int.add v9 (vN 1)) fun v15 =>
 r2 [v3, v5, v7, v15] h
noncomputable def F50_1 (n : Nat) (cl : CL) (v3 : Value) (v9 : Value) (v5 : Value) (r2 : Kt) (v7 : Value) (h : PH) : R :=
 vb (xIdxS 1 v3 v9) fun v12 =>
 vb (xLd v12 h) fun v13 =>
 hb (xCall cl v5 [v13] h) fun v14 h =>
 bite v14 (some (v9, h)) (F50_0 n cl v9 r2 v3 v5 v7 h)
noncomputable def F50_2 (n : Nat) (cl : CL) (v9 : Value) (v7 : Value) (v3 : Value) (v5 : Value) (r2 : Kt) (h : PH) : R :=
 vb (xCmp ilt v9 v7) fun v11 =>
 bite v11 (F50_1 n cl v3 v9 v5 r2 v7 h) (some ((vM 0), h))
noncomputable def F50_3 (n : Nat) (cl : CL) (r2 : Kt) (y2 : List Value) (h : PH) : R :=
 ucons y2 fun v3 y4 => ucons y4 fun v5 y6 => ucons y6 fun v7 y8 => ucons y8 fun v9 y10 => F50_2 n cl v9 v7 v3 v5 r2 h
noncomputable def F50 (n : Nat) (cl : CL) (a0 a1 : Value) (h : PH) : R :=
 vb (xLenS a0) fun v1 =>
 lp n (F50_3 n cl) [a0, a1, v1, (vN 0)] h
theorem E50 (n : Nat) (cl : CL) (a0 a1 : Value) (h : PH) : exF Try.prog n cl ⟨[], [], [(2, [0, 1, 7, 8])], [], []⟩ Try.f50 [a0, a1] h = F50 n cl a0 a1 h := by kernel_rfl
theorem S50 {n : Nat} {cl : CL} (hcl : OkCL Try.prog cl) {a0 a1 : Value} {h h' : PH} {v : Value} (hx : F50 n cl a0 a1 h = some (v, h')) : (enterable Try.prog 50 = true ∧ ACall Try.prog 50 [a0, a1] h.abs (fun u k => u = v ∧ k = h'.abs)) ∧ Inv h h' :=
  exF_ok hcl hmx Try.func50 (by kernel_rfl) ((E50 n cl a0 a1 h).trans hx)
-- slices.ContainsFunc[[]int,int]
noncomputable def F44 (n : Nat) (cl : CL) (a0 a1 : Value) (h : PH) : R :=
 vb (pcall (F50 n cl a0 a1 (h.fzn))) fun v1 =>
 vb (xCmp (fun x y => ile y x) v1 (vN 0)) fun v2 =>
 some (v2, h)
noncomputable def D44 (n : Nat) (cl : CL) : CL := fun f xs h => sw f 50 (ucons xs fun b0 xs => ucons xs fun b1 xs => u0 xs (F50 n cl b0 b1 h)) (cl f xs h)
theorem Dk44 {n : Nat} {cl : CL} (hcl : OkCL Try.prog cl) : OkCL Try.prog (D44 n cl) := by
  intro f xs h v h' hx
  rcases sw_ok hx with ⟨rfl, hx⟩ | hx
  · obtain ⟨_, _, rfl, hx⟩ := ucons_ok hx; obtain ⟨_, _, rfl, hx⟩ := ucons_ok hx; obtain ⟨rfl, hx⟩ := u0_ok hx; exact S50 (n := n) (cl := cl) hcl hx
  exact hcl _ _ _ _ _ hx
theorem E44 (n : Nat) (cl : CL) (a0 a1 : Value) (h : PH) : exF Try.prog n (D44 n cl) ⟨[50], [], [], [], []⟩ Try.f44 [a0, a1] h = F44 n cl a0 a1 h := by kernel_rfl
theorem S44 {n : Nat} {cl : CL} (hcl : OkCL Try.prog cl) {a0 a1 : Value} {h h' : PH} {v : Value} (hx : F44 n cl a0 a1 h = some (v, h')) : (enterable Try.prog 44 = true ∧ ACall Try.prog 44 [a0, a1] h.abs (fun u k => u = v ∧ k = h'.abs)) ∧ Inv h h' :=
  exF_ok (Dk44 hcl) hmx Try.func44 (by kernel_rfl) ((E44 n cl a0 a1 h).trans hx)
-- undergrowth/grammar.classes$1
noncomputable def F49 (n : Nat) (cl : CL) (a0 : Value) (h : PH) : R :=
 vb (xCmp ilt a0 (vN 0)) fun v1 =>
 vb (gd (isB false v1) (some a0)) fun v2 =>
 vb (gd (isB false v1) (xCmp (fun x y => ilt y x) v2 (vN 100))) fun v3 =>
 vb (xPick v1 tt v3) fun v4 =>
 some (v4, h)
theorem E49 (n : Nat) (cl : CL) (a0 : Value) (h : PH) : exF Try.prog n cl ⟨[], [], [], [], []⟩ Try.f49 [a0] h = F49 n cl a0 h := by kernel_rfl
theorem S49 {n : Nat} {cl : CL} (hcl : OkCL Try.prog cl) {a0 : Value} {h h' : PH} {v : Value} (hx : F49 n cl a0 h = some (v, h')) : (enterable Try.prog 49 = true ∧ ACall Try.prog 49 [a0] h.abs (fun u k => u = v ∧ k = h'.abs)) ∧ Inv h h' :=
  exF_ok hcl hmx Try.func49 (by kernel_rfl) ((E49 n cl a0 h).trans hx)
-- undergrowth/grammar.classes
noncomputable def F43 (n : Nat) (cl : CL) (a0 a1 : Value) (h : PH) : R :=
 vb (xLenS a0) fun v1 =>
 vb (xCmp ile v1 a1) fun v2 =>
 vb (gd (isB true v2) (some a0)) fun v3 =>
 vb (gd (isB true v2) (pcall (F44 n cl v3 (fnV 49 [] []) (h.fzn)))) fun v4 =>
 vb (gd (isB true v2) (xNot v4)) fun v5 =>
 vb (xPick v2 v5 ff) fun v6 =>
 some (v6, h)
noncomputable def D43 (n : Nat) (cl : CL) : CL := fun f xs h => sw f 44 (ucons xs fun b0 xs => ucons xs fun b1 xs => u0 xs (F44 n cl b0 b1 h)) (cl f xs h)
theorem Dk43 {n : Nat} {cl : CL} (hcl : OkCL Try.prog cl) : OkCL Try.prog (D43 n cl) := by
  intro f xs h v h' hx
  rcases sw_ok hx with ⟨rfl, hx⟩ | hx
  · obtain ⟨_, _, rfl, hx⟩ := ucons_ok hx; obtain ⟨_, _, rfl, hx⟩ := ucons_ok hx; obtain ⟨rfl, hx⟩ := u0_ok hx; exact S44 (n := n) (cl := cl) hcl hx
  exact hcl _ _ _ _ _ hx
theorem E43 (n : Nat) (cl : CL) (a0 a1 : Value) (h : PH) : exF Try.prog n (D43 n cl) ⟨[44], [], [], [], []⟩ Try.f43 [a0, a1] h = F43 n cl a0 a1 h := by kernel_rfl
theorem S43 {n : Nat} {cl : CL} (hcl : OkCL Try.prog cl) {a0 a1 : Value} {h h' : PH} {v : Value} (hx : F43 n cl a0 a1 h = some (v, h')) : (enterable Try.prog 43 = true ∧ ACall Try.prog 43 [a0, a1] h.abs (fun u k => u = v ∧ k = h'.abs)) ∧ Inv h h' :=
  exF_ok (Dk43 hcl) hmx Try.func43 (by kernel_rfl) ((E43 n cl a0 a1 h).trans hx)
-- undergrowth/grammar.whole
noncomputable def F37_0 (n : Nat) (cl : CL) (v1 : Value) (h : PH) : R :=
 vb (xFld 5 v1) fun v32 =>
 vb (xLd v32 h) fun v33 =>
 vb (xFld 3 v1) fun v34 =>
 vb (xLd v34 h) fun v35 =>
 vb (xLenS v35) fun v36 =>
 vb (pcall (F43 n cl v33 v36 (h.fzn))) fun v37 =>
 vb (xNot v37) fun v38 =>
 vb (gd (isB false v38) (xFld 6 v1)) fun v39 =>
 vb (gd (isB false v38) (xLd v39 h)) fun v40 =>
 vb (gd (isB false v38) (xFld 1 v1)) fun v41 =>
 vb (gd (isB false v38) (xLd v41 h)) fun v42 =>
 vb (gd (isB false v38) (pcall (F43 n cl v40 v42 (h.fzn)))) fun v43 =>
 vb (gd (isB false v38) (xNot v43)) fun v44 =>
 vb (xPick v38 tt v44) fun v45 =>
 bite v45 (some ((vN 1), h)) (some ((vN 0), h))
noncomputable def F37_1 (n : Nat) (cl : CL) (v1 : Value) (h : PH) : R :=
 vb (xLdA 7 v1 h) fun v27 =>
 vb (xFld 2 v1) fun v28 =>
 vb (xLd v28 h) fun v29 =>
 vb (pcall (F29 n cl v27 v29 (h.fzn))) fun v30 =>
 vb (xNot v30) fun v31 =>
 bite v31 (some ((vN 6), h)) (F37_0 n cl v1 h)
noncomputable def F37 (n : Nat) (cl : CL) (a0 : Value) (h : PH) : R :=
 hb (xBox a0 h) fun v1 h =>
 vb (xFld 0 v1) fun v2 =>
 vb (xLd v2 h) fun v3 =>
 vb (xCmp ilt v3 (vN 1)) fun v4 =>
 vb (gd (isB false v4) (xFld 0 v1)) fun v5 =>
 vb (gd (isB false v4) (xLd v5 h)) fun v6 =>
 vb (gd (isB false v4) (xCmp (fun x y => ilt y x) v6 (vN 40))) fun v7 =>
 vb (xPick v4 tt v7) fun v8 =>
 vb (gd (isB false v8) (xFld 1 v1)) fun v9 =>
 vb (gd (isB false v8) (xLd v9 h)) fun v10 =>
 vb (gd (isB false v8) (xCmp ilt v10 (vN 0))) fun v11 =>
 vb (xPick v8 tt v11) fun v12 =>
 vb (gd (isB false v12) (xFld 1 v1)) fun v13 =>
 vb (gd (isB false v12) (xLd v13 h)) fun v14 =>
 vb (gd (isB false v12) (xCmp (fun x y => ilt y x) v14 (vN 40))) fun v15 =>
 vb (xPick v12 tt v15) fun v16 =>
 vb (gd (isB false v16) (xFld 3 v1)) fun v17 =>
 vb (gd (isB false v16) (xLd v17 h)) fun v18 =>
 vb (gd (isB false v16) (xLenS v18)) fun v19 =>
 vb (gd (isB false v16) (xCmp (fun x y => ilt y x) v19 (vN 60))) fun v20 =>
 vb (xPick v16 tt v20) fun v21 =>
 vb (gd (isB false v21) (xFld 4 v1)) fun v22 =>
 vb (gd (isB false v21) (xLd v22 h)) fun v23 =>
 vb (gd (isB false v21) (xLenS v23)) fun v24 =>
 vb (gd (isB false v21) (xCmp (fun x y => ilt y x) v24 (vN 200))) fun v25 =>
 vb (xPick v21 tt v25) fun v26 =>
 bite v26 (some ((vN 3), h)) (F37_1 n cl v1 h)
noncomputable def D37 (n : Nat) (cl : CL) : CL := fun f xs h => sw f 29 (ucons xs fun b0 xs => ucons xs fun b1 xs => u0 xs (F29 n cl b0 b1 h)) (sw f 43 (ucons xs fun b0 xs => ucons xs fun b1 xs => u0 xs (F43 n cl b0 b1 h)) (cl f xs h))
theorem Dk37 {n : Nat} {cl : CL} (hcl : OkCL Try.prog cl) : OkCL Try.prog (D37 n cl) := by
  intro f xs h v h' hx
  rcases sw_ok hx with ⟨rfl, hx⟩ | hx
  · obtain ⟨_, _, rfl, hx⟩ := ucons_ok hx; obtain ⟨_, _, rfl, hx⟩ := ucons_ok hx; obtain ⟨rfl, hx⟩ := u0_ok hx; exact S29 (n := n) (cl := cl) hcl hx
  rcases sw_ok hx with ⟨rfl, hx⟩ | hx
  · obtain ⟨_, _, rfl, hx⟩ := ucons_ok hx; obtain ⟨_, _, rfl, hx⟩ := ucons_ok hx; obtain ⟨rfl, hx⟩ := u0_ok hx; exact S43 (n := n) (cl := cl) hcl hx
  exact hcl _ _ _ _ _ hx
theorem E37 (n : Nat) (cl : CL) (a0 : Value) (h : PH) : exF Try.prog n (D37 n cl) ⟨[29, 43], [], [], [], []⟩ Try.f37 [a0] h = F37 n cl a0 h := by kernel_rfl
theorem S37 {n : Nat} {cl : CL} (hcl : OkCL Try.prog cl) {a0 : Value} {h h' : PH} {v : Value} (hx : F37 n cl a0 h = some (v, h')) : (enterable Try.prog 37 = true ∧ ACall Try.prog 37 [a0] h.abs (fun u k => u = v ∧ k = h'.abs)) ∧ Inv h h' :=
  exF_ok (Dk37 hcl) hmx Try.func37 (by kernel_rfl) ((E37 n cl a0 h).trans hx)
-- undergrowth/grammar.KindOf
noncomputable def F51 (n : Nat) (cl : CL) (a0 a1 : Value) (h : PH) : R :=
 hb (xBox a0 h) fun v1 h =>
 vb (xAri Int.sub (vM 0) a1) fun v2 =>
 vb (xCmp ilt a1 (vN 0)) fun v3 =>
 vb (gd (isB true v3) (some v2)) fun v4 =>
 vb (gd (isB true v3) (xFld 1 v1)) fun v5 =>
 vb (gd (isB true v3) (xLd v5 h)) fun v6 =>
 vb (gd (isB true v3) (xCmp ilt v4 v6)) fun v7 =>
 vb (xPick v3 v7 ff) fun v8 =>
 some (Value.tuple ⟨[v2, v8]⟩, h)
theorem E51 (n : Nat) (cl : CL) (a0 a1 : Value) (h : PH) : exF Try.prog n cl ⟨[], [], [], [(2, [0, 1, 2, 3, 4, 5, 9, 6, 7, 8, 10])], []⟩ Try.f51 [a0, a1] h = F51 n cl a0 a1 h := by kernel_rfl
theorem S51 {n : Nat} {cl : CL} (hcl : OkCL Try.prog cl) {a0 a1 : Value} {h h' : PH} {v : Value} (hx : F51 n cl a0 a1 h = some (v, h')) : (enterable Try.prog 51 = true ∧ ACall Try.prog 51 [a0, a1] h.abs (fun u k => u = v ∧ k = h'.abs)) ∧ Inv h h' :=
  exF_ok hcl hmx Try.func51 (by kernel_rfl) ((E51 n cl a0 a1 h).trans hx)
-- undergrowth/grammar.IsSymbol
noncomputable def F46 (n : Nat) (cl : CL) (a0 a1 : Value) (h : PH) : R :=
 hb (xBox a0 h) fun v1 h =>
 vb (xLdA 7 v1 h) fun v2 =>
 vb (pcall (F51 n cl v2 a1 (h.fzn))) fun v3 =>
 vb (xExt 0 v3) fun v4 =>
 vb (xExt 1 v3) fun v5 =>
 vb (gd (isB false v5) (xLdA 7 v1 h)) fun v6 =>
 vb (gd (isB false v5) (some a1)) fun v7 =>
 vb (gd (isB false v5) (pcall (F29 n cl v6 v7 (h.fzn)))) fun v8 =>
 vb (xPick v5 tt v8) fun v9 =>
 some (v9, h)
noncomputable def D46 (n : Nat) (cl : CL) : CL := fun f xs h => sw f 51 (ucons xs fun b0 xs => ucons xs fun b1 xs => u0 xs (F51 n cl b0 b1 h)) (sw f 29 (ucons xs fun b0 xs => ucons xs fun b1 xs => u0 xs (F29 n cl b0 b1 h)) (cl f xs h))
theorem Dk46 {n : Nat} {cl : CL} (hcl : OkCL Try.prog cl) : OkCL Try.prog (D46 n cl) := by
  intro f xs h v h' hx
  rcases sw_ok hx with ⟨rfl, hx⟩ | hx
  · obtain ⟨_, _, rfl, hx⟩ := ucons_ok hx; obtain ⟨_, _, rfl, hx⟩ := ucons_ok hx; obtain ⟨rfl, hx⟩ := u0_ok hx; exact S51 (n := n) (cl := cl) hcl hx
  rcases sw_ok hx with ⟨rfl, hx⟩ | hx
  · obtain ⟨_, _, rfl, hx⟩ := ucons_ok hx; obtain ⟨_, _, rfl, hx⟩ := ucons_ok hx; obtain ⟨rfl, hx⟩ := u0_ok hx; exact S29 (n := n) (cl := cl) hcl hx
  exact hcl _ _ _ _ _ hx
theorem E46 (n : Nat) (cl : CL) (a0 a1 : Value) (h : PH) : exF Try.prog n (D46 n cl) ⟨[29, 51], [], [], [], []⟩ Try.f46 [a0, a1] h = F46 n cl a0 a1 h := by kernel_rfl
theorem S46 {n : Nat} {cl : CL} (hcl : OkCL Try.prog cl) {a0 a1 : Value} {h h' : PH} {v : Value} (hx : F46 n cl a0 a1 h = some (v, h')) : (enterable Try.prog 46 = true ∧ ACall Try.prog 46 [a0, a1] h.abs (fun u k => u = v ∧ k = h'.abs)) ∧ Inv h h' :=
  exF_ok (Dk46 hcl) hmx Try.func46 (by kernel_rfl) ((E46 n cl a0 a1 h).trans hx)
-- undergrowth/grammar.rule$1
noncomputable def F45 (n : Nat) (cl : CL) (a0 a1 : Value) (h : PH) : R :=
 vb (xLdA 7 a1 h) fun v1 =>
 vb (pcall (F46 n cl v1 a0 (h.fzn))) fun v2 =>
 vb (xNot v2) fun v3 =>
 some (v3, h)
noncomputable def D45 (n : Nat) (cl : CL) : CL := fun f xs h => sw f 46 (ucons xs fun b0 xs => ucons xs fun b1 xs => u0 xs (F46 n cl b0 b1 h)) (cl f xs h)
theorem Dk45 {n : Nat} {cl : CL} (hcl : OkCL Try.prog cl) : OkCL Try.prog (D45 n cl) := by
  intro f xs h v h' hx
  rcases sw_ok hx with ⟨rfl, hx⟩ | hx
  · obtain ⟨_, _, rfl, hx⟩ := ucons_ok hx; obtain ⟨_, _, rfl, hx⟩ := ucons_ok hx; obtain ⟨rfl, hx⟩ := u0_ok hx; exact S46 (n := n) (cl := cl) hcl hx
  exact hcl _ _ _ _ _ hx
theorem E45 (n : Nat) (cl : CL) (a0 a1 : Value) (h : PH) : exF Try.prog n (D45 n cl) ⟨[46], [], [], [], []⟩ Try.f45 [a0, a1] h = F45 n cl a0 a1 h := by kernel_rfl
theorem S45 {n : Nat} {cl : CL} (hcl : OkCL Try.prog cl) {a0 a1 : Value} {h h' : PH} {v : Value} (hx : F45 n cl a0 a1 h = some (v, h')) : (enterable Try.prog 45 = true ∧ ACall Try.prog 45 [a0, a1] h.abs (fun u k => u = v ∧ k = h'.abs)) ∧ Inv h h' :=
  exF_ok (Dk45 hcl) hmx Try.func45 (by kernel_rfl) ((E45 n cl a0 a1 h).trans hx)
-- undergrowth/grammar.rule
noncomputable def F38_0 (n : Nat) (cl : CL) (v2 : Value) (h : PH) : R :=
 vb (xFld 2 v2) fun v17 =>
 vb (xLd v17 h) fun v18 =>
 vb (xCmp ilt v18 (vM 999)) fun v19 =>
 vb (gd (isB false v19) (xFld 2 v2)) fun v20 =>
 vb (gd (isB false v19) (xLd v20 h)) fun v21 =>
 vb (gd (isB false v19) (xCmp (fun x y => ilt y x) v21 (vN 1000))) fun v22 =>
 vb (xPick v19 tt v22) fun v23 =>
 bite v23 (some ((vN 1), h)) (some ((vN 0), h))
noncomputable def F38_1 (n : Nat) (cl : CL) (v2 : Value) (h : PH) : R :=
 vb (xFld 1 v2) fun v13 =>
 vb (xLd v13 h) fun v14 =>
 vb (xLenS v14) fun v15 =>
 vb (xCmp (fun x y => ilt y x) v15 (vN 8)) fun v16 =>
 bite v16 (some ((vN 3), h)) (F38_0 n cl v2 h)
noncomputable def F38 (n : Nat) (cl : CL) (a0 a1 : Value) (h : PH) : R :=
 hb (xBox a0 h) fun v1 h =>
 hb (xBox a1 h) fun v2 h =>
 vb (xLdA 7 v1 h) fun v3 =>
 vb (xFld 0 v2) fun v4 =>
 vb (xLd v4 h) fun v5 =>
 vb (pcall (F29 n cl v3 v5 (h.fzn))) fun v6 =>
 vb (xNot v6) fun v7 =>
 vb (gd (isB false v7) (xFld 1 v2)) fun v8 =>
 vb (gd (isB false v7) (xLd v8 h)) fun v9 =>
 vb (gd (isB false v7) (some (Value.func (Fn.func 45) ⟨[]⟩ ⟨[v1]⟩))) fun v10 =>
 vb (gd (isB false v7) (pcall (F44 n cl v9 v10 (h.fzn)))) fun v11 =>
 vb (xPick v7 tt v11) fun v12 =>
 bite v12 (some ((vN 6), h)) (F38_1 n cl v2 h)
noncomputable def D38 (n : Nat) (cl : CL) : CL := fun f xs h => sw f 29 (ucons xs fun b0 xs => ucons xs fun b1 xs => u0 xs (F29 n cl b0 b1 h)) (sw f 44 (ucons xs fun b0 xs => ucons xs fun b1 xs => u0 xs (F44 n cl b0 b1 h)) (cl f xs h))
theorem Dk38 {n : Nat} {cl : CL} (hcl : OkCL Try.prog cl) : OkCL Try.prog (D38 n cl) := by
  intro f xs h v h' hx
  rcases sw_ok hx with ⟨rfl, hx⟩ | hx
  · obtain ⟨_, _, rfl, hx⟩ := ucons_ok hx; obtain ⟨_, _, rfl, hx⟩ := ucons_ok hx; obtain ⟨rfl, hx⟩ := u0_ok hx; exact S29 (n := n) (cl := cl) hcl hx
  rcases sw_ok hx with ⟨rfl, hx⟩ | hx
  · obtain ⟨_, _, rfl, hx⟩ := ucons_ok hx; obtain ⟨_, _, rfl, hx⟩ := ucons_ok hx; obtain ⟨rfl, hx⟩ := u0_ok hx; exact S44 (n := n) (cl := cl) hcl hx
  exact hcl _ _ _ _ _ hx
theorem E38 (n : Nat) (cl : CL) (a0 a1 : Value) (h : PH) : exF Try.prog n (D38 n cl) ⟨[29, 44], [], [], [], []⟩ Try.f38 [a0, a1] h = F38 n cl a0 a1 h := by kernel_rfl
theorem S38 {n : Nat} {cl : CL} (hcl : OkCL Try.prog cl) {a0 a1 : Value} {h h' : PH} {v : Value} (hx : F38 n cl a0 a1 h = some (v, h')) : (enterable Try.prog 38 = true ∧ ACall Try.prog 38 [a0, a1] h.abs (fun u k => u = v ∧ k = h'.abs)) ∧ Inv h h' :=
  exF_ok (Dk38 hcl) hmx Try.func38 (by kernel_rfl) ((E38 n cl a0 a1 h).trans hx)
-- undergrowth/grammar.forbid
noncomputable def F41_0 (n : Nat) (cl : CL) (v1 : Value) (v2 : Value) (h : PH) : R :=
 vb (xFld 3 v1) fun v24 =>
 vb (xLd v24 h) fun v25 =>
 vb (xIdxA 3 1 v2 (vN 0)) fun v26 =>
 vb (xLd v26 h) fun v27 =>
 vb (xIdxS 3 v25 v27) fun v28 =>
 vb (xFld 1 v28) fun v29 =>
 vb (xLd v29 h) fun v30 =>
 vb (xIdxA 3 1 v2 (vN 1)) fun v31 =>
 vb (xLd v31 h) fun v32 =>
 vb (xCmp (fun x y => ile y x) v32 (vN 0)) fun v33 =>
 vb (gd (isB true v33) (xIdxA 3 1 v2 (vN 1))) fun v34 =>
 vb (gd (isB true v33) (some v30)) fun v35 =>
 vb (gd (isB true v33) (xLd v34 h)) fun v36 =>
 vb (gd (isB true v33) (xLenS v35)) fun v37 =>
 vb (gd (isB true v33) (xCmp ilt v36 v37)) fun v38 =>
 vb (xPick v33 v38 ff) fun v39 =>
 vb (gd (isB true v39) (some v30)) fun v40 =>
 vb (gd (isB true v39) (xIdxA 3 1 v2 (vN 1))) fun v41 =>
 vb (gd (isB true v39) (xFld 3 v1)) fun v42 =>
 vb (gd (isB true v39) (xIdxA 3 1 v2 (vN 2))) fun v43 =>
 vb (gd (isB true v39) (xLd v41 h)) fun v44 =>
 vb (gd (isB true v39) (xIdxS 1 v40 v44)) fun v45 =>
 vb (gd (isB true v39) (xLd v45 h)) fun v46 =>
 vb (gd (isB true v39) (xLd v42 h)) fun v47 =>
 vb (gd (isB true v39) (xLd v43 h)) fun v48 =>
 vb (gd (isB true v39) (xIdxS 3 v47 v48)) fun v49 =>
 vb (gd (isB true v39) (xFld 0 v49)) fun v50 =>
 vb (gd (isB true v39) (xLd v50 h)) fun v51 =>
 vb (gd (isB true v39) (xCmp ieq v46 v51)) fun v52 =>
 vb (xPick v39 v52 ff) fun v53 =>
 some (v53, h)
noncomputable def F41 (n : Nat) (cl : CL) (a0 a1 : Value) (h : PH) : R :=
 hb (xBox a0 h) fun v1 h =>
 hb (xBox a1 h) fun v2 h =>
 vb (xIdxA 3 1 v2 (vN 0)) fun v3 =>
 vb (xLd v3 h) fun v4 =>
 vb (xCmp ilt v4 (vN 0)) fun v5 =>
 vb (gd (isB false v5) (xIdxA 3 1 v2 (vN 0))) fun v6 =>
 vb (gd (isB false v5) (xLd v6 h)) fun v7 =>
 vb (gd (isB false v5) (xFld 3 v1)) fun v8 =>
 vb (gd (isB false v5) (xLd v8 h)) fun v9 =>
 vb (gd (isB false v5) (xLenS v9)) fun v10 =>
 vb (gd (isB false v5) (xCmp (fun x y => ile y x) v7 v10)) fun v11 =>
 vb (xPick v5 tt v11) fun v12 =>
 vb (gd (isB false v12) (xIdxA 3 1 v2 (vN 2))) fun v13 =>
 vb (gd (isB false v12) (xLd v13 h)) fun v14 =>
 vb (gd (isB false v12) (xCmp ilt v14 (vN 0))) fun v15 =>
 vb (xPick v12 tt v15) fun v16 =>
 vb (gd (isB false v16) (xIdxA 3 1 v2 (vN 2))) fun v17 =>
 vb (gd (isB false v16) (xLd v17 h)) fun v18 =>
 vb (gd (isB false v16) (xFld 3 v1)) fun v19 =>
 vb (gd (isB false v16) (xLd v19 h)) fun v20 =>
 vb (gd (isB false v16) (xLenS v20)) fun v21 =>
 vb (gd (isB false v16) (xCmp (fun x y => ile y x) v18 v21)) fun v22 =>
 vb (xPick v16 tt v22) fun v23 =>
 bite v23 (some (ff, h)) (F41_0 n cl v1 v2 h)
theorem E41 (n : Nat) (cl : CL) (a0 a1 : Value) (h : PH) : exF Try.prog n cl ⟨[], [], [], [(4, [0, 1, 2, 3, 4, 6, 5, 7, 8, 9, 10, 11, 12, 16, 18, 13, 14, 15, 17, 19, 20, 21, 22, 23, 24, 25])], []⟩ Try.f41 [a0, a1] h = F41 n cl a0 a1 h := by kernel_rfl
theorem S41 {n : Nat} {cl : CL} (hcl : OkCL Try.prog cl) {a0 a1 : Value} {h h' : PH} {v : Value} (hx : F41 n cl a0 a1 h = some (v, h')) : (enterable Try.prog 41 = true ∧ ACall Try.prog 41 [a0, a1] h.abs (fun u k => u = v ∧ k = h'.abs)) ∧ Inv h h' :=
  exF_ok hcl hmx Try.func41 (by kernel_rfl) ((E41 n cl a0 a1 h).trans hx)
-- undergrowth/grammar.Form$1
noncomputable def F40 (n : Nat) (cl : CL) (a0 a1 : Value) (h : PH) : R :=
 hb (xBox a0 h) fun v1 h =>
 vb (xLdA 7 a1 h) fun v2 =>
 vb (xLdA 3 v1 h) fun v3 =>
 vb (pcall (F41 n cl v2 v3 (h.fzn))) fun v4 =>
 vb (xNot v4) fun v5 =>
 some (v5, h)
noncomputable def D40 (n : Nat) (cl : CL) : CL := fun f xs h => sw f 41 (ucons xs fun b0 xs => ucons xs fun b1 xs => u0 xs (F41 n cl b0 b1 h)) (cl f xs h)
theorem Dk40 {n : Nat} {cl : CL} (hcl : OkCL Try.prog cl) : OkCL Try.prog (D40 n cl) := by
  intro f xs h v h' hx
  rcases sw_ok hx with ⟨rfl, hx⟩ | hx
  · obtain ⟨_, _, rfl, hx⟩ := ucons_ok hx; obtain ⟨_, _, rfl, hx⟩ := ucons_ok hx; obtain ⟨rfl, hx⟩ := u0_ok hx; exact S41 (n := n) (cl := cl) hcl hx
  exact hcl _ _ _ _ _ hx
theorem E40 (n : Nat) (cl : CL) (a0 a1 : Value) (h : PH) : exF Try.prog n (D40 n cl) ⟨[41], [], [], [], []⟩ Try.f40 [a0, a1] h = F40 n cl a0 a1 h := by kernel_rfl
theorem S40 {n : Nat} {cl : CL} (hcl : OkCL Try.prog cl) {a0 a1 : Value} {h h' : PH} {v : Value} (hx : F40 n cl a0 a1 h = some (v, h')) : (enterable Try.prog 40 = true ∧ ACall Try.prog 40 [a0, a1] h.abs (fun u k => u = v ∧ k = h'.abs)) ∧ Inv h h' :=
  exF_ok (Dk40 hcl) hmx Try.func40 (by kernel_rfl) ((E40 n cl a0 a1 h).trans hx)
-- slices.IndexFunc[[][3]int,[3]int]
noncomputable def F47_0 (n : Nat) (cl : CL) (v9 : Value) (r2 : Kt) (v3 : Value) (v5 : Value) (v7 : Value) (h : PH) : R :=
 vb (xAri Int.add v9 (vN 1)) fun v15 =>
 r2 [v3, v5, v7, v15] h
noncomputable def F47_1 (n : Nat) (cl : CL) (v3 : Value) (v9 : Value) (v5 : Value) (r2 : Kt) (v7 : Value) (h : PH) : R :=
 vb (xIdxS 3 v3 v9) fun v12 =>
 vb (xLdA 3 v12 h) fun v13 =>
 hb (xCall cl v5 [v13] h) fun v14 h =>
 bite v14 (some (v9, h)) (F47_0 n cl v9 r2 v3 v5 v7 h)
noncomputable def F47_2 (n : Nat) (cl : CL) (v9 : Value) (v7 : Value) (v3 : Value) (v5 : Value) (r2 : Kt) (h : PH) : R :=
 vb (xCmp ilt v9 v7) fun v11 =>
 bite v11 (F47_1 n cl v3 v9 v5 r2 v7 h) (some ((vM 0), h))
noncomputable def F47_3 (n : Nat) (cl : CL) (r2 : Kt) (y2 : List Value) (h : PH) : R :=
 ucons y2 fun v3 y4 => ucons y4 fun v5 y6 => ucons y6 fun v7 y8 => ucons y8 fun v9 y10 => F47_2 n cl v9 v7 v3 v5 r2 h
noncomputable def F47 (n : Nat) (cl : CL) (a0 a1 : Value) (h : PH) : R :=
 vb (xLenS a0) fun v1 =>
 lp n (F47_3 n cl) [a0, a1, v1, (vN 0)] h
theorem E47 (n : Nat) (cl : CL) (a0 a1 : Value) (h : PH) : exF Try.prog n cl ⟨[], [], [(2, [0, 1, 7, 8])], [], []⟩ Try.f47 [a0, a1] h = F47 n cl a0 a1 h := by kernel_rfl
theorem S47 {n : Nat} {cl : CL} (hcl : OkCL Try.prog cl) {a0 a1 : Value} {h h' : PH} {v : Value} (hx : F47 n cl a0 a1 h = some (v, h')) : (enterable Try.prog 47 = true ∧ ACall Try.prog 47 [a0, a1] h.abs (fun u k => u = v ∧ k = h'.abs)) ∧ Inv h h' :=
  exF_ok hcl hmx Try.func47 (by kernel_rfl) ((E47 n cl a0 a1 h).trans hx)
-- slices.ContainsFunc[[][3]int,[3]int]
noncomputable def F39 (n : Nat) (cl : CL) (a0 a1 : Value) (h : PH) : R :=
 vb (pcall (F47 n cl a0 a1 (h.fzn))) fun v1 =>
 vb (xCmp (fun x y => ile y x) v1 (vN 0)) fun v2 =>
 some (v2, h)
noncomputable def D39 (n : Nat) (cl : CL) : CL := fun f xs h => sw f 47 (ucons xs fun b0 xs => ucons xs fun b1 xs => u0 xs (F47 n cl b0 b1 h)) (cl f xs h)
theorem Dk39 {n : Nat} {cl : CL} (hcl : OkCL Try.prog cl) : OkCL Try.prog (D39 n cl) := by
  intro f xs h v h' hx
  rcases sw_ok hx with ⟨rfl, hx⟩ | hx
  · obtain ⟨_, _, rfl, hx⟩ := ucons_ok hx; obtain ⟨_, _, rfl, hx⟩ := ucons_ok hx; obtain ⟨rfl, hx⟩ := u0_ok hx; exact S47 (n := n) (cl := cl) hcl hx
  exact hcl _ _ _ _ _ hx
theorem E39 (n : Nat) (cl : CL) (a0 a1 : Value) (h : PH) : exF Try.prog n (D39 n cl) ⟨[47], [], [], [], []⟩ Try.f39 [a0, a1] h = F39 n cl a0 a1 h := by kernel_rfl
theorem S39 {n : Nat} {cl : CL} (hcl : OkCL Try.prog cl) {a0 a1 : Value} {h h' : PH} {v : Value} (hx : F39 n cl a0 a1 h = some (v, h')) : (enterable Try.prog 39 = true ∧ ACall Try.prog 39 [a0, a1] h.abs (fun u k => u = v ∧ k = h'.abs)) ∧ Inv h h' :=
  exF_ok (Dk39 hcl) hmx Try.func39 (by kernel_rfl) ((E39 n cl a0 a1 h).trans hx)
-- undergrowth/grammar.Form
noncomputable def F33_0 (n : Nat) (cl : CL) (v15 : Value) (r5 : Kt) (v9 : Value) (v11 : Value) (v13 : Value) (h : PH) : R :=
 vb (xAri Int.add v15 (vN 1)) fun v25 =>
 r5 [v9, v11, v13, v25] h
noncomputable def F33_1 (n : Nat) (cl : CL) (v11 : Value) (v15 : Value) (v9 : Value) (r5 : Kt) (v13 : Value) (h : PH) : R :=
 vb (xIdxS 3 v11 v15) fun v18 =>
 vb (xLdA 3 v18 h) fun v19 =>
 hb (xAlloc (zcells Try.prog 29) h) fun v20 h =>
 hb (xStA 3 v20 v19 h) fun _ h =>
 vb (xLdA 7 v9 h) fun v21 =>
 vb (xLdA 3 v20 h) fun v22 =>
 vb (pcall (F38 n cl v21 v22 (h.fzn))) fun v23 =>
 vb (xCmp ine v23 (vN 0)) fun v24 =>
 bite v24 (some (Value.tuple ⟨[v15, v23]⟩, h)) (F33_0 n cl v15 r5 v9 v11 v13 h)
noncomputable def F33_2 (n : Nat) (cl : CL) (v9 : Value) (h : PH) : R :=
 vb (xFld 4 v9) fun v26 =>
 vb (xLd v26 h) fun v27 =>
 vb (some (Value.func (Fn.func 40) ⟨[]⟩ ⟨[v9]⟩)) fun v28 =>
 vb (pcall (F39 n cl v27 v28 (h.fzn))) fun v29 =>
 bite v29 (some (Value.tuple ⟨[(vM 0), (vN 6)]⟩, h)) (some (Value.tuple ⟨[(vM 0), (vN 0)]⟩, h))
noncomputable def F33_3 (n : Nat) (cl : CL) (v15 : Value) (v13 : Value) (v11 : Value) (v9 : Value) (r5 : Kt) (h : PH) : R :=
 vb (xCmp ilt v15 v13) fun v17 =>
 bite v17 (F33_1 n cl v11 v15 v9 r5 v13 h) (F33_2 n cl v9 h)
noncomputable def F33_4 (n : Nat) (cl : CL) (r5 : Kt) (y8 : List Value) (h : PH) : R :=
 ucons y8 fun v9 y10 => ucons y10 fun v11 y12 => ucons y12 fun v13 y14 => ucons y14 fun v15 y16 => F33_3 n cl v15 v13 v11 v9 r5 h
noncomputable def F33_5 (n : Nat) (cl : CL) (v1 : Value) (h : PH) : R :=
 vb (xFld 3 v1) fun v5 =>
 vb (xLd v5 h) fun v6 =>
 vb (xLenS v6) fun v7 =>
 lp n (F33_4 n cl) [v1, v6, v7, (vN 0)] h
noncomputable def F33 (n : Nat) (cl : CL) (a0 : Value) (h : PH) : R :=
 hb (xBox a0 h) fun v1 h =>
 vb (xLdA 7 v1 h) fun v2 =>
 vb (pcall (F37 n cl v2 (h.fzn))) fun v3 =>
 vb (xCmp ine v3 (vN 0)) fun v4 =>
 bite v4 (some (Value.tuple ⟨[(vM 0), v3]⟩, h)) (F33_5 n cl v1 h)
noncomputable def D33 (n : Nat) (cl : CL) : CL := fun f xs h => sw f 37 (ucons xs fun b0 xs => u0 xs (F37 n cl b0 h)) (sw f 38 (ucons xs fun b0 xs => ucons xs fun b1 xs => u0 xs (F38 n cl b0 b1 h)) (sw f 39 (ucons xs fun b0 xs => ucons xs fun b1 xs => u0 xs (F39 n cl b0 b1 h)) (cl f xs h)))
theorem Dk33 {n : Nat} {cl : CL} (hcl : OkCL Try.prog cl) : OkCL Try.prog (D33 n cl) := by
  intro f xs h v h' hx
  rcases sw_ok hx with ⟨rfl, hx⟩ | hx
  · obtain ⟨_, _, rfl, hx⟩ := ucons_ok hx; obtain ⟨rfl, hx⟩ := u0_ok hx; exact S37 (n := n) (cl := cl) hcl hx
  rcases sw_ok hx with ⟨rfl, hx⟩ | hx
  · obtain ⟨_, _, rfl, hx⟩ := ucons_ok hx; obtain ⟨_, _, rfl, hx⟩ := ucons_ok hx; obtain ⟨rfl, hx⟩ := u0_ok hx; exact S38 (n := n) (cl := cl) hcl hx
  rcases sw_ok hx with ⟨rfl, hx⟩ | hx
  · obtain ⟨_, _, rfl, hx⟩ := ucons_ok hx; obtain ⟨_, _, rfl, hx⟩ := ucons_ok hx; obtain ⟨rfl, hx⟩ := u0_ok hx; exact S39 (n := n) (cl := cl) hcl hx
  exact hcl _ _ _ _ _ hx
theorem E33 (n : Nat) (cl : CL) (a0 : Value) (h : PH) : exF Try.prog n (D33 n cl) ⟨[37, 38, 39], [], [(5, [1, 14, 15, 16])], [], []⟩ Try.f33 [a0] h = F33 n cl a0 h := by kernel_rfl
theorem S33 {n : Nat} {cl : CL} (hcl : OkCL Try.prog cl) {a0 : Value} {h h' : PH} {v : Value} (hx : F33 n cl a0 h = some (v, h')) : (enterable Try.prog 33 = true ∧ ACall Try.prog 33 [a0] h.abs (fun u k => u = v ∧ k = h'.abs)) ∧ Inv h h' :=
  exF_ok (Dk33 hcl) hmx Try.func33 (by kernel_rfl) ((E33 n cl a0 h).trans hx)
-- undergrowth/grammar.Good
noncomputable def F27 (n : Nat) (cl : CL) (a0 : Value) (h : PH) : R :=
 hb (xBox a0 h) fun v1 h =>
 vb (xLdA 7 v1 h) fun v2 =>
 vb (pcall (F33 n cl v2 (h.fzn))) fun v3 =>
 vb (xExt 0 v3) fun v4 =>
 vb (xExt 1 v3) fun v5 =>
 vb (xCmp ieq v5 (vN 0)) fun v6 =>
 some (v6, h)
noncomputable def D27 (n : Nat) (cl : CL) : CL := fun f xs h => sw f 33 (ucons xs fun b0 xs => u0 xs (F33 n cl b0 h)) (cl f xs h)
theorem Dk27 {n : Nat} {cl : CL} (hcl : OkCL Try.prog cl) : OkCL Try.prog (D27 n cl) := by
  intro f xs h v h' hx
  rcases sw_ok hx with ⟨rfl, hx⟩ | hx
  · obtain ⟨_, _, rfl, hx⟩ := ucons_ok hx; obtain ⟨rfl, hx⟩ := u0_ok hx; exact S33 (n := n) (cl := cl) hcl hx
  exact hcl _ _ _ _ _ hx
theorem E27 (n : Nat) (cl : CL) (a0 : Value) (h : PH) : exF Try.prog n (D27 n cl) ⟨[33], [], [], [], []⟩ Try.f27 [a0] h = F27 n cl a0 h := by kernel_rfl
theorem S27 {n : Nat} {cl : CL} (hcl : OkCL Try.prog cl) {a0 : Value} {h h' : PH} {v : Value} (hx : F27 n cl a0 h = some (v, h')) : (enterable Try.prog 27 = true ∧ ACall Try.prog 27 [a0] h.abs (fun u k => u = v ∧ k = h'.abs)) ∧ Inv h h' :=
  exF_ok (Dk27 hcl) hmx Try.func27 (by kernel_rfl) ((E27 n cl a0 h).trans hx)
-- undergrowth/reach.Reachable
noncomputable def F14_0 (n : Nat) (cl : CL) (v51 : Value) (r9 : Kt) (v41 : Value) (v43 : Value) (v45 : Value) (v47 : Value) (v49 : Value) (h : PH) : R :=
 vb (xAri Int.add v51 (vN 1)) fun v53 =>
 r9 [v41, v43, v45, v47, v49, v53] h
noncomputable def F14_1 (n : Nat) (cl : CL) (v102 : Value) (r13 : Kt) (v86 : Value) (v88 : Value) (v90 : Value) (v92 : Value) (v94 : Value) (v96 : Value) (v98 : Value) (v100 : Value) (h : PH) : R :=
 vb (xAri Int.add v102 (vN 1)) fun v104 =>
 r13 [v86, v88, v90, v92, v94, v96, v98, v100, v104] h
noncomputable def F14_2 (n : Nat) (cl : CL) (v68 : Value) (v106 : Value) (v70 : Value) (k18 : Kt) (v66 : Value) (v72 : Value) (v74 : Value) (v76 : Value) (v78 : Value) (v80 : Value) (v82 : Value) (h : PH) : R :=
 vb (xIdxS 1 v68 v106) fun v115 =>
 hb (xSt1 v115 tt h) fun _ h =>
 hb (xBS 1 (bsRow Try.prog 25 1 [(0, v106)]) h) fun v116 h =>
 hb (xApp (appInfo Try.prog #[25, 25]) v70 v116 h) fun v117 h =>
 k18 [v66, v68, v117, v72, v74, v76, v78, v80, v82] h
noncomputable def F14_3 (n : Nat) (cl : CL) (r13 : Kt) (y85 : List Value) (h : PH) : R :=
 ucons y85 fun v86 y87 => ucons y87 fun v88 y89 => ucons y89 fun v90 y91 => ucons y91 fun v92 y93 => ucons y93 fun v94 y95 => ucons y95 fun v96 y97 => ucons y97 fun v98 y99 => ucons y99 fun v100 y101 => ucons y101 fun v102 y103 => F14_1 n cl v102 r13 v86 v88 v90 v92 v94 v96 v98 v100 h
noncomputable def F14_4 (n : Nat) (cl : CL) (v78 : Value) (v82 : Value) (v66 : Value) (v68 : Value) (v70 : Value) (v72 : Value) (v74 : Value) (v76 : Value) (v80 : Value) (h : PH) (k18 : Kt) : R :=
 vb (xIdxS 1 v78 v82) fun v105 =>
 vb (xLd v105 h) fun v106 =>
 vb (xLdA 7 v66 h) fun v107 =>
 vb (pcall (F29 n cl v107 v106 (h.fzn))) fun v108 =>
 vb (gd (isB true v108) (some v68)) fun v109 =>
 vb (gd (isB true v108) (some v106)) fun v110 =>
 vb (gd (isB true v108) (xIdxS 1 v109 v110)) fun v111 =>
 vb (gd (isB true v108) (xLd v111 h)) fun v112 =>
 vb (gd (isB true v108) (xNot v112)) fun v113 =>
 vb (xPick v108 v113 ff) fun v114 =>
 bite v114 (F14_2 n cl v68 v106 v70 k18 v66 v72 v74 v76 v78 v80 v82 h) (k18 [v66, v68, v70, v72, v74, v76, v78, v80, v82] h)
noncomputable def F14_5 (n : Nat) (cl : CL) (v82 : Value) (v80 : Value) (r13 : Kt) (v78 : Value) (v66 : Value) (v68 : Value) (v70 : Value) (v72 : Value) (v74 : Value) (v76 : Value) (k19 : Kt) (h : PH) : R :=
 vb (xCmp ilt v82 v80) fun v84 =>
 bite v84 (jn (F14_3 n cl r13) (F14_4 n cl v78 v82 v66 v68 v70 v72 v74 v76 v80 h)) (k19 [v66, v68, v70, v72, v74, v76] h)
noncomputable def F14_6 (n : Nat) (cl : CL) (k19 : Kt) (r13 : Kt) (y65 : List Value) (h : PH) : R :=
 ucons y65 fun v66 y67 => ucons y67 fun v68 y69 => ucons y69 fun v70 y71 => ucons y71 fun v72 y73 => ucons y73 fun v74 y75 => ucons y75 fun v76 y77 => ucons y77 fun v78 y79 => ucons y79 fun v80 y81 => ucons y81 fun v82 y83 => F14_5 n cl v82 v80 r13 v78 v66 v68 v70 v72 v74 v76 k19 h
noncomputable def F14_7 (n : Nat) (cl : CL) (v56 : Value) (k19 : Kt) (v27 : Value) (v29 : Value) (v31 : Value) (v33 : Value) (v35 : Value) (v37 : Value) (h : PH) : R :=
 vb (xFld 1 v56) fun v62 =>
 vb (xLd v62 h) fun v63 =>
 vb (xLenS v63) fun v64 =>
 lp n (F14_6 n cl k19) [v27, v29, v31, v33, v35, v37, v63, v64, (vN 0)] h
noncomputable def F14_8 (n : Nat) (cl : CL) (r9 : Kt) (y40 : List Value) (h : PH) : R :=
 ucons y40 fun v41 y42 => ucons y42 fun v43 y44 => ucons y44 fun v45 y46 => ucons y46 fun v47 y48 => ucons y48 fun v49 y50 => ucons y50 fun v51 y52 => F14_0 n cl v51 r9 v41 v43 v45 v47 v49 h
noncomputable def F14_9 (n : Nat) (cl : CL) (v33 : Value) (v37 : Value) (v31 : Value) (v27 : Value) (v29 : Value) (v35 : Value) (h : PH) (k19 : Kt) : R :=
 vb (xIdxS 3 v33 v37) fun v54 =>
 vb (xLdA 3 v54 h) fun v55 =>
 hb (xAlloc (zcells Try.prog 29) h) fun v56 h =>
 hb (xStA 3 v56 v55 h) fun _ h =>
 vb (xFld 0 v56) fun v57 =>
 vb (xIdxS 1 v31 (vN 0)) fun v58 =>
 vb (xLd v57 h) fun v59 =>
 vb (xLd v58 h) fun v60 =>
 vb (xCmp ine v59 v60) fun v61 =>
 bite v61 (k19 [v27, v29, v31, v33, v35, v37] h) (F14_7 n cl v56 k19 v27 v29 v31 v33 v35 v37 h)
noncomputable def F14_10 (n : Nat) (cl : CL) (v31 : Value) (r6 : Kt) (v27 : Value) (v29 : Value) (h : PH) : R :=
 vb (acut Try.prog 25 v31 (some (vN 1)) none none) fun v118 =>
 r6 [v27, v29, v118] h
noncomputable def F14_11 (n : Nat) (cl : CL) (v37 : Value) (v35 : Value) (r9 : Kt) (v33 : Value) (v31 : Value) (v27 : Value) (v29 : Value) (r6 : Kt) (h : PH) : R :=
 vb (xCmp ilt v37 v35) fun v39 =>
 bite v39 (jn (F14_8 n cl r9) (F14_9 n cl v33 v37 v31 v27 v29 v35 h)) (F14_10 n cl v31 r6 v27 v29 h)
noncomputable def F14_12 (n : Nat) (cl : CL) (r6 : Kt) (r9 : Kt) (y26 : List Value) (h : PH) : R :=
 ucons y26 fun v27 y28 => ucons y28 fun v29 y30 => ucons y30 fun v31 y32 => ucons y32 fun v33 y34 => ucons y34 fun v35 y36 => ucons y36 fun v37 y38 => F14_11 n cl v37 v35 r9 v33 v31 v27 v29 r6 h
noncomputable def F14_13 (n : Nat) (cl : CL) (v15 : Value) (r6 : Kt) (v17 : Value) (v19 : Value) (h : PH) : R :=
 vb (xFld 3 v15) fun v23 =>
 vb (xLd v23 h) fun v24 =>
 vb (xLenS v24) fun v25 =>
 lp n (F14_12 n cl r6) [v15, v17, v19, v24, v25, (vN 0)] h
noncomputable def F14_14 (n : Nat) (cl : CL) (v19 : Value) (v15 : Value) (r6 : Kt) (v17 : Value) (h : PH) : R :=
 vb (xLenS v19) fun v21 =>
 vb (xCmp (fun x y => ilt y x) v21 (vN 0)) fun v22 =>
 bite v22 (F14_13 n cl v15 r6 v17 v19 h) (some (v17, h))
noncomputable def F14_15 (n : Nat) (cl : CL) (r6 : Kt) (y14 : List Value) (h : PH) : R :=
 ucons y14 fun v15 y16 => ucons y16 fun v17 y18 => ucons y18 fun v19 y20 => F14_14 n cl v19 v15 r6 v17 h
noncomputable def F14_16 (n : Nat) (cl : CL) (v1 : Value) (h : PH) : R :=
 vb (xFld 0 v1) fun v5 =>
 vb (xLd v5 h) fun v6 =>
 hb (xMk (zinfo Try.prog 34) v6 v6 h) fun v7 h =>
 vb (xFld 2 v1) fun v8 =>
 vb (xLd v8 h) fun v9 =>
 vb (xIdxS 1 v7 v9) fun v10 =>
 hb (xSt1 v10 tt h) fun _ h =>
 vb (xFld 2 v1) fun v11 =>
 vb (xLd v11 h) fun v12 =>
 hb (xBS 1 (bsRow Try.prog 25 1 [(0, v12)]) h) fun v13 h =>
 lp n (F14_15 n cl) [v1, v7, v13] h
noncomputable def F14 (n : Nat) (cl : CL) (a0 : Value) (h : PH) : R :=
 hb (xBox a0 h) fun v1 h =>
 vb (xLdA 7 v1 h) fun v2 =>
 vb (pcall (F27 n cl v2 (h.fzn))) fun v3 =>
 vb (xNot v3) fun v4 =>
 bite v4 (some (nils, h)) (F14_16 n cl v1 h)
noncomputable def D14 (n : Nat) (cl : CL) : CL := fun f xs h => sw f 27 (ucons xs fun b0 xs => u0 xs (F27 n cl b0 h)) (sw f 29 (ucons xs fun b0 xs => ucons xs fun b1 xs => u0 xs (F29 n cl b0 b1 h)) (cl f xs h))
theorem Dk14 {n : Nat} {cl : CL} (hcl : OkCL Try.prog cl) : OkCL Try.prog (D14 n cl) := by
  intro f xs h v h' hx
  rcases sw_ok hx with ⟨rfl, hx⟩ | hx
  · obtain ⟨_, _, rfl, hx⟩ := ucons_ok hx; obtain ⟨rfl, hx⟩ := u0_ok hx; exact S27 (n := n) (cl := cl) hcl hx
  rcases sw_ok hx with ⟨rfl, hx⟩ | hx
  · obtain ⟨_, _, rfl, hx⟩ := ucons_ok hx; obtain ⟨_, _, rfl, hx⟩ := ucons_ok hx; obtain ⟨rfl, hx⟩ := u0_ok hx; exact S29 (n := n) (cl := cl) hcl hx
  exact hcl _ _ _ _ _ hx
theorem E14 (n : Nat) (cl : CL) (a0 : Value) (h : PH) : exF Try.prog n (D14 n cl) ⟨[27, 29], [], [(6, [1, 3, 4]), (9, [1, 3, 4, 28, 29, 30]), (13, [1, 3, 4, 28, 29, 30, 41, 42, 43]), (18, [1, 3, 4, 28, 29, 30, 41, 42, 43]), (19, [1, 3, 4, 28, 29, 30])], [(11, [0, 2, 3, 1, 4, 5])], []⟩ Try.f14 [a0] h = F14 n cl a0 h := by kernel_rfl
theorem S14 {n : Nat} {cl : CL} (hcl : OkCL Try.prog cl) {a0 : Value} {h h' : PH} {v : Value} (hx : F14 n cl a0 h = some (v, h')) : (enterable Try.prog 14 = true ∧ ACall Try.prog 14 [a0] h.abs (fun u k => u = v ∧ k = h'.abs)) ∧ Inv h h' :=
  exF_ok (Dk14 hcl) hmx Try.func14 (by kernel_rfl) ((E14 n cl a0 h).trans hx)
-- undergrowth/reach.long
noncomputable def F28_0 (n : Nat) (cl : CL) (v28 : Value) (r3 : Kt) (v18 : Value) (v20 : Value) (v22 : Value) (v24 : Value) (v26 : Value) (h : PH) : R :=
 vb (xAri Int.add v28 (vN 1)) fun v30 =>
 r3 [v18, v20, v22, v24, v26, v30] h
noncomputable def F28_1 (n : Nat) (cl : CL) (v8 : Value) (k10 : Kt) (v4 : Value) (v6 : Value) (v10 : Value) (v12 : Value) (v14 : Value) (h : PH) : R :=
 vb (xAri Int.add v8 (vN 1)) fun v36 =>
 k10 [v4, v6, v36, v10, v12, v14] h
noncomputable def F28_2 (n : Nat) (cl : CL) (v4 : Value) (v32 : Value) (v8 : Value) (k10 : Kt) (v6 : Value) (v10 : Value) (v12 : Value) (v14 : Value) (h : PH) : R :=
 vb (xIdxS 1 v4 v32) fun v40 =>
 vb (xLd v40 h) fun v41 =>
 vb (xAri Int.add v8 v41) fun v42 =>
 k10 [v4, v6, v42, v10, v12, v14] h
noncomputable def F28_3 (n : Nat) (cl : CL) (v4 : Value) (v32 : Value) (v8 : Value) (k10 : Kt) (v6 : Value) (v10 : Value) (v12 : Value) (v14 : Value) (h : PH) : R :=
 vb (xIdxS 1 v4 v32) fun v37 =>
 vb (xLd v37 h) fun v38 =>
 vb (xCmp ieq v38 (vM 0)) fun v39 =>
 bite v39 (some ((vM 0), h)) (F28_2 n cl v4 v32 v8 k10 v6 v10 v12 v14 h)
noncomputable def F28_4 (n : Nat) (cl : CL) (r3 : Kt) (y17 : List Value) (h : PH) : R :=
 ucons y17 fun v18 y19 => ucons y19 fun v20 y21 => ucons y21 fun v22 y23 => ucons y23 fun v24 y25 => ucons y25 fun v26 y27 => ucons y27 fun v28 y29 => F28_0 n cl v28 r3 v18 v20 v22 v24 v26 h
noncomputable def F28_5 (n : Nat) (cl : CL) (v10 : Value) (v14 : Value) (v6 : Value) (v8 : Value) (v4 : Value) (v12 : Value) (h : PH) (k10 : Kt) : R :=
 vb (xIdxS 1 v10 v14) fun v31 =>
 vb (xLd v31 h) fun v32 =>
 vb (xLdA 7 v6 h) fun v33 =>
 vb (pcall (F29 n cl v33 v32 (h.fzn))) fun v34 =>
 vb (xNot v34) fun v35 =>
 bite v35 (F28_1 n cl v8 k10 v4 v6 v10 v12 v14 h) (F28_3 n cl v4 v32 v8 k10 v6 v10 v12 v14 h)
noncomputable def F28_6 (n : Nat) (cl : CL) (v8 : Value) (h : PH) : R :=
 vb ((if plainV.plainVs [v8, (vN 1000000000)] then prun Try.prog (Builtin.min_ #[3, 3] 3 ⟨[v8, (vN 1000000000)]⟩) else none)) fun v43 =>
 some (v43, h)
noncomputable def F28_7 (n : Nat) (cl : CL) (v14 : Value) (v12 : Value) (r3 : Kt) (v10 : Value) (v6 : Value) (v8 : Value) (v4 : Value) (h : PH) : R :=
 vb (xCmp ilt v14 v12) fun v16 =>
 bite v16 (jn (F28_4 n cl r3) (F28_5 n cl v10 v14 v6 v8 v4 v12 h)) (F28_6 n cl v8 h)
noncomputable def F28_8 (n : Nat) (cl : CL) (r3 : Kt) (y3 : List Value) (h : PH) : R :=
 ucons y3 fun v4 y5 => ucons y5 fun v6 y7 => ucons y7 fun v8 y9 => ucons y9 fun v10 y11 => ucons y11 fun v12 y13 => ucons y13 fun v14 y15 => F28_7 n cl v14 v12 r3 v10 v6 v8 v4 h
noncomputable def F28 (n : Nat) (cl : CL) (a0 a1 a2 : Value) (h : PH) : R :=
 hb (xBox a0 h) fun v1 h =>
 vb (xLenS a2) fun v2 =>
 lp n (F28_8 n cl) [a1, v1, (vN 0), a2, v2, (vN 0)] h
noncomputable def D28 (n : Nat) (cl : CL) : CL := fun f xs h => sw f 29 (ucons xs fun b0 xs => ucons xs fun b1 xs => u0 xs (F29 n cl b0 b1 h)) (cl f xs h)
theorem Dk28 {n : Nat} {cl : CL} (hcl : OkCL Try.prog cl) : OkCL Try.prog (D28 n cl) := by
  intro f xs h v h' hx
  rcases sw_ok hx with ⟨rfl, hx⟩ | hx
  · obtain ⟨_, _, rfl, hx⟩ := ucons_ok hx; obtain ⟨_, _, rfl, hx⟩ := ucons_ok hx; obtain ⟨rfl, hx⟩ := u0_ok hx; exact S29 (n := n) (cl := cl) hcl hx
  exact hcl _ _ _ _ _ hx
theorem E28 (n : Nat) (cl : CL) (a0 a1 a2 : Value) (h : PH) : exF Try.prog n (D28 n cl) ⟨[29], [], [(3, [1, 3, 7, 10, 11, 12]), (10, [1, 3, 7, 10, 11, 12])], [], []⟩ Try.f28 [a0, a1, a2] h = F28 n cl a0 a1 a2 h := by kernel_rfl
theorem S28 {n : Nat} {cl : CL} (hcl : OkCL Try.prog cl) {a0 a1 a2 : Value} {h h' : PH} {v : Value} (hx : F28 n cl a0 a1 a2 h = some (v, h')) : (enterable Try.prog 28 = true ∧ ACall Try.prog 28 [a0, a1, a2] h.abs (fun u k => u = v ∧ k = h'.abs)) ∧ Inv h h' :=
  exF_ok (Dk28 hcl) hmx Try.func28 (by kernel_rfl) ((E28 n cl a0 a1 a2 h).trans hx)
-- undergrowth/reach.Shortest
noncomputable def F11_0 (n : Nat) (cl : CL) (v12 : Value) (v16 : Value) (r5 : Kt) (v10 : Value) (v14 : Value) (h : PH) : R :=
 vb (xIdxS 1 v12 v16) fun v19 =>
 hb (xSt1 v19 (vM 0) h) fun _ h =>
 vb (xAri Int.add v16 (vN 1)) fun v20 =>
 r5 [v10, v12, v14, v20] h
noncomputable def F11_1 (n : Nat) (cl : CL) (v56 : Value) (r13 : Kt) (v46 : Value) (v48 : Value) (v50 : Value) (v52 : Value) (v54 : Value) (h : PH) : R :=
 vb (xAri Int.add v56 (vN 1)) fun v58 =>
 r13 [v46, v48, v50, v52, v54, v58] h
noncomputable def F11_2 (n : Nat) (cl : CL) (v61 : Value) (v34 : Value) (v65 : Value) (k18 : Kt) (v32 : Value) (v38 : Value) (v40 : Value) (v42 : Value) (h : PH) : R :=
 vb (xFld 0 v61) fun v83 =>
 vb (xLd v83 h) fun v84 =>
 vb (xIdxS 1 v34 v84) fun v85 =>
 hb (xSt1 v85 v65 h) fun _ h =>
 k18 [v32, v34, tt, v38, v40, v42] h
noncomputable def F11_3 (n : Nat) (cl : CL) (r13 : Kt) (y45 : List Value) (h : PH) : R :=
 ucons y45 fun v46 y47 => ucons y47 fun v48 y49 => ucons y49 fun v50 y51 => ucons y51 fun v52 y53 => ucons y53 fun v54 y55 => ucons y55 fun v56 y57 => F11_1 n cl v56 r13 v46 v48 v50 v52 v54 h
noncomputable def F11_4 (n : Nat) (cl : CL) (v38 : Value) (v42 : Value) (v32 : Value) (v34 : Value) (v40 : Value) (v36 : Value) (h : PH) (k18 : Kt) : R :=
 vb (xIdxS 3 v38 v42) fun v59 =>
 vb (xLdA 3 v59 h) fun v60 =>
 hb (xAlloc (zcells Try.prog 29) h) fun v61 h =>
 hb (xStA 3 v61 v60 h) fun _ h =>
 vb (xLdA 7 v32 h) fun v62 =>
 vb (xFld 1 v61) fun v63 =>
 vb (xLd v63 h) fun v64 =>
 vb (pcall (F28 n cl v62 v34 v64 (h.fzn))) fun v65 =>
 vb (xCmp ine v65 (vM 0)) fun v66 =>
 vb (gd (isB true v66) (some v34)) fun v67 =>
 vb (gd (isB true v66) (xFld 0 v61)) fun v68 =>
 vb (gd (isB true v66) (xLd v68 h)) fun v69 =>
 vb (gd (isB true v66) (xIdxS 1 v67 v69)) fun v70 =>
 vb (gd (isB true v66) (xLd v70 h)) fun v71 =>
 vb (gd (isB true v66) (xCmp ieq v71 (vM 0))) fun v72 =>
 vb (gd (isB true v66) (some v72)) fun v73 =>
 vb (gd (isB false v73) (some v65)) fun v74 =>
 vb (gd (isB false v73) (some v34)) fun v75 =>
 vb (gd (isB false v73) (xFld 0 v61)) fun v76 =>
 vb (gd (isB false v73) (xLd v76 h)) fun v77 =>
 vb (gd (isB false v73) (xIdxS 1 v75 v77)) fun v78 =>
 vb (gd (isB false v73) (xLd v78 h)) fun v79 =>
 vb (gd (isB false v73) (xCmp ilt v74 v79)) fun v80 =>
 vb (gd (isB true v66) (xPick v73 tt v80)) fun v81 =>
 vb (xPick v66 v81 ff) fun v82 =>
 bite v82 (F11_2 n cl v61 v34 v65 k18 v32 v38 v40 v42 h) (k18 [v32, v34, v36, v38, v40, v42] h)
noncomputable def F11_5 (n : Nat) (cl : CL) (v42 : Value) (v40 : Value) (r13 : Kt) (v38 : Value) (v32 : Value) (v34 : Value) (v36 : Value) (r10 : Kt) (h : PH) : R :=
 vb (xCmp ilt v42 v40) fun v44 =>
 bite v44 (jn (F11_3 n cl r13) (F11_4 n cl v38 v42 v32 v34 v40 v36 h)) (r10 [v32, v34, v36] h)
noncomputable def F11_6 (n : Nat) (cl : CL) (r10 : Kt) (r13 : Kt) (y31 : List Value) (h : PH) : R :=
 ucons y31 fun v32 y33 => ucons y33 fun v34 y35 => ucons y35 fun v36 y37 => ucons y37 fun v38 y39 => ucons y39 fun v40 y41 => ucons y41 fun v42 y43 => F11_5 n cl v42 v40 r13 v38 v32 v34 v36 r10 h
noncomputable def F11_7 (n : Nat) (cl : CL) (v22 : Value) (r10 : Kt) (v24 : Value) (h : PH) : R :=
 vb (xFld 3 v22) fun v28 =>
 vb (xLd v28 h) fun v29 =>
 vb (xLenS v29) fun v30 =>
 lp n (F11_6 n cl r10) [v22, v24, ff, v29, v30, (vN 0)] h
noncomputable def F11_8 (n : Nat) (cl : CL) (r10 : Kt) (y21 : List Value) (h : PH) : R :=
 ucons y21 fun v22 y23 => ucons y23 fun v24 y25 => ucons y25 fun v26 y27 => bite v26 (F11_7 n cl v22 r10 v24 h) (some (v24, h))
noncomputable def F11_9 (n : Nat) (cl : CL) (v16 : Value) (v14 : Value) (v12 : Value) (r5 : Kt) (v10 : Value) (h : PH) : R :=
 vb (xCmp ilt v16 v14) fun v18 =>
 bite v18 (F11_0 n cl v12 v16 r5 v10 v14 h) (lp n (F11_8 n cl) [v10, v12, tt] h)
noncomputable def F11_10 (n : Nat) (cl : CL) (r5 : Kt) (y9 : List Value) (h : PH) : R :=
 ucons y9 fun v10 y11 => ucons y11 fun v12 y13 => ucons y13 fun v14 y15 => ucons y15 fun v16 y17 => F11_9 n cl v16 v14 v12 r5 v10 h
noncomputable def F11_11 (n : Nat) (cl : CL) (v1 : Value) (h : PH) : R :=
 vb (xFld 0 v1) fun v5 =>
 vb (xLd v5 h) fun v6 =>
 hb (xMk (zinfo Try.prog 25) v6 v6 h) fun v7 h =>
 vb (xLenS v7) fun v8 =>
 lp n (F11_10 n cl) [v1, v7, v8, (vN 0)] h
noncomputable def F11 (n : Nat) (cl : CL) (a0 : Value) (h : PH) : R :=
 hb (xBox a0 h) fun v1 h =>
 vb (xLdA 7 v1 h) fun v2 =>
 vb (pcall (F27 n cl v2 (h.fzn))) fun v3 =>
 vb (xNot v3) fun v4 =>
 bite v4 (some (nils, h)) (F11_11 n cl v1 h)
noncomputable def D11 (n : Nat) (cl : CL) : CL := fun f xs h => sw f 27 (ucons xs fun b0 xs => u0 xs (F27 n cl b0 h)) (sw f 28 (ucons xs fun b0 xs => ucons xs fun b1 xs => ucons xs fun b2 xs => u0 xs (F28 n cl b0 b1 b2 h)) (cl f xs h))
theorem Dk11 {n : Nat} {cl : CL} (hcl : OkCL Try.prog cl) : OkCL Try.prog (D11 n cl) := by
  intro f xs h v h' hx
  rcases sw_ok hx with ⟨rfl, hx⟩ | hx
  · obtain ⟨_, _, rfl, hx⟩ := ucons_ok hx; obtain ⟨rfl, hx⟩ := u0_ok hx; exact S27 (n := n) (cl := cl) hcl hx
  rcases sw_ok hx with ⟨rfl, hx⟩ | hx
  · obtain ⟨_, _, rfl, hx⟩ := ucons_ok hx; obtain ⟨_, _, rfl, hx⟩ := ucons_ok hx; obtain ⟨_, _, rfl, hx⟩ := ucons_ok hx; obtain ⟨rfl, hx⟩ := u0_ok hx; exact S28 (n := n) (cl := cl) hcl hx
  exact hcl _ _ _ _ _ hx
theorem E11 (n : Nat) (cl : CL) (a0 : Value) (h : PH) : exF Try.prog n (D11 n cl) ⟨[27, 28], [], [(5, [1, 3, 16, 17]), (10, [1, 3, 5]), (13, [1, 3, 5, 26, 27, 28]), (18, [1, 3, 5, 26, 27, 28])], [], []⟩ Try.f11 [a0] h = F11 n cl a0 h := by kernel_rfl
theorem S11 {n : Nat} {cl : CL} (hcl : OkCL Try.prog cl) {a0 : Value} {h h' : PH} {v : Value} (hx : F11 n cl a0 h = some (v, h')) : (enterable Try.prog 11 = true ∧ ACall Try.prog 11 [a0] h.abs (fun u k => u = v ∧ k = h'.abs)) ∧ Inv h h' :=
  exF_ok (Dk11 hcl) hmx Try.func11 (by kernel_rfl) ((E11 n cl a0 h).trans hx)
-- undergrowth/undergrowthlaw12.alive
noncomputable def F10 (n : Nat) (cl : CL) (h : PH) : R :=
 vb (abuild Try.prog 27 [(0, (vN 1))]) fun v1 =>
 hb (fcall h (F14 n cl v1 (h.fzn))) fun v2 h =>
 hb (xBS 2 (bsRow Try.prog 25 2 [(0, (vM 0)), (1, (vM 0))]) h) fun v3 h =>
 vb (abuild Try.prog 29 [(1, v3)]) fun v4 =>
 hb (xBS 1 (bsRow Try.prog 23 1 [(0, v4)]) h) fun v5 h =>
 vb (abuild Try.prog 27 [(0, (vN 1)), (1, (vN 1)), (3, v5)]) fun v6 =>
 hb (fcall h (F11 n cl v6 (h.fzn))) fun v7 h =>
 vb (xLenS v2) fun v8 =>
 vb (xCmp ieq v8 (vN 1)) fun v9 =>
 vb (gd (isB true v9) (some v2)) fun v10 =>
 vb (gd (isB true v9) (xIdxS 1 v10 (vN 0))) fun v11 =>
 vb (gd (isB true v9) (xLd v11 h)) fun v12 =>
 vb (xPick v9 v12 ff) fun v13 =>
 vb (gd (isB true v13) (some v7)) fun v14 =>
 vb (gd (isB true v13) (xLenS v14)) fun v15 =>
 vb (gd (isB true v13) (xCmp ieq v15 (vN 1))) fun v16 =>
 vb (xPick v13 v16 ff) fun v17 =>
 vb (gd (isB true v17) (some v7)) fun v18 =>
 vb (gd (isB true v17) (xIdxS 1 v18 (vN 0))) fun v19 =>
 vb (gd (isB true v17) (xLd v19 h)) fun v20 =>
 vb (gd (isB true v17) (xCmp ieq v20 (vN 2))) fun v21 =>
 vb (xPick v17 v21 ff) fun v22 =>
 some (v22, h)
noncomputable def D10 (n : Nat) (cl : CL) : CL := fun f xs h => sw f 14 (ucons xs fun b0 xs => u0 xs (F14 n cl b0 h)) (sw f 11 (ucons xs fun b0 xs => u0 xs (F11 n cl b0 h)) (cl f xs h))
theorem Dk10 {n : Nat} {cl : CL} (hcl : OkCL Try.prog cl) : OkCL Try.prog (D10 n cl) := by
  intro f xs h v h' hx
  rcases sw_ok hx with ⟨rfl, hx⟩ | hx
  · obtain ⟨_, _, rfl, hx⟩ := ucons_ok hx; obtain ⟨rfl, hx⟩ := u0_ok hx; exact S14 (n := n) (cl := cl) hcl hx
  rcases sw_ok hx with ⟨rfl, hx⟩ | hx
  · obtain ⟨_, _, rfl, hx⟩ := ucons_ok hx; obtain ⟨rfl, hx⟩ := u0_ok hx; exact S11 (n := n) (cl := cl) hcl hx
  exact hcl _ _ _ _ _ hx
theorem E10 (n : Nat) (cl : CL) (h : PH) : exF Try.prog n (D10 n cl) ⟨[], [11, 14], [], [], []⟩ Try.f10 [] h = F10 n cl  h := by kernel_rfl
theorem S10 {n : Nat} {cl : CL} (hcl : OkCL Try.prog cl) {h h' : PH} {v : Value} (hx : F10 n cl h = some (v, h')) : (enterable Try.prog 10 = true ∧ ACall Try.prog 10 [] h.abs (fun u k => u = v ∧ k = h'.abs)) ∧ Inv h h' :=
  exF_ok (Dk10 hcl) hmx Try.func10 (by kernel_rfl) ((E10 n cl h).trans hx)
-- undergrowth/undergrowthlaw12.ReachDoubles
noncomputable def F3_0 (n : Nat) (cl : CL) (v14 : Value) (v16 : Value) (r6 : Kt) (v12 : Value) (h : PH) : R :=
 vb (xFld 3 v14) fun v20 =>
 vb (xLd v20 h) fun v21 =>
 vb (xAri Int.add v16 (vN 1)) fun v22 =>
 vb (xAri Int.add v16 (vN 1)) fun v23 =>
 hb (xBS 2 (bsRow Try.prog 25 2 [(0, v22), (1, v23)]) h) fun v24 h =>
 vb (abuild Try.prog 29 [(0, v16), (1, v24)]) fun v25 =>
 hb (xBS 1 (bsRow Try.prog 23 1 [(0, v25)]) h) fun v26 h =>
 hb (xApp (appInfo Try.prog #[23, 23]) v21 v26 h) fun v27 h =>
 vb (xFld 3 v14) fun v28 =>
 hb (xSt1 v28 v27 h) fun _ h =>
 vb (xAri Int.add v16 (vN 1)) fun v29 =>
 r6 [v12, v14, v29] h
noncomputable def F3_1 (n : Nat) (cl : CL) (v56 : Value) (r15 : Kt) (v52 : Value) (v54 : Value) (h : PH) : R :=
 vb (xAri Int.sub v56 (vN 1)) fun v58 =>
 r15 [v52, v54, v58] h
noncomputable def F3_2 (n : Nat) (cl : CL) (v46 : Value) (k16 : Kt) (v44 : Value) (v48 : Value) (h : PH) : R :=
 vb (xAri Int.mul (vN 2) v46) fun v62 =>
 vb (xCmp (fun x y => ilt y x) v62 (vN 1000000000)) fun v63 =>
 bite v63 (k16 [v44, (vN 1000000000), v48] h) (k16 [v44, v62, v48] h)
noncomputable def F3_3 (n : Nat) (cl : CL) (r15 : Kt) (y51 : List Value) (h : PH) : R :=
 ucons y51 fun v52 y53 => ucons y53 fun v54 y55 => ucons y55 fun v56 y57 => F3_1 n cl v56 r15 v52 v54 h
noncomputable def F3_4 (n : Nat) (cl : CL) (v44 : Value) (v48 : Value) (v46 : Value) (h : PH) (k16 : Kt) : R :=
 vb (xIdxS 1 v44 v48) fun v59 =>
 vb (xLd v59 h) fun v60 =>
 vb (xCmp ine v60 v46) fun v61 =>
 bite v61 (some (ff, h)) (F3_2 n cl v46 k16 v44 v48 h)
noncomputable def F3_5 (n : Nat) (cl : CL) (v48 : Value) (r15 : Kt) (v44 : Value) (v46 : Value) (h : PH) : R :=
 vb (xCmp (fun x y => ile y x) v48 (vN 0)) fun v50 =>
 bite v50 (jn (F3_3 n cl r15) (F3_4 n cl v44 v48 v46 h)) (some (tt, h))
noncomputable def F3_6 (n : Nat) (cl : CL) (r15 : Kt) (y43 : List Value) (h : PH) : R :=
 ucons y43 fun v44 y45 => ucons y45 fun v46 y47 => ucons y47 fun v48 y49 => F3_5 n cl v48 r15 v44 v46 h
noncomputable def F3_7 (n : Nat) (cl : CL) (v12 : Value) (v39 : Value) (h : PH) : R :=
 vb (xAri Int.sub v12 (vN 1)) fun v42 =>
 lp n (F3_6 n cl) [v39, (vN 1), v42] h
noncomputable def F3_8 (n : Nat) (cl : CL) (v14 : Value) (v12 : Value) (h : PH) : R :=
 vb (xFld 3 v14) fun v30 =>
 vb (xLd v30 h) fun v31 =>
 vb (xAri Int.sub v12 (vN 1)) fun v32 =>
 hb (xBS 1 (bsRow Try.prog 25 1 [(0, (vM 0))]) h) fun v33 h =>
 vb (abuild Try.prog 29 [(0, v32), (1, v33)]) fun v34 =>
 hb (xBS 1 (bsRow Try.prog 23 1 [(0, v34)]) h) fun v35 h =>
 hb (xApp (appInfo Try.prog #[23, 23]) v31 v35 h) fun v36 h =>
 vb (xFld 3 v14) fun v37 =>
 hb (xSt1 v37 v36 h) fun _ h =>
 vb (xLdA 7 v14 h) fun v38 =>
 hb (fcall h (F11 n cl v38 (h.fzn))) fun v39 h =>
 vb (xLenS v39) fun v40 =>
 vb (xCmp ine v40 v12) fun v41 =>
 bite v41 (some (ff, h)) (F3_7 n cl v12 v39 h)
noncomputable def F3_9 (n : Nat) (cl : CL) (v16 : Value) (v12 : Value) (v14 : Value) (r6 : Kt) (h : PH) : R :=
 vb (xAri Int.add v16 (vN 1)) fun v18 =>
 vb (xCmp ilt v18 v12) fun v19 =>
 bite v19 (F3_0 n cl v14 v16 r6 v12 h) (F3_8 n cl v14 v12 h)
noncomputable def F3_10 (n : Nat) (cl : CL) (r6 : Kt) (y11 : List Value) (h : PH) : R :=
 ucons y11 fun v12 y13 => ucons y13 fun v14 y15 => ucons y15 fun v16 y17 => F3_9 n cl v16 v12 v14 r6 h
noncomputable def F3_11 (n : Nat) (cl : CL) (a0 : Value) (h : PH) : R :=
 vb (abuild Try.prog 27 [(0, a0), (1, (vN 1))]) fun v9 =>
 hb (xAlloc (zcells Try.prog 27) h) fun v10 h =>
 hb (xStA 7 v10 v9 h) fun _ h =>
 lp n (F3_10 n cl) [a0, v10, (vN 0)] h
noncomputable def F3 (n : Nat) (cl : CL) (a0 : Value) (h : PH) : R :=
 vb (pcall (F10 n cl (h.fzn))) fun v1 =>
 vb (xNot v1) fun v2 =>
 vb (gd (isB false v2) (some a0)) fun v3 =>
 vb (gd (isB false v2) (xCmp ilt v3 (vN 1))) fun v4 =>
 vb (xPick v2 tt v4) fun v5 =>
 vb (gd (isB false v5) (some a0)) fun v6 =>
 vb (gd (isB false v5) (xCmp (fun x y => ilt y x) v6 (vN 40))) fun v7 =>
 vb (xPick v5 tt v7) fun v8 =>
 bite v8 (some (v1, h)) (F3_11 n cl a0 h)
noncomputable def D3 (n : Nat) (cl : CL) : CL := fun f xs h => sw f 10 (u0 xs (F10 n cl h)) (sw f 11 (ucons xs fun b0 xs => u0 xs (F11 n cl b0 h)) (cl f xs h))
theorem Dk3 {n : Nat} {cl : CL} (hcl : OkCL Try.prog cl) : OkCL Try.prog (D3 n cl) := by
  intro f xs h v h' hx
  rcases sw_ok hx with ⟨rfl, hx⟩ | hx
  · obtain ⟨rfl, hx⟩ := u0_ok hx; exact S10 (n := n) (cl := cl) hcl hx
  rcases sw_ok hx with ⟨rfl, hx⟩ | hx
  · obtain ⟨_, _, rfl, hx⟩ := ucons_ok hx; obtain ⟨rfl, hx⟩ := u0_ok hx; exact S11 (n := n) (cl := cl) hcl hx
  exact hcl _ _ _ _ _ hx
theorem E3 (n : Nat) (cl : CL) (a0 : Value) (h : PH) : exF Try.prog n (D3 n cl) ⟨[10], [11], [(6, [0, 4, 5]), (15, [6, 7, 8]), (16, [6, 7, 8])], [], []⟩ Try.f3 [a0] h = F3 n cl a0 h := by kernel_rfl
theorem S3 {n : Nat} {cl : CL} (hcl : OkCL Try.prog cl) {a0 : Value} {h h' : PH} {v : Value} (hx : F3 n cl a0 h = some (v, h')) : (enterable Try.prog 3 = true ∧ ACall Try.prog 3 [a0] h.abs (fun u k => u = v ∧ k = h'.abs)) ∧ Inv h h' :=
  exF_ok (Dk3 hcl) hmx Try.func3 (by kernel_rfl) ((E3 n cl a0 h).trans hx)

/-- Functions that are called by value, or that call themselves; so deep. -/
noncomputable def CLs (n : Nat) (ih : CL) : CL := fun f xs h => sw f 49 (ucons xs fun b0 xs => u0 xs (F49 n ih b0 h)) (sw f 45 (ucons xs fun b0 xs => ucons xs fun b1 xs => u0 xs (F45 n ih b0 b1 h)) (sw f 40 (ucons xs fun b0 xs => ucons xs fun b1 xs => u0 xs (F40 n ih b0 b1 h)) (none)))
theorem CLs_ok {n : Nat} {ih : CL} (hcl : OkCL Try.prog ih) : OkCL Try.prog (CLs n ih) := by
  intro f xs h v h' hx
  unfold CLs at hx
  rcases sw_ok hx with ⟨rfl, hx⟩ | hx
  · obtain ⟨_, _, rfl, hx⟩ := ucons_ok hx; obtain ⟨rfl, hx⟩ := u0_ok hx; exact S49 (n := n) (cl := ih) hcl hx
  rcases sw_ok hx with ⟨rfl, hx⟩ | hx
  · obtain ⟨_, _, rfl, hx⟩ := ucons_ok hx; obtain ⟨_, _, rfl, hx⟩ := ucons_ok hx; obtain ⟨rfl, hx⟩ := u0_ok hx; exact S45 (n := n) (cl := ih) hcl hx
  rcases sw_ok hx with ⟨rfl, hx⟩ | hx
  · obtain ⟨_, _, rfl, hx⟩ := ucons_ok hx; obtain ⟨_, _, rfl, hx⟩ := ucons_ok hx; obtain ⟨rfl, hx⟩ := u0_ok hx; exact S40 (n := n) (cl := ih) hcl hx
  cases hx
noncomputable def CLV (n d : Nat) : CL := Nat.rec (motive := fun _ => CL) CNo (fun _ ih => CLs n ih) d
theorem CLV_ok (n : Nat) : ∀ d, OkCL Try.prog (CLV n d)
  | 0 => CNo_ok _
  | .succ d => CLs_ok (CLV_ok n d)

end Go.Am
