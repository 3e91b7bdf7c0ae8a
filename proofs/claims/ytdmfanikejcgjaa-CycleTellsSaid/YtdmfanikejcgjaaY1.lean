import Derived.Test.YtdmfanikejcgjaaZX
import Derived.Test.YtdmfanikejcgjaaProg
set_option linter.unusedVariables false
set_option maxRecDepth 100000
namespace Go.Am
open Go Go.RowKit Go.Proofs
theorem hmx : Try.prog.follows .mixedOrders = true := by kernel_rfl
-- undergrowth/grammar.IsName
noncomputable def F29 (n : Nat) (cl : CL) (a0 a1 : Value) (h : PH) : R :=
 hb (xBox a0 h) fun v1 h =>
 vb (xCmp (fun x y => ile y x) a1 (vN 0)) fun v2 =>
 vb (gd (isB true v2) (some a1)) fun v3 =>
 vb (gd (isB true v2) (xFld 0 v1)) fun v4 =>
 vb (gd (isB true v2) (xLd v4 h)) fun v5 =>
 vb (gd (isB true v2) (xCmp ilt v3 v5)) fun v6 =>
 vb (xPick v2 v6 ff) fun v7 =>
 some (v7, h)
theorem E29 (n : Nat) (cl : CL) (a0 a1 : Value) (h : PH) : exF Try.prog n cl ⟨[], [], [], [], []⟩ Try.f29 [a0, a1] h = F29 n cl a0 a1 h := by kernel_rfl
theorem S29 {n : Nat} {cl : CL} (hcl : OkCL Try.prog cl) {a0 a1 : Value} {h h' : PH} {v : Value} (hx : F29 n cl a0 a1 h = some (v, h')) : (enterable Try.prog 29 = true ∧ ACall Try.prog 29 [a0, a1] h.abs (fun u k => u = v ∧ k = h'.abs)) ∧ Inv h h' :=
  exF_ok hcl hmx Try.func29 (by kernel_rfl) ((E29 n cl a0 a1 h).trans hx)
-- slices.IndexFunc[[]int,int]
noncomputable def F50_0 (n : Nat) (cl : CL) (v9 : Value) (r2 : Kt) (v3 : Value) (v5 : Value) (v7 : Value) (h : PH) : R :=
 vb (xAri Int.add v9 (vN 1)) fun v15 =>
 r2 [v3, v5, v7, v15] h
noncomputable def F50_1 (n : Nat) (cl : CL) (v3 : Value) (v9 : Value) (v5 : Value) (r2 : Kt) (v7 : Value) (h : PH) : R :=
 vb (xIdxS 1 v3 v9) fun v12 =>
 vb (xLd v12 h) fun v13 =>
 hb (xCall cl v5 [v13] h) fun v14 h =>
 bite v14 (some (v9, h)) (F50_0 n cl v9 r2 v3 v5 v7 h)
noncomputable def F50_2 (n : Nat) (cl : CL) (v9 : Value) (v7 : Value) (v3 : Value) (v5 : Value) (r2 : Kt) (h : PH) : R :=
 vb (xCmp ilt v9 v7) fun v11 =>
 bite v11 (F50_1 n cl v3 v9 v5 r2 v7 h) (some ((vM 0), h))
noncomputable def F50_3 (n : Nat) (cl : CL) (r2 : Kt) (y2 : List Value) (h : PH) : R :=
 ucons y2 fun v3 y4 => ucons y4 fun v5 y6 => ucons y6 fun v7 y8 => ucons y8 fun v9 y10 => F50_2 n cl v9 v7 v3 v5 r2 h
noncomputable def F50 (n : Nat) (cl : CL) (a0 a1 : Value) (h : PH) : R :=
 vb (xLenS a0) fun v1 =>
 lp n (F50_3 n cl) [a0, a1, v1, (vN 0)] h
theorem E50 (n : Nat) (cl : CL) (a0 a1 : Value) (h : PH) : exF Try.prog n cl ⟨[], [], [(2, [0, 1, 7, 8])], [], []⟩ Try.f50 [a0, a1] h = F50 n cl a0 a1 h := by kernel_rfl
theorem S50 {n : Nat} {cl : CL} (hcl : OkCL Try.prog cl) {a0 a1 : Value} {h h' : PH} {v : Value} (hx : F50 n cl a0 a1 h = some (v, h')) : (enterable Try.prog 50 = true ∧ ACall Try.prog 50 [a0, a1] h.abs (fun u k => u = v ∧ k = h'.abs)) ∧ Inv h h' :=
  exF_ok hcl hmx Try.func50 (by kernel_rfl) ((E50 n cl a0 a1 h).trans hx)
-- slices.ContainsFunc[[]int,int]
noncomputable def F44 (n : Nat) (cl : CL) (a0 a1 : Value) (h : PH) : R :=
 vb (pcall (F50 n cl a0 a1 (h.fzn))) fun v1 =>
 vb (xCmp (fun x y => ile y x) v1 (vN 0)) fun v2 =>
 some (v2, h)
noncomputable def D44 (n : Nat) (cl : CL) : CL := fun f xs h => sw f 50 (ucons xs fun b0 xs => ucons xs fun b1 xs => u0 xs (F50 n cl b0 b1 h)) (cl f xs h)
theorem Dk44 {n : Nat} {cl : CL} (hcl : OkCL Try.prog cl) : OkCL Try.prog (D44 n cl) := by
  intro f xs h v h' hx
  rcases sw_ok hx with ⟨rfl, hx⟩ | hx
  · obtain ⟨_, _, rfl, hx⟩ := ucons_ok hx; obtain ⟨_, _, rfl, hx⟩ := ucons_ok hx; obtain ⟨rfl, hx⟩ := u0_ok hx; exact S50 (n := n) (cl := cl) hcl hx
  exact hcl _ _ _ _ _ hx
theorem E44 (n : Nat) (cl : CL) (a0 a1 : Value) (h : PH) : exF Try.prog n (D44 n cl) ⟨[50], [], [], [], []⟩ Try.f44 [a0, a1] h = F44 n cl a0 a1 h := by kernel_rfl
theorem S44 {n : Nat} {cl : CL} (hcl : OkCL Try.prog cl) {a0 a1 : Value} {h h' : PH} {v : Value} (hx : F44 n cl a0 a1 h = some (v, h')) : (enterable Try.prog 44 = true ∧ ACall Try.prog 44 [a0, a1] h.abs (fun u k => u = v ∧ k = h'.abs)) ∧ Inv h h' :=
  exF_ok (Dk44 hcl) hmx Try.func44 (by kernel_rfl) ((E44 n cl a0 a1 h).trans hx)
-- undergrowth/grammar.classes$1
noncomputable def F49 (n : Nat) (cl : CL) (a0 : Value) (h : PH) : R :=
 vb (xCmp ilt a0 (vN 0)) fun v1 =>
 vb (gd (isB false v1) (some a0)) fun v2 =>
 vb (gd (isB false v1) (xCmp (fun x y => ilt y x) v2 (vN 100))) fun v3 =>
 vb (xPick v1 tt v3) fun v4 =>
 some (v4, h)
theorem E49 (n : Nat) (cl : CL) (a0 : Value) (h : PH) : exF Try.prog n cl ⟨[], [], [], [], []⟩ Try.f49 [a0] h = F49 n cl a0 h := by kernel_rfl
theorem S49 {n : Nat} {cl : CL} (hcl : OkCL Try.prog cl) {a0 : Value} {h h' : PH} {v : Value} (hx : F49 n cl a0 h = some (v, h')) : (enterable Try.prog 49 = true ∧ ACall Try.prog 49 [a0] h.abs (fun u k => u = v ∧ k = h'.abs)) ∧ Inv h h' :=
  exF_ok hcl hmx Try.func49 (by kernel_rfl) ((E49 n cl a0 h).trans hx)
-- undergrowth/grammar.classes
noncomputable def F43 (n : Nat) (cl : CL) (a0 a1 : Value) (h : PH) : R :=
 vb (xLenS a0) fun v1 =>
 vb (xCmp ile v1 a1) fun v2 =>
 vb (gd (isB true v2) (some a0)) fun v3 =>
 vb (gd (isB true v2) (pcall (F44 n cl v3 (fnV 49 [] []) (h.fzn)))) fun v4 =>
 vb (gd (isB true v2) (xNot v4)) fun v5 =>
 vb (xPick v2 v5 ff) fun v6 =>
 some (v6, h)
noncomputable def D43 (n : Nat) (cl : CL) : CL := fun f xs h => sw f 44 (ucons xs fun b0 xs => ucons xs fun b1 xs => u0 xs (F44 n cl b0 b1 h)) (cl f xs h)
theorem Dk43 {n : Nat} {cl : CL} (hcl : OkCL Try.prog cl) : OkCL Try.prog (D43 n cl) := by
  intro f xs h v h' hx
  rcases sw_ok hx with ⟨rfl, hx⟩ | hx
  · obtain ⟨_, _, rfl, hx⟩ := ucons_ok hx; obtain ⟨_, _, rfl, hx⟩ := ucons_ok hx; obtain ⟨rfl, hx⟩ := u0_ok hx; exact S44 (n := n) (cl := cl) hcl hx
  exact hcl _ _ _ _ _ hx
theorem E43 (n : Nat) (cl : CL) (a0 a1 : Value) (h : PH) : exF Try.prog n (D43 n cl) ⟨[44], [], [], [], []⟩ Try.f43 [a0, a1] h = F43 n cl a0 a1 h := by kernel_rfl
theorem S43 {n : Nat} {cl : CL} (hcl : OkCL Try.prog cl) {a0 a1 : Value} {h h' : PH} {v : Value} (hx : F43 n cl a0 a1 h = some (v, h')) : (enterable Try.prog 43 = true ∧ ACall Try.prog 43 [a0, a1] h.abs (fun u k => u = v ∧ k = h'.abs)) ∧ Inv h h' :=
  exF_ok (Dk43 hcl) hmx Try.func43 (by kernel_rfl) ((E43 n cl a0 a1 h).trans hx)
-- undergrowth/grammar.whole
noncomputable def F37_0 (n : Nat) (cl : CL) (v1 : Value) (h : PH) : R :=
 vb (xFld 5 v1) fun v32 =>
 vb (xLd v32 h) fun v33 =>
 vb (xFld 3 v1) fun v34 =>
 vb (xLd v34 h) fun v35 =>
 vb (xLenS v35) fun v36 =>
 vb (pcall (F43 n cl v33 v36 (h.fzn))) fun v37 =>
 vb (xNot v37) fun v38 =>
 vb (gd (isB false v38) (xFld 6 v1)) fun v39 =>
 vb (gd (isB false v38) (xLd v39 h)) fun v40 =>
 vb (gd (isB false v38) (xFld 1 v1)) fun v41 =>
 vb (gd (isB false v38) (xLd v41 h)) fun v42 =>
 vb (gd (isB false v38) (pcall (F43 n cl v40 v42 (h.fzn)))) fun v43 =>
 vb (gd (isB false v38) (xNot v43)) fun v44 =>
 vb (xPick v38 tt v44) fun v45 =>
 bite v45 (some ((vN 1), h)) (some ((vN 0), h))
noncomputable def F37_1 (n : Nat) (cl : CL) (v1 : Value) (h : PH) : R :=
 vb (xLdA 7 v1 h) fun v27 =>
 vb (xFld 2 v1) fun v28 =>
 vb (xLd v28 h) fun v29 =>
 vb (pcall (F29 n cl v27 v29 (h.fzn))) fun v30 =>
 vb (xNot v30) fun v31 =>
 bite v31 (some ((vN 6), h)) (F37_0 n cl v1 h)
noncomputable def F37 (n : Nat) (cl : CL) (a0 : Value) (h : PH) : R :=
 hb (xBox a0 h) fun v1 h =>
 vb (xFld 0 v1) fun v2 =>
 vb (xLd v2 h) fun v3 =>
 vb (xCmp ilt v3 (vN 1)) fun v4 =>
 vb (gd (isB false v4) (xFld 0 v1)) fun v5 =>
 vb (gd (isB false v4) (xLd v5 h)) fun v6 =>
 vb (gd (isB false v4) (xCmp (fun x y => ilt y x) v6 (vN 40))) fun v7 =>
 vb (xPick v4 tt v7) fun v8 =>
 vb (gd (isB false v8) (xFld 1 v1)) fun v9 =>
 vb (gd (isB false v8) (xLd v9 h)) fun v10 =>
 vb (gd (isB false v8) (xCmp ilt v10 (vN 0))) fun v11 =>
 vb (xPick v8 tt v11) fun v12 =>
 vb (gd (isB false v12) (xFld 1 v1)) fun v13 =>
 vb (gd (isB false v12) (xLd v13 h)) fun v14 =>
 vb (gd (isB false v12) (xCmp (fun x y => ilt y x) v14 (vN 40))) fun v15 =>
 vb (xPick v12 tt v15) fun v16 =>
 vb (gd (isB false v16) (xFld 3 v1)) fun v17 =>
 vb (gd (isB false v16) (xLd v17 h)) fun v18 =>
 vb (gd (isB false v16) (xLenS v18)) fun v19 =>
 vb (gd (isB false v16) (xCmp (fun x y => ilt y x) v19 (vN 60))) fun v20 =>
 vb (xPick v16 tt v20) fun v21 =>
 vb (gd (isB false v21) (xFld 4 v1)) fun v22 =>
 vb (gd (isB false v21) (xLd v22 h)) fun v23 =>
 vb (gd (isB false v21) (xLenS v23)) fun v24 =>
 vb (gd (isB false v21) (xCmp (fun x y => ilt y x) v24 (vN 200))) fun v25 =>
 vb (xPick v21 tt v25) fun v26 =>
 bite v26 (some ((vN 3), h)) (F37_1 n cl v1 h)
noncomputable def D37 (n : Nat) (cl : CL) : CL := fun f xs h => sw f 29 (ucons xs fun b0 xs => ucons xs fun b1 xs => u0 xs (F29 n cl b0 b1 h)) (sw f 43 (ucons xs fun b0 xs => ucons xs fun b1 xs => u0 xs (F43 n cl b0 b1 h)) (cl f xs h))
theorem Dk37 {n : Nat} {cl : CL} (hcl : OkCL Try.prog cl) : OkCL Try.prog (D37 n cl) := by
  intro f xs h v h' hx
  rcases sw_ok hx with ⟨rfl, hx⟩ | hx
  · obtain ⟨_, _, rfl, hx⟩ := ucons_ok hx; obtain ⟨_, _, rfl, hx⟩ := ucons_ok hx; obtain ⟨rfl, hx⟩ := u0_ok hx; exact S29 (n := n) (cl := cl) hcl hx
  rcases sw_ok hx with ⟨rfl, hx⟩ | hx
  · obtain ⟨_, _, rfl, hx⟩ := ucons_ok hx; obtain ⟨_, _, rfl, hx⟩ := ucons_ok hx; obtain ⟨rfl, hx⟩ := u0_ok hx; exact S43 (n := n) (cl := cl) hcl hx
  exact hcl _ _ _ _ _ hx
theorem E37 (n : Nat) (cl : CL) (a0 : Value) (h : PH) : exF Try.prog n (D37 n cl) ⟨[29, 43], [], [], [], []⟩ Try.f37 [a0] h = F37 n cl a0 h := by kernel_rfl
theorem S37 {n : Nat} {cl : CL} (hcl : OkCL Try.prog cl) {a0 : Value} {h h' : PH} {v : Value} (hx : F37 n cl a0 h = some (v, h')) : (enterable Try.prog 37 = true ∧ ACall Try.prog 37 [a0] h.abs (fun u k => u = v ∧ k = h'.abs)) ∧ Inv h h' :=
  exF_ok (Dk37 hcl) hmx Try.func37 (by kernel_rfl) ((E37 n cl a0 h).trans hx)
-- undergrowth/grammar.KindOf
noncomputable def F51 (n : Nat) (cl : CL) (a0 a1 : Value) (h : PH) : R :=
 hb (xBox a0 h) fun v1 h =>
 vb (xAri Int.sub (vM 0) a1) fun v2 =>
 vb (xCmp ilt a1 (vN 0)) fun v3 =>
 vb (gd (isB true v3) (some v2)) fun v4 =>
 vb (gd (isB true v3) (xFld 1 v1)) fun v5 =>
 vb (gd (isB true v3) (xLd v5 h)) fun v6 =>
 vb (gd (isB true v3) (xCmp ilt v4 v6)) fun v7 =>
 vb (xPick v3 v7 ff) fun v8 =>
 some (Value.tuple ⟨[v2, v8]⟩, h)
theorem E51 (n : Nat) (cl : CL) (a0 a1 : Value) (h : PH) : exF Try.prog n cl ⟨[], [], [], [(2, [0, 1, 2, 3, 4, 5, 9, 6, 7, 8, 10])], []⟩ Try.f51 [a0, a1] h = F51 n cl a0 a1 h := by kernel_rfl
theorem S51 {n : Nat} {cl : CL} (hcl : OkCL Try.prog cl) {a0 a1 : Value} {h h' : PH} {v : Value} (hx : F51 n cl a0 a1 h = some (v, h')) : (enterable Try.prog 51 = true ∧ ACall Try.prog 51 [a0, a1] h.abs (fun u k => u = v ∧ k = h'.abs)) ∧ Inv h h' :=
  exF_ok hcl hmx Try.func51 (by kernel_rfl) ((E51 n cl a0 a1 h).trans hx)
-- undergrowth/grammar.IsSymbol
noncomputable def F46 (n : Nat) (cl : CL) (a0 a1 : Value) (h : PH) : R :=
 hb (xBox a0 h) fun v1 h =>
 vb (xLdA 7 v1 h) fun v2 =>
 vb (pcall (F51 n cl v2 a1 (h.fzn))) fun v3 =>
 vb (xExt 0 v3) fun v4 =>
 vb (xExt 1 v3) fun v5 =>
 vb (gd (isB false v5) (xLdA 7 v1 h)) fun v6 =>
 vb (gd (isB false v5) (some a1)) fun v7 =>
 vb (gd (isB false v5) (pcall (F29 n cl v6 v7 (h.fzn)))) fun v8 =>
 vb (xPick v5 tt v8) fun v9 =>
 some (v9, h)
noncomputable def D46 (n : Nat) (cl : CL) : CL := fun f xs h => sw f 51 (ucons xs fun b0 xs => ucons xs fun b1 xs => u0 xs (F51 n cl b0 b1 h)) (sw f 29 (ucons xs fun b0 xs => ucons xs fun b1 xs => u0 xs (F29 n cl b0 b1 h)) (cl f xs h))
theorem Dk46 {n : Nat} {cl : CL} (hcl : OkCL Try.prog cl) : OkCL Try.prog (D46 n cl) := by
  intro f xs h v h' hx
  rcases sw_ok hx with ⟨rfl, hx⟩ | hx
  · obtain ⟨_, _, rfl, hx⟩ := ucons_ok hx; obtain ⟨_, _, rfl, hx⟩ := ucons_ok hx; obtain ⟨rfl, hx⟩ := u0_ok hx; exact S51 (n := n) (cl := cl) hcl hx
  rcases sw_ok hx with ⟨rfl, hx⟩ | hx
  · obtain ⟨_, _, rfl, hx⟩ := ucons_ok hx; obtain ⟨_, _, rfl, hx⟩ := ucons_ok hx; obtain ⟨rfl, hx⟩ := u0_ok hx; exact S29 (n := n) (cl := cl) hcl hx
  exact hcl _ _ _ _ _ hx
theorem E46 (n : Nat) (cl : CL) (a0 a1 : Value) (h : PH) : exF Try.prog n (D46 n cl) ⟨[29, 51], [], [], [], []⟩ Try.f46 [a0, a1] h = F46 n cl a0 a1 h := by kernel_rfl
theorem S46 {n : Nat} {cl : CL} (hcl : OkCL Try.prog cl) {a0 a1 : Value} {h h' : PH} {v : Value} (hx : F46 n cl a0 a1 h = some (v, h')) : (enterable Try.prog 46 = true ∧ ACall Try.prog 46 [a0, a1] h.abs (fun u k => u = v ∧ k = h'.abs)) ∧ Inv h h' :=
  exF_ok (Dk46 hcl) hmx Try.func46 (by kernel_rfl) ((E46 n cl a0 a1 h).trans hx)
-- undergrowth/grammar.rule$1
noncomputable def F45 (n : Nat) (cl : CL) (a0 a1 : Value) (h : PH) : R :=
 vb (xLdA 7 a1 h) fun v1 =>
 vb (pcall (F46 n cl v1 a0 (h.fzn))) fun v2 =>
 vb (xNot v2) fun v3 =>
 some (v3, h)
noncomputable def D45 (n : Nat) (cl : CL) : CL := fun f xs h => sw f 46 (ucons xs fun b0 xs => ucons xs fun b1 xs => u0 xs (F46 n cl b0 b1 h)) (cl f xs h)
theorem Dk45 {n : Nat} {cl : CL} (hcl : OkCL Try.prog cl) : OkCL Try.prog (D45 n cl) := by
  intro f xs h v h' hx
  rcases sw_ok hx with ⟨rfl, hx⟩ | hx
  · obtain ⟨_, _, rfl, hx⟩ := ucons_ok hx; obtain ⟨_, _, rfl, hx⟩ := ucons_ok hx; obtain ⟨rfl, hx⟩ := u0_ok hx; exact S46 (n := n) (cl := cl) hcl hx
  exact hcl _ _ _ _ _ hx
theorem E45 (n : Nat) (cl : CL) (a0 a1 : Value) (h : PH) : exF Try.prog n (D45 n cl) ⟨[46], [], [], [], []⟩ Try.f45 [a0, a1] h = F45 n cl a0 a1 h := by kernel_rfl
theorem S45 {n : Nat} {cl : CL} (hcl : OkCL Try.prog cl) {a0 a1 : Value} {h h' : PH} {v : Value} (hx : F45 n cl a0 a1 h = some (v, h')) : (enterable Try.prog 45 = true ∧ ACall Try.prog 45 [a0, a1] h.abs (fun u k => u = v ∧ k = h'.abs)) ∧ Inv h h' :=
  exF_ok (Dk45 hcl) hmx Try.func45 (by kernel_rfl) ((E45 n cl a0 a1 h).trans hx)
-- undergrowth/grammar.rule
noncomputable def F38_0 (n : Nat) (cl : CL) (v2 : Value) (h : PH) : R :=
 vb (xFld 2 v2) fun v17 =>
 vb (xLd v17 h) fun v18 =>
 vb (xCmp ilt v18 (vM 999)) fun v19 =>
 vb (gd (isB false v19) (xFld 2 v2)) fun v20 =>
 vb (gd (isB false v19) (xLd v20 h)) fun v21 =>
 vb (gd (isB false v19) (xCmp (fun x y => ilt y x) v21 (vN 1000))) fun v22 =>
 vb (xPick v19 tt v22) fun v23 =>
 bite v23 (some ((vN 1), h)) (some ((vN 0), h))
noncomputable def F38_1 (n : Nat) (cl : CL) (v2 : Value) (h : PH) : R :=
 vb (xFld 1 v2) fun v13 =>
 vb (xLd v13 h) fun v14 =>
 vb (xLenS v14) fun v15 =>
 vb (xCmp (fun x y => ilt y x) v15 (vN 8)) fun v16 =>
 bite v16 (some ((vN 3), h)) (F38_0 n cl v2 h)
noncomputable def F38 (n : Nat) (cl : CL) (a0 a1 : Value) (h : PH) : R :=
 hb (xBox a0 h) fun v1 h =>
 hb (xBox a1 h) fun v2 h =>
 vb (xLdA 7 v1 h) fun v3 =>
 vb (xFld 0 v2) fun v4 =>
 vb (xLd v4 h) fun v5 =>
 vb (pcall (F29 n cl v3 v5 (h.fzn))) fun v6 =>
 vb (xNot v6) fun v7 =>
 vb (gd (isB false v7) (xFld 1 v2)) fun v8 =>
 vb (gd (isB false v7) (xLd v8 h)) fun v9 =>
 vb (gd (isB false v7) (some (Value.func (Fn.func 45) ⟨[]⟩ ⟨[v1]⟩))) fun v10 =>
 vb (gd (isB false v7) (pcall (F44 n cl v9 v10 (h.fzn)))) fun v11 =>
 vb (xPick v7 tt v11) fun v12 =>
 bite v12 (some ((vN 6), h)) (F38_1 n cl v2 h)
noncomputable def D38 (n : Nat) (cl : CL) : CL := fun f xs h => sw f 29 (ucons xs fun b0 xs => ucons xs fun b1 xs => u0 xs (F29 n cl b0 b1 h)) (sw f 44 (ucons xs fun b0 xs => ucons xs fun b1 xs => u0 xs (F44 n cl b0 b1 h)) (cl f xs h))
theorem Dk38 {n : Nat} {cl : CL} (hcl : OkCL Try.prog cl) : OkCL Try.prog (D38 n cl) := by
  intro f xs h v h' hx
  rcases sw_ok hx with ⟨rfl, hx⟩ | hx
  · obtain ⟨_, _, rfl, hx⟩ := ucons_ok hx; obtain ⟨_, _, rfl, hx⟩ := ucons_ok hx; obtain ⟨rfl, hx⟩ := u0_ok hx; exact S29 (n := n) (cl := cl) hcl hx
  rcases sw_ok hx with ⟨rfl, hx⟩ | hx
  · obtain ⟨_, _, rfl, hx⟩ := ucons_ok hx; obtain ⟨_, _, rfl, hx⟩ := ucons_ok hx; obtain ⟨rfl, hx⟩ := u0_ok hx; exact S44 (n := n) (cl := cl) hcl hx
  exact hcl _ _ _ _ _ hx
theorem E38 (n : Nat) (cl : CL) (a0 a1 : Value) (h : PH) : exF Try.prog n (D38 n cl) ⟨[29, 44], [], [], [], []⟩ Try.f38 [a0, a1] h = F38 n cl a0 a1 h := by kernel_rfl
theorem S38 {n : Nat} {cl : CL} (hcl : OkCL Try.prog cl) {a0 a1 : Value} {h h' : PH} {v : Value} (hx : F38 n cl a0 a1 h = some (v, h')) : (enterable Try.prog 38 = true ∧ ACall Try.prog 38 [a0, a1] h.abs (fun u k => u = v ∧ k = h'.abs)) ∧ Inv h h' :=
  exF_ok (Dk38 hcl) hmx Try.func38 (by kernel_rfl) ((E38 n cl a0 a1 h).trans hx)
-- undergrowth/grammar.forbid
noncomputable def F41_0 (n : Nat) (cl : CL) (v1 : Value) (v2 : Value) (h : PH) : R :=
 vb (xFld 3 v1) fun v24 =>
 vb (xLd v24 h) fun v25 =>
 vb (xIdxA 3 1 v2 (vN 0)) fun v26 =>
 vb (xLd v26 h) fun v27 =>
 vb (xIdxS 3 v25 v27) fun v28 =>
 vb (xFld 1 v28) fun v29 =>
 vb (xLd v29 h) fun v30 =>
 vb (xIdxA 3 1 v2 (vN 1)) fun v31 =>
 vb (xLd v31 h) fun v32 =>
 vb (xCmp (fun x y => ile y x) v32 (vN 0)) fun v33 =>
 vb (gd (isB true v33) (xIdxA 3 1 v2 (vN 1))) fun v34 =>
 vb (gd (isB true v33) (some v30)) fun v35 =>
 vb (gd (isB true v33) (xLd v34 h)) fun v36 =>
 vb (gd (isB true v33) (xLenS v35)) fun v37 =>
 vb (gd (isB true v33) (xCmp ilt v36 v37)) fun v38 =>
 vb (xPick v33 v38 ff) fun v39 =>
 vb (gd (isB true v39) (some v30)) fun v40 =>
 vb (gd (isB true v39) (xIdxA 3 1 v2 (vN 1))) fun v41 =>
 vb (gd (isB true v39) (xFld 3 v1)) fun v42 =>
 vb (gd (isB true v39) (xIdxA 3 1 v2 (vN 2))) fun v43 =>
 vb (gd (isB true v39) (xLd v41 h)) fun v44 =>
 vb (gd (isB true v39) (xIdxS 1 v40 v44)) fun v45 =>
 vb (gd (isB true v39) (xLd v45 h)) fun v46 =>
 vb (gd (isB true v39) (xLd v42 h)) fun v47 =>
 vb (gd (isB true v39) (xLd v43 h)) fun v48 =>
 vb (gd (isB true v39) (xIdxS 3 v47 v48)) fun v49 =>
 vb (gd (isB true v39) (xFld 0 v49)) fun v50 =>
 vb (gd (isB true v39) (xLd v50 h)) fun v51 =>
 vb (gd (isB true v39) (xCmp ieq v46 v51)) fun v52 =>
 vb (xPick v39 v52 ff) fun v53 =>
 some (v53, h)
noncomputable def F41 (n : Nat) (cl : CL) (a0 a1 : Value) (h : PH) : R :=
 hb (xBox a0 h) fun v1 h =>
 hb (xBox a1 h) fun v2 h =>
 vb (xIdxA 3 1 v2 (vN 0)) fun v3 =>
 vb (xLd v3 h) fun v4 =>
 vb (xCmp ilt v4 (vN 0)) fun v5 =>
 vb (gd (isB false v5) (xIdxA 3 1 v2 (vN 0))) fun v6 =>
 vb (gd (isB false v5) (xLd v6 h)) fun v7 =>
 vb (gd (isB false v5) (xFld 3 v1)) fun v8 =>
 vb (gd (isB false v5) (xLd v8 h)) fun v9 =>
 vb (gd (isB false v5) (xLenS v9)) fun v10 =>
 vb (gd (isB false v5) (xCmp (fun x y => ile y x) v7 v10)) fun v11 =>
 vb (xPick v5 tt v11) fun v12 =>
 vb (gd (isB false v12) (xIdxA 3 1 v2 (vN 2))) fun v13 =>
 vb (gd (isB false v12) (xLd v13 h)) fun v14 =>
 vb (gd (isB false v12) (xCmp ilt v14 (vN 0))) fun v15 =>
 vb (xPick v12 tt v15) fun v16 =>
 vb (gd (isB false v16) (xIdxA 3 1 v2 (vN 2))) fun v17 =>
 vb (gd (isB false v16) (xLd v17 h)) fun v18 =>
 vb (gd (isB false v16) (xFld 3 v1)) fun v19 =>
 vb (gd (isB false v16) (xLd v19 h)) fun v20 =>
 vb (gd (isB false v16) (xLenS v20)) fun v21 =>
 vb (gd (isB false v16) (xCmp (fun x y => ile y x) v18 v21)) fun v22 =>
 vb (xPick v16 tt v22) fun v23 =>
 bite v23 (some (ff, h)) (F41_0 n cl v1 v2 h)
theorem E41 (n : Nat) (cl : CL) (a0 a1 : Value) (h : PH) : exF Try.prog n cl ⟨[], [], [], [(4, [0, 1, 2, 3, 4, 6, 5, 7, 8, 9, 10, 11, 12, 16, 18, 13, 14, 15, 17, 19, 20, 21, 22, 23, 24, 25])], []⟩ Try.f41 [a0, a1] h = F41 n cl a0 a1 h := by kernel_rfl
theorem S41 {n : Nat} {cl : CL} (hcl : OkCL Try.prog cl) {a0 a1 : Value} {h h' : PH} {v : Value} (hx : F41 n cl a0 a1 h = some (v, h')) : (enterable Try.prog 41 = true ∧ ACall Try.prog 41 [a0, a1] h.abs (fun u k => u = v ∧ k = h'.abs)) ∧ Inv h h' :=
  exF_ok hcl hmx Try.func41 (by kernel_rfl) ((E41 n cl a0 a1 h).trans hx)
-- undergrowth/grammar.Form$1
noncomputable def F40 (n : Nat) (cl : CL) (a0 a1 : Value) (h : PH) : R :=
 hb (xBox a0 h) fun v1 h =>
 vb (xLdA 7 a1 h) fun v2 =>
 vb (xLdA 3 v1 h) fun v3 =>
 vb (pcall (F41 n cl v2 v3 (h.fzn))) fun v4 =>
 vb (xNot v4) fun v5 =>
 some (v5, h)
noncomputable def D40 (n : Nat) (cl : CL) : CL := fun f xs h => sw f 41 (ucons xs fun b0 xs => ucons xs fun b1 xs => u0 xs (F41 n cl b0 b1 h)) (cl f xs h)
theorem Dk40 {n : Nat} {cl : CL} (hcl : OkCL Try.prog cl) : OkCL Try.prog (D40 n cl) := by
  intro f xs h v h' hx
  rcases sw_ok hx with ⟨rfl, hx⟩ | hx
  · obtain ⟨_, _, rfl, hx⟩ := ucons_ok hx; obtain ⟨_, _, rfl, hx⟩ := ucons_ok hx; obtain ⟨rfl, hx⟩ := u0_ok hx; exact S41 (n := n) (cl := cl) hcl hx
  exact hcl _ _ _ _ _ hx
theorem E40 (n : Nat) (cl : CL) (a0 a1 : Value) (h : PH) : exF Try.prog n (D40 n cl) ⟨[41], [], [], [], []⟩ Try.f40 [a0, a1] h = F40 n cl a0 a1 h := by kernel_rfl
theorem S40 {n : Nat} {cl : CL} (hcl : OkCL Try.prog cl) {a0 a1 : Value} {h h' : PH} {v : Value} (hx : F40 n cl a0 a1 h = some (v, h')) : (enterable Try.prog 40 = true ∧ ACall Try.prog 40 [a0, a1] h.abs (fun u k => u = v ∧ k = h'.abs)) ∧ Inv h h' :=
  exF_ok (Dk40 hcl) hmx Try.func40 (by kernel_rfl) ((E40 n cl a0 a1 h).trans hx)
-- slices.IndexFunc[[][3]int,[3]int]
noncomputable def F47_0 (n : Nat) (cl : CL) (v9 : Value) (r2 : Kt) (v3 : Value) (v5 : Value) (v7 : Value) (h : PH) : R :=
 vb (xAri Int.add v9 (vN 1)) fun v15 =>
 r2 [v3, v5, v7, v15] h
noncomputable def F47_1 (n : Nat) (cl : CL) (v3 : Value) (v9 : Value) (v5 : Value) (r2 : Kt) (v7 : Value) (h : PH) : R :=
 vb (xIdxS 3 v3 v9) fun v12 =>
 vb (xLdA 3 v12 h) fun v13 =>
 hb (xCall cl v5 [v13] h) fun v14 h =>
 bite v14 (some (v9, h)) (F47_0 n cl v9 r2 v3 v5 v7 h)
noncomputable def F47_2 (n : Nat) (cl : CL) (v9 : Value) (v7 : Value) (v3 : Value) (v5 : Value) (r2 : Kt) (h : PH) : R :=
 vb (xCmp ilt v9 v7) fun v11 =>
 bite v11 (F47_1 n cl v3 v9 v5 r2 v7 h) (some ((vM 0), h))
noncomputable def F47_3 (n : Nat) (cl : CL) (r2 : Kt) (y2 : List Value) (h : PH) : R :=
 ucons y2 fun v3 y4 => ucons y4 fun v5 y6 => ucons y6 fun v7 y8 => ucons y8 fun v9 y10 => F47_2 n cl v9 v7 v3 v5 r2 h
noncomputable def F47 (n : Nat) (cl : CL) (a0 a1 : Value) (h : PH) : R :=
 vb (xLenS a0) fun v1 =>
 lp n (F47_3 n cl) [a0, a1, v1, (vN 0)] h
theorem E47 (n : Nat) (cl : CL) (a0 a1 : Value) (h : PH) : exF Try.prog n cl ⟨[], [], [(2, [0, 1, 7, 8])], [], []⟩ Try.f47 [a0, a1] h = F47 n cl a0 a1 h := by kernel_rfl
theorem S47 {n : Nat} {cl : CL} (hcl : OkCL Try.prog cl) {a0 a1 : Value} {h h' : PH} {v : Value} (hx : F47 n cl a0 a1 h = some (v, h')) : (enterable Try.prog 47 = true ∧ ACall Try.prog 47 [a0, a1] h.abs (fun u k => u = v ∧ k = h'.abs)) ∧ Inv h h' :=
  exF_ok hcl hmx Try.func47 (by kernel_rfl) ((E47 n cl a0 a1 h).trans hx)
-- slices.ContainsFunc[[][3]int,[3]int]
noncomputable def F39 (n : Nat) (cl : CL) (a0 a1 : Value) (h : PH) : R :=
 vb (pcall (F47 n cl a0 a1 (h.fzn))) fun v1 =>
 vb (xCmp (fun x y => ile y x) v1 (vN 0)) fun v2 =>
 some (v2, h)
noncomputable def D39 (n : Nat) (cl : CL) : CL := fun f xs h => sw f 47 (ucons xs fun b0 xs => ucons xs fun b1 xs => u0 xs (F47 n cl b0 b1 h)) (cl f xs h)
theorem Dk39 {n : Nat} {cl : CL} (hcl : OkCL Try.prog cl) : OkCL Try.prog (D39 n cl) := by
  intro f xs h v h' hx
  rcases sw_ok hx with ⟨rfl, hx⟩ | hx
  · obtain ⟨_, _, rfl, hx⟩ := ucons_ok hx; obtain ⟨_, _, rfl, hx⟩ := ucons_ok hx; obtain ⟨rfl, hx⟩ := u0_ok hx; exact S47 (n := n) (cl := cl) hcl hx
  exact hcl _ _ _ _ _ hx
theorem E39 (n : Nat) (cl : CL) (a0 a1 : Value) (h : PH) : exF Try.prog n (D39 n cl) ⟨[47], [], [], [], []⟩ Try.f39 [a0, a1] h = F39 n cl a0 a1 h := by kernel_rfl
theorem S39 {n : Nat} {cl : CL} (hcl : OkCL Try.prog cl) {a0 a1 : Value} {h h' : PH} {v : Value} (hx : F39 n cl a0 a1 h = some (v, h')) : (enterable Try.prog 39 = true ∧ ACall Try.prog 39 [a0, a1] h.abs (fun u k => u = v ∧ k = h'.abs)) ∧ Inv h h' :=
  exF_ok (Dk39 hcl) hmx Try.func39 (by kernel_rfl) ((E39 n cl a0 a1 h).trans hx)
-- undergrowth/grammar.Form
noncomputable def F33_0 (n : Nat) (cl : CL) (v15 : Value) (r5 : Kt) (v9 : Value) (v11 : Value) (v13 : Value) (h : PH) : R :=
 vb (xAri Int.add v15 (vN 1)) fun v25 =>
 r5 [v9, v11, v13, v25] h
noncomputable def F33_1 (n : Nat) (cl : CL) (v11 : Value) (v15 : Value) (v9 : Value) (r5 : Kt) (v13 : Value) (h : PH) : R :=
 vb (xIdxS 3 v11 v15) fun v18 =>
 vb (xLdA 3 v18 h) fun v19 =>
 hb (xAlloc (zcells Try.prog 29) h) fun v20 h =>
 hb (xStA 3 v20 v19 h) fun _ h =>
 vb (xLdA 7 v9 h) fun v21 =>
 vb (xLdA 3 v20 h) fun v22 =>
 vb (pcall (F38 n cl v21 v22 (h.fzn))) fun v23 =>
 vb (xCmp ine v23 (vN 0)) fun v24 =>
 bite v24 (some (Value.tuple ⟨[v15, v23]⟩, h)) (F33_0 n cl v15 r5 v9 v11 v13 h)
noncomputable def F33_2 (n : Nat) (cl : CL) (v9 : Value) (h : PH) : R :=
 vb (xFld 4 v9) fun v26 =>
 vb (xLd v26 h) fun v27 =>
 vb (some (Value.func (Fn.func 40) ⟨[]⟩ ⟨[v9]⟩)) fun v28 =>
 vb (pcall (F39 n cl v27 v28 (h.fzn))) fun v29 =>
 bite v29 (some (Value.tuple ⟨[(vM 0), (vN 6)]⟩, h)) (some (Value.tuple ⟨[(vM 0), (vN 0)]⟩, h))
noncomputable def F33_3 (n : Nat) (cl : CL) (v15 : Value) (v13 : Value) (v11 : Value) (v9 : Value) (r5 : Kt) (h : PH) : R :=
 vb (xCmp ilt v15 v13) fun v17 =>
 bite v17 (F33_1 n cl v11 v15 v9 r5 v13 h) (F33_2 n cl v9 h)
noncomputable def F33_4 (n : Nat) (cl : CL) (r5 : Kt) (y8 : List Value) (h : PH) : R :=
 ucons y8 fun v9 y10 => ucons y10 fun v11 y12 => ucons y12 fun v13 y14 => ucons y14 fun v15 y16 => F33_3 n cl v15 v13 v11 v9 r5 h
noncomputable def F33_5 (n : Nat) (cl : CL) (v1 : Value) (h : PH) : R :=
 vb (xFld 3 v1) fun v5 =>
 vb (xLd v5 h) fun v6 =>
 vb (xLenS v6) fun v7 =>
 lp n (F33_4 n cl) [v1, v6, v7, (vN 0)] h
noncomputable def F33 (n : Nat) (cl : CL) (a0 : Value) (h : PH) : R :=
 hb (xBox a0 h) fun v1 h =>
 vb (xLdA 7 v1 h) fun v2 =>
 vb (pcall (F37 n cl v2 (h.fzn))) fun v3 =>
 vb (xCmp ine v3 (vN 0)) fun v4 =>
 bite v4 (some (Value.tuple ⟨[(vM 0), v3]⟩, h)) (F33_5 n cl v1 h)
noncomputable def D33 (n : Nat) (cl : CL) : CL := fun f xs h => sw f 37 (ucons xs fun b0 xs => u0 xs (F37 n cl b0 h)) (sw f 38 (ucons xs fun b0 xs => ucons xs fun b1 xs => u0 xs (F38 n cl b0 b1 h)) (sw f 39 (ucons xs fun b0 xs => ucons xs fun b1 xs => u0 xs (F39 n cl b0 b1 h)) (cl f xs h)))
theorem Dk33 {n : Nat} {cl : CL} (hcl : OkCL Try.prog cl) : OkCL Try.prog (D33 n cl) := by
  intro f xs h v h' hx
  rcases sw_ok hx with ⟨rfl, hx⟩ | hx
  · obtain ⟨_, _, rfl, hx⟩ := ucons_ok hx; obtain ⟨rfl, hx⟩ := u0_ok hx; exact S37 (n := n) (cl := cl) hcl hx
  rcases sw_ok hx with ⟨rfl, hx⟩ | hx
  · obtain ⟨_, _, rfl, hx⟩ := ucons_ok hx; obtain ⟨_, _, rfl, hx⟩ := ucons_ok hx; obtain ⟨rfl, hx⟩ := u0_ok hx; exact S38 (n := n) (cl := cl) hcl hx
  rcases sw_ok hx with ⟨rfl, hx⟩ | hx
  · obtain ⟨_, _, rfl, hx⟩ := ucons_ok hx; obtain ⟨_, _, rfl, hx⟩ := ucons_ok hx; obtain ⟨rfl, hx⟩ := u0_ok hx; exact S39 (n := n) (cl := cl) hcl hx
  exact hcl _ _ _ _ _ hx
theorem E33 (n : Nat) (cl : CL) (a0 : Value) (h : PH) : exF Try.prog n (D33 n cl) ⟨[37, 38, 39], [], [(5, [1, 14, 15, 16])], [], []⟩ Try.f33 [a0] h = F33 n cl a0 h := by kernel_rfl
theorem S33 {n : Nat} {cl : CL} (hcl : OkCL Try.prog cl) {a0 : Value} {h h' : PH} {v : Value} (hx : F33 n cl a0 h = some (v, h')) : (enterable Try.prog 33 = true ∧ ACall Try.prog 33 [a0] h.abs (fun u k => u = v ∧ k = h'.abs)) ∧ Inv h h' :=
  exF_ok (Dk33 hcl) hmx Try.func33 (by kernel_rfl) ((E33 n cl a0 h).trans hx)
-- undergrowth/grammar.Good
noncomputable def F27 (n : Nat) (cl : CL) (a0 : Value) (h : PH) : R :=
 hb (xBox a0 h) fun v1 h =>
 vb (xLdA 7 v1 h) fun v2 =>
 vb (pcall (F33 n cl v2 (h.fzn))) fun v3 =>
 vb (xExt 0 v3) fun v4 =>
 vb (xExt 1 v3) fun v5 =>
 vb (xCmp ieq v5 (vN 0)) fun v6 =>
 some (v6, h)
noncomputable def D27 (n : Nat) (cl : CL) : CL := fun f xs h => sw f 33 (ucons xs fun b0 xs => u0 xs (F33 n cl b0 h)) (cl f xs h)
theorem Dk27 {n : Nat} {cl : CL} (hcl : OkCL Try.prog cl) : OkCL Try.prog (D27 n cl) := by
  intro f xs h v h' hx
  rcases sw_ok hx with ⟨rfl, hx⟩ | hx
  · obtain ⟨_, _, rfl, hx⟩ := ucons_ok hx; obtain ⟨rfl, hx⟩ := u0_ok hx; exact S33 (n := n) (cl := cl) hcl hx
  exact hcl _ _ _ _ _ hx
theorem E27 (n : Nat) (cl : CL) (a0 : Value) (h : PH) : exF Try.prog n (D27 n cl) ⟨[33], [], [], [], []⟩ Try.f27 [a0] h = F27 n cl a0 h := by kernel_rfl
theorem S27 {n : Nat} {cl : CL} (hcl : OkCL Try.prog cl) {a0 : Value} {h h' : PH} {v : Value} (hx : F27 n cl a0 h = some (v, h')) : (enterable Try.prog 27 = true ∧ ACall Try.prog 27 [a0] h.abs (fun u k => u = v ∧ k = h'.abs)) ∧ Inv h h' :=
  exF_ok (Dk27 hcl) hmx Try.func27 (by kernel_rfl) ((E27 n cl a0 h).trans hx)
-- undergrowth/reach.Reachable
noncomputable def F14_0 (n : Nat) (cl : CL) (v51 : Value) (r9 : Kt) (v41 : Value) (v43 : Value) (v45 : Value) (v47 : Value) (v49 : Value) (h : PH) : R :=
 vb (xAri Int.add v51 (vN 1)) fun v53 =>
 r9 [v41, v43, v45, v47, v49, v53] h
noncomputable def F14_1 (n : Nat) (cl : CL) (v102 : Value) (r13 : Kt) (v86 : Value) (v88 : Value) (v90 : Value) (v92 : Value) (v94 : Value) (v96 : Value) (v98 : Value) (v100 : Value) (h : PH) : R :=
 vb (xAri Int.add v102 (vN 1)) fun v104 =>
 r13 [v86, v88, v90, v92, v94, v96, v98, v100, v104] h
noncomputable def F14_2 (n : Nat) (cl : CL) (v68 : Value) (v106 : Value) (v70 : Value) (k18 : Kt) (v66 : Value) (v72 : Value) (v74 : Value) (v76 : Value) (v78 : Value) (v80 : Value) (v82 : Value) (h : PH) : R :=
 vb (xIdxS 1 v68 v106) fun v115 =>
 hb (xSt1 v115 tt h) fun _ h =>
 hb (xBS 1 (bsRow Try.prog 25 1 [(0, v106)]) h) fun v116 h =>
 hb (xApp (appInfo Try.prog #[25, 25]) v70 v116 h) fun v117 h =>
 k18 [v66, v68, v117, v72, v74, v76, v78, v80, v82] h
noncomputable def F14_3 (n : Nat) (cl : CL) (r13 : Kt) (y85 : List Value) (h : PH) : R :=
 ucons y85 fun v86 y87 => ucons y87 fun v88 y89 => ucons y89 fun v90 y91 => ucons y91 fun v92 y93 => ucons y93 fun v94 y95 => ucons y95 fun v96 y97 => ucons y97 fun v98 y99 => ucons y99 fun v100 y101 => ucons y101 fun v102 y103 => F14_1 n cl v102 r13 v86 v88 v90 v92 v94 v96 v98 v100 h
noncomputable def F14_4 (n : Nat) (cl : CL) (v78 : Value) (v82 : Value) (v66 : Value) (v68 : Value) (v70 : Value) (v72 : Value) (v74 : Value) (v76 : Value) (v80 : Value) (h : PH) (k18 : Kt) : R :=
 vb (xIdxS 1 v78 v82) fun v105 =>
 vb (xLd v105 h) fun v106 =>
 vb (xLdA 7 v66 h) fun v107 =>
 vb (pcall (F29 n cl v107 v106 (h.fzn))) fun v108 =>
 vb (gd (isB true v108) (some v68)) fun v109 =>
 vb (gd (isB true v108) (some v106)) fun v110 =>
 vb (gd (isB true v108) (xIdxS 1 v109 v110)) fun v111 =>
 vb (gd (isB true v108) (xLd v111 h)) fun v112 =>
 vb (gd (isB true v108) (xNot v112)) fun v113 =>
 vb (xPick v108 v113 ff) fun v114 =>
 bite v114 (F14_2 n cl v68 v106 v70 k18 v66 v72 v74 v76 v78 v80 v82 h) (k18 [v66, v68, v70, v72, v74, v76, v78, v80, v82] h)
noncomputable def F14_5 (n : Nat) (cl : CL) (v82 : Value) (v80 : Value) (r13 : Kt) (v78 : Value) (v66 : Value) (v68 : Value) (v70 : Value) (v72 : Value) (v74 : Value) (v76 : Value) (k19 : Kt) (h : PH) : R :=
 vb (xCmp ilt v82 v80) fun v84 =>
 bite v84 (jn (F14_3 n cl r13) (F14_4 n cl v78 v82 v66 v68 v70 v72 v74 v76 v80 h)) (k19 [v66, v68, v70, v72, v74, v76] h)
noncomputable def F14_6 (n : Nat) (cl : CL) (k19 : Kt) (r13 : Kt) (y65 : List Value) (h : PH) : R :=
 ucons y65 fun v66 y67 => ucons y67 fun v68 y69 => ucons y69 fun v70 y71 => ucons y71 fun v72 y73 => ucons y73 fun v74 y75 => ucons y75 fun v76 y77 => ucons y77 fun v78 y79 => ucons y79 fun v80 y81 => ucons y81 fun v82 y83 => F14_5 n cl v82 v80 r13 v78 v66 v68 v70 v72 v74 v76 k19 h
noncomputable def F14_7 (n : Nat) (cl : CL) (v56 : Value) (k19 : Kt) (v27 : Value) (v29 : Value) (v31 : Value) (v33 : Value) (v35 : Value) (v37 : Value) (h : PH) : R :=
 vb (xFld 1 v56) fun v62 =>
 vb (xLd v62 h) fun v63 =>
 vb (xLenS v63) fun v64 =>
 lp n (F14_6 n cl k19) [v27, v29, v31, v33, v35, v37, v63, v64, (vN 0)] h
noncomputable def F14_8 (n : Nat) (cl : CL) (r9 : Kt) (y40 : List Value) (h : PH) : R :=
 ucons y40 fun v41 y42 => ucons y42 fun v43 y44 => ucons y44 fun v45 y46 => ucons y46 fun v47 y48 => ucons y48 fun v49 y50 => ucons y50 fun v51 y52 => F14_0 n cl v51 r9 v41 v43 v45 v47 v49 h
noncomputable def F14_9 (n : Nat) (cl : CL) (v33 : Value) (v37 : Value) (v31 : Value) (v27 : Value) (v29 : Value) (v35 : Value) (h : PH) (k19 : Kt) : R :=
 vb (xIdxS 3 v33 v37) fun v54 =>
 vb (xLdA 3 v54 h) fun v55 =>
 hb (xAlloc (zcells Try.prog 29) h) fun v56 h =>
 hb (xStA 3 v56 v55 h) fun _ h =>
 vb (xFld 0 v56) fun v57 =>
 vb (xIdxS 1 v31 (vN 0)) fun v58 =>
 vb (xLd v57 h) fun v59 =>
 vb (xLd v58 h) fun v60 =>
 vb (xCmp ine v59 v60) fun v61 =>
 bite v61 (k19 [v27, v29, v31, v33, v35, v37] h) (F14_7 n cl v56 k19 v27 v29 v31 v33 v35 v37 h)
noncomputable def F14_10 (n : Nat) (cl : CL) (v31 : Value) (r6 : Kt) (v27 : Value) (v29 : Value) (h : PH) : R :=
 vb (acut Try.prog 25 v31 (some (vN 1)) none none) fun v118 =>
 r6 [v27, v29, v118] h
noncomputable def F14_11 (n : Nat) (cl : CL) (v37 : Value) (v35 : Value) (r9 : Kt) (v33 : Value) (v31 : Value) (v27 : Value) (v29 : Value) (r6 : Kt) (h : PH) : R :=
 vb (xCmp ilt v37 v35) fun v39 =>
 bite v39 (jn (F14_8 n cl r9) (F14_9 n cl v33 v37 v31 v27 v29 v35 h)) (F14_10 n cl v31 r6 v27 v29 h)
noncomputable def F14_12 (n : Nat) (cl : CL) (r6 : Kt) (r9 : Kt) (y26 : List Value) (h : PH) : R :=
 ucons y26 fun v27 y28 => ucons y28 fun v29 y30 => ucons y30 fun v31 y32 => ucons y32 fun v33 y34 => ucons y34 fun v35 y36 => ucons y36 fun v37 y38 => F14_11 n cl v37 v35 r9 v33 v31 v27 v29 r6 h
noncomputable def F14_13 (n : Nat) (cl : CL) (v15 : Value) (r6 : Kt) (v17 : Value) (v19 : Value) (h : PH) : R :=
 vb (xFld 3 v15) fun v23 =>
 vb (xLd v23 h) fun v24 =>
 vb (xLenS v24) fun v25 =>
 lp n (F14_12 n cl r6) [v15, v17, v19, v24, v25, (vN 0)] h
noncomputable def F14_14 (n : Nat) (cl : CL) (v19 : Value) (v15 : Value) (r6 : Kt) (v17 : Value) (h : PH) : R :=
 vb (xLenS v19) fun v21 =>
 vb (xCmp (fun x y => ilt y x) v21 (vN 0)) fun v22 =>
 bite v22 (F14_13 n cl v15 r6 v17 v19 h) (some (v17, h))
noncomputable def F14_15 (n : Nat) (cl : CL) (r6 : Kt) (y14 : List Value) (h : PH) : R :=
 ucons y14 fun v15 y16 => ucons y16 fun v17 y18 => ucons y18 fun v19 y20 => F14_14 n cl v19 v15 r6 v17 h
noncomputable def F14_16 (n : Nat) (cl : CL) (v1 : Value) (h : PH) : R :=
 vb (xFld 0 v1) fun v5 =>
 vb (xLd v5 h) fun v6 =>
 hb (xMk (zinfo Try.prog 34) v6 v6 h) fun v7 h =>
 vb (xFld 2 v1) fun v8 =>
 vb (xLd v8 h) fun v9 =>
 vb (xIdxS 1 v7 v9) fun v10 =>
 hb (xSt1 v10 tt h) fun _ h =>
 vb (xFld 2 v1) fun v11 =>
 vb (xLd v11 h) fun v12 =>
 hb (xBS 1 (bsRow Try.prog 25 1 [(0, v12)]) h) fun v13 h =>
 lp n (F14_15 n cl) [v1, v7, v13] h
noncomputable def F14 (n : Nat) (cl : CL) (a0 : Value) (h : PH) : R :=
 hb (xBox a0 h) fun v1 h =>
 vb (xLdA 7 v1 h) fun v2 =>
 vb (pcall (F27 n cl v2 (h.fzn))) fun v3 =>
 vb (xNot v3) fun v4 =>
 bite v4 (some (nils, h)) (F14_16 n cl v1 h)
noncomputable def D14 (n : Nat) (cl : CL) : CL := fun f xs h => sw f 27 (ucons xs fun b0 xs => u0 xs (F27 n cl b0 h)) (sw f 29 (ucons xs fun b0 xs => ucons xs fun b1 xs => u0 xs (F29 n cl b0 b1 h)) (cl f xs h))
theorem Dk14 {n : Nat} {cl : CL} (hcl : OkCL Try.prog cl) : OkCL Try.prog (D14 n cl) := by
  intro f xs h v h' hx
  rcases sw_ok hx with ⟨rfl, hx⟩ | hx
  · obtain ⟨_, _, rfl, hx⟩ := ucons_ok hx; obtain ⟨rfl, hx⟩ := u0_ok hx; exact S27 (n := n) (cl := cl) hcl hx
  rcases sw_ok hx with ⟨rfl, hx⟩ | hx
  · obtain ⟨_, _, rfl, hx⟩ := ucons_ok hx; obtain ⟨_, _, rfl, hx⟩ := ucons_ok hx; obtain ⟨rfl, hx⟩ := u0_ok hx; exact S29 (n := n) (cl := cl) hcl hx
  exact hcl _ _ _ _ _ hx
theorem E14 (n : Nat) (cl : CL) (a0 : Value) (h : PH) : exF Try.prog n (D14 n cl) ⟨[27, 29], [], [(6, [1, 3, 4]), (9, [1, 3, 4, 28, 29, 30]), (13, [1, 3, 4, 28, 29, 30, 41, 42, 43]), (18, [1, 3, 4, 28, 29, 30, 41, 42, 43]), (19, [1, 3, 4, 28, 29, 30])], [(11, [0, 2, 3, 1, 4, 5])], []⟩ Try.f14 [a0] h = F14 n cl a0 h := by kernel_rfl
theorem S14 {n : Nat} {cl : CL} (hcl : OkCL Try.prog cl) {a0 : Value} {h h' : PH} {v : Value} (hx : F14 n cl a0 h = some (v, h')) : (enterable Try.prog 14 = true ∧ ACall Try.prog 14 [a0] h.abs (fun u k => u = v ∧ k = h'.abs)) ∧ Inv h h' :=
  exF_ok (Dk14 hcl) hmx Try.func14 (by kernel_rfl) ((E14 n cl a0 h).trans hx)
-- undergrowth/reach.long
noncomputable def F28_0 (n : Nat) (cl : CL) (v28 : Value) (r3 : Kt) (v18 : Value) (v20 : Value) (v22 : Value) (v24 : Value) (v26 : Value) (h : PH) : R :=
 vb (xAri Int.add v28 (vN 1)) fun v30 =>
 r3 [v18, v20, v22, v24, v26, v30] h
noncomputable def F28_1 (n : Nat) (cl : CL) (v8 : Value) (k10 : Kt) (v4 : Value) (v6 : Value) (v10 : Value) (v12 : Value) (v14 : Value) (h : PH) : R :=
 vb (xAri Int.add v8 (vN 1)) fun v36 =>
 k10 [v4, v6, v36, v10, v12, v14] h
noncomputable def F28_2 (n : Nat) (cl : CL) (v4 : Value) (v32 : Value) (v8 : Value) (k10 : Kt) (v6 : Value) (v10 : Value) (v12 : Value) (v14 : Value) (h : PH) : R :=
 vb (xIdxS 1 v4 v32) fun v40 =>
 vb (xLd v40 h) fun v41 =>
 vb (xAri Int.add v8 v41) fun v42 =>
 k10 [v4, v6, v42, v10, v12, v14] h
noncomputable def F28_3 (n : Nat) (cl : CL) (v4 : Value) (v32 : Value) (v8 : Value) (k10 : Kt) (v6 : Value) (v10 : Value) (v12 : Value) (v14 : Value) (h : PH) : R :=
 vb (xIdxS 1 v4 v32) fun v37 =>
 vb (xLd v37 h) fun v38 =>
 vb (xCmp ieq v38 (vM 0)) fun v39 =>
 bite v39 (some ((vM 0), h)) (F28_2 n cl v4 v32 v8 k10 v6 v10 v12 v14 h)
noncomputable def F28_4 (n : Nat) (cl : CL) (r3 : Kt) (y17 : List Value) (h : PH) : R :=
 ucons y17 fun v18 y19 => ucons y19 fun v20 y21 => ucons y21 fun v22 y23 => ucons y23 fun v24 y25 => ucons y25 fun v26 y27 => ucons y27 fun v28 y29 => F28_0 n cl v28 r3 v18 v20 v22 v24 v26 h
noncomputable def F28_5 (n : Nat) (cl : CL) (v10 : Value) (v14 : Value) (v6 : Value) (v8 : Value) (v4 : Value) (v12 : Value) (h : PH) (k10 : Kt) : R :=
 vb (xIdxS 1 v10 v14) fun v31 =>
 vb (xLd v31 h) fun v32 =>
 vb (xLdA 7 v6 h) fun v33 =>
 vb (pcall (F29 n cl v33 v32 (h.fzn))) fun v34 =>
 vb (xNot v34) fun v35 =>
 bite v35 (F28_1 n cl v8 k10 v4 v6 v10 v12 v14 h) (F28_3 n cl v4 v32 v8 k10 v6 v10 v12 v14 h)
noncomputable def F28_6 (n : Nat) (cl : CL) (v8 : Value) (h : PH) : R :=
 vb ((if plainV.plainVs [v8, (vN 1000000000)] then prun Try.prog (Builtin.min_ #[3, 3] 3 ⟨[v8, (vN 1000000000)]⟩) else none)) fun v43 =>
 some (v43, h)
noncomputable def F28_7 (n : Nat) (cl : CL) (v14 : Value) (v12 : Value) (r3 : Kt) (v10 : Value) (v6 : Value) (v8 : Value) (v4 : Value) (h : PH) : R :=
 vb (xCmp ilt v14 v12) fun v16 =>
 bite v16 (jn (F28_4 n cl r3) (F28_5 n cl v10 v14 v6 v8 v4 v12 h)) (F28_6 n cl v8 h)
noncomputable def F28_8 (n : Nat) (cl : CL) (r3 : Kt) (y3 : List Value) (h : PH) : R :=
 ucons y3 fun v4 y5 => ucons y5 fun v6 y7 => ucons y7 fun v8 y9 => ucons y9 fun v10 y11 => ucons y11 fun v12 y13 => ucons y13 fun v14 y15 => F28_7 n cl v14 v12 r3 v10 v6 v8 v4 h
noncomputable def F28 (n : Nat) (cl : CL) (a0 a1 a2 : Value) (h : PH) : R :=
 hb (xBox a0 h) fun v1 h =>
 vb (xLenS a2) fun v2 =>
 lp n (F28_8 n cl) [a1, v1, (vN 0), a2, v2, (vN 0)] h
noncomputable def D28 (n : Nat) (cl : CL) : CL := fun f xs h => sw f 29 (ucons xs fun b0 xs => ucons xs fun b1 xs => u0 xs (F29 n cl b0 b1 h)) (cl f xs h)
theorem Dk28 {n : Nat} {cl : CL} (hcl : OkCL Try.prog cl) : OkCL Try.prog (D28 n cl) := by
  intro f xs h v h' hx
  rcases sw_ok hx with ⟨rfl, hx⟩ | hx
  · obtain ⟨_, _, rfl, hx⟩ := ucons_ok hx; obtain ⟨_, _, rfl, hx⟩ := ucons_ok hx; obtain ⟨rfl, hx⟩ := u0_ok hx; exact S29 (n := n) (cl := cl) hcl hx
  exact hcl _ _ _ _ _ hx
theorem E28 (n : Nat) (cl : CL) (a0 a1 a2 : Value) (h : PH) : exF Try.prog n (D28 n cl) ⟨[29], [], [(3, [1, 3, 7, 10, 11, 12]), (10, [1, 3, 7, 10, 11, 12])], [], []⟩ Try.f28 [a0, a1, a2] h = F28 n cl a0 a1 a2 h := by kernel_rfl
theorem S28 {n : Nat} {cl : CL} (hcl : OkCL Try.prog cl) {a0 a1 a2 : Value} {h h' : PH} {v : Value} (hx : F28 n cl a0 a1 a2 h = some (v, h')) : (enterable Try.prog 28 = true ∧ ACall Try.prog 28 [a0, a1, a2] h.abs (fun u k => u = v ∧ k = h'.abs)) ∧ Inv h h' :=
  exF_ok (Dk28 hcl) hmx Try.func28 (by kernel_rfl) ((E28 n cl a0 a1 a2 h).trans hx)
-- undergrowth/reach.Shortest
noncomputable def F11_0 (n : Nat) (cl : CL) (v12 : Value) (v16 : Value) (r5 : Kt) (v10 : Value) (v14 : Value) (h : PH) : R :=
 vb (xIdxS 1 v12 v16) fun v19 =>
 hb (xSt1 v19 (vM 0) h) fun _ h =>
 vb (xAri Int.add v16 (vN 1)) fun v20 =>
 r5 [v10, v12, v14, v20] h
noncomputable def F11_1 (n : Nat) (cl : CL) (v56 : Value) (r13 : Kt) (v46 : Value) (v48 : Value) (v50 : Value) (v52 : Value) (v54 : Value) (h : PH) : R :=
 vb (xAri Int.add v56 (vN 1)) fun v58 =>
 r13 [v46, v48, v50, v52, v54, v58] h
noncomputable def F11_2 (n : Nat) (cl : CL) (v61 : Value) (v34 : Value) (v65 : Value) (k18 : Kt) (v32 : Value) (v38 : Value) (v40 : Value) (v42 : Value) (h : PH) : R :=
 vb (xFld 0 v61) fun v83 =>
 vb (xLd v83 h) fun v84 =>
 vb (xIdxS 1 v34 v84) fun v85 =>
 hb (xSt1 v85 v65 h) fun _ h =>
 k18 [v32, v34, tt, v38, v40, v42] h
noncomputable def F11_3 (n : Nat) (cl : CL) (r13 : Kt) (y45 : List Value) (h : PH) : R :=
 ucons y45 fun v46 y47 => ucons y47 fun v48 y49 => ucons y49 fun v50 y51 => ucons y51 fun v52 y53 => ucons y53 fun v54 y55 => ucons y55 fun v56 y57 => F11_1 n cl v56 r13 v46 v48 v50 v52 v54 h
noncomputable def F11_4 (n : Nat) (cl : CL) (v38 : Value) (v42 : Value) (v32 : Value) (v34 : Value) (v40 : Value) (v36 : Value) (h : PH) (k18 : Kt) : R :=
 vb (xIdxS 3 v38 v42) fun v59 =>
 vb (xLdA 3 v59 h) fun v60 =>
 hb (xAlloc (zcells Try.prog 29) h) fun v61 h =>
 hb (xStA 3 v61 v60 h) fun _ h =>
 vb (xLdA 7 v32 h) fun v62 =>
 vb (xFld 1 v61) fun v63 =>
 vb (xLd v63 h) fun v64 =>
 vb (pcall (F28 n cl v62 v34 v64 (h.fzn))) fun v65 =>
 vb (xCmp ine v65 (vM 0)) fun v66 =>
 vb (gd (isB true v66) (some v34)) fun v67 =>
 vb (gd (isB true v66) (xFld 0 v61)) fun v68 =>
 vb (gd (isB true v66) (xLd v68 h)) fun v69 =>
 vb (gd (isB true v66) (xIdxS 1 v67 v69)) fun v70 =>
 vb (gd (isB true v66) (xLd v70 h)) fun v71 =>
 vb (gd (isB true v66) (xCmp ieq v71 (vM 0))) fun v72 =>
 vb (gd (isB true v66) (some v72)) fun v73 =>
 vb (gd (isB false v73) (some v65)) fun v74 =>
 vb (gd (isB false v73) (some v34)) fun v75 =>
 vb (gd (isB false v73) (xFld 0 v61)) fun v76 =>
 vb (gd (isB false v73) (xLd v76 h)) fun v77 =>
 vb (gd (isB false v73) (xIdxS 1 v75 v77)) fun v78 =>
 vb (gd (isB false v73) (xLd v78 h)) fun v79 =>
 vb (gd (isB false v73) (xCmp ilt v74 v79)) fun v80 =>
 vb (gd (isB true v66) (xPick v73 tt v80)) fun v81 =>
 vb (xPick v66 v81 ff) fun v82 =>
 bite v82 (F11_2 n cl v61 v34 v65 k18 v32 v38 v40 v42 h) (k18 [v32, v34, v36, v38, v40, v42] h)
noncomputable def F11_5 (n : Nat) (cl : CL) (v42 : Value) (v40 : Value) (r13 : Kt) (v38 : Value) (v32 : Value) (v34 : Value) (v36 : Value) (r10 : Kt) (h : PH) : R :=
 vb (xCmp ilt v42 v40) fun v44 =>
 bite v44 (jn (F11_3 n cl r13) (F11_4 n cl v38 v42 v32 v34 v40 v36 h)) (r10 [v32, v34, v36] h)
noncomputable def F11_6 (n : Nat) (cl : CL) (r10 : Kt) (r13 : Kt) (y31 : List Value) (h : PH) : R :=
 ucons y31 fun v32 y33 => ucons y33 fun v34 y35 => ucons y35 fun v36 y37 => ucons y37 fun v38 y39 => ucons y39 fun v40 y41 => ucons y41 fun v42 y43 => F11_5 n cl v42 v40 r13 v38 v32 v34 v36 r10 h
noncomputable def F11_7 (n : Nat) (cl : CL) (v22 : Value) (r10 : Kt) (v24 : Value) (h : PH) : R :=
 vb (xFld 3 v22) fun v28 =>
 vb (xLd v28 h) fun v29 =>
 vb (xLenS v29) fun v30 =>
 lp n (F11_6 n cl r10) [v22, v24, ff, v29, v30, (vN 0)] h
noncomputable def F11_8 (n : Nat) (cl : CL) (r10 : Kt) (y21 : List Value) (h : PH) : R :=
 ucons y21 fun v22 y23 => ucons y23 fun v24 y25 => ucons y25 fun v26 y27 => bite v26 (F11_7 n cl v22 r10 v24 h) (some (v24, h))
noncomputable def F11_9 (n : Nat) (cl : CL) (v16 : Value) (v14 : Value) (v12 : Value) (r5 : Kt) (v10 : Value) (h : PH) : R :=
 vb (xCmp ilt v16 v14) fun v18 =>
 bite v18 (F11_0 n cl v12 v16 r5 v10 v14 h) (lp n (F11_8 n cl) [v10, v12, tt] h)
noncomputable def F11_10 (n : Nat) (cl : CL) (r5 : Kt) (y9 : List Value) (h : PH) : R :=
 ucons y9 fun v10 y11 => ucons y11 fun v12 y13 => ucons y13 fun v14 y15 => ucons y15 fun v16 y17 => F11_9 n cl v16 v14 v12 r5 v10 h
noncomputable def F11_11 (n : Nat) (cl : CL) (v1 : Value) (h : PH) : R :=
 vb (xFld 0 v1) fun v5 =>
 vb (xLd v5 h) fun v6 =>
 hb (xMk (zinfo Try.prog 25) v6 v6 h) fun v7 h =>
 vb (xLenS v7) fun v8 =>
 lp n (F11_10 n cl) [v1, v7, v8, (vN 0)] h
noncomputable def F11 (n : Nat) (cl : CL) (a0 : Value) (h : PH) : R :=
 hb (xBox a0 h) fun v1 h =>
 vb (xLdA 7 v1 h) fun v2 =>
 vb (pcall (F27 n cl v2 (h.fzn))) fun v3 =>
 vb (xNot v3) fun v4 =>
 bite v4 (some (nils, h)) (F11_11 n cl v1 h)
noncomputable def D11 (n : Nat) (cl : CL) : CL := fun f xs h => sw f 27 (ucons xs fun b0 xs => u0 xs (F27 n cl b0 h)) (sw f 28 (ucons xs fun b0 xs => ucons xs fun b1 xs => ucons xs fun b2 xs => u0 xs (F28 n cl b0 b1 b2 h)) (cl f xs h))
theorem Dk11 {n : Nat} {cl : CL} (hcl : OkCL Try.prog cl) : OkCL Try.prog (D11 n cl) := by
  intro f xs h v h' hx
  rcases sw_ok hx with ⟨rfl, hx⟩ | hx
  · obtain ⟨_, _, rfl, hx⟩ := ucons_ok hx; obtain ⟨rfl, hx⟩ := u0_ok hx; exact S27 (n := n) (cl := cl) hcl hx
  rcases sw_ok hx with ⟨rfl, hx⟩ | hx
  · obtain ⟨_, _, rfl, hx⟩ := ucons_ok hx; obtain ⟨_, _, rfl, hx⟩ := ucons_ok hx; obtain ⟨_, _, rfl, hx⟩ := ucons_ok hx; obtain ⟨rfl, hx⟩ := u0_ok hx; exact S28 (n := n) (cl := cl) hcl hx
  exact hcl _ _ _ _ _ hx
theorem E11 (n : Nat) (cl : CL) (a0 : Value) (h : PH) : exF Try.prog n (D11 n cl) ⟨[27, 28], [], [(5, [1, 3, 16, 17]), (10, [1, 3, 5]), (13, [1, 3, 5, 26, 27, 28]), (18, [1, 3, 5, 26, 27, 28])], [], []⟩ Try.f11 [a0] h = F11 n cl a0 h := by kernel_rfl
theorem S11 {n : Nat} {cl : CL} (hcl : OkCL Try.prog cl) {a0 : Value} {h h' : PH} {v : Value} (hx : F11 n cl a0 h = some (v, h')) : (enterable Try.prog 11 = true ∧ ACall Try.prog 11 [a0] h.abs (fun u k => u = v ∧ k = h'.abs)) ∧ Inv h h' :=
  exF_ok (Dk11 hcl) hmx Try.func11 (by kernel_rfl) ((E11 n cl a0 h).trans hx)
-- undergrowth/undergrowthlaw12.alive
noncomputable def F10 (n : Nat) (cl : CL) (h : PH) : R :=
 vb (abuild Try.prog 27 [(0, (vN 1))]) fun v1 =>
 hb (fcall h (F14 n cl v1 (h.fzn))) fun v2 h =>
 hb (xBS 2 (bsRow Try.prog 25 2 [(0, (vM 0)), (1, (vM 0))]) h) fun v3 h =>
 vb (abuild Try.prog 29 [(1, v3)]) fun v4 =>
 hb (xBS 1 (bsRow Try.prog 23 1 [(0, v4)]) h) fun v5 h =>
 vb (abuild Try.prog 27 [(0, (vN 1)), (1, (vN 1)), (3, v5)]) fun v6 =>
 hb (fcall h (F11 n cl v6 (h.fzn))) fun v7 h =>
 vb (xLenS v2) fun v8 =>
 vb (xCmp ieq v8 (vN 1)) fun v9 =>
 vb (gd (isB true v9) (some v2)) fun v10 =>
 vb (gd (isB true v9) (xIdxS 1 v10 (vN 0))) fun v11 =>
 vb (gd (isB true v9) (xLd v11 h)) fun v12 =>
 vb (xPick v9 v12 ff) fun v13 =>
 vb (gd (isB true v13) (some v7)) fun v14 =>
 vb (gd (isB true v13) (xLenS v14)) fun v15 =>
 vb (gd (isB true v13) (xCmp ieq v15 (vN 1))) fun v16 =>
 vb (xPick v13 v16 ff) fun v17 =>
 vb (gd (isB true v17) (some v7)) fun v18 =>
 vb (gd (isB true v17) (xIdxS 1 v18 (vN 0))) fun v19 =>
 vb (gd (isB true v17) (xLd v19 h)) fun v20 =>
 vb (gd (isB true v17) (xCmp ieq v20 (vN 2))) fun v21 =>
 vb (xPick v17 v21 ff) fun v22 =>
 some (v22, h)
noncomputable def D10 (n : Nat) (cl : CL) : CL := fun f xs h => sw f 14 (ucons xs fun b0 xs => u0 xs (F14 n cl b0 h)) (sw f 11 (ucons xs fun b0 xs => u0 xs (F11 n cl b0 h)) (cl f xs h))
theorem Dk10 {n : Nat} {cl : CL} (hcl : OkCL Try.prog cl) : OkCL Try.prog (D10 n cl) := by
  intro f xs h v h' hx
  rcases sw_ok hx with ⟨rfl, hx⟩ | hx
  · obtain ⟨_, _, rfl, hx⟩ := ucons_ok hx; obtain ⟨rfl, hx⟩ := u0_ok hx; exact S14 (n := n) (cl := cl) hcl hx
  rcases sw_ok hx with ⟨rfl, hx⟩ | hx
  · obtain ⟨_, _, rfl, hx⟩ := ucons_ok hx; obtain ⟨rfl, hx⟩ := u0_ok hx; exact S11 (n := n) (cl := cl) hcl hx
  exact hcl _ _ _ _ _ hx
theorem E10 (n : Nat) (cl : CL) (h : PH) : exF Try.prog n (D10 n cl) ⟨[], [11, 14], [], [], []⟩ Try.f10 [] h = F10 n cl  h := by kernel_rfl
theorem S10 {n : Nat} {cl : CL} (hcl : OkCL Try.prog cl) {h h' : PH} {v : Value} (hx : F10 n cl h = some (v, h')) : (enterable Try.prog 10 = true ∧ ACall Try.prog 10 [] h.abs (fun u k => u = v ∧ k = h'.abs)) ∧ Inv h h' :=
  exF_ok (Dk10 hcl) hmx Try.func10 (by kernel_rfl) ((E10 n cl h).trans hx)
-- undergrowth/undergrowthlaw12.ReachDoubles
noncomputable def F3_0 (n : Nat) (cl : CL) (v14 : Value) (v16 : Value) (r6 : Kt) (v12 : Value) (h : PH) : R :=
 vb (xFld 3 v14) fun v20 =>
 vb (xLd v20 h) fun v21 =>
 vb (xAri Int.add v16 (vN 1)) fun v22 =>
 vb (xAri Int.add v16 (vN 1)) fun v23 =>
 hb (xBS 2 (bsRow Try.prog 25 2 [(0, v22), (1, v23)]) h) fun v24 h =>
 vb (abuild Try.prog 29 [(0, v16), (1, v24)]) fun v25 =>
 hb (xBS 1 (bsRow Try.prog 23 1 [(0, v25)]) h) fun v26 h =>
 hb (xApp (appInfo Try.prog #[23, 23]) v21 v26 h) fun v27 h =>
 vb (xFld 3 v14) fun v28 =>
 hb (xSt1 v28 v27 h) fun _ h =>
 vb (xAri Int.add v16 (vN 1)) fun v29 =>
 r6 [v12, v14, v29] h
noncomputable def F3_1 (n : Nat) (cl : CL) (v56 : Value) (r15 : Kt) (v52 : Value) (v54 : Value) (h : PH) : R :=
 vb (xAri Int.sub v56 (vN 1)) fun v58 =>
 r15 [v52, v54, v58] h
noncomputable def F3_2 (n : Nat) (cl : CL) (v46 : Value) (k16 : Kt) (v44 : Value) (v48 : Value) (h : PH) : R :=
 vb (xAri Int.mul (vN 2) v46) fun v62 =>
 vb (xCmp (fun x y => ilt y x) v62 (vN 1000000000)) fun v63 =>
 bite v63 (k16 [v44, (vN 1000000000), v48] h) (k16 [v44, v62, v48] h)
noncomputable def F3_3 (n : Nat) (cl : CL) (r15 : Kt) (y51 : List Value) (h : PH) : R :=
 ucons y51 fun v52 y53 => ucons y53 fun v54 y55 => ucons y55 fun v56 y57 => F3_1 n cl v56 r15 v52 v54 h
noncomputable def F3_4 (n : Nat) (cl : CL) (v44 : Value) (v48 : Value) (v46 : Value) (h : PH) (k16 : Kt) : R :=
 vb (xIdxS 1 v44 v48) fun v59 =>
 vb (xLd v59 h) fun v60 =>
 vb (xCmp ine v60 v46) fun v61 =>
 bite v61 (some (ff, h)) (F3_2 n cl v46 k16 v44 v48 h)
noncomputable def F3_5 (n : Nat) (cl : CL) (v48 : Value) (r15 : Kt) (v44 : Value) (v46 : Value) (h : PH) : R :=
 vb (xCmp (fun x y => ile y x) v48 (vN 0)) fun v50 =>
 bite v50 (jn (F3_3 n cl r15) (F3_4 n cl v44 v48 v46 h)) (some (tt, h))
noncomputable def F3_6 (n : Nat) (cl : CL) (r15 : Kt) (y43 : List Value) (h : PH) : R :=
 ucons y43 fun v44 y45 => ucons y45 fun v46 y47 => ucons y47 fun v48 y49 => F3_5 n cl v48 r15 v44 v46 h
noncomputable def F3_7 (n : Nat) (cl : CL) (v12 : Value) (v39 : Value) (h : PH) : R :=
 vb (xAri Int.sub v12 (vN 1)) fun v42 =>
 lp n (F3_6 n cl) [v39, (vN 1), v42] h
noncomputable def F3_8 (n : Nat) (cl : CL) (v14 : Value) (v12 : Value) (h : PH) : R :=
 vb (xFld 3 v14) fun v30 =>
 vb (xLd v30 h) fun v31 =>
 vb (xAri Int.sub v12 (vN 1)) fun v32 =>
 hb (xBS 1 (bsRow Try.prog 25 1 [(0, (vM 0))]) h) fun v33 h =>
 vb (abuild Try.prog 29 [(0, v32), (1, v33)]) fun v34 =>
 hb (xBS 1 (bsRow Try.prog 23 1 [(0, v34)]) h) fun v35 h =>
 hb (xApp (appInfo Try.prog #[23, 23]) v31 v35 h) fun v36 h =>
 vb (xFld 3 v14) fun v37 =>
 hb (xSt1 v37 v36 h) fun _ h =>
 vb (xLdA 7 v14 h) fun v38 =>
 hb (fcall h (F11 n cl v38 (h.fzn))) fun v39 h =>
 vb (xLenS v39) fun v40 =>
 vb (xCmp ine v40 v12) fun v41 =>
 bite v41 (some (ff, h)) (F3_7 n cl v12 v39 h)
noncomputable def F3_9 (n : Nat) (cl : CL) (v16 : Value) (v12 : Value) (v14 : Value) (r6 : Kt) (h : PH) : R :=
 vb (xAri Int.add v16 (vN 1)) fun v18 =>
 vb (xCmp ilt v18 v12) fun v19 =>
 bite v19 (F3_0 n cl v14 v16 r6 v12 h) (F3_8 n cl v14 v12 h)
noncomputable def F3_10 (n : Nat) (cl : CL) (r6 : Kt) (y11 : List Value) (h : PH) : R :=
 ucons y11 fun v12 y13 => ucons y13 fun v14 y15 => ucons y15 fun v16 y17 => F3_9 n cl v16 v12 v14 r6 h
noncomputable def F3_11 (n : Nat) (cl : CL) (a0 : Value) (h : PH) : R :=
 vb (abuild Try.prog 27 [(0, a0), (1, (vN 1))]) fun v9 =>
 hb (xAlloc (zcells Try.prog 27) h) fun v10 h =>
 hb (xStA 7 v10 v9 h) fun _ h =>
 lp n (F3_10 n cl) [a0, v10, (vN 0)] h
noncomputable def F3 (n : Nat) (cl : CL) (a0 : Value) (h : PH) : R :=
 vb (pcall (F10 n cl (h.fzn))) fun v1 =>
 vb (xNot v1) fun v2 =>
 vb (gd (isB false v2) (some a0)) fun v3 =>
 vb (gd (isB false v2) (xCmp ilt v3 (vN 1))) fun v4 =>
 vb (xPick v2 tt v4) fun v5 =>
 vb (gd (isB false v5) (some a0)) fun v6 =>
 vb (gd (isB false v5) (xCmp (fun x y => ilt y x) v6 (vN 40))) fun v7 =>
 vb (xPick v5 tt v7) fun v8 =>
 bite v8 (some (v1, h)) (F3_11 n cl a0 h)
noncomputable def D3 (n : Nat) (cl : CL) : CL := fun f xs h => sw f 10 (u0 xs (F10 n cl h)) (sw f 11 (ucons xs fun b0 xs => u0 xs (F11 n cl b0 h)) (cl f xs h))
theorem Dk3 {n : Nat} {cl : CL} (hcl : OkCL Try.prog cl) : OkCL Try.prog (D3 n cl) := by
  intro f xs h v h' hx
  rcases sw_ok hx with ⟨rfl, hx⟩ | hx
  · obtain ⟨rfl, hx⟩ := u0_ok hx; exact S10 (n := n) (cl := cl) hcl hx
  rcases sw_ok hx with ⟨rfl, hx⟩ | hx
  · obtain ⟨_, _, rfl, hx⟩ := ucons_ok hx; obtain ⟨rfl, hx⟩ := u0_ok hx; exact S11 (n := n) (cl := cl) hcl hx
  exact hcl _ _ _ _ _ hx
theorem E3 (n : Nat) (cl : CL) (a0 : Value) (h : PH) : exF Try.prog n (D3 n cl) ⟨[10], [11], [(6, [0, 4, 5]), (15, [6, 7, 8]), (16, [6, 7, 8])], [], []⟩ Try.f3 [a0] h = F3 n cl a0 h := by kernel_rfl
theorem S3 {n : Nat} {cl : CL} (hcl : OkCL Try.prog cl) {a0 : Value} {h h' : PH} {v : Value} (hx : F3 n cl a0 h = some (v, h')) : (enterable Try.prog 3 = true ∧ ACall Try.prog 3 [a0] h.abs (fun u k => u = v ∧ k = h'.abs)) ∧ Inv h h' :=
  exF_ok (Dk3 hcl) hmx Try.func3 (by kernel_rfl) ((E3 n cl a0 h).trans hx)
-- undergrowth/undergrowthlaw11.Few
noncomputable def F12 (n : Nat) (cl : CL) (a0 : Value) (h : PH) : R :=
 hb (xBox a0 h) fun v1 h =>
 vb (xFld 3 v1) fun v2 =>
 vb (xLd v2 h) fun v3 =>
 vb (xLenS v3) fun v4 =>
 vb (xCmp ile v4 (vN 70)) fun v5 =>
 vb (gd (isB true v5) (xFld 4 v1)) fun v6 =>
 vb (gd (isB true v5) (xLd v6 h)) fun v7 =>
 vb (gd (isB true v5) (xLenS v7)) fun v8 =>
 vb (gd (isB true v5) (xCmp ile v8 (vN 250))) fun v9 =>
 vb (xPick v5 v9 ff) fun v10 =>
 vb (gd (isB true v10) (xFld 5 v1)) fun v11 =>
 vb (gd (isB true v10) (xLd v11 h)) fun v12 =>
 vb (gd (isB true v10) (xLenS v12)) fun v13 =>
 vb (gd (isB true v10) (xCmp ile v13 (vN 100))) fun v14 =>
 vb (xPick v10 v14 ff) fun v15 =>
 vb (gd (isB true v15) (xFld 6 v1)) fun v16 =>
 vb (gd (isB true v15) (xLd v16 h)) fun v17 =>
 vb (gd (isB true v15) (xLenS v17)) fun v18 =>
 vb (gd (isB true v15) (xCmp ile v18 (vN 100))) fun v19 =>
 vb (xPick v15 v19 ff) fun v20 =>
 some (v20, h)
theorem E12 (n : Nat) (cl : CL) (a0 : Value) (h : PH) : exF Try.prog n cl ⟨[], [], [], [], []⟩ Try.f12 [a0] h = F12 n cl a0 h := by kernel_rfl
theorem S12 {n : Nat} {cl : CL} (hcl : OkCL Try.prog cl) {a0 : Value} {h h' : PH} {v : Value} (hx : F12 n cl a0 h = some (v, h')) : (enterable Try.prog 12 = true ∧ ACall Try.prog 12 [a0] h.abs (fun u k => u = v ∧ k = h'.abs)) ∧ Inv h h' :=
  exF_ok hcl hmx Try.func12 (by kernel_rfl) ((E12 n cl a0 h).trans hx)
-- undergrowth/undergrowthref10.classes
noncomputable def F31_0 (n : Nat) (cl : CL) (v4 : Value) (r2 : Kt) (v2 : Value) (h : PH) : R :=
 vb (xAri Int.add v4 (vN 1)) fun v17 =>
 r2 [v2, v17] h
noncomputable def F31_1 (n : Nat) (cl : CL) (v2 : Value) (v4 : Value) (r2 : Kt) (h : PH) : R :=
 vb (xIdxS 1 v2 v4) fun v8 =>
 vb (xLd v8 h) fun v9 =>
 vb (xCmp ilt v9 (vN 0)) fun v10 =>
 vb (gd (isB false v10) (some v2)) fun v11 =>
 vb (gd (isB false v10) (some v4)) fun v12 =>
 vb (gd (isB false v10) (xIdxS 1 v11 v12)) fun v13 =>
 vb (gd (isB false v10) (xLd v13 h)) fun v14 =>
 vb (gd (isB false v10) (xCmp (fun x y => ilt y x) v14 (vN 100))) fun v15 =>
 vb (xPick v10 tt v15) fun v16 =>
 bite v16 (some (ff, h)) (F31_0 n cl v4 r2 v2 h)
noncomputable def F31_2 (n : Nat) (cl : CL) (v2 : Value) (v4 : Value) (r2 : Kt) (h : PH) : R :=
 vb (xLenS v2) fun v6 =>
 vb (xCmp ilt v4 v6) fun v7 =>
 bite v7 (F31_1 n cl v2 v4 r2 h) (some (tt, h))
noncomputable def F31 (n : Nat) (cl : CL) (a0 : Value) (h : PH) : R :=
 lp n (fun r2 y1 h => ucons y1 fun v2 y3 => ucons y3 fun v4 y5 => F31_2 n cl v2 v4 r2 h) [a0, (vN 0)] h
theorem E31 (n : Nat) (cl : CL) (a0 : Value) (h : PH) : exF Try.prog n cl ⟨[], [], [(2, [0, 3])], [], []⟩ Try.f31 [a0] h = F31 n cl a0 h := by kernel_rfl
theorem S31 {n : Nat} {cl : CL} (hcl : OkCL Try.prog cl) {a0 : Value} {h h' : PH} {v : Value} (hx : F31 n cl a0 h = some (v, h')) : (enterable Try.prog 31 = true ∧ ACall Try.prog 31 [a0] h.abs (fun u k => u = v ∧ k = h'.abs)) ∧ Inv h h' :=
  exF_ok hcl hmx Try.func31 (by kernel_rfl) ((E31 n cl a0 h).trans hx)
-- undergrowth/undergrowthref10.symbol
noncomputable def F32_0 (n : Nat) (cl : CL) (a1 : Value) (v1 : Value) (h : PH) : R :=
 vb (xAri Int.sub (vM 0) a1) fun v3 =>
 vb (xFld 1 v1) fun v4 =>
 vb (xLd v4 h) fun v5 =>
 vb (xCmp ilt v3 v5) fun v6 =>
 some (v6, h)
noncomputable def F32_1 (n : Nat) (cl : CL) (v1 : Value) (a1 : Value) (h : PH) : R :=
 vb (xFld 0 v1) fun v7 =>
 vb (xLd v7 h) fun v8 =>
 vb (xCmp ilt a1 v8) fun v9 =>
 some (v9, h)
noncomputable def F32 (n : Nat) (cl : CL) (a0 a1 : Value) (h : PH) : R :=
 hb (xBox a0 h) fun v1 h =>
 vb (xCmp ilt a1 (vN 0)) fun v2 =>
 bite v2 (F32_0 n cl a1 v1 h) (F32_1 n cl v1 a1 h)
theorem E32 (n : Nat) (cl : CL) (a0 a1 : Value) (h : PH) : exF Try.prog n cl ⟨[], [], [], [], []⟩ Try.f32 [a0, a1] h = F32 n cl a0 a1 h := by kernel_rfl
theorem S32 {n : Nat} {cl : CL} (hcl : OkCL Try.prog cl) {a0 a1 : Value} {h h' : PH} {v : Value} (hx : F32 n cl a0 a1 h = some (v, h')) : (enterable Try.prog 32 = true ∧ ACall Try.prog 32 [a0, a1] h.abs (fun u k => u = v ∧ k = h'.abs)) ∧ Inv h h' :=
  exF_ok hcl hmx Try.func32 (by kernel_rfl) ((E32 n cl a0 a1 h).trans hx)
-- undergrowth/undergrowthref10.Form
noncomputable def F20_0 (n : Nat) (cl : CL) (v88 : Value) (v84 : Value) (v92 : Value) (r13 : Kt) (v86 : Value) (h : PH) : R :=
 vb (xFld 1 v88) fun v100 =>
 vb (xLdA 7 v84 h) fun v101 =>
 vb (xLd v100 h) fun v102 =>
 vb (xIdxS 1 v102 v92) fun v103 =>
 vb (xLd v103 h) fun v104 =>
 vb (pcall (F32 n cl v101 v104 (h.fzn))) fun v105 =>
 vb (xAri Int.add v92 (vN 1)) fun v106 =>
 r13 [v84, v86, v88, v105, v106] h
noncomputable def F20_1 (n : Nat) (cl : CL) (v86 : Value) (r8 : Kt) (v84 : Value) (h : PH) : R :=
 vb (xAri Int.add v86 (vN 1)) fun v119 =>
 r8 [v84, v119] h
noncomputable def F20_2 (n : Nat) (cl : CL) (v88 : Value) (v86 : Value) (r8 : Kt) (v84 : Value) (h : PH) : R :=
 vb (xFld 2 v88) fun v112 =>
 vb (xLd v112 h) fun v113 =>
 vb (xCmp ilt v113 (vM 999)) fun v114 =>
 vb (gd (isB false v114) (xFld 2 v88)) fun v115 =>
 vb (gd (isB false v114) (xLd v115 h)) fun v116 =>
 vb (gd (isB false v114) (xCmp (fun x y => ilt y x) v116 (vN 1000))) fun v117 =>
 vb (xPick v114 tt v117) fun v118 =>
 bite v118 (some (Value.tuple ⟨[v86, (vN 1)]⟩, h)) (F20_1 n cl v86 r8 v84 h)
noncomputable def F20_3 (n : Nat) (cl : CL) (v88 : Value) (v86 : Value) (r8 : Kt) (v84 : Value) (h : PH) : R :=
 vb (xFld 1 v88) fun v108 =>
 vb (xLd v108 h) fun v109 =>
 vb (xLenS v109) fun v110 =>
 vb (xCmp (fun x y => ilt y x) v110 (vN 8)) fun v111 =>
 bite v111 (some (Value.tuple ⟨[v86, (vN 3)]⟩, h)) (F20_2 n cl v88 v86 r8 v84 h)
noncomputable def F20_4 (n : Nat) (cl : CL) (v90 : Value) (v86 : Value) (v88 : Value) (r8 : Kt) (v84 : Value) (h : PH) : R :=
 vb (xNot v90) fun v107 =>
 bite v107 (some (Value.tuple ⟨[v86, (vN 6)]⟩, h)) (F20_3 n cl v88 v86 r8 v84 h)
noncomputable def F20_5 (n : Nat) (cl : CL) (v88 : Value) (v92 : Value) (v90 : Value) (v84 : Value) (r13 : Kt) (v86 : Value) (r8 : Kt) (h : PH) : R :=
 vb (xFld 1 v88) fun v94 =>
 vb (xLd v94 h) fun v95 =>
 vb (xLenS v95) fun v96 =>
 vb (xCmp ilt v92 v96) fun v97 =>
 vb (gd (isB true v97) (some v90)) fun v98 =>
 vb (xPick v97 v98 ff) fun v99 =>
 bite v99 (F20_0 n cl v88 v84 v92 r13 v86 h) (F20_4 n cl v90 v86 v88 r8 v84 h)
noncomputable def F20_6 (n : Nat) (cl : CL) (r8 : Kt) (r13 : Kt) (y83 : List Value) (h : PH) : R :=
 ucons y83 fun v84 y85 => ucons y85 fun v86 y87 => ucons y87 fun v88 y89 => ucons y89 fun v90 y91 => ucons y91 fun v92 y93 => F20_5 n cl v88 v92 v90 v84 r13 v86 r8 h
noncomputable def F20_7 (n : Nat) (cl : CL) (v61 : Value) (v63 : Value) (r8 : Kt) (h : PH) : R :=
 vb (xFld 3 v61) fun v69 =>
 vb (xLd v69 h) fun v70 =>
 vb (xIdxS 3 v70 v63) fun v71 =>
 vb (xLdA 3 v71 h) fun v72 =>
 hb (xAlloc (zcells Try.prog 29) h) fun v73 h =>
 hb (xStA 3 v73 v72 h) fun _ h =>
 vb (xFld 0 v73) fun v74 =>
 vb (xLd v74 h) fun v75 =>
 vb (xCmp (fun x y => ile y x) v75 (vN 0)) fun v76 =>
 vb (gd (isB true v76) (xFld 0 v73)) fun v77 =>
 vb (gd (isB true v76) (xLd v77 h)) fun v78 =>
 vb (gd (isB true v76) (xFld 0 v61)) fun v79 =>
 vb (gd (isB true v76) (xLd v79 h)) fun v80 =>
 vb (gd (isB true v76) (xCmp ilt v78 v80)) fun v81 =>
 vb (xPick v76 v81 ff) fun v82 =>
 lp n (F20_6 n cl r8) [v61, v63, v73, v82, (vN 0)] h
noncomputable def F20_8 (n : Nat) (cl : CL) (v123 : Value) (r23 : Kt) (v121 : Value) (h : PH) : R :=
 vb (xAri Int.add v123 (vN 1)) fun v191 =>
 r23 [v121, v191] h
noncomputable def F20_9 (n : Nat) (cl : CL) (v121 : Value) (v123 : Value) (r23 : Kt) (h : PH) : R :=
 vb (xFld 4 v121) fun v129 =>
 vb (xLd v129 h) fun v130 =>
 vb (xIdxS 3 v130 v123) fun v131 =>
 vb (xLdA 3 v131 h) fun v132 =>
 hb (xAlloc (zcells Try.prog 49) h) fun v133 h =>
 hb (xStA 3 v133 v132 h) fun _ h =>
 vb (xIdxA 3 1 v133 (vN 0)) fun v134 =>
 vb (xLd v134 h) fun v135 =>
 vb (xCmp ilt v135 (vN 0)) fun v136 =>
 vb (gd (isB false v136) (xIdxA 3 1 v133 (vN 0))) fun v137 =>
 vb (gd (isB false v136) (xFld 3 v121)) fun v138 =>
 vb (gd (isB false v136) (xLd v137 h)) fun v139 =>
 vb (gd (isB false v136) (xLd v138 h)) fun v140 =>
 vb (gd (isB false v136) (xLenS v140)) fun v141 =>
 vb (gd (isB false v136) (xCmp (fun x y => ile y x) v139 v141)) fun v142 =>
 vb (xPick v136 tt v142) fun v143 =>
 vb (gd (isB false v143) (xIdxA 3 1 v133 (vN 2))) fun v144 =>
 vb (gd (isB false v143) (xLd v144 h)) fun v145 =>
 vb (gd (isB false v143) (xCmp ilt v145 (vN 0))) fun v146 =>
 vb (xPick v143 tt v146) fun v147 =>
 vb (gd (isB false v147) (xIdxA 3 1 v133 (vN 2))) fun v148 =>
 vb (gd (isB false v147) (xFld 3 v121)) fun v149 =>
 vb (gd (isB false v147) (xLd v148 h)) fun v150 =>
 vb (gd (isB false v147) (xLd v149 h)) fun v151 =>
 vb (gd (isB false v147) (xLenS v151)) fun v152 =>
 vb (gd (isB false v147) (xCmp (fun x y => ile y x) v150 v152)) fun v153 =>
 vb (xPick v147 tt v153) fun v154 =>
 vb (gd (isB false v154) (xIdxA 3 1 v133 (vN 1))) fun v155 =>
 vb (gd (isB false v154) (xLd v155 h)) fun v156 =>
 vb (gd (isB false v154) (xCmp ilt v156 (vN 0))) fun v157 =>
 vb (xPick v154 tt v157) fun v158 =>
 vb (gd (isB false v158) (xIdxA 3 1 v133 (vN 1))) fun v159 =>
 vb (gd (isB false v158) (xFld 3 v121)) fun v160 =>
 vb (gd (isB false v158) (xIdxA 3 1 v133 (vN 0))) fun v161 =>
 vb (gd (isB false v158) (xLd v159 h)) fun v162 =>
 vb (gd (isB false v158) (xLd v160 h)) fun v163 =>
 vb (gd (isB false v158) (xLd v161 h)) fun v164 =>
 vb (gd (isB false v158) (xIdxS 3 v163 v164)) fun v165 =>
 vb (gd (isB false v158) (xFld 1 v165)) fun v166 =>
 vb (gd (isB false v158) (xLd v166 h)) fun v167 =>
 vb (gd (isB false v158) (xLenS v167)) fun v168 =>
 vb (gd (isB false v158) (xCmp (fun x y => ile y x) v162 v168)) fun v169 =>
 vb (xPick v158 tt v169) fun v170 =>
 vb (gd (isB false v170) (xFld 3 v121)) fun v171 =>
 vb (gd (isB false v170) (xIdxA 3 1 v133 (vN 0))) fun v172 =>
 vb (gd (isB false v170) (xIdxA 3 1 v133 (vN 1))) fun v173 =>
 vb (gd (isB false v170) (xFld 3 v121)) fun v174 =>
 vb (gd (isB false v170) (xIdxA 3 1 v133 (vN 2))) fun v175 =>
 vb (gd (isB false v170) (xLd v171 h)) fun v176 =>
 vb (gd (isB false v170) (xLd v172 h)) fun v177 =>
 vb (gd (isB false v170) (xIdxS 3 v176 v177)) fun v178 =>
 vb (gd (isB false v170) (xFld 1 v178)) fun v179 =>
 vb (gd (isB false v170) (xLd v179 h)) fun v180 =>
 vb (gd (isB false v170) (xLd v173 h)) fun v181 =>
 vb (gd (isB false v170) (xIdxS 1 v180 v181)) fun v182 =>
 vb (gd (isB false v170) (xLd v182 h)) fun v183 =>
 vb (gd (isB false v170) (xLd v174 h)) fun v184 =>
 vb (gd (isB false v170) (xLd v175 h)) fun v185 =>
 vb (gd (isB false v170) (xIdxS 3 v184 v185)) fun v186 =>
 vb (gd (isB false v170) (xFld 0 v186)) fun v187 =>
 vb (gd (isB false v170) (xLd v187 h)) fun v188 =>
 vb (gd (isB false v170) (xCmp ine v183 v188)) fun v189 =>
 vb (xPick v170 tt v189) fun v190 =>
 bite v190 (some (Value.tuple ⟨[(vM 0), (vN 6)]⟩, h)) (F20_8 n cl v123 r23 v121 h)
noncomputable def F20_10 (n : Nat) (cl : CL) (v121 : Value) (v123 : Value) (r23 : Kt) (h : PH) : R :=
 vb (xFld 4 v121) fun v125 =>
 vb (xLd v125 h) fun v126 =>
 vb (xLenS v126) fun v127 =>
 vb (xCmp ilt v123 v127) fun v128 =>
 bite v128 (F20_9 n cl v121 v123 r23 h) (some (Value.tuple ⟨[(vM 0), (vN 0)]⟩, h))
noncomputable def F20_11 (n : Nat) (cl : CL) (v61 : Value) (h : PH) : R :=
 lp n (fun r23 y120 h => ucons y120 fun v121 y122 => ucons y122 fun v123 y124 => F20_10 n cl v121 v123 r23 h) [v61, (vN 0)] h
noncomputable def F20_12 (n : Nat) (cl : CL) (v61 : Value) (v63 : Value) (r8 : Kt) (h : PH) : R :=
 vb (xFld 3 v61) fun v65 =>
 vb (xLd v65 h) fun v66 =>
 vb (xLenS v66) fun v67 =>
 vb (xCmp ilt v63 v67) fun v68 =>
 bite v68 (F20_7 n cl v61 v63 r8 h) (F20_11 n cl v61 h)
noncomputable def F20_13 (n : Nat) (cl : CL) (v1 : Value) (h : PH) : R :=
 lp n (fun r8 y60 h => ucons y60 fun v61 y62 => ucons y62 fun v63 y64 => F20_12 n cl v61 v63 r8 h) [v1, (vN 0)] h
noncomputable def F20_14 (n : Nat) (cl : CL) (v1 : Value) (h : PH) : R :=
 vb (xFld 5 v1) fun v36 =>
 vb (xLd v36 h) fun v37 =>
 vb (xLenS v37) fun v38 =>
 vb (xFld 3 v1) fun v39 =>
 vb (xLd v39 h) fun v40 =>
 vb (xLenS v40) fun v41 =>
 vb (xCmp (fun x y => ilt y x) v38 v41) fun v42 =>
 vb (gd (isB false v42) (xFld 6 v1)) fun v43 =>
 vb (gd (isB false v42) (xLd v43 h)) fun v44 =>
 vb (gd (isB false v42) (xLenS v44)) fun v45 =>
 vb (gd (isB false v42) (xFld 1 v1)) fun v46 =>
 vb (gd (isB false v42) (xLd v46 h)) fun v47 =>
 vb (gd (isB false v42) (xCmp (fun x y => ilt y x) v45 v47)) fun v48 =>
 vb (xPick v42 tt v48) fun v49 =>
 vb (gd (isB false v49) (xFld 5 v1)) fun v50 =>
 vb (gd (isB false v49) (xLd v50 h)) fun v51 =>
 vb (gd (isB false v49) (pcall (F31 n cl v51 (h.fzn)))) fun v52 =>
 vb (gd (isB false v49) (xNot v52)) fun v53 =>
 vb (xPick v49 tt v53) fun v54 =>
 vb (gd (isB false v54) (xFld 6 v1)) fun v55 =>
 vb (gd (isB false v54) (xLd v55 h)) fun v56 =>
 vb (gd (isB false v54) (pcall (F31 n cl v56 (h.fzn)))) fun v57 =>
 vb (gd (isB false v54) (xNot v57)) fun v58 =>
 vb (xPick v54 tt v58) fun v59 =>
 bite v59 (some (Value.tuple ⟨[(vM 0), (vN 1)]⟩, h)) (F20_13 n cl v1 h)
noncomputable def F20_15 (n : Nat) (cl : CL) (v1 : Value) (h : PH) : R :=
 vb (xFld 2 v1) fun v27 =>
 vb (xLd v27 h) fun v28 =>
 vb (xCmp ilt v28 (vN 0)) fun v29 =>
 vb (gd (isB false v29) (xFld 2 v1)) fun v30 =>
 vb (gd (isB false v29) (xLd v30 h)) fun v31 =>
 vb (gd (isB false v29) (xFld 0 v1)) fun v32 =>
 vb (gd (isB false v29) (xLd v32 h)) fun v33 =>
 vb (gd (isB false v29) (xCmp (fun x y => ile y x) v31 v33)) fun v34 =>
 vb (xPick v29 tt v34) fun v35 =>
 bite v35 (some (Value.tuple ⟨[(vM 0), (vN 6)]⟩, h)) (F20_14 n cl v1 h)
noncomputable def F20 (n : Nat) (cl : CL) (a0 : Value) (h : PH) : R :=
 hb (xBox a0 h) fun v1 h =>
 vb (xFld 0 v1) fun v2 =>
 vb (xLd v2 h) fun v3 =>
 vb (xCmp ilt v3 (vN 1)) fun v4 =>
 vb (gd (isB false v4) (xFld 0 v1)) fun v5 =>
 vb (gd (isB false v4) (xLd v5 h)) fun v6 =>
 vb (gd (isB false v4) (xCmp (fun x y => ilt y x) v6 (vN 40))) fun v7 =>
 vb (xPick v4 tt v7) fun v8 =>
 vb (gd (isB false v8) (xFld 1 v1)) fun v9 =>
 vb (gd (isB false v8) (xLd v9 h)) fun v10 =>
 vb (gd (isB false v8) (xCmp ilt v10 (vN 0))) fun v11 =>
 vb (xPick v8 tt v11) fun v12 =>
 vb (gd (isB false v12) (xFld 1 v1)) fun v13 =>
 vb (gd (isB false v12) (xLd v13 h)) fun v14 =>
 vb (gd (isB false v12) (xCmp (fun x y => ilt y x) v14 (vN 40))) fun v15 =>
 vb (xPick v12 tt v15) fun v16 =>
 vb (gd (isB false v16) (xFld 3 v1)) fun v17 =>
 vb (gd (isB false v16) (xLd v17 h)) fun v18 =>
 vb (gd (isB false v16) (xLenS v18)) fun v19 =>
 vb (gd (isB false v16) (xCmp (fun x y => ilt y x) v19 (vN 60))) fun v20 =>
 vb (xPick v16 tt v20) fun v21 =>
 vb (gd (isB false v21) (xFld 4 v1)) fun v22 =>
 vb (gd (isB false v21) (xLd v22 h)) fun v23 =>
 vb (gd (isB false v21) (xLenS v23)) fun v24 =>
 vb (gd (isB false v21) (xCmp (fun x y => ilt y x) v24 (vN 200))) fun v25 =>
 vb (xPick v21 tt v25) fun v26 =>
 bite v26 (some (Value.tuple ⟨[(vM 0), (vN 3)]⟩, h)) (F20_15 n cl v1 h)
noncomputable def D20 (n : Nat) (cl : CL) : CL := fun f xs h => sw f 31 (ucons xs fun b0 xs => u0 xs (F31 n cl b0 h)) (sw f 32 (ucons xs fun b0 xs => ucons xs fun b1 xs => u0 xs (F32 n cl b0 b1 h)) (cl f xs h))
theorem Dk20 {n : Nat} {cl : CL} (hcl : OkCL Try.prog cl) : OkCL Try.prog (D20 n cl) := by
  intro f xs h v h' hx
  rcases sw_ok hx with ⟨rfl, hx⟩ | hx
  · obtain ⟨_, _, rfl, hx⟩ := ucons_ok hx; obtain ⟨rfl, hx⟩ := u0_ok hx; exact S31 (n := n) (cl := cl) hcl hx
  rcases sw_ok hx with ⟨rfl, hx⟩ | hx
  · obtain ⟨_, _, rfl, hx⟩ := ucons_ok hx; obtain ⟨_, _, rfl, hx⟩ := ucons_ok hx; obtain ⟨rfl, hx⟩ := u0_ok hx; exact S32 (n := n) (cl := cl) hcl hx
  exact hcl _ _ _ _ _ hx
theorem E20 (n : Nat) (cl : CL) (a0 : Value) (h : PH) : exF Try.prog n (D20 n cl) ⟨[31, 32], [], [(8, [1, 4]), (13, [1, 4, 5, 6, 7]), (23, [1, 8])], [(15, [1, 3, 0, 2, 4, 5, 6, 7]), (26, [0, 1, 2, 3, 4, 6, 5, 7, 8, 9, 10, 11, 12, 13, 14, 15, 16, 17, 19, 18, 20, 21, 22, 23, 24, 25, 26, 27, 28, 29, 30, 32, 34, 31, 33, 35, 36, 37, 38, 39, 40, 41, 42, 43, 45, 50, 54, 56, 44, 46, 47, 48, 49, 51, 52, 53, 55, 57, 58, 59, 60, 61, 62])], []⟩ Try.f20 [a0] h = F20 n cl a0 h := by kernel_rfl
theorem S20 {n : Nat} {cl : CL} (hcl : OkCL Try.prog cl) {a0 : Value} {h h' : PH} {v : Value} (hx : F20 n cl a0 h = some (v, h')) : (enterable Try.prog 20 = true ∧ ACall Try.prog 20 [a0] h.abs (fun u k => u = v ∧ k = h'.abs)) ∧ Inv h h' :=
  exF_ok (Dk20 hcl) hmx Try.func20 (by kernel_rfl) ((E20 n cl a0 h).trans hx)
-- undergrowth/undergrowthref10.formed
noncomputable def F30 (n : Nat) (cl : CL) (a0 : Value) (h : PH) : R :=
 hb (xBox a0 h) fun v1 h =>
 vb (xLdA 7 v1 h) fun v2 =>
 vb (pcall (F20 n cl v2 (h.fzn))) fun v3 =>
 vb (xExt 0 v3) fun v4 =>
 vb (xExt 1 v3) fun v5 =>
 vb (xCmp ieq v5 (vN 0)) fun v6 =>
 some (v6, h)
noncomputable def D30 (n : Nat) (cl : CL) : CL := fun f xs h => sw f 20 (ucons xs fun b0 xs => u0 xs (F20 n cl b0 h)) (cl f xs h)
theorem Dk30 {n : Nat} {cl : CL} (hcl : OkCL Try.prog cl) : OkCL Try.prog (D30 n cl) := by
  intro f xs h v h' hx
  rcases sw_ok hx with ⟨rfl, hx⟩ | hx
  · obtain ⟨_, _, rfl, hx⟩ := ucons_ok hx; obtain ⟨rfl, hx⟩ := u0_ok hx; exact S20 (n := n) (cl := cl) hcl hx
  exact hcl _ _ _ _ _ hx
theorem E30 (n : Nat) (cl : CL) (a0 : Value) (h : PH) : exF Try.prog n (D30 n cl) ⟨[20], [], [], [], []⟩ Try.f30 [a0] h = F30 n cl a0 h := by kernel_rfl
theorem S30 {n : Nat} {cl : CL} (hcl : OkCL Try.prog cl) {a0 : Value} {h h' : PH} {v : Value} (hx : F30 n cl a0 h = some (v, h')) : (enterable Try.prog 30 = true ∧ ACall Try.prog 30 [a0] h.abs (fun u k => u = v ∧ k = h'.abs)) ∧ Inv h h' :=
  exF_ok (Dk30 hcl) hmx Try.func30 (by kernel_rfl) ((E30 n cl a0 h).trans hx)
-- undergrowth/undergrowthref10.Reachable
noncomputable def F15_0 (n : Nat) (cl : CL) (v70 : Value) (r13 : Kt) (v60 : Value) (v62 : Value) (v64 : Value) (v66 : Value) (v68 : Value) (h : PH) : R :=
 vb (xAri Int.add v70 (vN 1)) fun v72 =>
 r13 [v60, v62, v64, v66, v68, v72] h
noncomputable def F15_1 (n : Nat) (cl : CL) (v45 : Value) (v47 : Value) (v39 : Value) (k14 : Kt) (v37 : Value) (v43 : Value) (h : PH) : R :=
 vb (xFld 1 v45) fun v88 =>
 vb (xLd v88 h) fun v89 =>
 vb (xIdxS 1 v89 v47) fun v90 =>
 vb (xLd v90 h) fun v91 =>
 vb (xIdxS 1 v39 v91) fun v92 =>
 hb (xSt1 v92 tt h) fun _ h =>
 k14 [v37, v39, tt, v43, v45, v47] h
noncomputable def F15_2 (n : Nat) (cl : CL) (r13 : Kt) (y59 : List Value) (h : PH) : R :=
 ucons y59 fun v60 y61 => ucons y61 fun v62 y63 => ucons y63 fun v64 y65 => ucons y65 fun v66 y67 => ucons y67 fun v68 y69 => ucons y69 fun v70 y71 => F15_0 n cl v70 r13 v60 v62 v64 v66 v68 h
noncomputable def F15_3 (n : Nat) (cl : CL) (v45 : Value) (v47 : Value) (v39 : Value) (v37 : Value) (v43 : Value) (v41 : Value) (h : PH) (k14 : Kt) : R :=
 vb (xFld 1 v45) fun v73 =>
 vb (xLd v73 h) fun v74 =>
 vb (xIdxS 1 v74 v47) fun v75 =>
 vb (xLd v75 h) fun v76 =>
 vb (xCmp (fun x y => ile y x) v76 (vN 0)) fun v77 =>
 vb (gd (isB true v77) (some v39)) fun v78 =>
 vb (gd (isB true v77) (xFld 1 v45)) fun v79 =>
 vb (gd (isB true v77) (xLd v79 h)) fun v80 =>
 vb (gd (isB true v77) (some v47)) fun v81 =>
 vb (gd (isB true v77) (xIdxS 1 v80 v81)) fun v82 =>
 vb (gd (isB true v77) (xLd v82 h)) fun v83 =>
 vb (gd (isB true v77) (xIdxS 1 v78 v83)) fun v84 =>
 vb (gd (isB true v77) (xLd v84 h)) fun v85 =>
 vb (gd (isB true v77) (xNot v85)) fun v86 =>
 vb (xPick v77 v86 ff) fun v87 =>
 bite v87 (F15_1 n cl v45 v47 v39 k14 v37 v43 h) (k14 [v37, v39, v41, v43, v45, v47] h)
noncomputable def F15_4 (n : Nat) (cl : CL) (v43 : Value) (r9 : Kt) (v37 : Value) (v39 : Value) (v41 : Value) (h : PH) : R :=
 vb (xAri Int.add v43 (vN 1)) fun v93 =>
 r9 [v37, v39, v41, v93] h
noncomputable def F15_5 (n : Nat) (cl : CL) (v45 : Value) (v47 : Value) (v39 : Value) (r13 : Kt) (v37 : Value) (v43 : Value) (v41 : Value) (r9 : Kt) (h : PH) : R :=
 vb (xFld 1 v45) fun v49 =>
 vb (xLd v49 h) fun v50 =>
 vb (xLenS v50) fun v51 =>
 vb (xCmp ilt v47 v51) fun v52 =>
 vb (gd (isB true v52) (some v39)) fun v53 =>
 vb (gd (isB true v52) (xFld 0 v45)) fun v54 =>
 vb (gd (isB true v52) (xLd v54 h)) fun v55 =>
 vb (gd (isB true v52) (xIdxS 1 v53 v55)) fun v56 =>
 vb (gd (isB true v52) (xLd v56 h)) fun v57 =>
 vb (xPick v52 v57 ff) fun v58 =>
 bite v58 (jn (F15_2 n cl r13) (F15_3 n cl v45 v47 v39 v37 v43 v41 h)) (F15_4 n cl v43 r9 v37 v39 v41 h)
noncomputable def F15_6 (n : Nat) (cl : CL) (r9 : Kt) (r13 : Kt) (y36 : List Value) (h : PH) : R :=
 ucons y36 fun v37 y38 => ucons y38 fun v39 y40 => ucons y40 fun v41 y42 => ucons y42 fun v43 y44 => ucons y44 fun v45 y46 => ucons y46 fun v47 y48 => F15_5 n cl v45 v47 v39 r13 v37 v43 v41 r9 h
noncomputable def F15_7 (n : Nat) (cl : CL) (v19 : Value) (v25 : Value) (r9 : Kt) (v21 : Value) (v23 : Value) (h : PH) : R :=
 vb (xFld 3 v19) fun v31 =>
 vb (xLd v31 h) fun v32 =>
 vb (xIdxS 3 v32 v25) fun v33 =>
 vb (xLdA 3 v33 h) fun v34 =>
 hb (xAlloc (zcells Try.prog 29) h) fun v35 h =>
 hb (xStA 3 v35 v34 h) fun _ h =>
 lp n (F15_6 n cl r9) [v19, v21, v23, v25, v35, (vN 0)] h
noncomputable def F15_8 (n : Nat) (cl : CL) (v19 : Value) (v25 : Value) (r9 : Kt) (v21 : Value) (v23 : Value) (r6 : Kt) (h : PH) : R :=
 vb (xFld 3 v19) fun v27 =>
 vb (xLd v27 h) fun v28 =>
 vb (xLenS v28) fun v29 =>
 vb (xCmp ilt v25 v29) fun v30 =>
 bite v30 (F15_7 n cl v19 v25 r9 v21 v23 h) (r6 [v19, v21, v23] h)
noncomputable def F15_9 (n : Nat) (cl : CL) (r6 : Kt) (r9 : Kt) (y18 : List Value) (h : PH) : R :=
 ucons y18 fun v19 y20 => ucons y20 fun v21 y22 => ucons y22 fun v23 y24 => ucons y24 fun v25 y26 => F15_8 n cl v19 v25 r9 v21 v23 r6 h
noncomputable def F15_10 (n : Nat) (cl : CL) (r6 : Kt) (y11 : List Value) (h : PH) : R :=
 ucons y11 fun v12 y13 => ucons y13 fun v14 y15 => ucons y15 fun v16 y17 => bite v16 (lp n (F15_9 n cl r6) [v12, v14, ff, (vN 0)] h) (some (v14, h))
noncomputable def F15_11 (n : Nat) (cl : CL) (v1 : Value) (h : PH) : R :=
 vb (xFld 0 v1) fun v5 =>
 vb (xLd v5 h) fun v6 =>
 hb (xMk (zinfo Try.prog 34) v6 v6 h) fun v7 h =>
 vb (xFld 2 v1) fun v8 =>
 vb (xLd v8 h) fun v9 =>
 vb (xIdxS 1 v7 v9) fun v10 =>
 hb (xSt1 v10 tt h) fun _ h =>
 lp n (F15_10 n cl) [v1, v7, tt] h
noncomputable def F15 (n : Nat) (cl : CL) (a0 : Value) (h : PH) : R :=
 hb (xBox a0 h) fun v1 h =>
 vb (xLdA 7 v1 h) fun v2 =>
 vb (pcall (F30 n cl v2 (h.fzn))) fun v3 =>
 vb (xNot v3) fun v4 =>
 bite v4 (some (nils, h)) (F15_11 n cl v1 h)
noncomputable def D15 (n : Nat) (cl : CL) : CL := fun f xs h => sw f 30 (ucons xs fun b0 xs => u0 xs (F30 n cl b0 h)) (cl f xs h)
theorem Dk15 {n : Nat} {cl : CL} (hcl : OkCL Try.prog cl) : OkCL Try.prog (D15 n cl) := by
  intro f xs h v h' hx
  rcases sw_ok hx with ⟨rfl, hx⟩ | hx
  · obtain ⟨_, _, rfl, hx⟩ := ucons_ok hx; obtain ⟨rfl, hx⟩ := u0_ok hx; exact S30 (n := n) (cl := cl) hcl hx
  exact hcl _ _ _ _ _ hx
theorem E15 (n : Nat) (cl : CL) (a0 : Value) (h : PH) : exF Try.prog n (D15 n cl) ⟨[30], [], [(6, [1, 3, 4]), (9, [1, 3, 4, 5]), (13, [1, 3, 4, 5, 6, 7]), (14, [1, 3, 4, 5, 6, 7])], [], []⟩ Try.f15 [a0] h = F15 n cl a0 h := by kernel_rfl
theorem S15 {n : Nat} {cl : CL} (hcl : OkCL Try.prog cl) {a0 : Value} {h h' : PH} {v : Value} (hx : F15 n cl a0 h = some (v, h')) : (enterable Try.prog 15 = true ∧ ACall Try.prog 15 [a0] h.abs (fun u k => u = v ∧ k = h'.abs)) ∧ Inv h h' :=
  exF_ok (Dk15 hcl) hmx Try.func15 (by kernel_rfl) ((E15 n cl a0 h).trans hx)
-- undergrowth/undergrowthref10.SameBools
noncomputable def F13_0 (n : Nat) (cl : CL) (v9 : Value) (r4 : Kt) (v5 : Value) (v7 : Value) (h : PH) : R :=
 vb (xAri Int.add v9 (vN 1)) fun v18 =>
 r4 [v5, v7, v18] h
noncomputable def F13_1 (n : Nat) (cl : CL) (v5 : Value) (v9 : Value) (v7 : Value) (r4 : Kt) (h : PH) : R :=
 vb (xIdxS 1 v5 v9) fun v13 =>
 vb (xIdxS 1 v7 v9) fun v14 =>
 vb (xLd v13 h) fun v15 =>
 vb (xLd v14 h) fun v16 =>
 vb (abin Try.prog .neq 4 (Operand.tmp 20) (Operand.tmp 24) v15 v16) fun v17 =>
 bite v17 (some (ff, h)) (F13_0 n cl v9 r4 v5 v7 h)
noncomputable def F13_2 (n : Nat) (cl : CL) (v5 : Value) (v9 : Value) (v7 : Value) (r4 : Kt) (h : PH) : R :=
 vb (xLenS v5) fun v11 =>
 vb (xCmp ilt v9 v11) fun v12 =>
 bite v12 (F13_1 n cl v5 v9 v7 r4 h) (some (tt, h))
noncomputable def F13_3 (n : Nat) (cl : CL) (r4 : Kt) (y4 : List Value) (h : PH) : R :=
 ucons y4 fun v5 y6 => ucons y6 fun v7 y8 => ucons y8 fun v9 y10 => F13_2 n cl v5 v9 v7 r4 h
noncomputable def F13 (n : Nat) (cl : CL) (a0 a1 : Value) (h : PH) : R :=
 vb (xLenS a0) fun v1 =>
 vb (xLenS a1) fun v2 =>
 vb (xCmp ine v1 v2) fun v3 =>
 bite v3 (some (ff, h)) (lp n (F13_3 n cl) [a0, a1, (vN 0)] h)
theorem E13 (n : Nat) (cl : CL) (a0 a1 : Value) (h : PH) : exF Try.prog n cl ⟨[], [], [(4, [0, 1, 5])], [(6, [0, 1, 2, 4, 5, 6, 3, 7, 8])], []⟩ Try.f13 [a0, a1] h = F13 n cl a0 a1 h := by kernel_rfl
theorem S13 {n : Nat} {cl : CL} (hcl : OkCL Try.prog cl) {a0 a1 : Value} {h h' : PH} {v : Value} (hx : F13 n cl a0 a1 h = some (v, h')) : (enterable Try.prog 13 = true ∧ ACall Try.prog 13 [a0, a1] h.abs (fun u k => u = v ∧ k = h'.abs)) ∧ Inv h h' :=
  exF_ok hcl hmx Try.func13 (by kernel_rfl) ((E13 n cl a0 a1 h).trans hx)
-- undergrowth/reach.Productive
noncomputable def F16_0 (n : Nat) (cl : CL) (v8 : Value) (v12 : Value) (v6 : Value) (r3 : Kt) (v10 : Value) (h : PH) : R :=
 vb (xIdxS 1 v8 v12) fun v15 =>
 vb (xLd v15 h) fun v16 =>
 vb (xCmp ine v16 (vM 0)) fun v17 =>
 hb (xBS 1 (bsRow Try.prog 34 1 [(0, v17)]) h) fun v18 h =>
 hb (xApp (appInfo Try.prog #[34, 34]) v6 v18 h) fun v19 h =>
 vb (xAri Int.add v12 (vN 1)) fun v20 =>
 r3 [v19, v8, v10, v20] h
noncomputable def F16_1 (n : Nat) (cl : CL) (v12 : Value) (v10 : Value) (v8 : Value) (v6 : Value) (r3 : Kt) (h : PH) : R :=
 vb (xCmp ilt v12 v10) fun v14 =>
 bite v14 (F16_0 n cl v8 v12 v6 r3 v10 h) (some (v6, h))
noncomputable def F16_2 (n : Nat) (cl : CL) (r3 : Kt) (y5 : List Value) (h : PH) : R :=
 ucons y5 fun v6 y7 => ucons y7 fun v8 y9 => ucons y9 fun v10 y11 => ucons y11 fun v12 y13 => F16_1 n cl v12 v10 v8 v6 r3 h
noncomputable def F16 (n : Nat) (cl : CL) (a0 : Value) (h : PH) : R :=
 hb (xBox a0 h) fun v1 h =>
 vb (xLdA 7 v1 h) fun v2 =>
 hb (fcall h (F11 n cl v2 (h.fzn))) fun v3 h =>
 vb (xLenS v3) fun v4 =>
 lp n (F16_2 n cl) [nils, v3, v4, (vN 0)] h
noncomputable def D16 (n : Nat) (cl : CL) : CL := fun f xs h => sw f 11 (ucons xs fun b0 xs => u0 xs (F11 n cl b0 h)) (cl f xs h)
theorem Dk16 {n : Nat} {cl : CL} (hcl : OkCL Try.prog cl) : OkCL Try.prog (D16 n cl) := by
  intro f xs h v h' hx
  rcases sw_ok hx with ⟨rfl, hx⟩ | hx
  · obtain ⟨_, _, rfl, hx⟩ := ucons_ok hx; obtain ⟨rfl, hx⟩ := u0_ok hx; exact S11 (n := n) (cl := cl) hcl hx
  exact hcl _ _ _ _ _ hx
theorem E16 (n : Nat) (cl : CL) (a0 : Value) (h : PH) : exF Try.prog n (D16 n cl) ⟨[], [11], [(3, [3, 7, 8, 9])], [], []⟩ Try.f16 [a0] h = F16 n cl a0 h := by kernel_rfl
theorem S16 {n : Nat} {cl : CL} (hcl : OkCL Try.prog cl) {a0 : Value} {h h' : PH} {v : Value} (hx : F16 n cl a0 h = some (v, h')) : (enterable Try.prog 16 = true ∧ ACall Try.prog 16 [a0] h.abs (fun u k => u = v ∧ k = h'.abs)) ∧ Inv h h' :=
  exF_ok (Dk16 hcl) hmx Try.func16 (by kernel_rfl) ((E16 n cl a0 h).trans hx)
-- undergrowth/undergrowthref10.Shortest
noncomputable def F19_0 (n : Nat) (cl : CL) (v11 : Value) (v13 : Value) (r5 : Kt) (v9 : Value) (h : PH) : R :=
 vb (xIdxS 1 v11 v13) fun v18 =>
 hb (xSt1 v18 (vM 0) h) fun _ h =>
 vb (xAri Int.add v13 (vN 1)) fun v19 =>
 r5 [v9, v11, v19] h
noncomputable def F19_1 (n : Nat) (cl : CL) (v47 : Value) (r12 : Kt) (v41 : Value) (v43 : Value) (v45 : Value) (h : PH) : R :=
 vb (xAri Int.add v47 (vN 1)) fun v49 =>
 r12 [v41, v43, v45, v49] h
noncomputable def F19_2 (n : Nat) (cl : CL) (v90 : Value) (r17 : Kt) (v78 : Value) (v80 : Value) (v82 : Value) (v84 : Value) (v86 : Value) (v88 : Value) (h : PH) : R :=
 vb (xAri Int.add v90 (vN 1)) fun v92 =>
 r17 [v78, v80, v82, v84, v86, v88, v92] h
noncomputable def F19_3 (n : Nat) (cl : CL) (v66 : Value) (k18 : Kt) (v56 : Value) (v58 : Value) (v60 : Value) (v62 : Value) (v64 : Value) (v68 : Value) (h : PH) : R :=
 vb (xAri Int.add v66 (vN 1)) fun v98 =>
 k18 [v56, v58, v60, v62, v64, v98, v68] h
noncomputable def F19_4 (n : Nat) (cl : CL) (v64 : Value) (v68 : Value) (v58 : Value) (v66 : Value) (k18 : Kt) (v56 : Value) (v60 : Value) (v62 : Value) (h : PH) : R :=
 vb (xFld 1 v64) fun v106 =>
 vb (xLd v106 h) fun v107 =>
 vb (xIdxS 1 v107 v68) fun v108 =>
 vb (xLd v108 h) fun v109 =>
 vb (xIdxS 1 v58 v109) fun v110 =>
 vb (xLd v110 h) fun v111 =>
 vb (xAri Int.add v66 v111) fun v112 =>
 k18 [v56, v58, v60, v62, v64, v112, v68] h
noncomputable def F19_5 (n : Nat) (cl : CL) (v64 : Value) (v68 : Value) (v58 : Value) (k18 : Kt) (v56 : Value) (v60 : Value) (v62 : Value) (v66 : Value) (h : PH) : R :=
 vb (xFld 1 v64) fun v99 =>
 vb (xLd v99 h) fun v100 =>
 vb (xIdxS 1 v100 v68) fun v101 =>
 vb (xLd v101 h) fun v102 =>
 vb (xIdxS 1 v58 v102) fun v103 =>
 vb (xLd v103 h) fun v104 =>
 vb (xCmp ilt v104 (vN 0)) fun v105 =>
 bite v105 (k18 [v56, v58, v60, v62, v64, (vM 0), v68] h) (F19_4 n cl v64 v68 v58 v66 k18 v56 v60 v62 h)
noncomputable def F19_6 (n : Nat) (cl : CL) (r17 : Kt) (y77 : List Value) (h : PH) : R :=
 ucons y77 fun v78 y79 => ucons y79 fun v80 y81 => ucons y81 fun v82 y83 => ucons y83 fun v84 y85 => ucons y85 fun v86 y87 => ucons y87 fun v88 y89 => ucons y89 fun v90 y91 => F19_2 n cl v90 r17 v78 v80 v82 v84 v86 v88 h
noncomputable def F19_7 (n : Nat) (cl : CL) (v64 : Value) (v68 : Value) (v66 : Value) (v56 : Value) (v58 : Value) (v60 : Value) (v62 : Value) (h : PH) (k18 : Kt) : R :=
 vb (xFld 1 v64) fun v93 =>
 vb (xLd v93 h) fun v94 =>
 vb (xIdxS 1 v94 v68) fun v95 =>
 vb (xLd v95 h) fun v96 =>
 vb (xCmp ilt v96 (vN 0)) fun v97 =>
 bite v97 (F19_3 n cl v66 k18 v56 v58 v60 v62 v64 v68 h) (F19_5 n cl v64 v68 v58 k18 v56 v60 v62 v66 h)
noncomputable def F19_8 (n : Nat) (cl : CL) (v122 : Value) (v116 : Value) (v124 : Value) (k13 : Kt) (v114 : Value) (v120 : Value) (h : PH) : R :=
 vb (xFld 0 v122) fun v143 =>
 vb (xLd v143 h) fun v144 =>
 vb (xIdxS 1 v116 v144) fun v145 =>
 hb (xSt1 v145 v124 h) fun _ h =>
 k13 [v114, v116, tt, v120] h
noncomputable def F19_9 (n : Nat) (cl : CL) (v124 : Value) (v116 : Value) (v122 : Value) (k13 : Kt) (v114 : Value) (v120 : Value) (v118 : Value) (h : PH) : R :=
 vb (xCmp (fun x y => ile y x) v124 (vN 0)) fun v126 =>
 vb (gd (isB true v126) (some v116)) fun v127 =>
 vb (gd (isB true v126) (xFld 0 v122)) fun v128 =>
 vb (gd (isB true v126) (xLd v128 h)) fun v129 =>
 vb (gd (isB true v126) (xIdxS 1 v127 v129)) fun v130 =>
 vb (gd (isB true v126) (xLd v130 h)) fun v131 =>
 vb (gd (isB true v126) (xCmp ilt v131 (vN 0))) fun v132 =>
 vb (gd (isB true v126) (some v132)) fun v133 =>
 vb (gd (isB false v133) (some v124)) fun v134 =>
 vb (gd (isB false v133) (some v116)) fun v135 =>
 vb (gd (isB false v133) (xFld 0 v122)) fun v136 =>
 vb (gd (isB false v133) (xLd v136 h)) fun v137 =>
 vb (gd (isB false v133) (xIdxS 1 v135 v137)) fun v138 =>
 vb (gd (isB false v133) (xLd v138 h)) fun v139 =>
 vb (gd (isB false v133) (xCmp ilt v134 v139)) fun v140 =>
 vb (gd (isB true v126) (xPick v133 tt v140)) fun v141 =>
 vb (xPick v126 v141 ff) fun v142 =>
 bite v142 (F19_8 n cl v122 v116 v124 k13 v114 v120 h) (k13 [v114, v116, v118, v120] h)
noncomputable def F19_10 (n : Nat) (cl : CL) (k13 : Kt) (y113 : List Value) (h : PH) : R :=
 ucons y113 fun v114 y115 => ucons y115 fun v116 y117 => ucons y117 fun v118 y119 => ucons y119 fun v120 y121 => ucons y121 fun v122 y123 => ucons y123 fun v124 y125 => F19_9 n cl v124 v116 v122 k13 v114 v120 v118 h
noncomputable def F19_11 (n : Nat) (cl : CL) (v66 : Value) (v56 : Value) (v58 : Value) (v60 : Value) (v62 : Value) (v64 : Value) (h : PH) (k26 : Kt) : R :=
 vb (xCmp (fun x y => ilt y x) v66 (vN 1000000000)) fun v146 =>
 bite v146 (k26 [v56, v58, v60, v62, v64, (vN 1000000000)] h) (k26 [v56, v58, v60, v62, v64, v66] h)
noncomputable def F19_12 (n : Nat) (cl : CL) (v64 : Value) (v68 : Value) (v66 : Value) (r17 : Kt) (v56 : Value) (v58 : Value) (v60 : Value) (v62 : Value) (k13 : Kt) (h : PH) : R :=
 vb (xFld 1 v64) fun v70 =>
 vb (xLd v70 h) fun v71 =>
 vb (xLenS v71) fun v72 =>
 vb (xCmp ilt v68 v72) fun v73 =>
 vb (gd (isB true v73) (some v66)) fun v74 =>
 vb (gd (isB true v73) (xCmp (fun x y => ile y x) v74 (vN 0))) fun v75 =>
 vb (xPick v73 v75 ff) fun v76 =>
 bite v76 (jn (F19_6 n cl r17) (F19_7 n cl v64 v68 v66 v56 v58 v60 v62 h)) (jn (F19_10 n cl k13) (F19_11 n cl v66 v56 v58 v60 v62 v64 h))
noncomputable def F19_13 (n : Nat) (cl : CL) (k13 : Kt) (r17 : Kt) (y55 : List Value) (h : PH) : R :=
 ucons y55 fun v56 y57 => ucons y57 fun v58 y59 => ucons y59 fun v60 y61 => ucons y61 fun v62 y63 => ucons y63 fun v64 y65 => ucons y65 fun v66 y67 => ucons y67 fun v68 y69 => F19_12 n cl v64 v68 v66 r17 v56 v58 v60 v62 k13 h
noncomputable def F19_14 (n : Nat) (cl : CL) (r12 : Kt) (y40 : List Value) (h : PH) : R :=
 ucons y40 fun v41 y42 => ucons y42 fun v43 y44 => ucons y44 fun v45 y46 => ucons y46 fun v47 y48 => F19_1 n cl v47 r12 v41 v43 v45 h
noncomputable def F19_15 (n : Nat) (cl : CL) (v28 : Value) (v34 : Value) (v30 : Value) (v32 : Value) (h : PH) (k13 : Kt) : R :=
 vb (xFld 3 v28) fun v50 =>
 vb (xLd v50 h) fun v51 =>
 vb (xIdxS 3 v51 v34) fun v52 =>
 vb (xLdA 3 v52 h) fun v53 =>
 hb (xAlloc (zcells Try.prog 29) h) fun v54 h =>
 hb (xStA 3 v54 v53 h) fun _ h =>
 lp n (F19_13 n cl k13) [v28, v30, v32, v34, v54, (vN 0), (vN 0)] h
noncomputable def F19_16 (n : Nat) (cl : CL) (v28 : Value) (v34 : Value) (r12 : Kt) (v30 : Value) (v32 : Value) (r9 : Kt) (h : PH) : R :=
 vb (xFld 3 v28) fun v36 =>
 vb (xLd v36 h) fun v37 =>
 vb (xLenS v37) fun v38 =>
 vb (xCmp ilt v34 v38) fun v39 =>
 bite v39 (jn (F19_14 n cl r12) (F19_15 n cl v28 v34 v30 v32 h)) (r9 [v28, v30, v32] h)
noncomputable def F19_17 (n : Nat) (cl : CL) (r9 : Kt) (r12 : Kt) (y27 : List Value) (h : PH) : R :=
 ucons y27 fun v28 y29 => ucons y29 fun v30 y31 => ucons y31 fun v32 y33 => ucons y33 fun v34 y35 => F19_16 n cl v28 v34 r12 v30 v32 r9 h
noncomputable def F19_18 (n : Nat) (cl : CL) (r9 : Kt) (y20 : List Value) (h : PH) : R :=
 ucons y20 fun v21 y22 => ucons y22 fun v23 y24 => ucons y24 fun v25 y26 => bite v25 (lp n (F19_17 n cl r9) [v21, v23, ff, (vN 0)] h) (some (v23, h))
noncomputable def F19_19 (n : Nat) (cl : CL) (v9 : Value) (v13 : Value) (v11 : Value) (r5 : Kt) (h : PH) : R :=
 vb (xFld 0 v9) fun v15 =>
 vb (xLd v15 h) fun v16 =>
 vb (xCmp ilt v13 v16) fun v17 =>
 bite v17 (F19_0 n cl v11 v13 r5 v9 h) (lp n (F19_18 n cl) [v9, v11, tt] h)
noncomputable def F19_20 (n : Nat) (cl : CL) (r5 : Kt) (y8 : List Value) (h : PH) : R :=
 ucons y8 fun v9 y10 => ucons y10 fun v11 y12 => ucons y12 fun v13 y14 => F19_19 n cl v9 v13 v11 r5 h
noncomputable def F19_21 (n : Nat) (cl : CL) (v1 : Value) (h : PH) : R :=
 vb (xFld 0 v1) fun v5 =>
 vb (xLd v5 h) fun v6 =>
 hb (xMk (zinfo Try.prog 25) v6 v6 h) fun v7 h =>
 lp n (F19_20 n cl) [v1, v7, (vN 0)] h
noncomputable def F19 (n : Nat) (cl : CL) (a0 : Value) (h : PH) : R :=
 hb (xBox a0 h) fun v1 h =>
 vb (xLdA 7 v1 h) fun v2 =>
 vb (pcall (F30 n cl v2 (h.fzn))) fun v3 =>
 vb (xNot v3) fun v4 =>
 bite v4 (some (nils, h)) (F19_21 n cl v1 h)
noncomputable def D19 (n : Nat) (cl : CL) : CL := fun f xs h => sw f 30 (ucons xs fun b0 xs => u0 xs (F30 n cl b0 h)) (cl f xs h)
theorem Dk19 {n : Nat} {cl : CL} (hcl : OkCL Try.prog cl) : OkCL Try.prog (D19 n cl) := by
  intro f xs h v h' hx
  rcases sw_ok hx with ⟨rfl, hx⟩ | hx
  · obtain ⟨_, _, rfl, hx⟩ := ucons_ok hx; obtain ⟨rfl, hx⟩ := u0_ok hx; exact S30 (n := n) (cl := cl) hcl hx
  exact hcl _ _ _ _ _ hx
theorem E19 (n : Nat) (cl : CL) (a0 : Value) (h : PH) : exF Try.prog n (D19 n cl) ⟨[30], [], [(5, [1, 3, 4]), (9, [1, 3, 5]), (12, [1, 3, 5, 6]), (13, [1, 3, 5, 6]), (17, [1, 3, 5, 6, 7, 8, 9]), (18, [1, 3, 5, 6, 7, 8, 9]), (26, [1, 3, 5, 6, 7, 8])], [], []⟩ Try.f19 [a0] h = F19 n cl a0 h := by kernel_rfl
theorem S19 {n : Nat} {cl : CL} (hcl : OkCL Try.prog cl) {a0 : Value} {h h' : PH} {v : Value} (hx : F19 n cl a0 h = some (v, h')) : (enterable Try.prog 19 = true ∧ ACall Try.prog 19 [a0] h.abs (fun u k => u = v ∧ k = h'.abs)) ∧ Inv h h' :=
  exF_ok (Dk19 hcl) hmx Try.func19 (by kernel_rfl) ((E19 n cl a0 h).trans hx)
-- undergrowth/undergrowthref10.Productive
noncomputable def F17_0 (n : Nat) (cl : CL) (v8 : Value) (v12 : Value) (v10 : Value) (r6 : Kt) (h : PH) : R :=
 vb (xIdxS 1 v8 v12) fun v16 =>
 vb (xLd v16 h) fun v17 =>
 vb (xCmp (fun x y => ile y x) v17 (vN 0)) fun v18 =>
 hb (xBS 1 (bsRow Try.prog 34 1 [(0, v18)]) h) fun v19 h =>
 hb (xApp (appInfo Try.prog #[34, 34]) v10 v19 h) fun v20 h =>
 vb (xAri Int.add v12 (vN 1)) fun v21 =>
 r6 [v8, v20, v21] h
noncomputable def F17_1 (n : Nat) (cl : CL) (v8 : Value) (v12 : Value) (v10 : Value) (r6 : Kt) (h : PH) : R :=
 vb (xLenS v8) fun v14 =>
 vb (xCmp ilt v12 v14) fun v15 =>
 bite v15 (F17_0 n cl v8 v12 v10 r6 h) (some (v10, h))
noncomputable def F17_2 (n : Nat) (cl : CL) (r6 : Kt) (y7 : List Value) (h : PH) : R :=
 ucons y7 fun v8 y9 => ucons y9 fun v10 y11 => ucons y11 fun v12 y13 => F17_1 n cl v8 v12 v10 r6 h
noncomputable def F17_3 (n : Nat) (cl : CL) (v1 : Value) (h : PH) : R :=
 vb (xLdA 7 v1 h) fun v5 =>
 hb (fcall h (F19 n cl v5 (h.fzn))) fun v6 h =>
 lp n (F17_2 n cl) [v6, nils, (vN 0)] h
noncomputable def F17 (n : Nat) (cl : CL) (a0 : Value) (h : PH) : R :=
 hb (xBox a0 h) fun v1 h =>
 vb (xLdA 7 v1 h) fun v2 =>
 vb (pcall (F30 n cl v2 (h.fzn))) fun v3 =>
 vb (xNot v3) fun v4 =>
 bite v4 (some (nils, h)) (F17_3 n cl v1 h)
noncomputable def D17 (n : Nat) (cl : CL) : CL := fun f xs h => sw f 30 (ucons xs fun b0 xs => u0 xs (F30 n cl b0 h)) (sw f 19 (ucons xs fun b0 xs => u0 xs (F19 n cl b0 h)) (cl f xs h))
theorem Dk17 {n : Nat} {cl : CL} (hcl : OkCL Try.prog cl) : OkCL Try.prog (D17 n cl) := by
  intro f xs h v h' hx
  rcases sw_ok hx with ⟨rfl, hx⟩ | hx
  · obtain ⟨_, _, rfl, hx⟩ := ucons_ok hx; obtain ⟨rfl, hx⟩ := u0_ok hx; exact S30 (n := n) (cl := cl) hcl hx
  rcases sw_ok hx with ⟨rfl, hx⟩ | hx
  · obtain ⟨_, _, rfl, hx⟩ := ucons_ok hx; obtain ⟨rfl, hx⟩ := u0_ok hx; exact S19 (n := n) (cl := cl) hcl hx
  exact hcl _ _ _ _ _ hx
theorem E17 (n : Nat) (cl : CL) (a0 : Value) (h : PH) : exF Try.prog n (D17 n cl) ⟨[30], [19], [(6, [3, 4, 5])], [], []⟩ Try.f17 [a0] h = F17 n cl a0 h := by kernel_rfl
theorem S17 {n : Nat} {cl : CL} (hcl : OkCL Try.prog cl) {a0 : Value} {h h' : PH} {v : Value} (hx : F17 n cl a0 h = some (v, h')) : (enterable Try.prog 17 = true ∧ ACall Try.prog 17 [a0] h.abs (fun u k => u = v ∧ k = h'.abs)) ∧ Inv h h' :=
  exF_ok (Dk17 hcl) hmx Try.func17 (by kernel_rfl) ((E17 n cl a0 h).trans hx)
-- undergrowth/undergrowthref1.SameInts
noncomputable def F18_0 (n : Nat) (cl : CL) (v9 : Value) (r4 : Kt) (v5 : Value) (v7 : Value) (h : PH) : R :=
 vb (xAri Int.add v9 (vN 1)) fun v18 =>
 r4 [v5, v7, v18] h
noncomputable def F18_1 (n : Nat) (cl : CL) (v5 : Value) (v9 : Value) (v7 : Value) (r4 : Kt) (h : PH) : R :=
 vb (xIdxS 1 v5 v9) fun v13 =>
 vb (xIdxS 1 v7 v9) fun v14 =>
 vb (xLd v13 h) fun v15 =>
 vb (xLd v14 h) fun v16 =>
 vb (xCmp ine v15 v16) fun v17 =>
 bite v17 (some (ff, h)) (F18_0 n cl v9 r4 v5 v7 h)
noncomputable def F18_2 (n : Nat) (cl : CL) (v5 : Value) (v9 : Value) (v7 : Value) (r4 : Kt) (h : PH) : R :=
 vb (xLenS v5) fun v11 =>
 vb (xCmp ilt v9 v11) fun v12 =>
 bite v12 (F18_1 n cl v5 v9 v7 r4 h) (some (tt, h))
noncomputable def F18_3 (n : Nat) (cl : CL) (r4 : Kt) (y4 : List Value) (h : PH) : R :=
 ucons y4 fun v5 y6 => ucons y6 fun v7 y8 => ucons y8 fun v9 y10 => F18_2 n cl v5 v9 v7 r4 h
noncomputable def F18 (n : Nat) (cl : CL) (a0 a1 : Value) (h : PH) : R :=
 vb (xLenS a0) fun v1 =>
 vb (xLenS a1) fun v2 =>
 vb (xCmp ine v1 v2) fun v3 =>
 bite v3 (some (ff, h)) (lp n (F18_3 n cl) [a0, a1, (vN 0)] h)
theorem E18 (n : Nat) (cl : CL) (a0 a1 : Value) (h : PH) : exF Try.prog n cl ⟨[], [], [(4, [0, 1, 5])], [(6, [0, 1, 2, 4, 5, 6, 3, 7, 8])], []⟩ Try.f18 [a0, a1] h = F18 n cl a0 a1 h := by kernel_rfl
theorem S18 {n : Nat} {cl : CL} (hcl : OkCL Try.prog cl) {a0 a1 : Value} {h h' : PH} {v : Value} (hx : F18 n cl a0 a1 h = some (v, h')) : (enterable Try.prog 18 = true ∧ ACall Try.prog 18 [a0, a1] h.abs (fun u k => u = v ∧ k = h'.abs)) ∧ Inv h h' :=
  exF_ok hcl hmx Try.func18 (by kernel_rfl) ((E18 n cl a0 a1 h).trans hx)
-- undergrowth/undergrowthlaw12.ReachTells
noncomputable def F4_0 (n : Nat) (cl : CL) (v1 : Value) (h : PH) : R :=
 nb h fun m8 =>
 vb (xLdA 7 v1 h) fun v9 =>
 vb (oldB m8 v1 (xLdA 7 v1 h)) fun v10 =>
 hb (fcall h (F14 n cl v9 (h.fzn))) fun v11 h =>
 hb (fcall h (F15 n cl v10 (h.fzn))) fun v12 h =>
 vb (pcall (F13 n cl v11 v12 (h.fzn))) fun v13 =>
 vb (gd (isB true v13) (xLdA 7 v1 h)) fun v14 =>
 vb (gd (isB true v13) (oldB m8 v1 (xLdA 7 v1 h))) fun v15 =>
 hb (gh (isB true v13) h (fcall h (F16 n cl v14 (h.fzn)))) fun v16 h =>
 hb (gh (isB true v13) h (fcall h (F17 n cl v15 (h.fzn)))) fun v17 h =>
 vb (gd (isB true v13) (pcall (F13 n cl v16 v17 (h.fzn)))) fun v18 =>
 vb (xPick v13 v18 ff) fun v19 =>
 vb (gd (isB true v19) (xLdA 7 v1 h)) fun v20 =>
 vb (gd (isB true v19) (oldB m8 v1 (xLdA 7 v1 h))) fun v21 =>
 hb (gh (isB true v19) h (fcall h (F11 n cl v20 (h.fzn)))) fun v22 h =>
 hb (gh (isB true v19) h (fcall h (F19 n cl v21 (h.fzn)))) fun v23 h =>
 vb (gd (isB true v19) (pcall (F18 n cl v22 v23 (h.fzn)))) fun v24 =>
 vb (xPick v19 v24 ff) fun v25 =>
 some (v25, h)
noncomputable def F4 (n : Nat) (cl : CL) (a0 : Value) (h : PH) : R :=
 hb (xBox a0 h) fun v1 h =>
 vb (pcall (F10 n cl (h.fzn))) fun v2 =>
 vb (xNot v2) fun v3 =>
 vb (gd (isB false v3) (xLdA 7 v1 h)) fun v4 =>
 vb (gd (isB false v3) (pcall (F12 n cl v4 (h.fzn)))) fun v5 =>
 vb (gd (isB false v3) (xNot v5)) fun v6 =>
 vb (xPick v3 tt v6) fun v7 =>
 bite v7 (some (v2, h)) (F4_0 n cl v1 h)
noncomputable def D4 (n : Nat) (cl : CL) : CL := fun f xs h => sw f 10 (u0 xs (F10 n cl h)) (sw f 12 (ucons xs fun b0 xs => u0 xs (F12 n cl b0 h)) (sw f 14 (ucons xs fun b0 xs => u0 xs (F14 n cl b0 h)) (sw f 15 (ucons xs fun b0 xs => u0 xs (F15 n cl b0 h)) (sw f 13 (ucons xs fun b0 xs => ucons xs fun b1 xs => u0 xs (F13 n cl b0 b1 h)) (sw f 16 (ucons xs fun b0 xs => u0 xs (F16 n cl b0 h)) (sw f 17 (ucons xs fun b0 xs => u0 xs (F17 n cl b0 h)) (sw f 11 (ucons xs fun b0 xs => u0 xs (F11 n cl b0 h)) (sw f 19 (ucons xs fun b0 xs => u0 xs (F19 n cl b0 h)) (sw f 18 (ucons xs fun b0 xs => ucons xs fun b1 xs => u0 xs (F18 n cl b0 b1 h)) (cl f xs h))))))))))
theorem Dk4 {n : Nat} {cl : CL} (hcl : OkCL Try.prog cl) : OkCL Try.prog (D4 n cl) := by
  intro f xs h v h' hx
  rcases sw_ok hx with ⟨rfl, hx⟩ | hx
  · obtain ⟨rfl, hx⟩ := u0_ok hx; exact S10 (n := n) (cl := cl) hcl hx
  rcases sw_ok hx with ⟨rfl, hx⟩ | hx
  · obtain ⟨_, _, rfl, hx⟩ := ucons_ok hx; obtain ⟨rfl, hx⟩ := u0_ok hx; exact S12 (n := n) (cl := cl) hcl hx
  rcases sw_ok hx with ⟨rfl, hx⟩ | hx
  · obtain ⟨_, _, rfl, hx⟩ := ucons_ok hx; obtain ⟨rfl, hx⟩ := u0_ok hx; exact S14 (n := n) (cl := cl) hcl hx
  rcases sw_ok hx with ⟨rfl, hx⟩ | hx
  · obtain ⟨_, _, rfl, hx⟩ := ucons_ok hx; obtain ⟨rfl, hx⟩ := u0_ok hx; exact S15 (n := n) (cl := cl) hcl hx
  rcases sw_ok hx with ⟨rfl, hx⟩ | hx
  · obtain ⟨_, _, rfl, hx⟩ := ucons_ok hx; obtain ⟨_, _, rfl, hx⟩ := ucons_ok hx; obtain ⟨rfl, hx⟩ := u0_ok hx; exact S13 (n := n) (cl := cl) hcl hx
  rcases sw_ok hx with ⟨rfl, hx⟩ | hx
  · obtain ⟨_, _, rfl, hx⟩ := ucons_ok hx; obtain ⟨rfl, hx⟩ := u0_ok hx; exact S16 (n := n) (cl := cl) hcl hx
  rcases sw_ok hx with ⟨rfl, hx⟩ | hx
  · obtain ⟨_, _, rfl, hx⟩ := ucons_ok hx; obtain ⟨rfl, hx⟩ := u0_ok hx; exact S17 (n := n) (cl := cl) hcl hx
  rcases sw_ok hx with ⟨rfl, hx⟩ | hx
  · obtain ⟨_, _, rfl, hx⟩ := ucons_ok hx; obtain ⟨rfl, hx⟩ := u0_ok hx; exact S11 (n := n) (cl := cl) hcl hx
  rcases sw_ok hx with ⟨rfl, hx⟩ | hx
  · obtain ⟨_, _, rfl, hx⟩ := ucons_ok hx; obtain ⟨rfl, hx⟩ := u0_ok hx; exact S19 (n := n) (cl := cl) hcl hx
  rcases sw_ok hx with ⟨rfl, hx⟩ | hx
  · obtain ⟨_, _, rfl, hx⟩ := ucons_ok hx; obtain ⟨_, _, rfl, hx⟩ := ucons_ok hx; obtain ⟨rfl, hx⟩ := u0_ok hx; exact S18 (n := n) (cl := cl) hcl hx
  exact hcl _ _ _ _ _ hx
theorem E4 (n : Nat) (cl : CL) (a0 : Value) (h : PH) : exF Try.prog n (D4 n cl) ⟨[10, 12, 13, 18], [11, 14, 15, 16, 17, 19], [], [(4, [0, 2, 1, 3, 4, 5, 6, 8, 7, 9, 10, 11, 12, 13, 15, 14, 16, 17, 18, 19])], [(4, [1, 2, 7, 8, 14, 15])]⟩ Try.f4 [a0] h = F4 n cl a0 h := by kernel_rfl
theorem S4 {n : Nat} {cl : CL} (hcl : OkCL Try.prog cl) {a0 : Value} {h h' : PH} {v : Value} (hx : F4 n cl a0 h = some (v, h')) : (enterable Try.prog 4 = true ∧ ACall Try.prog 4 [a0] h.abs (fun u k => u = v ∧ k = h'.abs)) ∧ Inv h h' :=
  exF_ok (Dk4 hcl) hmx Try.func4 (by kernel_rfl) ((E4 n cl a0 h).trans hx)
-- undergrowth/undergrowthlaw12.ReachShort
noncomputable def F5_0 (n : Nat) (cl : CL) (v91 : Value) (r16 : Kt) (v77 : Value) (v79 : Value) (v81 : Value) (v83 : Value) (v85 : Value) (v87 : Value) (v89 : Value) (h : PH) : R :=
 vb (xAri Int.add v91 (vN 1)) fun v93 =>
 r16 [v77, v79, v81, v83, v85, v87, v89, v93] h
noncomputable def F5_1 (n : Nat) (cl : CL) (v65 : Value) (k17 : Kt) (v53 : Value) (v55 : Value) (v57 : Value) (v59 : Value) (v61 : Value) (v63 : Value) (v67 : Value) (h : PH) : R :=
 vb (xAri Int.add v65 (vN 1)) fun v99 =>
 k17 [v53, v55, v57, v59, v61, v63, v99, v67] h
noncomputable def F5_2 (n : Nat) (cl : CL) (v63 : Value) (v67 : Value) (v55 : Value) (v65 : Value) (k17 : Kt) (v53 : Value) (v57 : Value) (v59 : Value) (v61 : Value) (h : PH) : R :=
 vb (xFld 1 v63) fun v107 =>
 vb (xLd v107 h) fun v108 =>
 vb (xIdxS 1 v108 v67) fun v109 =>
 vb (xLd v109 h) fun v110 =>
 vb (xIdxS 1 v55 v110) fun v111 =>
 vb (xLd v111 h) fun v112 =>
 vb (xAri Int.add v65 v112) fun v113 =>
 k17 [v53, v55, v57, v59, v61, v63, v113, v67] h
noncomputable def F5_3 (n : Nat) (cl : CL) (v63 : Value) (v67 : Value) (v55 : Value) (k17 : Kt) (v53 : Value) (v57 : Value) (v59 : Value) (v61 : Value) (v65 : Value) (h : PH) : R :=
 vb (xFld 1 v63) fun v100 =>
 vb (xLd v100 h) fun v101 =>
 vb (xIdxS 1 v101 v67) fun v102 =>
 vb (xLd v102 h) fun v103 =>
 vb (xIdxS 1 v55 v103) fun v104 =>
 vb (xLd v104 h) fun v105 =>
 vb (xCmp ilt v105 (vN 0)) fun v106 =>
 bite v106 (k17 [v53, v55, v57, v59, v61, v63, (vM 0), v67] h) (F5_2 n cl v63 v67 v55 v65 k17 v53 v57 v59 v61 h)
noncomputable def F5_4 (n : Nat) (cl : CL) (r16 : Kt) (y76 : List Value) (h : PH) : R :=
 ucons y76 fun v77 y78 => ucons y78 fun v79 y80 => ucons y80 fun v81 y82 => ucons y82 fun v83 y84 => ucons y84 fun v85 y86 => ucons y86 fun v87 y88 => ucons y88 fun v89 y90 => ucons y90 fun v91 y92 => F5_0 n cl v91 r16 v77 v79 v81 v83 v85 v87 v89 h
noncomputable def F5_5 (n : Nat) (cl : CL) (v63 : Value) (v67 : Value) (v65 : Value) (v53 : Value) (v55 : Value) (v57 : Value) (v59 : Value) (v61 : Value) (h : PH) (k17 : Kt) : R :=
 vb (xFld 1 v63) fun v94 =>
 vb (xLd v94 h) fun v95 =>
 vb (xIdxS 1 v95 v67) fun v96 =>
 vb (xLd v96 h) fun v97 =>
 vb (xCmp ilt v97 (vN 0)) fun v98 =>
 bite v98 (F5_1 n cl v65 k17 v53 v55 v57 v59 v61 v63 v67 h) (F5_3 n cl v63 v67 v55 k17 v53 v57 v59 v61 v65 h)
noncomputable def F5_6 (n : Nat) (cl : CL) (v125 : Value) (v121 : Value) (v127 : Value) (v117 : Value) (v123 : Value) (r11 : Kt) (v115 : Value) (v119 : Value) (h : PH) : R :=
 vb (xFld 0 v125) fun v146 =>
 vb (xFld 0 v125) fun v147 =>
 vb (xLd v146 h) fun v148 =>
 vb (xLd v147 h) fun v149 =>
 vb (xIdxS 1 v121 v149) fun v150 =>
 vb (xLd v150 h) fun v151 =>
 vb (gd (isB false v151) (some v127)) fun v152 =>
 vb (gd (isB false v151) (xCmp (fun x y => ile y x) v152 (vN 0))) fun v153 =>
 vb (gd (isB false v151) (some v153)) fun v154 =>
 vb (gd (isB true v154) (some v127)) fun v155 =>
 vb (gd (isB true v154) (some v117)) fun v156 =>
 vb (gd (isB true v154) (xFld 0 v125)) fun v157 =>
 vb (gd (isB true v154) (xLd v157 h)) fun v158 =>
 vb (gd (isB true v154) (xIdxS 1 v156 v158)) fun v159 =>
 vb (gd (isB true v154) (xLd v159 h)) fun v160 =>
 vb (gd (isB true v154) (xCmp ieq v155 v160)) fun v161 =>
 vb (gd (isB false v151) (xPick v154 v161 ff)) fun v162 =>
 vb (xPick v151 tt v162) fun v163 =>
 vb (xIdxS 1 v121 v148) fun v164 =>
 hb (xSt1 v164 v163 h) fun _ h =>
 vb (xAri Int.add v123 (vN 1)) fun v165 =>
 r11 [v115, v117, v119, v121, v165] h
noncomputable def F5_7 (n : Nat) (cl : CL) (v127 : Value) (v117 : Value) (v125 : Value) (v121 : Value) (v123 : Value) (r11 : Kt) (v115 : Value) (v119 : Value) (h : PH) : R :=
 vb (xCmp (fun x y => ile y x) v127 (vN 0)) fun v129 =>
 vb (gd (isB true v129) (some v117)) fun v130 =>
 vb (gd (isB true v129) (xFld 0 v125)) fun v131 =>
 vb (gd (isB true v129) (xLd v131 h)) fun v132 =>
 vb (gd (isB true v129) (xIdxS 1 v130 v132)) fun v133 =>
 vb (gd (isB true v129) (xLd v133 h)) fun v134 =>
 vb (gd (isB true v129) (xCmp ilt v134 (vN 0))) fun v135 =>
 vb (gd (isB true v129) (some v135)) fun v136 =>
 vb (gd (isB false v136) (some v127)) fun v137 =>
 vb (gd (isB false v136) (some v117)) fun v138 =>
 vb (gd (isB false v136) (xFld 0 v125)) fun v139 =>
 vb (gd (isB false v136) (xLd v139 h)) fun v140 =>
 vb (gd (isB false v136) (xIdxS 1 v138 v140)) fun v141 =>
 vb (gd (isB false v136) (xLd v141 h)) fun v142 =>
 vb (gd (isB false v136) (xCmp ilt v137 v142)) fun v143 =>
 vb (gd (isB true v129) (xPick v136 tt v143)) fun v144 =>
 vb (xPick v129 v144 ff) fun v145 =>
 bite v145 (some (ff, h)) (F5_6 n cl v125 v121 v127 v117 v123 r11 v115 v119 h)
noncomputable def F5_8 (n : Nat) (cl : CL) (r11 : Kt) (y114 : List Value) (h : PH) : R :=
 ucons y114 fun v115 y116 => ucons y116 fun v117 y118 => ucons y118 fun v119 y120 => ucons y120 fun v121 y122 => ucons y122 fun v123 y124 => ucons y124 fun v125 y126 => ucons y126 fun v127 y128 => F5_7 n cl v127 v117 v125 v121 v123 r11 v115 v119 h
noncomputable def F5_9 (n : Nat) (cl : CL) (v65 : Value) (v53 : Value) (v55 : Value) (v57 : Value) (v59 : Value) (v61 : Value) (v63 : Value) (h : PH) (k25 : Kt) : R :=
 vb (xCmp (fun x y => ilt y x) v65 (vN 1000000000)) fun v166 =>
 bite v166 (k25 [v53, v55, v57, v59, v61, v63, (vN 1000000000)] h) (k25 [v53, v55, v57, v59, v61, v63, v65] h)
noncomputable def F5_10 (n : Nat) (cl : CL) (v63 : Value) (v67 : Value) (v65 : Value) (r16 : Kt) (v53 : Value) (v55 : Value) (v57 : Value) (v59 : Value) (v61 : Value) (r11 : Kt) (h : PH) : R :=
 vb (xFld 1 v63) fun v69 =>
 vb (xLd v69 h) fun v70 =>
 vb (xLenS v70) fun v71 =>
 vb (xCmp ilt v67 v71) fun v72 =>
 vb (gd (isB true v72) (some v65)) fun v73 =>
 vb (gd (isB true v72) (xCmp (fun x y => ile y x) v73 (vN 0))) fun v74 =>
 vb (xPick v72 v74 ff) fun v75 =>
 bite v75 (jn (F5_4 n cl r16) (F5_5 n cl v63 v67 v65 v53 v55 v57 v59 v61 h)) (jn (F5_8 n cl r11) (F5_9 n cl v65 v53 v55 v57 v59 v61 v63 h))
noncomputable def F5_11 (n : Nat) (cl : CL) (r11 : Kt) (r16 : Kt) (y52 : List Value) (h : PH) : R :=
 ucons y52 fun v53 y54 => ucons y54 fun v55 y56 => ucons y56 fun v57 y58 => ucons y58 fun v59 y60 => ucons y60 fun v61 y62 => ucons y62 fun v63 y64 => ucons y64 fun v65 y66 => ucons y66 fun v67 y68 => F5_10 n cl v63 v67 v65 r16 v53 v55 v57 v59 v61 r11 h
noncomputable def F5_12 (n : Nat) (cl : CL) (v33 : Value) (v41 : Value) (r11 : Kt) (v35 : Value) (v37 : Value) (v39 : Value) (h : PH) : R :=
 vb (xFld 3 v33) fun v47 =>
 vb (xLd v47 h) fun v48 =>
 vb (xIdxS 3 v48 v41) fun v49 =>
 vb (xLdA 3 v49 h) fun v50 =>
 hb (xAlloc (zcells Try.prog 29) h) fun v51 h =>
 hb (xStA 3 v51 v50 h) fun _ h =>
 lp n (F5_11 n cl r11) [v33, v35, v37, v39, v41, v51, (vN 0), (vN 0)] h
noncomputable def F5_13 (n : Nat) (cl : CL) (v176 : Value) (r29 : Kt) (v168 : Value) (v170 : Value) (v172 : Value) (v174 : Value) (h : PH) : R :=
 vb (xAri Int.add v176 (vN 1)) fun v199 =>
 r29 [v168, v170, v172, v174, v199] h
noncomputable def F5_14 (n : Nat) (cl : CL) (v172 : Value) (v176 : Value) (v170 : Value) (v174 : Value) (r29 : Kt) (v168 : Value) (h : PH) : R :=
 vb (xIdxS 1 v172 v176) fun v181 =>
 vb (xIdxS 1 v170 v176) fun v182 =>
 vb (xLd v181 h) fun v183 =>
 vb (xLd v182 h) fun v184 =>
 vb (xCmp (fun x y => ile y x) v184 (vN 0)) fun v185 =>
 vb (abin Try.prog .neq 4 (Operand.tmp 155) (Operand.tmp 160) v183 v185) fun v186 =>
 vb (gd (isB false v186) (some v172)) fun v187 =>
 vb (gd (isB false v186) (some v176)) fun v188 =>
 vb (gd (isB false v186) (xIdxS 1 v187 v188)) fun v189 =>
 vb (gd (isB false v186) (xLd v189 h)) fun v190 =>
 vb (gd (isB false v186) (some v190)) fun v191 =>
 vb (gd (isB true v191) (some v174)) fun v192 =>
 vb (gd (isB true v191) (some v176)) fun v193 =>
 vb (gd (isB true v191) (xIdxS 1 v192 v193)) fun v194 =>
 vb (gd (isB true v191) (xLd v194 h)) fun v195 =>
 vb (gd (isB true v191) (xNot v195)) fun v196 =>
 vb (gd (isB false v186) (xPick v191 v196 ff)) fun v197 =>
 vb (xPick v186 tt v197) fun v198 =>
 bite v198 (some (ff, h)) (F5_13 n cl v176 r29 v168 v170 v172 v174 h)
noncomputable def F5_15 (n : Nat) (cl : CL) (v168 : Value) (v176 : Value) (v172 : Value) (v170 : Value) (v174 : Value) (r29 : Kt) (h : PH) : R :=
 vb (xFld 0 v168) fun v178 =>
 vb (xLd v178 h) fun v179 =>
 vb (xCmp ilt v176 v179) fun v180 =>
 bite v180 (F5_14 n cl v172 v176 v170 v174 r29 v168 h) (some (tt, h))
noncomputable def F5_16 (n : Nat) (cl : CL) (r29 : Kt) (y167 : List Value) (h : PH) : R :=
 ucons y167 fun v168 y169 => ucons y169 fun v170 y171 => ucons y171 fun v172 y173 => ucons y173 fun v174 y175 => ucons y175 fun v176 y177 => F5_15 n cl v168 v176 v172 v170 v174 r29 h
noncomputable def F5_17 (n : Nat) (cl : CL) (v33 : Value) (v41 : Value) (r11 : Kt) (v35 : Value) (v37 : Value) (v39 : Value) (h : PH) : R :=
 vb (xFld 3 v33) fun v43 =>
 vb (xLd v43 h) fun v44 =>
 vb (xLenS v44) fun v45 =>
 vb (xCmp ilt v41 v45) fun v46 =>
 bite v46 (F5_12 n cl v33 v41 r11 v35 v37 v39 h) (lp n (F5_16 n cl) [v33, v35, v37, v39, (vN 0)] h)
noncomputable def F5_18 (n : Nat) (cl : CL) (r11 : Kt) (y32 : List Value) (h : PH) : R :=
 ucons y32 fun v33 y34 => ucons y34 fun v35 y36 => ucons y36 fun v37 y38 => ucons y38 fun v39 y40 => ucons y40 fun v41 y42 => F5_17 n cl v33 v41 r11 v35 v37 v39 h
noncomputable def F5_19 (n : Nat) (cl : CL) (v1 : Value) (v16 : Value) (v18 : Value) (h : PH) : R :=
 vb (xFld 0 v1) fun v29 =>
 vb (xLd v29 h) fun v30 =>
 hb (xMk (zinfo Try.prog 34) v30 v30 h) fun v31 h =>
 lp n (F5_18 n cl) [v1, v16, v18, v31, (vN 0)] h
noncomputable def F5_20 (n : Nat) (cl : CL) (v1 : Value) (h : PH) : R :=
 vb (xLdA 7 v1 h) fun v15 =>
 hb (fcall h (F11 n cl v15 (h.fzn))) fun v16 h =>
 vb (xLdA 7 v1 h) fun v17 =>
 hb (fcall h (F16 n cl v17 (h.fzn))) fun v18 h =>
 vb (xLenS v16) fun v19 =>
 vb (xFld 0 v1) fun v20 =>
 vb (xLd v20 h) fun v21 =>
 vb (xCmp ine v19 v21) fun v22 =>
 vb (gd (isB false v22) (some v18)) fun v23 =>
 vb (gd (isB false v22) (xLenS v23)) fun v24 =>
 vb (gd (isB false v22) (xFld 0 v1)) fun v25 =>
 vb (gd (isB false v22) (xLd v25 h)) fun v26 =>
 vb (gd (isB false v22) (xCmp ine v24 v26)) fun v27 =>
 vb (xPick v22 tt v27) fun v28 =>
 bite v28 (some (ff, h)) (F5_19 n cl v1 v16 v18 h)
noncomputable def F5 (n : Nat) (cl : CL) (a0 : Value) (h : PH) : R :=
 hb (xBox a0 h) fun v1 h =>
 vb (pcall (F10 n cl (h.fzn))) fun v2 =>
 vb (xLdA 7 v1 h) fun v3 =>
 vb (pcall (F20 n cl v3 (h.fzn))) fun v4 =>
 vb (xExt 0 v4) fun v5 =>
 vb (xExt 1 v4) fun v6 =>
 vb (xNot v2) fun v7 =>
 vb (gd (isB false v7) (xLdA 7 v1 h)) fun v8 =>
 vb (gd (isB false v7) (pcall (F12 n cl v8 (h.fzn)))) fun v9 =>
 vb (gd (isB false v7) (xNot v9)) fun v10 =>
 vb (xPick v7 tt v10) fun v11 =>
 vb (gd (isB false v11) (some v6)) fun v12 =>
 vb (gd (isB false v11) (xCmp ine v12 (vN 0))) fun v13 =>
 vb (xPick v11 tt v13) fun v14 =>
 bite v14 (some (v2, h)) (F5_20 n cl v1 h)
noncomputable def D5 (n : Nat) (cl : CL) : CL := fun f xs h => sw f 10 (u0 xs (F10 n cl h)) (sw f 20 (ucons xs fun b0 xs => u0 xs (F20 n cl b0 h)) (sw f 12 (ucons xs fun b0 xs => u0 xs (F12 n cl b0 h)) (sw f 11 (ucons xs fun b0 xs => u0 xs (F11 n cl b0 h)) (sw f 16 (ucons xs fun b0 xs => u0 xs (F16 n cl b0 h)) (cl f xs h)))))
theorem Dk5 {n : Nat} {cl : CL} (hcl : OkCL Try.prog cl) : OkCL Try.prog (D5 n cl) := by
  intro f xs h v h' hx
  rcases sw_ok hx with ⟨rfl, hx⟩ | hx
  · obtain ⟨rfl, hx⟩ := u0_ok hx; exact S10 (n := n) (cl := cl) hcl hx
  rcases sw_ok hx with ⟨rfl, hx⟩ | hx
  · obtain ⟨_, _, rfl, hx⟩ := ucons_ok hx; obtain ⟨rfl, hx⟩ := u0_ok hx; exact S20 (n := n) (cl := cl) hcl hx
  rcases sw_ok hx with ⟨rfl, hx⟩ | hx
  · obtain ⟨_, _, rfl, hx⟩ := ucons_ok hx; obtain ⟨rfl, hx⟩ := u0_ok hx; exact S12 (n := n) (cl := cl) hcl hx
  rcases sw_ok hx with ⟨rfl, hx⟩ | hx
  · obtain ⟨_, _, rfl, hx⟩ := ucons_ok hx; obtain ⟨rfl, hx⟩ := u0_ok hx; exact S11 (n := n) (cl := cl) hcl hx
  rcases sw_ok hx with ⟨rfl, hx⟩ | hx
  · obtain ⟨_, _, rfl, hx⟩ := ucons_ok hx; obtain ⟨rfl, hx⟩ := u0_ok hx; exact S16 (n := n) (cl := cl) hcl hx
  exact hcl _ _ _ _ _ hx
theorem E5 (n : Nat) (cl : CL) (a0 : Value) (h : PH) : exF Try.prog n (D5 n cl) ⟨[10, 12, 20], [11, 16], [(11, [1, 6, 7, 8, 9]), (16, [1, 6, 7, 8, 9, 10, 11, 12]), (17, [1, 6, 7, 8, 9, 10, 11, 12]), (25, [1, 6, 7, 8, 9, 10, 11]), (29, [1, 6, 7, 8, 13])], [(27, [0, 1, 3, 4, 2, 5, 6, 7, 8, 9, 10, 11, 12, 13, 14, 15, 16, 17, 18, 19, 20, 21, 22]), (31, [0, 1, 2, 4, 5, 6, 3, 7, 8, 9, 10, 11, 12, 13, 14, 15, 16, 17, 18, 19, 20, 21, 22])], []⟩ Try.f5 [a0] h = F5 n cl a0 h := by kernel_rfl
theorem S5 {n : Nat} {cl : CL} (hcl : OkCL Try.prog cl) {a0 : Value} {h h' : PH} {v : Value} (hx : F5 n cl a0 h = some (v, h')) : (enterable Try.prog 5 = true ∧ ACall Try.prog 5 [a0] h.abs (fun u k => u = v ∧ k = h'.abs)) ∧ Inv h h' :=
  exF_ok (Dk5 hcl) hmx Try.func5 (by kernel_rfl) ((E5 n cl a0 h).trans hx)
-- undergrowth/sets.empty
noncomputable def F48_0 (n : Nat) (cl : CL) (v12 : Value) (r2 : Kt) (v4 : Value) (v6 : Value) (v8 : Value) (v10 : Value) (h : PH) : R :=
 vb (xAri Int.add v12 (vN 1)) fun v26 =>
 r2 [v4, v6, v8, v10, v26] h
noncomputable def F48_1 (n : Nat) (cl : CL) (v8 : Value) (v12 : Value) (v6 : Value) (v4 : Value) (r2 : Kt) (v10 : Value) (h : PH) : R :=
 vb (xIdxS 1 v8 v12) fun v15 =>
 vb (xLd v15 h) fun v16 =>
 vb (xLdA 7 v6 h) fun v17 =>
 vb (pcall (F29 n cl v17 v16 (h.fzn))) fun v18 =>
 vb (xNot v18) fun v19 =>
 vb (gd (isB false v19) (some v4)) fun v20 =>
 vb (gd (isB false v19) (some v16)) fun v21 =>
 vb (gd (isB false v19) (xIdxS 1 v20 v21)) fun v22 =>
 vb (gd (isB false v19) (xLd v22 h)) fun v23 =>
 vb (gd (isB false v19) (xNot v23)) fun v24 =>
 vb (xPick v19 tt v24) fun v25 =>
 bite v25 (some (ff, h)) (F48_0 n cl v12 r2 v4 v6 v8 v10 h)
noncomputable def F48_2 (n : Nat) (cl : CL) (v12 : Value) (v10 : Value) (v8 : Value) (v6 : Value) (v4 : Value) (r2 : Kt) (h : PH) : R :=
 vb (xCmp ilt v12 v10) fun v14 =>
 bite v14 (F48_1 n cl v8 v12 v6 v4 r2 v10 h) (some (tt, h))
noncomputable def F48_3 (n : Nat) (cl : CL) (r2 : Kt) (y3 : List Value) (h : PH) : R :=
 ucons y3 fun v4 y5 => ucons y5 fun v6 y7 => ucons y7 fun v8 y9 => ucons y9 fun v10 y11 => ucons y11 fun v12 y13 => F48_2 n cl v12 v10 v8 v6 v4 r2 h
noncomputable def F48 (n : Nat) (cl : CL) (a0 a1 a2 : Value) (h : PH) : R :=
 hb (xBox a0 h) fun v1 h =>
 vb (xLenS a2) fun v2 =>
 lp n (F48_3 n cl) [a1, v1, a2, v2, (vN 0)] h
noncomputable def D48 (n : Nat) (cl : CL) : CL := fun f xs h => sw f 29 (ucons xs fun b0 xs => ucons xs fun b1 xs => u0 xs (F29 n cl b0 b1 h)) (cl f xs h)
theorem Dk48 {n : Nat} {cl : CL} (hcl : OkCL Try.prog cl) : OkCL Try.prog (D48 n cl) := by
  intro f xs h v h' hx
  rcases sw_ok hx with ⟨rfl, hx⟩ | hx
  · obtain ⟨_, _, rfl, hx⟩ := ucons_ok hx; obtain ⟨_, _, rfl, hx⟩ := ucons_ok hx; obtain ⟨rfl, hx⟩ := u0_ok hx; exact S29 (n := n) (cl := cl) hcl hx
  exact hcl _ _ _ _ _ hx
theorem E48 (n : Nat) (cl : CL) (a0 a1 a2 : Value) (h : PH) : exF Try.prog n (D48 n cl) ⟨[29], [], [(2, [1, 3, 9, 10, 11])], [], []⟩ Try.f48 [a0, a1, a2] h = F48 n cl a0 a1 a2 h := by kernel_rfl
theorem S48 {n : Nat} {cl : CL} (hcl : OkCL Try.prog cl) {a0 a1 a2 : Value} {h h' : PH} {v : Value} (hx : F48 n cl a0 a1 a2 h = some (v, h')) : (enterable Try.prog 48 = true ∧ ACall Try.prog 48 [a0, a1, a2] h.abs (fun u k => u = v ∧ k = h'.abs)) ∧ Inv h h' :=
  exF_ok (Dk48 hcl) hmx Try.func48 (by kernel_rfl) ((E48 n cl a0 a1 a2 h).trans hx)
-- undergrowth/sets.nullable
noncomputable def F42_0 (n : Nat) (cl : CL) (v40 : Value) (r6 : Kt) (v30 : Value) (v32 : Value) (v34 : Value) (v36 : Value) (v38 : Value) (h : PH) : R :=
 vb (xAri Int.add v40 (vN 1)) fun v42 =>
 r6 [v30, v32, v34, v36, v38, v42] h
noncomputable def F42_1 (n : Nat) (cl : CL) (v45 : Value) (v18 : Value) (k10 : Kt) (v16 : Value) (v22 : Value) (v24 : Value) (v26 : Value) (h : PH) : R :=
 vb (xFld 0 v45) fun v57 =>
 vb (xLd v57 h) fun v58 =>
 vb (xIdxS 1 v18 v58) fun v59 =>
 hb (xSt1 v59 tt h) fun _ h =>
 k10 [v16, v18, tt, v22, v24, v26] h
noncomputable def F42_2 (n : Nat) (cl : CL) (r6 : Kt) (y29 : List Value) (h : PH) : R :=
 ucons y29 fun v30 y31 => ucons y31 fun v32 y33 => ucons y33 fun v34 y35 => ucons y35 fun v36 y37 => ucons y37 fun v38 y39 => ucons y39 fun v40 y41 => F42_0 n cl v40 r6 v30 v32 v34 v36 v38 h
noncomputable def F42_3 (n : Nat) (cl : CL) (v22 : Value) (v26 : Value) (v18 : Value) (v16 : Value) (v24 : Value) (v20 : Value) (h : PH) (k10 : Kt) : R :=
 vb (xIdxS 3 v22 v26) fun v43 =>
 vb (xLdA 3 v43 h) fun v44 =>
 hb (xAlloc (zcells Try.prog 29) h) fun v45 h =>
 hb (xStA 3 v45 v44 h) fun _ h =>
 vb (xFld 0 v45) fun v46 =>
 vb (xLd v46 h) fun v47 =>
 vb (xIdxS 1 v18 v47) fun v48 =>
 vb (xLd v48 h) fun v49 =>
 vb (xNot v49) fun v50 =>
 vb (gd (isB true v50) (xLdA 7 v16 h)) fun v51 =>
 vb (gd (isB true v50) (some v18)) fun v52 =>
 vb (gd (isB true v50) (xFld 1 v45)) fun v53 =>
 vb (gd (isB true v50) (xLd v53 h)) fun v54 =>
 vb (gd (isB true v50) (pcall (F48 n cl v51 v52 v54 (h.fzn)))) fun v55 =>
 vb (xPick v50 v55 ff) fun v56 =>
 bite v56 (F42_1 n cl v45 v18 k10 v16 v22 v24 v26 h) (k10 [v16, v18, v20, v22, v24, v26] h)
noncomputable def F42_4 (n : Nat) (cl : CL) (v26 : Value) (v24 : Value) (r6 : Kt) (v22 : Value) (v18 : Value) (v16 : Value) (v20 : Value) (r3 : Kt) (h : PH) : R :=
 vb (xCmp ilt v26 v24) fun v28 =>
 bite v28 (jn (F42_2 n cl r6) (F42_3 n cl v22 v26 v18 v16 v24 v20 h)) (r3 [v16, v18, v20] h)
noncomputable def F42_5 (n : Nat) (cl : CL) (r3 : Kt) (r6 : Kt) (y15 : List Value) (h : PH) : R :=
 ucons y15 fun v16 y17 => ucons y17 fun v18 y19 => ucons y19 fun v20 y21 => ucons y21 fun v22 y23 => ucons y23 fun v24 y25 => ucons y25 fun v26 y27 => F42_4 n cl v26 v24 r6 v22 v18 v16 v20 r3 h
noncomputable def F42_6 (n : Nat) (cl : CL) (v6 : Value) (r3 : Kt) (v8 : Value) (h : PH) : R :=
 vb (xFld 3 v6) fun v12 =>
 vb (xLd v12 h) fun v13 =>
 vb (xLenS v13) fun v14 =>
 lp n (F42_5 n cl r3) [v6, v8, ff, v13, v14, (vN 0)] h
noncomputable def F42_7 (n : Nat) (cl : CL) (r3 : Kt) (y5 : List Value) (h : PH) : R :=
 ucons y5 fun v6 y7 => ucons y7 fun v8 y9 => ucons y9 fun v10 y11 => bite v10 (F42_6 n cl v6 r3 v8 h) (some (v8, h))
noncomputable def F42 (n : Nat) (cl : CL) (a0 : Value) (h : PH) : R :=
 hb (xBox a0 h) fun v1 h =>
 vb (xFld 0 v1) fun v2 =>
 vb (xLd v2 h) fun v3 =>
 hb (xMk (zinfo Try.prog 34) v3 v3 h) fun v4 h =>
 lp n (F42_7 n cl) [v1, v4, tt] h
noncomputable def D42 (n : Nat) (cl : CL) : CL := fun f xs h => sw f 48 (ucons xs fun b0 xs => ucons xs fun b1 xs => ucons xs fun b2 xs => u0 xs (F48 n cl b0 b1 b2 h)) (cl f xs h)
theorem Dk42 {n : Nat} {cl : CL} (hcl : OkCL Try.prog cl) : OkCL Try.prog (D42 n cl) := by
  intro f xs h v h' hx
  rcases sw_ok hx with ⟨rfl, hx⟩ | hx
  · obtain ⟨_, _, rfl, hx⟩ := ucons_ok hx; obtain ⟨_, _, rfl, hx⟩ := ucons_ok hx; obtain ⟨_, _, rfl, hx⟩ := ucons_ok hx; obtain ⟨rfl, hx⟩ := u0_ok hx; exact S48 (n := n) (cl := cl) hcl hx
  exact hcl _ _ _ _ _ hx
theorem E42 (n : Nat) (cl : CL) (a0 : Value) (h : PH) : exF Try.prog n (D42 n cl) ⟨[48], [], [(3, [1, 3, 4]), (6, [1, 3, 4, 12, 13, 14]), (10, [1, 3, 4, 12, 13, 14])], [], []⟩ Try.f42 [a0] h = F42 n cl a0 h := by kernel_rfl
theorem S42 {n : Nat} {cl : CL} (hcl : OkCL Try.prog cl) {a0 : Value} {h h' : PH} {v : Value} (hx : F42 n cl a0 h = some (v, h')) : (enterable Try.prog 42 = true ∧ ACall Try.prog 42 [a0] h.abs (fun u k => u = v ∧ k = h'.abs)) ∧ Inv h h' :=
  exF_ok (Dk42 hcl) hmx Try.func42 (by kernel_rfl) ((E42 n cl a0 h).trans hx)
-- undergrowth/sets.Nullable
noncomputable def F34_0 (n : Nat) (cl : CL) (v1 : Value) (h : PH) : R :=
 vb (xLdA 7 v1 h) fun v5 =>
 hb (fcall h (F42 n cl v5 (h.fzn))) fun v6 h =>
 some (v6, h)
noncomputable def F34 (n : Nat) (cl : CL) (a0 : Value) (h : PH) : R :=
 hb (xBox a0 h) fun v1 h =>
 vb (xLdA 7 v1 h) fun v2 =>
 vb (pcall (F27 n cl v2 (h.fzn))) fun v3 =>
 vb (xNot v3) fun v4 =>
 bite v4 (some (nils, h)) (F34_0 n cl v1 h)
noncomputable def D34 (n : Nat) (cl : CL) : CL := fun f xs h => sw f 27 (ucons xs fun b0 xs => u0 xs (F27 n cl b0 h)) (sw f 42 (ucons xs fun b0 xs => u0 xs (F42 n cl b0 h)) (cl f xs h))
theorem Dk34 {n : Nat} {cl : CL} (hcl : OkCL Try.prog cl) : OkCL Try.prog (D34 n cl) := by
  intro f xs h v h' hx
  rcases sw_ok hx with ⟨rfl, hx⟩ | hx
  · obtain ⟨_, _, rfl, hx⟩ := ucons_ok hx; obtain ⟨rfl, hx⟩ := u0_ok hx; exact S27 (n := n) (cl := cl) hcl hx
  rcases sw_ok hx with ⟨rfl, hx⟩ | hx
  · obtain ⟨_, _, rfl, hx⟩ := ucons_ok hx; obtain ⟨rfl, hx⟩ := u0_ok hx; exact S42 (n := n) (cl := cl) hcl hx
  exact hcl _ _ _ _ _ hx
theorem E34 (n : Nat) (cl : CL) (a0 : Value) (h : PH) : exF Try.prog n (D34 n cl) ⟨[27], [42], [], [], []⟩ Try.f34 [a0] h = F34 n cl a0 h := by kernel_rfl
theorem S34 {n : Nat} {cl : CL} (hcl : OkCL Try.prog cl) {a0 : Value} {h h' : PH} {v : Value} (hx : F34 n cl a0 h = some (v, h')) : (enterable Try.prog 34 = true ∧ ACall Try.prog 34 [a0] h.abs (fun u k => u = v ∧ k = h'.abs)) ∧ Inv h h' :=
  exF_ok (Dk34 hcl) hmx Try.func34 (by kernel_rfl) ((E34 n cl a0 h).trans hx)
-- undergrowth/cycle.alone
noncomputable def F35_0 (n : Nat) (cl : CL) (v35 : Value) (r3 : Kt) (v23 : Value) (v25 : Value) (v27 : Value) (v29 : Value) (v31 : Value) (v33 : Value) (h : PH) : R :=
 vb (xAri Int.add v35 (vN 1)) fun v37 =>
 r3 [v23, v25, v27, v29, v31, v33, v37] h
noncomputable def F35_1 (n : Nat) (cl : CL) (v66 : Value) (v70 : Value) (v58 : Value) (v54 : Value) (v48 : Value) (v46 : Value) (r7 : Kt) (v50 : Value) (v52 : Value) (v56 : Value) (v60 : Value) (v62 : Value) (v64 : Value) (v68 : Value) (h : PH) : R :=
 vb (xIdxS 1 v66 v70) fun v73 =>
 vb (xLd v73 h) fun v74 =>
 vb (gd (isB true v58) (some v70)) fun v75 =>
 vb (gd (isB true v58) (some v54)) fun v76 =>
 vb (gd (isB true v58) (xCmp ieq v75 v76)) fun v77 =>
 vb (gd (isB true v58) (some v77)) fun v78 =>
 vb (gd (isB false v78) (xLdA 7 v48 h)) fun v79 =>
 vb (gd (isB false v78) (some v74)) fun v80 =>
 vb (gd (isB false v78) (pcall (F29 n cl v79 v80 (h.fzn)))) fun v81 =>
 vb (gd (isB false v78) (some v81)) fun v82 =>
 vb (gd (isB true v82) (some v46)) fun v83 =>
 vb (gd (isB true v82) (some v74)) fun v84 =>
 vb (gd (isB true v82) (xIdxS 1 v83 v84)) fun v85 =>
 vb (gd (isB true v82) (xLd v85 h)) fun v86 =>
 vb (gd (isB false v78) (xPick v82 v86 ff)) fun v87 =>
 vb (gd (isB true v58) (xPick v78 tt v87)) fun v88 =>
 vb (xPick v58 v88 ff) fun v89 =>
 vb (xAri Int.add v70 (vN 1)) fun v90 =>
 r7 [v46, v48, v50, v52, v54, v56, v89, v60, v62, v64, v66, v68, v90] h
noncomputable def F35_2 (n : Nat) (cl : CL) (v56 : Value) (v52 : Value) (k13 : Kt) (v46 : Value) (v48 : Value) (v50 : Value) (v60 : Value) (v62 : Value) (v64 : Value) (h : PH) : R :=
 hb (xBS 1 (bsRow Try.prog 25 1 [(0, v56)]) h) fun v91 h =>
 hb (xApp (appInfo Try.prog #[25, 25]) v52 v91 h) fun v92 h =>
 k13 [v46, v48, v50, v92, v60, v62, v64] h
noncomputable def F35_3 (n : Nat) (cl : CL) (v58 : Value) (v56 : Value) (v52 : Value) (k13 : Kt) (v46 : Value) (v48 : Value) (v50 : Value) (v60 : Value) (v62 : Value) (v64 : Value) (h : PH) : R :=
 bite v58 (F35_2 n cl v56 v52 k13 v46 v48 v50 v60 v62 v64 h) (k13 [v46, v48, v50, v52, v60, v62, v64] h)
noncomputable def F35_4 (n : Nat) (cl : CL) (v70 : Value) (v68 : Value) (v66 : Value) (v58 : Value) (v54 : Value) (v48 : Value) (v46 : Value) (r7 : Kt) (v50 : Value) (v52 : Value) (v56 : Value) (v60 : Value) (v62 : Value) (v64 : Value) (k13 : Kt) (h : PH) : R :=
 vb (xCmp ilt v70 v68) fun v72 =>
 bite v72 (F35_1 n cl v66 v70 v58 v54 v48 v46 r7 v50 v52 v56 v60 v62 v64 v68 h) (F35_3 n cl v58 v56 v52 k13 v46 v48 v50 v60 v62 v64 h)
noncomputable def F35_5 (n : Nat) (cl : CL) (k13 : Kt) (r7 : Kt) (y45 : List Value) (h : PH) : R :=
 ucons y45 fun v46 y47 => ucons y47 fun v48 y49 => ucons y49 fun v50 y51 => ucons y51 fun v52 y53 => ucons y53 fun v54 y55 => ucons y55 fun v56 y57 => ucons y57 fun v58 y59 => ucons y59 fun v60 y61 => ucons y61 fun v62 y63 => ucons y63 fun v64 y65 => ucons y65 fun v66 y67 => ucons y67 fun v68 y69 => ucons y69 fun v70 y71 => F35_4 n cl v70 v68 v66 v58 v54 v48 v46 r7 v50 v52 v56 v60 v62 v64 k13 h
noncomputable def F35_6 (n : Nat) (cl : CL) (r3 : Kt) (y22 : List Value) (h : PH) : R :=
 ucons y22 fun v23 y24 => ucons y24 fun v25 y26 => ucons y26 fun v27 y28 => ucons y28 fun v29 y30 => ucons y30 fun v31 y32 => ucons y32 fun v33 y34 => ucons y34 fun v35 y36 => F35_0 n cl v35 r3 v23 v25 v27 v29 v31 v33 h
noncomputable def F35_7 (n : Nat) (cl : CL) (v15 : Value) (v19 : Value) (v9 : Value) (v11 : Value) (v7 : Value) (v13 : Value) (v17 : Value) (h : PH) (k13 : Kt) : R :=
 vb (xIdxS 1 v15 v19) fun v38 =>
 vb (xLd v38 h) fun v39 =>
 vb (xLdA 7 v9 h) fun v40 =>
 vb (pcall (F29 n cl v40 v39 (h.fzn))) fun v41 =>
 vb (xFld 1 v11) fun v42 =>
 vb (xLd v42 h) fun v43 =>
 vb (xLenS v43) fun v44 =>
 lp n (F35_5 n cl k13) [v7, v9, v11, v13, v19, v39, v41, v15, v17, v19, v43, v44, (vN 0)] h
noncomputable def F35_8 (n : Nat) (cl : CL) (v19 : Value) (v17 : Value) (r3 : Kt) (v15 : Value) (v9 : Value) (v11 : Value) (v7 : Value) (v13 : Value) (h : PH) : R :=
 vb (xCmp ilt v19 v17) fun v21 =>
 bite v21 (jn (F35_6 n cl r3) (F35_7 n cl v15 v19 v9 v11 v7 v13 v17 h)) (some (v13, h))
noncomputable def F35_9 (n : Nat) (cl : CL) (r3 : Kt) (y6 : List Value) (h : PH) : R :=
 ucons y6 fun v7 y8 => ucons y8 fun v9 y10 => ucons y10 fun v11 y12 => ucons y12 fun v13 y14 => ucons y14 fun v15 y16 => ucons y16 fun v17 y18 => ucons y18 fun v19 y20 => F35_8 n cl v19 v17 r3 v15 v9 v11 v7 v13 h
noncomputable def F35 (n : Nat) (cl : CL) (a0 a1 a2 : Value) (h : PH) : R :=
 hb (xBox a0 h) fun v1 h =>
 hb (xBox a2 h) fun v2 h =>
 vb (xFld 1 v2) fun v3 =>
 vb (xLd v3 h) fun v4 =>
 vb (xLenS v4) fun v5 =>
 lp n (F35_9 n cl) [a1, v1, v2, nils, v4, v5, (vN 0)] h
noncomputable def D35 (n : Nat) (cl : CL) : CL := fun f xs h => sw f 29 (ucons xs fun b0 xs => ucons xs fun b1 xs => u0 xs (F29 n cl b0 b1 h)) (cl f xs h)
theorem Dk35 {n : Nat} {cl : CL} (hcl : OkCL Try.prog cl) : OkCL Try.prog (D35 n cl) := by
  intro f xs h v h' hx
  rcases sw_ok hx with ⟨rfl, hx⟩ | hx
  · obtain ⟨_, _, rfl, hx⟩ := ucons_ok hx; obtain ⟨_, _, rfl, hx⟩ := ucons_ok hx; obtain ⟨rfl, hx⟩ := u0_ok hx; exact S29 (n := n) (cl := cl) hcl hx
  exact hcl _ _ _ _ _ hx
theorem E35 (n : Nat) (cl : CL) (a0 a1 a2 : Value) (h : PH) : exF Try.prog n (D35 n cl) ⟨[29], [], [(3, [1, 3, 5, 7, 14, 15, 16]), (7, [1, 3, 5, 7, 8, 9, 10, 14, 15, 16, 25, 26, 27]), (13, [1, 3, 5, 7, 14, 15, 16])], [], []⟩ Try.f35 [a0, a1, a2] h = F35 n cl a0 a1 a2 h := by kernel_rfl
theorem S35 {n : Nat} {cl : CL} (hcl : OkCL Try.prog cl) {a0 a1 a2 : Value} {h h' : PH} {v : Value} (hx : F35 n cl a0 a1 a2 h = some (v, h')) : (enterable Try.prog 35 = true ∧ ACall Try.prog 35 [a0, a1, a2] h.abs (fun u k => u = v ∧ k = h'.abs)) ∧ Inv h h' :=
  exF_ok (Dk35 hcl) hmx Try.func35 (by kernel_rfl) ((E35 n cl a0 a1 a2 h).trans hx)
-- undergrowth/cycle.Cyclic
noncomputable def F24_0 (n : Nat) (cl : CL) (v12 : Value) (v16 : Value) (v20 : Value) (r6 : Kt) (v14 : Value) (v18 : Value) (h : PH) : R :=
 vb (xFld 0 v12) fun v23 =>
 vb (xLd v23 h) fun v24 =>
 hb (xMk (zinfo Try.prog 34) v24 v24 h) fun v25 h =>
 vb (xIdxS 1 v16 v20) fun v26 =>
 hb (xSt1 v26 v25 h) fun _ h =>
 vb (xAri Int.add v20 (vN 1)) fun v27 =>
 r6 [v12, v14, v16, v18, v27] h
noncomputable def F24_1 (n : Nat) (cl : CL) (v67 : Value) (v71 : Value) (v59 : Value) (v57 : Value) (r14 : Kt) (v53 : Value) (v55 : Value) (v61 : Value) (v63 : Value) (v65 : Value) (v69 : Value) (h : PH) : R :=
 vb (xIdxS 1 v67 v71) fun v74 =>
 vb (xLd v74 h) fun v75 =>
 vb (xFld 0 v59) fun v76 =>
 vb (xLd v76 h) fun v77 =>
 vb (xIdxS 1 v57 v77) fun v78 =>
 vb (xLd v78 h) fun v79 =>
 vb (xIdxS 1 v79 v75) fun v80 =>
 hb (xSt1 v80 tt h) fun _ h =>
 vb (xAri Int.add v71 (vN 1)) fun v81 =>
 r14 [v53, v55, v57, v59, v61, v63, v65, v67, v69, v81] h
noncomputable def F24_2 (n : Nat) (cl : CL) (v65 : Value) (r11 : Kt) (v53 : Value) (v55 : Value) (v57 : Value) (v61 : Value) (v63 : Value) (h : PH) : R :=
 vb (xAri Int.add v65 (vN 1)) fun v82 =>
 r11 [v53, v55, v57, v61, v63, v82] h
noncomputable def F24_3 (n : Nat) (cl : CL) (v71 : Value) (v69 : Value) (v67 : Value) (v59 : Value) (v57 : Value) (r14 : Kt) (v53 : Value) (v55 : Value) (v61 : Value) (v63 : Value) (v65 : Value) (r11 : Kt) (h : PH) : R :=
 vb (xCmp ilt v71 v69) fun v73 =>
 bite v73 (F24_1 n cl v67 v71 v59 v57 r14 v53 v55 v61 v63 v65 v69 h) (F24_2 n cl v65 r11 v53 v55 v57 v61 v63 h)
noncomputable def F24_4 (n : Nat) (cl : CL) (r11 : Kt) (r14 : Kt) (y52 : List Value) (h : PH) : R :=
 ucons y52 fun v53 y54 => ucons y54 fun v55 y56 => ucons y56 fun v57 y58 => ucons y58 fun v59 y60 => ucons y60 fun v61 y62 => ucons y62 fun v63 y64 => ucons y64 fun v65 y66 => ucons y66 fun v67 y68 => ucons y68 fun v69 y70 => ucons y70 fun v71 y72 => F24_3 n cl v71 v69 v67 v59 v57 r14 v53 v55 v61 v63 v65 r11 h
noncomputable def F24_5 (n : Nat) (cl : CL) (v38 : Value) (v42 : Value) (v32 : Value) (v34 : Value) (r11 : Kt) (v36 : Value) (v40 : Value) (h : PH) : R :=
 vb (xIdxS 3 v38 v42) fun v45 =>
 vb (xLdA 3 v45 h) fun v46 =>
 hb (xAlloc (zcells Try.prog 29) h) fun v47 h =>
 hb (xStA 3 v47 v46 h) fun _ h =>
 vb (xLdA 7 v32 h) fun v48 =>
 vb (xLdA 3 v47 h) fun v49 =>
 hb (fcall h (F35 n cl v48 v34 v49 (h.fzn))) fun v50 h =>
 vb (xLenS v50) fun v51 =>
 lp n (F24_4 n cl r11) [v32, v34, v36, v47, v38, v40, v42, v50, v51, (vN 0)] h
noncomputable def F24_6 (n : Nat) (cl : CL) (v115 : Value) (v119 : Value) (v131 : Value) (v117 : Value) (r26 : Kt) (v113 : Value) (v121 : Value) (v123 : Value) (v125 : Value) (v127 : Value) (v129 : Value) (h : PH) : R :=
 vb (xIdxS 1 v115 v119) fun v134 =>
 vb (xIdxS 1 v115 v119) fun v135 =>
 vb (xLd v134 h) fun v136 =>
 vb (xLd v135 h) fun v137 =>
 vb (xIdxS 1 v137 v131) fun v138 =>
 vb (xLd v138 h) fun v139 =>
 vb (gd (isB false v139) (some v115)) fun v140 =>
 vb (gd (isB false v139) (some v119)) fun v141 =>
 vb (gd (isB false v139) (xIdxS 1 v140 v141)) fun v142 =>
 vb (gd (isB false v139) (some v117)) fun v143 =>
 vb (gd (isB false v139) (xLd v142 h)) fun v144 =>
 vb (gd (isB false v139) (xIdxS 1 v144 v143)) fun v145 =>
 vb (gd (isB false v139) (xLd v145 h)) fun v146 =>
 vb (gd (isB false v139) (some v146)) fun v147 =>
 vb (gd (isB true v147) (some v115)) fun v148 =>
 vb (gd (isB true v147) (some v117)) fun v149 =>
 vb (gd (isB true v147) (xIdxS 1 v148 v149)) fun v150 =>
 vb (gd (isB true v147) (some v131)) fun v151 =>
 vb (gd (isB true v147) (xLd v150 h)) fun v152 =>
 vb (gd (isB true v147) (xIdxS 1 v152 v151)) fun v153 =>
 vb (gd (isB true v147) (xLd v153 h)) fun v154 =>
 vb (gd (isB false v139) (xPick v147 v154 ff)) fun v155 =>
 vb (xPick v139 tt v155) fun v156 =>
 vb (xIdxS 1 v136 v131) fun v157 =>
 hb (xSt1 v157 v156 h) fun _ h =>
 vb (xAri Int.add v131 (vN 1)) fun v158 =>
 r26 [v113, v115, v117, v119, v121, v123, v125, v127, v129, v158] h
noncomputable def F24_7 (n : Nat) (cl : CL) (v127 : Value) (r23 : Kt) (v113 : Value) (v115 : Value) (v117 : Value) (v121 : Value) (v123 : Value) (v125 : Value) (h : PH) : R :=
 vb (xAri Int.add v127 (vN 1)) fun v159 =>
 r23 [v113, v115, v117, v121, v123, v125, v159] h
noncomputable def F24_8 (n : Nat) (cl : CL) (v131 : Value) (v129 : Value) (v115 : Value) (v119 : Value) (v117 : Value) (r26 : Kt) (v113 : Value) (v121 : Value) (v123 : Value) (v125 : Value) (v127 : Value) (r23 : Kt) (h : PH) : R :=
 vb (xCmp ilt v131 v129) fun v133 =>
 bite v133 (F24_6 n cl v115 v119 v131 v117 r26 v113 v121 v123 v125 v127 v129 h) (F24_7 n cl v127 r23 v113 v115 v117 v121 v123 v125 h)
noncomputable def F24_9 (n : Nat) (cl : CL) (r23 : Kt) (r26 : Kt) (y112 : List Value) (h : PH) : R :=
 ucons y112 fun v113 y114 => ucons y114 fun v115 y116 => ucons y116 fun v117 y118 => ucons y118 fun v119 y120 => ucons y120 fun v121 y122 => ucons y122 fun v123 y124 => ucons y124 fun v125 y126 => ucons y126 fun v127 y128 => ucons y128 fun v129 y130 => ucons y130 fun v131 y132 => F24_8 n cl v131 v129 v115 v119 v117 r26 v113 v121 v123 v125 v127 r23 h
noncomputable def F24_10 (n : Nat) (cl : CL) (v98 : Value) (r23 : Kt) (v96 : Value) (v100 : Value) (v108 : Value) (v102 : Value) (v104 : Value) (v106 : Value) (h : PH) : R :=
 vb (xLenS v98) fun v111 =>
 lp n (F24_9 n cl r23) [v96, v98, v100, v108, v102, v104, v106, v108, v111, (vN 0)] h
noncomputable def F24_11 (n : Nat) (cl : CL) (v104 : Value) (r20 : Kt) (v96 : Value) (v98 : Value) (v102 : Value) (h : PH) : R :=
 vb (xAri Int.add v104 (vN 1)) fun v160 =>
 r20 [v96, v98, v102, v160] h
noncomputable def F24_12 (n : Nat) (cl : CL) (v108 : Value) (v106 : Value) (v98 : Value) (r23 : Kt) (v96 : Value) (v100 : Value) (v102 : Value) (v104 : Value) (r20 : Kt) (h : PH) : R :=
 vb (xCmp ilt v108 v106) fun v110 =>
 bite v110 (F24_10 n cl v98 r23 v96 v100 v108 v102 v104 v106 h) (F24_11 n cl v104 r20 v96 v98 v102 h)
noncomputable def F24_13 (n : Nat) (cl : CL) (r20 : Kt) (r23 : Kt) (y95 : List Value) (h : PH) : R :=
 ucons y95 fun v96 y97 => ucons y97 fun v98 y99 => ucons y99 fun v100 y101 => ucons y101 fun v102 y103 => ucons y103 fun v104 y105 => ucons y105 fun v106 y107 => ucons y107 fun v108 y109 => F24_12 n cl v108 v106 v98 r23 v96 v100 v102 v104 r20 h
noncomputable def F24_14 (n : Nat) (cl : CL) (v87 : Value) (r20 : Kt) (v85 : Value) (v91 : Value) (v89 : Value) (h : PH) : R :=
 vb (xLenS v87) fun v94 =>
 lp n (F24_13 n cl r20) [v85, v87, v91, v89, v91, v94, (vN 0)] h
noncomputable def F24_15 (n : Nat) (cl : CL) (v166 : Value) (v172 : Value) (v168 : Value) (r34 : Kt) (v170 : Value) (h : PH) : R :=
 vb (xIdxS 1 v166 v172) fun v175 =>
 vb (xLd v175 h) fun v176 =>
 vb (xIdxS 1 v176 v172) fun v177 =>
 vb (xLd v177 h) fun v178 =>
 vb (xIdxS 1 v168 v172) fun v179 =>
 hb (xSt1 v179 v178 h) fun _ h =>
 vb (xAri Int.add v172 (vN 1)) fun v180 =>
 r34 [v166, v168, v170, v180] h
noncomputable def F24_16 (n : Nat) (cl : CL) (v172 : Value) (v170 : Value) (v166 : Value) (v168 : Value) (r34 : Kt) (h : PH) : R :=
 vb (xCmp ilt v172 v170) fun v174 =>
 bite v174 (F24_15 n cl v166 v172 v168 r34 v170 h) (some (v168, h))
noncomputable def F24_17 (n : Nat) (cl : CL) (r34 : Kt) (y165 : List Value) (h : PH) : R :=
 ucons y165 fun v166 y167 => ucons y167 fun v168 y169 => ucons y169 fun v170 y171 => ucons y171 fun v172 y173 => F24_16 n cl v172 v170 v166 v168 r34 h
noncomputable def F24_18 (n : Nat) (cl : CL) (v85 : Value) (v87 : Value) (h : PH) : R :=
 vb (xFld 0 v85) fun v161 =>
 vb (xLd v161 h) fun v162 =>
 hb (xMk (zinfo Try.prog 34) v162 v162 h) fun v163 h =>
 vb (xLenS v163) fun v164 =>
 lp n (F24_17 n cl) [v87, v163, v164, (vN 0)] h
noncomputable def F24_19 (n : Nat) (cl : CL) (v91 : Value) (v89 : Value) (v87 : Value) (r20 : Kt) (v85 : Value) (h : PH) : R :=
 vb (xCmp ilt v91 v89) fun v93 =>
 bite v93 (F24_14 n cl v87 r20 v85 v91 v89 h) (F24_18 n cl v85 v87 h)
noncomputable def F24_20 (n : Nat) (cl : CL) (r20 : Kt) (y84 : List Value) (h : PH) : R :=
 ucons y84 fun v85 y86 => ucons y86 fun v87 y88 => ucons y88 fun v89 y90 => ucons y90 fun v91 y92 => F24_19 n cl v91 v89 v87 r20 v85 h
noncomputable def F24_21 (n : Nat) (cl : CL) (v36 : Value) (v32 : Value) (h : PH) : R :=
 vb (xLenS v36) fun v83 =>
 lp n (F24_20 n cl) [v32, v36, v83, (vN 0)] h
noncomputable def F24_22 (n : Nat) (cl : CL) (v42 : Value) (v40 : Value) (v38 : Value) (v32 : Value) (v34 : Value) (r11 : Kt) (v36 : Value) (h : PH) : R :=
 vb (xCmp ilt v42 v40) fun v44 =>
 bite v44 (F24_5 n cl v38 v42 v32 v34 r11 v36 v40 h) (F24_21 n cl v36 v32 h)
noncomputable def F24_23 (n : Nat) (cl : CL) (r11 : Kt) (y31 : List Value) (h : PH) : R :=
 ucons y31 fun v32 y33 => ucons y33 fun v34 y35 => ucons y35 fun v36 y37 => ucons y37 fun v38 y39 => ucons y39 fun v40 y41 => ucons y41 fun v42 y43 => F24_22 n cl v42 v40 v38 v32 v34 r11 v36 h
noncomputable def F24_24 (n : Nat) (cl : CL) (v12 : Value) (v14 : Value) (v16 : Value) (h : PH) : R :=
 vb (xFld 3 v12) fun v28 =>
 vb (xLd v28 h) fun v29 =>
 vb (xLenS v29) fun v30 =>
 lp n (F24_23 n cl) [v12, v14, v16, v29, v30, (vN 0)] h
noncomputable def F24_25 (n : Nat) (cl : CL) (v20 : Value) (v18 : Value) (v12 : Value) (v16 : Value) (r6 : Kt) (v14 : Value) (h : PH) : R :=
 vb (xCmp ilt v20 v18) fun v22 =>
 bite v22 (F24_0 n cl v12 v16 v20 r6 v14 v18 h) (F24_24 n cl v12 v14 v16 h)
noncomputable def F24_26 (n : Nat) (cl : CL) (r6 : Kt) (y11 : List Value) (h : PH) : R :=
 ucons y11 fun v12 y13 => ucons y13 fun v14 y15 => ucons y15 fun v16 y17 => ucons y17 fun v18 y19 => ucons y19 fun v20 y21 => F24_25 n cl v20 v18 v12 v16 r6 v14 h
noncomputable def F24_27 (n : Nat) (cl : CL) (v1 : Value) (h : PH) : R :=
 vb (xLdA 7 v1 h) fun v5 =>
 hb (fcall h (F34 n cl v5 (h.fzn))) fun v6 h =>
 vb (xFld 0 v1) fun v7 =>
 vb (xLd v7 h) fun v8 =>
 hb (xMk (zinfo Try.prog 50) v8 v8 h) fun v9 h =>
 vb (xLenS v9) fun v10 =>
 lp n (F24_26 n cl) [v1, v6, v9, v10, (vN 0)] h
noncomputable def F24 (n : Nat) (cl : CL) (a0 : Value) (h : PH) : R :=
 hb (xBox a0 h) fun v1 h =>
 vb (xLdA 7 v1 h) fun v2 =>
 vb (pcall (F27 n cl v2 (h.fzn))) fun v3 =>
 vb (xNot v3) fun v4 =>
 bite v4 (some (nils, h)) (F24_27 n cl v1 h)
noncomputable def D24 (n : Nat) (cl : CL) : CL := fun f xs h => sw f 27 (ucons xs fun b0 xs => u0 xs (F27 n cl b0 h)) (sw f 34 (ucons xs fun b0 xs => u0 xs (F34 n cl b0 h)) (sw f 35 (ucons xs fun b0 xs => ucons xs fun b1 xs => ucons xs fun b2 xs => u0 xs (F35 n cl b0 b1 b2 h)) (cl f xs h)))
theorem Dk24 {n : Nat} {cl : CL} (hcl : OkCL Try.prog cl) : OkCL Try.prog (D24 n cl) := by
  intro f xs h v h' hx
  rcases sw_ok hx with ⟨rfl, hx⟩ | hx
  · obtain ⟨_, _, rfl, hx⟩ := ucons_ok hx; obtain ⟨rfl, hx⟩ := u0_ok hx; exact S27 (n := n) (cl := cl) hcl hx
  rcases sw_ok hx with ⟨rfl, hx⟩ | hx
  · obtain ⟨_, _, rfl, hx⟩ := ucons_ok hx; obtain ⟨rfl, hx⟩ := u0_ok hx; exact S34 (n := n) (cl := cl) hcl hx
  rcases sw_ok hx with ⟨rfl, hx⟩ | hx
  · obtain ⟨_, _, rfl, hx⟩ := ucons_ok hx; obtain ⟨_, _, rfl, hx⟩ := ucons_ok hx; obtain ⟨_, _, rfl, hx⟩ := ucons_ok hx; obtain ⟨rfl, hx⟩ := u0_ok hx; exact S35 (n := n) (cl := cl) hcl hx
  exact hcl _ _ _ _ _ hx
theorem E24 (n : Nat) (cl : CL) (a0 : Value) (h : PH) : exF Try.prog n (D24 n cl) ⟨[27], [34, 35], [(6, [1, 3, 4, 24, 25]), (11, [1, 3, 4, 36, 37, 38]), (14, [1, 3, 4, 7, 36, 37, 38, 45, 46, 47]), (20, [1, 4, 61, 62]), (23, [1, 4, 10, 61, 62, 66, 67]), (26, [1, 4, 10, 11, 61, 62, 66, 67, 71, 72]), (34, [4, 13, 113, 114])], [(28, [0, 1, 2, 4, 5, 6, 7, 9, 3, 8, 10, 11, 12, 13, 14, 15, 17, 16, 18, 19, 20, 21, 22, 23, 25, 24, 26, 27, 28, 29, 30, 31])], []⟩ Try.f24 [a0] h = F24 n cl a0 h := by kernel_rfl
theorem S24 {n : Nat} {cl : CL} (hcl : OkCL Try.prog cl) {a0 : Value} {h h' : PH} {v : Value} (hx : F24 n cl a0 h = some (v, h')) : (enterable Try.prog 24 = true ∧ ACall Try.prog 24 [a0] h.abs (fun u k => u = v ∧ k = h'.abs)) ∧ Inv h h' :=
  exF_ok (Dk24 hcl) hmx Try.func24 (by kernel_rfl) ((E24 n cl a0 h).trans hx)
-- undergrowth/cycle.Check
noncomputable def F22_0 (n : Nat) (cl : CL) (v22 : Value) (r6 : Kt) (v14 : Value) (v16 : Value) (v18 : Value) (v20 : Value) (h : PH) : R :=
 vb (xAri Int.add v22 (vN 1)) fun v34 =>
 r6 [v14, v16, v18, v20, v34] h
noncomputable def F22_1 (n : Nat) (cl : CL) (v16 : Value) (v22 : Value) (v18 : Value) (r6 : Kt) (v14 : Value) (v20 : Value) (h : PH) : R :=
 vb (xIdxS 1 v16 v22) fun v25 =>
 vb (xLd v25 h) fun v26 =>
 vb (xNot v26) fun v27 =>
 vb (gd (isB false v27) (some v18)) fun v28 =>
 vb (gd (isB false v27) (some v22)) fun v29 =>
 vb (gd (isB false v27) (xIdxS 1 v28 v29)) fun v30 =>
 vb (gd (isB false v27) (xLd v30 h)) fun v31 =>
 vb (gd (isB false v27) (xNot v31)) fun v32 =>
 vb (xPick v27 tt v32) fun v33 =>
 bite v33 (some (Value.tuple ⟨[v22, (vN 7)]⟩, h)) (F22_0 n cl v22 r6 v14 v16 v18 v20 h)
noncomputable def F22_2 (n : Nat) (cl : CL) (v43 : Value) (r12 : Kt) (v39 : Value) (v41 : Value) (h : PH) : R :=
 vb (xAri Int.add v43 (vN 1)) fun v48 =>
 r12 [v39, v41, v48] h
noncomputable def F22_3 (n : Nat) (cl : CL) (v39 : Value) (v43 : Value) (r12 : Kt) (v41 : Value) (h : PH) : R :=
 vb (xIdxS 1 v39 v43) fun v46 =>
 vb (xLd v46 h) fun v47 =>
 bite v47 (some (Value.tuple ⟨[v43, (vN 8)]⟩, h)) (F22_2 n cl v43 r12 v39 v41 h)
noncomputable def F22_4 (n : Nat) (cl : CL) (v43 : Value) (v41 : Value) (v39 : Value) (r12 : Kt) (h : PH) : R :=
 vb (xCmp ilt v43 v41) fun v45 =>
 bite v45 (F22_3 n cl v39 v43 r12 v41 h) (some (Value.tuple ⟨[(vM 0), (vN 0)]⟩, h))
noncomputable def F22_5 (n : Nat) (cl : CL) (r12 : Kt) (y38 : List Value) (h : PH) : R :=
 ucons y38 fun v39 y40 => ucons y40 fun v41 y42 => ucons y42 fun v43 y44 => F22_4 n cl v43 v41 v39 r12 h
noncomputable def F22_6 (n : Nat) (cl : CL) (v14 : Value) (h : PH) : R :=
 vb (xLdA 7 v14 h) fun v35 =>
 hb (fcall h (F24 n cl v35 (h.fzn))) fun v36 h =>
 vb (xLenS v36) fun v37 =>
 lp n (F22_5 n cl) [v36, v37, (vN 0)] h
noncomputable def F22_7 (n : Nat) (cl : CL) (v22 : Value) (v20 : Value) (v16 : Value) (v18 : Value) (r6 : Kt) (v14 : Value) (h : PH) : R :=
 vb (xCmp ilt v22 v20) fun v24 =>
 bite v24 (F22_1 n cl v16 v22 v18 r6 v14 v20 h) (F22_6 n cl v14 h)
noncomputable def F22_8 (n : Nat) (cl : CL) (r6 : Kt) (y13 : List Value) (h : PH) : R :=
 ucons y13 fun v14 y15 => ucons y15 fun v16 y17 => ucons y17 fun v18 y19 => ucons y19 fun v20 y21 => ucons y21 fun v22 y23 => F22_7 n cl v22 v20 v16 v18 r6 v14 h
noncomputable def F22_9 (n : Nat) (cl : CL) (v1 : Value) (h : PH) : R :=
 nb h fun m7 =>
 vb (xLdA 7 v1 h) fun v8 =>
 vb (oldB m7 v1 (xLdA 7 v1 h)) fun v9 =>
 hb (fcall h (F14 n cl v8 (h.fzn))) fun v10 h =>
 hb (fcall h (F16 n cl v9 (h.fzn))) fun v11 h =>
 vb (xLenS v10) fun v12 =>
 lp n (F22_8 n cl) [v1, v10, v11, v12, (vN 0)] h
noncomputable def F22 (n : Nat) (cl : CL) (a0 : Value) (h : PH) : R :=
 hb (xBox a0 h) fun v1 h =>
 vb (xLdA 7 v1 h) fun v2 =>
 vb (pcall (F33 n cl v2 (h.fzn))) fun v3 =>
 vb (xExt 0 v3) fun v4 =>
 vb (xExt 1 v3) fun v5 =>
 vb (xCmp ine v5 (vN 0)) fun v6 =>
 bite v6 (some (Value.tuple ⟨[v4, v5]⟩, h)) (F22_9 n cl v1 h)
noncomputable def D22 (n : Nat) (cl : CL) : CL := fun f xs h => sw f 33 (ucons xs fun b0 xs => u0 xs (F33 n cl b0 h)) (sw f 14 (ucons xs fun b0 xs => u0 xs (F14 n cl b0 h)) (sw f 16 (ucons xs fun b0 xs => u0 xs (F16 n cl b0 h)) (sw f 24 (ucons xs fun b0 xs => u0 xs (F24 n cl b0 h)) (cl f xs h))))
theorem Dk22 {n : Nat} {cl : CL} (hcl : OkCL Try.prog cl) : OkCL Try.prog (D22 n cl) := by
  intro f xs h v h' hx
  rcases sw_ok hx with ⟨rfl, hx⟩ | hx
  · obtain ⟨_, _, rfl, hx⟩ := ucons_ok hx; obtain ⟨rfl, hx⟩ := u0_ok hx; exact S33 (n := n) (cl := cl) hcl hx
  rcases sw_ok hx with ⟨rfl, hx⟩ | hx
  · obtain ⟨_, _, rfl, hx⟩ := ucons_ok hx; obtain ⟨rfl, hx⟩ := u0_ok hx; exact S14 (n := n) (cl := cl) hcl hx
  rcases sw_ok hx with ⟨rfl, hx⟩ | hx
  · obtain ⟨_, _, rfl, hx⟩ := ucons_ok hx; obtain ⟨rfl, hx⟩ := u0_ok hx; exact S16 (n := n) (cl := cl) hcl hx
  rcases sw_ok hx with ⟨rfl, hx⟩ | hx
  · obtain ⟨_, _, rfl, hx⟩ := ucons_ok hx; obtain ⟨rfl, hx⟩ := u0_ok hx; exact S24 (n := n) (cl := cl) hcl hx
  exact hcl _ _ _ _ _ hx
theorem E22 (n : Nat) (cl : CL) (a0 : Value) (h : PH) : exF Try.prog n (D22 n cl) ⟨[33], [14, 16, 24], [(6, [1, 6, 7, 25, 26]), (12, [44, 45, 46])], [(4, [0, 2, 1, 3, 4, 5])], [(4, [1, 2])]⟩ Try.f22 [a0] h = F22 n cl a0 h := by kernel_rfl
theorem S22 {n : Nat} {cl : CL} (hcl : OkCL Try.prog cl) {a0 : Value} {h h' : PH} {v : Value} (hx : F22 n cl a0 h = some (v, h')) : (enterable Try.prog 22 = true ∧ ACall Try.prog 22 [a0] h.abs (fun u k => u = v ∧ k = h'.abs)) ∧ Inv h h' :=
  exF_ok (Dk22 hcl) hmx Try.func22 (by kernel_rfl) ((E22 n cl a0 h).trans hx)
-- undergrowth/undergrowthlaw13.num
noncomputable def F26 (n : Nat) (cl : CL) (a0 : Value) (h : PH) : R :=
 some (a0, h)
theorem E26 (n : Nat) (cl : CL) (a0 : Value) (h : PH) : exF Try.prog n cl ⟨[], [], [], [], []⟩ Try.f26 [a0] h = F26 n cl a0 h := by kernel_rfl
theorem S26 {n : Nat} {cl : CL} (hcl : OkCL Try.prog cl) {a0 : Value} {h h' : PH} {v : Value} (hx : F26 n cl a0 h = some (v, h')) : (enterable Try.prog 26 = true ∧ ACall Try.prog 26 [a0] h.abs (fun u k => u = v ∧ k = h'.abs)) ∧ Inv h h' :=
  exF_ok hcl hmx Try.func26 (by kernel_rfl) ((E26 n cl a0 h).trans hx)
-- undergrowth/undergrowthlaw13.alive
noncomputable def F21 (n : Nat) (cl : CL) (h : PH) : R :=
 vb (abuild Try.prog 27 [(0, (vN 1))]) fun v1 =>
 vb (pcall (F22 n cl v1 (h.fzn))) fun v2 =>
 vb (xExt 0 v2) fun v3 =>
 vb (xExt 1 v2) fun v4 =>
 vb (abuild Try.prog 29 []) fun v5 =>
 hb (xBS 1 (bsRow Try.prog 25 1 [(0, (vN 0))]) h) fun v6 h =>
 vb (abuild Try.prog 29 [(1, v6)]) fun v7 =>
 hb (xBS 2 (bsRow Try.prog 23 2 [(0, v5), (1, v7)]) h) fun v8 h =>
 vb (abuild Try.prog 27 [(0, (vN 1)), (3, v8)]) fun v9 =>
 vb (pcall (F22 n cl v9 (h.fzn))) fun v10 =>
 vb (xExt 0 v10) fun v11 =>
 vb (xExt 1 v10) fun v12 =>
 vb (pcall (F26 n cl v4 (h.fzn))) fun v13 =>
 vb (xCmp ieq v13 (vN 7)) fun v14 =>
 vb (gd (isB true v14) (some v3)) fun v15 =>
 vb (gd (isB true v14) (xCmp ieq v15 (vN 0))) fun v16 =>
 vb (xPick v14 v16 ff) fun v17 =>
 vb (gd (isB true v17) (some v12)) fun v18 =>
 vb (gd (isB true v17) (pcall (F26 n cl v18 (h.fzn)))) fun v19 =>
 vb (gd (isB true v17) (xCmp ieq v19 (vN 8))) fun v20 =>
 vb (xPick v17 v20 ff) fun v21 =>
 some (v21, h)
noncomputable def D21 (n : Nat) (cl : CL) : CL := fun f xs h => sw f 22 (ucons xs fun b0 xs => u0 xs (F22 n cl b0 h)) (sw f 26 (ucons xs fun b0 xs => u0 xs (F26 n cl b0 h)) (cl f xs h))
theorem Dk21 {n : Nat} {cl : CL} (hcl : OkCL Try.prog cl) : OkCL Try.prog (D21 n cl) := by
  intro f xs h v h' hx
  rcases sw_ok hx with ⟨rfl, hx⟩ | hx
  · obtain ⟨_, _, rfl, hx⟩ := ucons_ok hx; obtain ⟨rfl, hx⟩ := u0_ok hx; exact S22 (n := n) (cl := cl) hcl hx
  rcases sw_ok hx with ⟨rfl, hx⟩ | hx
  · obtain ⟨_, _, rfl, hx⟩ := ucons_ok hx; obtain ⟨rfl, hx⟩ := u0_ok hx; exact S26 (n := n) (cl := cl) hcl hx
  exact hcl _ _ _ _ _ hx
theorem E21 (n : Nat) (cl : CL) (h : PH) : exF Try.prog n (D21 n cl) ⟨[22, 26], [], [], [], []⟩ Try.f21 [] h = F21 n cl  h := by kernel_rfl
theorem S21 {n : Nat} {cl : CL} (hcl : OkCL Try.prog cl) {h h' : PH} {v : Value} (hx : F21 n cl h = some (v, h')) : (enterable Try.prog 21 = true ∧ ACall Try.prog 21 [] h.abs (fun u k => u = v ∧ k = h'.abs)) ∧ Inv h h' :=
  exF_ok (Dk21 hcl) hmx Try.func21 (by kernel_rfl) ((E21 n cl h).trans hx)
-- undergrowth/undergrowthref10.Nullable
noncomputable def F36_0 (n : Nat) (cl : CL) (v35 : Value) (r8 : Kt) (v29 : Value) (v31 : Value) (v33 : Value) (h : PH) : R :=
 vb (xAri Int.add v35 (vN 1)) fun v37 =>
 r8 [v29, v31, v33, v37] h
noncomputable def F36_1 (n : Nat) (cl : CL) (v57 : Value) (v61 : Value) (v51 : Value) (r13 : Kt) (v49 : Value) (v53 : Value) (v55 : Value) (h : PH) : R :=
 vb (xFld 1 v57) fun v69 =>
 vb (xLd v69 h) fun v70 =>
 vb (xIdxS 1 v70 v61) fun v71 =>
 vb (xLd v71 h) fun v72 =>
 vb (xCmp (fun x y => ile y x) v72 (vN 0)) fun v73 =>
 vb (gd (isB true v73) (some v51)) fun v74 =>
 vb (gd (isB true v73) (xFld 1 v57)) fun v75 =>
 vb (gd (isB true v73) (xLd v75 h)) fun v76 =>
 vb (gd (isB true v73) (some v61)) fun v77 =>
 vb (gd (isB true v73) (xIdxS 1 v76 v77)) fun v78 =>
 vb (gd (isB true v73) (xLd v78 h)) fun v79 =>
 vb (gd (isB true v73) (xIdxS 1 v74 v79)) fun v80 =>
 vb (gd (isB true v73) (xLd v80 h)) fun v81 =>
 vb (xPick v73 v81 ff) fun v82 =>
 vb (xAri Int.add v61 (vN 1)) fun v83 =>
 r13 [v49, v51, v53, v55, v57, v82, v83] h
noncomputable def F36_2 (n : Nat) (cl : CL) (v57 : Value) (v51 : Value) (k9 : Kt) (v49 : Value) (v55 : Value) (h : PH) : R :=
 vb (xFld 0 v57) fun v84 =>
 vb (xLd v84 h) fun v85 =>
 vb (xIdxS 1 v51 v85) fun v86 =>
 hb (xSt1 v86 tt h) fun _ h =>
 k9 [v49, v51, tt, v55] h
noncomputable def F36_3 (n : Nat) (cl : CL) (v57 : Value) (v61 : Value) (v59 : Value) (v51 : Value) (r13 : Kt) (v49 : Value) (v53 : Value) (v55 : Value) (k9 : Kt) (h : PH) : R :=
 vb (xFld 1 v57) fun v63 =>
 vb (xLd v63 h) fun v64 =>
 vb (xLenS v64) fun v65 =>
 vb (xCmp ilt v61 v65) fun v66 =>
 vb (gd (isB true v66) (some v59)) fun v67 =>
 vb (xPick v66 v67 ff) fun v68 =>
 bite v68 (F36_1 n cl v57 v61 v51 r13 v49 v53 v55 h) (bite v59 (F36_2 n cl v57 v51 k9 v49 v55 h) (k9 [v49, v51, v53, v55] h))
noncomputable def F36_4 (n : Nat) (cl : CL) (k9 : Kt) (r13 : Kt) (y48 : List Value) (h : PH) : R :=
 ucons y48 fun v49 y50 => ucons y50 fun v51 y52 => ucons y52 fun v53 y54 => ucons y54 fun v55 y56 => ucons y56 fun v57 y58 => ucons y58 fun v59 y60 => ucons y60 fun v61 y62 => F36_3 n cl v57 v61 v59 v51 r13 v49 v53 v55 k9 h
noncomputable def F36_5 (n : Nat) (cl : CL) (r8 : Kt) (y28 : List Value) (h : PH) : R :=
 ucons y28 fun v29 y30 => ucons y30 fun v31 y32 => ucons y32 fun v33 y34 => ucons y34 fun v35 y36 => F36_0 n cl v35 r8 v29 v31 v33 h
noncomputable def F36_6 (n : Nat) (cl : CL) (v16 : Value) (v22 : Value) (v18 : Value) (v20 : Value) (h : PH) (k9 : Kt) : R :=
 vb (xFld 3 v16) fun v38 =>
 vb (xLd v38 h) fun v39 =>
 vb (xIdxS 3 v39 v22) fun v40 =>
 vb (xLdA 3 v40 h) fun v41 =>
 hb (xAlloc (zcells Try.prog 29) h) fun v42 h =>
 hb (xStA 3 v42 v41 h) fun _ h =>
 vb (xFld 0 v42) fun v43 =>
 vb (xLd v43 h) fun v44 =>
 vb (xIdxS 1 v18 v44) fun v45 =>
 vb (xLd v45 h) fun v46 =>
 vb (xNot v46) fun v47 =>
 lp n (F36_4 n cl k9) [v16, v18, v20, v22, v42, v47, (vN 0)] h
noncomputable def F36_7 (n : Nat) (cl : CL) (v16 : Value) (v22 : Value) (r8 : Kt) (v18 : Value) (v20 : Value) (r5 : Kt) (h : PH) : R :=
 vb (xFld 3 v16) fun v24 =>
 vb (xLd v24 h) fun v25 =>
 vb (xLenS v25) fun v26 =>
 vb (xCmp ilt v22 v26) fun v27 =>
 bite v27 (jn (F36_5 n cl r8) (F36_6 n cl v16 v22 v18 v20 h)) (r5 [v16, v18, v20] h)
noncomputable def F36_8 (n : Nat) (cl : CL) (r5 : Kt) (r8 : Kt) (y15 : List Value) (h : PH) : R :=
 ucons y15 fun v16 y17 => ucons y17 fun v18 y19 => ucons y19 fun v20 y21 => ucons y21 fun v22 y23 => F36_7 n cl v16 v22 r8 v18 v20 r5 h
noncomputable def F36_9 (n : Nat) (cl : CL) (r5 : Kt) (y8 : List Value) (h : PH) : R :=
 ucons y8 fun v9 y10 => ucons y10 fun v11 y12 => ucons y12 fun v13 y14 => bite v13 (lp n (F36_8 n cl r5) [v9, v11, ff, (vN 0)] h) (some (v11, h))
noncomputable def F36_10 (n : Nat) (cl : CL) (v1 : Value) (h : PH) : R :=
 vb (xFld 0 v1) fun v5 =>
 vb (xLd v5 h) fun v6 =>
 hb (xMk (zinfo Try.prog 34) v6 v6 h) fun v7 h =>
 lp n (F36_9 n cl) [v1, v7, tt] h
noncomputable def F36 (n : Nat) (cl : CL) (a0 : Value) (h : PH) : R :=
 hb (xBox a0 h) fun v1 h =>
 vb (xLdA 7 v1 h) fun v2 =>
 vb (pcall (F30 n cl v2 (h.fzn))) fun v3 =>
 vb (xNot v3) fun v4 =>
 bite v4 (some (nils, h)) (F36_10 n cl v1 h)
noncomputable def D36 (n : Nat) (cl : CL) : CL := fun f xs h => sw f 30 (ucons xs fun b0 xs => u0 xs (F30 n cl b0 h)) (cl f xs h)
theorem Dk36 {n : Nat} {cl : CL} (hcl : OkCL Try.prog cl) : OkCL Try.prog (D36 n cl) := by
  intro f xs h v h' hx
  rcases sw_ok hx with ⟨rfl, hx⟩ | hx
  · obtain ⟨_, _, rfl, hx⟩ := ucons_ok hx; obtain ⟨rfl, hx⟩ := u0_ok hx; exact S30 (n := n) (cl := cl) hcl hx
  exact hcl _ _ _ _ _ hx
theorem E36 (n : Nat) (cl : CL) (a0 : Value) (h : PH) : exF Try.prog n (D36 n cl) ⟨[30], [], [(5, [1, 3, 4]), (8, [1, 3, 4, 5]), (9, [1, 3, 4, 5]), (13, [1, 3, 4, 5, 6, 7, 8])], [], []⟩ Try.f36 [a0] h = F36 n cl a0 h := by kernel_rfl
theorem S36 {n : Nat} {cl : CL} (hcl : OkCL Try.prog cl) {a0 : Value} {h h' : PH} {v : Value} (hx : F36 n cl a0 h = some (v, h')) : (enterable Try.prog 36 = true ∧ ACall Try.prog 36 [a0] h.abs (fun u k => u = v ∧ k = h'.abs)) ∧ Inv h h' :=
  exF_ok (Dk36 hcl) hmx Try.func36 (by kernel_rfl) ((E36 n cl a0 h).trans hx)
-- undergrowth/undergrowthref10.Cyclic
noncomputable def F25_0 (n : Nat) (cl : CL) (v15 : Value) (v17 : Value) (v19 : Value) (r7 : Kt) (v11 : Value) (v13 : Value) (h : PH) : R :=
 hb (xMk (zinfo Try.prog 34) v15 v15 h) fun v22 h =>
 vb (xIdxS 1 v17 v19) fun v23 =>
 hb (xSt1 v23 v22 h) fun _ h =>
 vb (xAri Int.add v19 (vN 1)) fun v24 =>
 r7 [v11, v13, v15, v17, v24] h
noncomputable def F25_1 (n : Nat) (cl : CL) (v77 : Value) (r15 : Kt) (v65 : Value) (v67 : Value) (v69 : Value) (v71 : Value) (v73 : Value) (v75 : Value) (h : PH) : R :=
 vb (xAri Int.add v77 (vN 1)) fun v79 =>
 r15 [v65, v67, v69, v71, v73, v75, v79] h
noncomputable def F25_2 (n : Nat) (cl : CL) (v102 : Value) (v98 : Value) (v96 : Value) (v88 : Value) (r19 : Kt) (v86 : Value) (v90 : Value) (v92 : Value) (v94 : Value) (h : PH) : R :=
 vb (xCmp ieq v102 v98) fun v110 =>
 vb (gd (isB false v110) (xFld 1 v96)) fun v111 =>
 vb (gd (isB false v110) (xLd v111 h)) fun v112 =>
 vb (gd (isB false v110) (some v102)) fun v113 =>
 vb (gd (isB false v110) (xIdxS 1 v112 v113)) fun v114 =>
 vb (gd (isB false v110) (xLd v114 h)) fun v115 =>
 vb (gd (isB false v110) (xCmp (fun x y => ile y x) v115 (vN 0))) fun v116 =>
 vb (gd (isB false v110) (some v116)) fun v117 =>
 vb (gd (isB true v117) (some v88)) fun v118 =>
 vb (gd (isB true v117) (xFld 1 v96)) fun v119 =>
 vb (gd (isB true v117) (xLd v119 h)) fun v120 =>
 vb (gd (isB true v117) (some v102)) fun v121 =>
 vb (gd (isB true v117) (xIdxS 1 v120 v121)) fun v122 =>
 vb (gd (isB true v117) (xLd v122 h)) fun v123 =>
 vb (gd (isB true v117) (xIdxS 1 v118 v123)) fun v124 =>
 vb (gd (isB true v117) (xLd v124 h)) fun v125 =>
 vb (gd (isB false v110) (xPick v117 v125 ff)) fun v126 =>
 vb (xPick v110 tt v126) fun v127 =>
 vb (xAri Int.add v102 (vN 1)) fun v128 =>
 r19 [v86, v88, v90, v92, v94, v96, v98, v127, v128] h
noncomputable def F25_3 (n : Nat) (cl : CL) (v96 : Value) (v92 : Value) (v98 : Value) (k16 : Kt) (v86 : Value) (v88 : Value) (v90 : Value) (v94 : Value) (h : PH) : R :=
 vb (xFld 0 v96) fun v129 =>
 vb (xFld 1 v96) fun v130 =>
 vb (xLd v129 h) fun v131 =>
 vb (xIdxS 1 v92 v131) fun v132 =>
 vb (xLd v132 h) fun v133 =>
 vb (xLd v130 h) fun v134 =>
 vb (xIdxS 1 v134 v98) fun v135 =>
 vb (xLd v135 h) fun v136 =>
 vb (xIdxS 1 v133 v136) fun v137 =>
 hb (xSt1 v137 tt h) fun _ h =>
 k16 [v86, v88, v90, v92, v94, v96, v98] h
noncomputable def F25_4 (n : Nat) (cl : CL) (v100 : Value) (v96 : Value) (v92 : Value) (v98 : Value) (k16 : Kt) (v86 : Value) (v88 : Value) (v90 : Value) (v94 : Value) (h : PH) : R :=
 bite v100 (F25_3 n cl v96 v92 v98 k16 v86 v88 v90 v94 h) (k16 [v86, v88, v90, v92, v94, v96, v98] h)
noncomputable def F25_5 (n : Nat) (cl : CL) (v96 : Value) (v102 : Value) (v100 : Value) (v98 : Value) (v88 : Value) (r19 : Kt) (v86 : Value) (v90 : Value) (v92 : Value) (v94 : Value) (k16 : Kt) (h : PH) : R :=
 vb (xFld 1 v96) fun v104 =>
 vb (xLd v104 h) fun v105 =>
 vb (xLenS v105) fun v106 =>
 vb (xCmp ilt v102 v106) fun v107 =>
 vb (gd (isB true v107) (some v100)) fun v108 =>
 vb (xPick v107 v108 ff) fun v109 =>
 bite v109 (F25_2 n cl v102 v98 v96 v88 r19 v86 v90 v92 v94 h) (F25_4 n cl v100 v96 v92 v98 k16 v86 v88 v90 v94 h)
noncomputable def F25_6 (n : Nat) (cl : CL) (k16 : Kt) (r19 : Kt) (y85 : List Value) (h : PH) : R :=
 ucons y85 fun v86 y87 => ucons y87 fun v88 y89 => ucons y89 fun v90 y91 => ucons y91 fun v92 y93 => ucons y93 fun v94 y95 => ucons y95 fun v96 y97 => ucons y97 fun v98 y99 => ucons y99 fun v100 y101 => ucons y101 fun v102 y103 => F25_5 n cl v96 v102 v100 v98 v88 r19 v86 v90 v92 v94 k16 h
noncomputable def F25_7 (n : Nat) (cl : CL) (r15 : Kt) (y64 : List Value) (h : PH) : R :=
 ucons y64 fun v65 y66 => ucons y66 fun v67 y68 => ucons y68 fun v69 y70 => ucons y70 fun v71 y72 => ucons y72 fun v73 y74 => ucons y74 fun v75 y76 => ucons y76 fun v77 y78 => F25_1 n cl v77 r15 v65 v67 v69 v71 v73 v75 h
noncomputable def F25_8 (n : Nat) (cl : CL) (v56 : Value) (v58 : Value) (v46 : Value) (v48 : Value) (v50 : Value) (v52 : Value) (v54 : Value) (h : PH) (k16 : Kt) : R :=
 vb (xFld 1 v56) fun v80 =>
 vb (xLd v80 h) fun v81 =>
 vb (xIdxS 1 v81 v58) fun v82 =>
 vb (xLd v82 h) fun v83 =>
 vb (xCmp (fun x y => ile y x) v83 (vN 0)) fun v84 =>
 lp n (F25_6 n cl k16) [v46, v48, v50, v52, v54, v56, v58, v84, (vN 0)] h
noncomputable def F25_9 (n : Nat) (cl : CL) (v54 : Value) (r11 : Kt) (v46 : Value) (v48 : Value) (v50 : Value) (v52 : Value) (h : PH) : R :=
 vb (xAri Int.add v54 (vN 1)) fun v138 =>
 r11 [v46, v48, v50, v52, v138] h
noncomputable def F25_10 (n : Nat) (cl : CL) (v56 : Value) (v58 : Value) (r15 : Kt) (v46 : Value) (v48 : Value) (v50 : Value) (v52 : Value) (v54 : Value) (r11 : Kt) (h : PH) : R :=
 vb (xFld 1 v56) fun v60 =>
 vb (xLd v60 h) fun v61 =>
 vb (xLenS v61) fun v62 =>
 vb (xCmp ilt v58 v62) fun v63 =>
 bite v63 (jn (F25_7 n cl r15) (F25_8 n cl v56 v58 v46 v48 v50 v52 v54 h)) (F25_9 n cl v54 r11 v46 v48 v50 v52 h)
noncomputable def F25_11 (n : Nat) (cl : CL) (r11 : Kt) (r15 : Kt) (y45 : List Value) (h : PH) : R :=
 ucons y45 fun v46 y47 => ucons y47 fun v48 y49 => ucons y49 fun v50 y51 => ucons y51 fun v52 y53 => ucons y53 fun v54 y55 => ucons y55 fun v56 y57 => ucons y57 fun v58 y59 => F25_10 n cl v56 v58 r15 v46 v48 v50 v52 v54 r11 h
noncomputable def F25_12 (n : Nat) (cl : CL) (v26 : Value) (v34 : Value) (r11 : Kt) (v28 : Value) (v30 : Value) (v32 : Value) (h : PH) : R :=
 vb (xFld 3 v26) fun v40 =>
 vb (xLd v40 h) fun v41 =>
 vb (xIdxS 3 v41 v34) fun v42 =>
 vb (xLdA 3 v42 h) fun v43 =>
 hb (xAlloc (zcells Try.prog 29) h) fun v44 h =>
 hb (xStA 3 v44 v43 h) fun _ h =>
 lp n (F25_11 n cl r11) [v26, v28, v30, v32, v34, v44, (vN 0)] h
noncomputable def F25_13 (n : Nat) (cl : CL) (v160 : Value) (v164 : Value) (v166 : Value) (v162 : Value) (r31 : Kt) (v158 : Value) (h : PH) : R :=
 vb (xIdxS 1 v160 v164) fun v169 =>
 vb (xIdxS 1 v160 v164) fun v170 =>
 vb (xLd v169 h) fun v171 =>
 vb (xLd v170 h) fun v172 =>
 vb (xIdxS 1 v172 v166) fun v173 =>
 vb (xLd v173 h) fun v174 =>
 vb (gd (isB false v174) (some v160)) fun v175 =>
 vb (gd (isB false v174) (some v164)) fun v176 =>
 vb (gd (isB false v174) (xIdxS 1 v175 v176)) fun v177 =>
 vb (gd (isB false v174) (some v162)) fun v178 =>
 vb (gd (isB false v174) (xLd v177 h)) fun v179 =>
 vb (gd (isB false v174) (xIdxS 1 v179 v178)) fun v180 =>
 vb (gd (isB false v174) (xLd v180 h)) fun v181 =>
 vb (gd (isB false v174) (some v181)) fun v182 =>
 vb (gd (isB true v182) (some v160)) fun v183 =>
 vb (gd (isB true v182) (some v162)) fun v184 =>
 vb (gd (isB true v182) (xIdxS 1 v183 v184)) fun v185 =>
 vb (gd (isB true v182) (some v166)) fun v186 =>
 vb (gd (isB true v182) (xLd v185 h)) fun v187 =>
 vb (gd (isB true v182) (xIdxS 1 v187 v186)) fun v188 =>
 vb (gd (isB true v182) (xLd v188 h)) fun v189 =>
 vb (gd (isB false v174) (xPick v182 v189 ff)) fun v190 =>
 vb (xPick v174 tt v190) fun v191 =>
 vb (xIdxS 1 v171 v166) fun v192 =>
 hb (xSt1 v192 v191 h) fun _ h =>
 vb (xAri Int.add v166 (vN 1)) fun v193 =>
 r31 [v158, v160, v162, v164, v193] h
noncomputable def F25_14 (n : Nat) (cl : CL) (v164 : Value) (r28 : Kt) (v158 : Value) (v160 : Value) (v162 : Value) (h : PH) : R :=
 vb (xAri Int.add v164 (vN 1)) fun v194 =>
 r28 [v158, v160, v162, v194] h
noncomputable def F25_15 (n : Nat) (cl : CL) (v166 : Value) (v158 : Value) (v160 : Value) (v164 : Value) (v162 : Value) (r31 : Kt) (r28 : Kt) (h : PH) : R :=
 vb (xCmp ilt v166 v158) fun v168 =>
 bite v168 (F25_13 n cl v160 v164 v166 v162 r31 v158 h) (F25_14 n cl v164 r28 v158 v160 v162 h)
noncomputable def F25_16 (n : Nat) (cl : CL) (r28 : Kt) (r31 : Kt) (y157 : List Value) (h : PH) : R :=
 ucons y157 fun v158 y159 => ucons y159 fun v160 y161 => ucons y161 fun v162 y163 => ucons y163 fun v164 y165 => ucons y165 fun v166 y167 => F25_15 n cl v166 v158 v160 v164 v162 r31 r28 h
noncomputable def F25_17 (n : Nat) (cl : CL) (v152 : Value) (r25 : Kt) (v148 : Value) (v150 : Value) (h : PH) : R :=
 vb (xAri Int.add v152 (vN 1)) fun v195 =>
 r25 [v148, v150, v195] h
noncomputable def F25_18 (n : Nat) (cl : CL) (v154 : Value) (v148 : Value) (r28 : Kt) (v150 : Value) (v152 : Value) (r25 : Kt) (h : PH) : R :=
 vb (xCmp ilt v154 v148) fun v156 =>
 bite v156 (lp n (F25_16 n cl r28) [v148, v150, v152, v154, (vN 0)] h) (F25_17 n cl v152 r25 v148 v150 h)
noncomputable def F25_19 (n : Nat) (cl : CL) (r25 : Kt) (r28 : Kt) (y147 : List Value) (h : PH) : R :=
 ucons y147 fun v148 y149 => ucons y149 fun v150 y151 => ucons y151 fun v152 y153 => ucons y153 fun v154 y155 => F25_18 n cl v154 v148 r28 v150 v152 r25 h
noncomputable def F25_20 (n : Nat) (cl : CL) (v199 : Value) (v203 : Value) (v201 : Value) (r36 : Kt) (v197 : Value) (h : PH) : R :=
 vb (xIdxS 1 v199 v203) fun v206 =>
 vb (xLd v206 h) fun v207 =>
 vb (xIdxS 1 v207 v203) fun v208 =>
 vb (xLd v208 h) fun v209 =>
 hb (xBS 1 (bsRow Try.prog 34 1 [(0, v209)]) h) fun v210 h =>
 hb (xApp (appInfo Try.prog #[34, 34]) v201 v210 h) fun v211 h =>
 vb (xAri Int.add v203 (vN 1)) fun v212 =>
 r36 [v197, v199, v211, v212] h
noncomputable def F25_21 (n : Nat) (cl : CL) (v203 : Value) (v197 : Value) (v199 : Value) (v201 : Value) (r36 : Kt) (h : PH) : R :=
 vb (xCmp ilt v203 v197) fun v205 =>
 bite v205 (F25_20 n cl v199 v203 v201 r36 v197 h) (some (v201, h))
noncomputable def F25_22 (n : Nat) (cl : CL) (r36 : Kt) (y196 : List Value) (h : PH) : R :=
 ucons y196 fun v197 y198 => ucons y198 fun v199 y200 => ucons y200 fun v201 y202 => ucons y202 fun v203 y204 => F25_21 n cl v203 v197 v199 v201 r36 h
noncomputable def F25_23 (n : Nat) (cl : CL) (v144 : Value) (v140 : Value) (r25 : Kt) (v142 : Value) (h : PH) : R :=
 vb (xCmp ilt v144 v140) fun v146 =>
 bite v146 (lp n (F25_19 n cl r25) [v140, v142, v144, (vN 0)] h) (lp n (F25_22 n cl) [v140, v142, nils, (vN 0)] h)
noncomputable def F25_24 (n : Nat) (cl : CL) (r25 : Kt) (y139 : List Value) (h : PH) : R :=
 ucons y139 fun v140 y141 => ucons y141 fun v142 y143 => ucons y143 fun v144 y145 => F25_23 n cl v144 v140 r25 v142 h
noncomputable def F25_25 (n : Nat) (cl : CL) (v26 : Value) (v34 : Value) (r11 : Kt) (v28 : Value) (v30 : Value) (v32 : Value) (h : PH) : R :=
 vb (xFld 3 v26) fun v36 =>
 vb (xLd v36 h) fun v37 =>
 vb (xLenS v37) fun v38 =>
 vb (xCmp ilt v34 v38) fun v39 =>
 bite v39 (F25_12 n cl v26 v34 r11 v28 v30 v32 h) (lp n (F25_24 n cl) [v30, v32, (vN 0)] h)
noncomputable def F25_26 (n : Nat) (cl : CL) (r11 : Kt) (y25 : List Value) (h : PH) : R :=
 ucons y25 fun v26 y27 => ucons y27 fun v28 y29 => ucons y29 fun v30 y31 => ucons y31 fun v32 y33 => ucons y33 fun v34 y35 => F25_25 n cl v26 v34 r11 v28 v30 v32 h
noncomputable def F25_27 (n : Nat) (cl : CL) (v19 : Value) (v15 : Value) (v17 : Value) (r7 : Kt) (v11 : Value) (v13 : Value) (h : PH) : R :=
 vb (xCmp ilt v19 v15) fun v21 =>
 bite v21 (F25_0 n cl v15 v17 v19 r7 v11 v13 h) (lp n (F25_26 n cl) [v11, v13, v15, v17, (vN 0)] h)
noncomputable def F25_28 (n : Nat) (cl : CL) (r7 : Kt) (y10 : List Value) (h : PH) : R :=
 ucons y10 fun v11 y12 => ucons y12 fun v13 y14 => ucons y14 fun v15 y16 => ucons y16 fun v17 y18 => ucons y18 fun v19 y20 => F25_27 n cl v19 v15 v17 r7 v11 v13 h
noncomputable def F25_29 (n : Nat) (cl : CL) (v1 : Value) (h : PH) : R :=
 vb (xLdA 7 v1 h) fun v5 =>
 hb (fcall h (F36 n cl v5 (h.fzn))) fun v6 h =>
 vb (xFld 0 v1) fun v7 =>
 vb (xLd v7 h) fun v8 =>
 hb (xMk (zinfo Try.prog 50) v8 v8 h) fun v9 h =>
 lp n (F25_28 n cl) [v1, v6, v8, v9, (vN 0)] h
noncomputable def F25 (n : Nat) (cl : CL) (a0 : Value) (h : PH) : R :=
 hb (xBox a0 h) fun v1 h =>
 vb (xLdA 7 v1 h) fun v2 =>
 vb (pcall (F30 n cl v2 (h.fzn))) fun v3 =>
 vb (xNot v3) fun v4 =>
 bite v4 (some (nils, h)) (F25_29 n cl v1 h)
noncomputable def D25 (n : Nat) (cl : CL) : CL := fun f xs h => sw f 30 (ucons xs fun b0 xs => u0 xs (F30 n cl b0 h)) (sw f 36 (ucons xs fun b0 xs => u0 xs (F36 n cl b0 h)) (cl f xs h))
theorem Dk25 {n : Nat} {cl : CL} (hcl : OkCL Try.prog cl) : OkCL Try.prog (D25 n cl) := by
  intro f xs h v h' hx
  rcases sw_ok hx with ⟨rfl, hx⟩ | hx
  · obtain ⟨_, _, rfl, hx⟩ := ucons_ok hx; obtain ⟨rfl, hx⟩ := u0_ok hx; exact S30 (n := n) (cl := cl) hcl hx
  rcases sw_ok hx with ⟨rfl, hx⟩ | hx
  · obtain ⟨_, _, rfl, hx⟩ := ucons_ok hx; obtain ⟨rfl, hx⟩ := u0_ok hx; exact S36 (n := n) (cl := cl) hcl hx
  exact hcl _ _ _ _ _ hx
theorem E25 (n : Nat) (cl : CL) (a0 : Value) (h : PH) : exF Try.prog n (D25 n cl) ⟨[30], [36], [(7, [1, 3, 4, 5, 6]), (11, [1, 3, 4, 5, 7]), (15, [1, 3, 4, 5, 7, 8, 9]), (16, [1, 3, 4, 5, 7, 8, 9]), (19, [1, 3, 4, 5, 7, 8, 9, 10, 11]), (25, [4, 5, 12]), (28, [4, 5, 12, 13]), (31, [4, 5, 12, 13, 14]), (36, [4, 5, 15, 16])], [(23, [0, 1, 5, 7, 2, 3, 4, 6, 8, 9, 10, 11]), (33, [0, 1, 2, 4, 5, 6, 7, 9, 3, 8, 10, 11, 12, 13, 14, 15, 17, 16, 18, 19, 20, 21, 22, 23, 25, 24, 26, 27, 28, 29, 30, 31])], []⟩ Try.f25 [a0] h = F25 n cl a0 h := by kernel_rfl
theorem S25 {n : Nat} {cl : CL} (hcl : OkCL Try.prog cl) {a0 : Value} {h h' : PH} {v : Value} (hx : F25 n cl a0 h = some (v, h')) : (enterable Try.prog 25 = true ∧ ACall Try.prog 25 [a0] h.abs (fun u k => u = v ∧ k = h'.abs)) ∧ Inv h h' :=
  exF_ok (Dk25 hcl) hmx Try.func25 (by kernel_rfl) ((E25 n cl a0 h).trans hx)
-- undergrowth/undergrowthref10.Check
noncomputable def F23_0 (n : Nat) (cl : CL) (v22 : Value) (r8 : Kt) (v14 : Value) (v16 : Value) (v18 : Value) (v20 : Value) (h : PH) : R :=
 vb (xAri Int.add v22 (vN 1)) fun v36 =>
 r8 [v14, v16, v18, v20, v36] h
noncomputable def F23_1 (n : Nat) (cl : CL) (v16 : Value) (v22 : Value) (v18 : Value) (r8 : Kt) (v14 : Value) (v20 : Value) (h : PH) : R :=
 vb (xIdxS 1 v16 v22) fun v27 =>
 vb (xLd v27 h) fun v28 =>
 vb (xNot v28) fun v29 =>
 vb (gd (isB false v29) (some v18)) fun v30 =>
 vb (gd (isB false v29) (some v22)) fun v31 =>
 vb (gd (isB false v29) (xIdxS 1 v30 v31)) fun v32 =>
 vb (gd (isB false v29) (xLd v32 h)) fun v33 =>
 vb (gd (isB false v29) (xNot v33)) fun v34 =>
 vb (xPick v29 tt v34) fun v35 =>
 bite v35 (some (Value.tuple ⟨[v22, (vN 7)]⟩, h)) (F23_0 n cl v22 r8 v14 v16 v18 v20 h)
noncomputable def F23_2 (n : Nat) (cl : CL) (v42 : Value) (r13 : Kt) (v38 : Value) (v40 : Value) (h : PH) : R :=
 vb (xAri Int.add v42 (vN 1)) fun v49 =>
 r13 [v38, v40, v49] h
noncomputable def F23_3 (n : Nat) (cl : CL) (v40 : Value) (v42 : Value) (r13 : Kt) (v38 : Value) (h : PH) : R :=
 vb (xIdxS 1 v40 v42) fun v47 =>
 vb (xLd v47 h) fun v48 =>
 bite v48 (some (Value.tuple ⟨[v42, (vN 8)]⟩, h)) (F23_2 n cl v42 r13 v38 v40 h)
noncomputable def F23_4 (n : Nat) (cl : CL) (v38 : Value) (v42 : Value) (v40 : Value) (r13 : Kt) (h : PH) : R :=
 vb (xFld 0 v38) fun v44 =>
 vb (xLd v44 h) fun v45 =>
 vb (xCmp ilt v42 v45) fun v46 =>
 bite v46 (F23_3 n cl v40 v42 r13 v38 h) (some (Value.tuple ⟨[(vM 0), (vN 0)]⟩, h))
noncomputable def F23_5 (n : Nat) (cl : CL) (r13 : Kt) (y37 : List Value) (h : PH) : R :=
 ucons y37 fun v38 y39 => ucons y39 fun v40 y41 => ucons y41 fun v42 y43 => F23_4 n cl v38 v42 v40 r13 h
noncomputable def F23_6 (n : Nat) (cl : CL) (v14 : Value) (v22 : Value) (v16 : Value) (v18 : Value) (r8 : Kt) (v20 : Value) (h : PH) : R :=
 vb (xFld 0 v14) fun v24 =>
 vb (xLd v24 h) fun v25 =>
 vb (xCmp ilt v22 v25) fun v26 =>
 bite v26 (F23_1 n cl v16 v22 v18 r8 v14 v20 h) (lp n (F23_5 n cl) [v14, v20, (vN 0)] h)
noncomputable def F23_7 (n : Nat) (cl : CL) (r8 : Kt) (y13 : List Value) (h : PH) : R :=
 ucons y13 fun v14 y15 => ucons y15 fun v16 y17 => ucons y17 fun v18 y19 => ucons y19 fun v20 y21 => ucons y21 fun v22 y23 => F23_6 n cl v14 v22 v16 v18 r8 v20 h
noncomputable def F23_8 (n : Nat) (cl : CL) (v1 : Value) (h : PH) : R :=
 vb (xLdA 7 v1 h) fun v7 =>
 hb (fcall h (F15 n cl v7 (h.fzn))) fun v8 h =>
 vb (xLdA 7 v1 h) fun v9 =>
 hb (fcall h (F17 n cl v9 (h.fzn))) fun v10 h =>
 vb (xLdA 7 v1 h) fun v11 =>
 hb (fcall h (F25 n cl v11 (h.fzn))) fun v12 h =>
 lp n (F23_7 n cl) [v1, v8, v10, v12, (vN 0)] h
noncomputable def F23 (n : Nat) (cl : CL) (a0 : Value) (h : PH) : R :=
 hb (xBox a0 h) fun v1 h =>
 vb (xLdA 7 v1 h) fun v2 =>
 vb (pcall (F20 n cl v2 (h.fzn))) fun v3 =>
 vb (xExt 0 v3) fun v4 =>
 vb (xExt 1 v3) fun v5 =>
 vb (xCmp ine v5 (vN 0)) fun v6 =>
 bite v6 (some (Value.tuple ⟨[v4, v5]⟩, h)) (F23_8 n cl v1 h)
noncomputable def D23 (n : Nat) (cl : CL) : CL := fun f xs h => sw f 20 (ucons xs fun b0 xs => u0 xs (F20 n cl b0 h)) (sw f 15 (ucons xs fun b0 xs => u0 xs (F15 n cl b0 h)) (sw f 17 (ucons xs fun b0 xs => u0 xs (F17 n cl b0 h)) (sw f 25 (ucons xs fun b0 xs => u0 xs (F25 n cl b0 h)) (cl f xs h))))
theorem Dk23 {n : Nat} {cl : CL} (hcl : OkCL Try.prog cl) : OkCL Try.prog (D23 n cl) := by
  intro f xs h v h' hx
  rcases sw_ok hx with ⟨rfl, hx⟩ | hx
  · obtain ⟨_, _, rfl, hx⟩ := ucons_ok hx; obtain ⟨rfl, hx⟩ := u0_ok hx; exact S20 (n := n) (cl := cl) hcl hx
  rcases sw_ok hx with ⟨rfl, hx⟩ | hx
  · obtain ⟨_, _, rfl, hx⟩ := ucons_ok hx; obtain ⟨rfl, hx⟩ := u0_ok hx; exact S15 (n := n) (cl := cl) hcl hx
  rcases sw_ok hx with ⟨rfl, hx⟩ | hx
  · obtain ⟨_, _, rfl, hx⟩ := ucons_ok hx; obtain ⟨rfl, hx⟩ := u0_ok hx; exact S17 (n := n) (cl := cl) hcl hx
  rcases sw_ok hx with ⟨rfl, hx⟩ | hx
  · obtain ⟨_, _, rfl, hx⟩ := ucons_ok hx; obtain ⟨rfl, hx⟩ := u0_ok hx; exact S25 (n := n) (cl := cl) hcl hx
  exact hcl _ _ _ _ _ hx
theorem E23 (n : Nat) (cl : CL) (a0 : Value) (h : PH) : exF Try.prog n (D23 n cl) ⟨[20], [15, 17, 25], [(8, [1, 6, 7, 8, 9]), (13, [1, 8, 10])], [], []⟩ Try.f23 [a0] h = F23 n cl a0 h := by kernel_rfl
theorem S23 {n : Nat} {cl : CL} (hcl : OkCL Try.prog cl) {a0 : Value} {h h' : PH} {v : Value} (hx : F23 n cl a0 h = some (v, h')) : (enterable Try.prog 23 = true ∧ ACall Try.prog 23 [a0] h.abs (fun u k => u = v ∧ k = h'.abs)) ∧ Inv h h' :=
  exF_ok (Dk23 hcl) hmx Try.func23 (by kernel_rfl) ((E23 n cl a0 h).trans hx)
-- undergrowth/undergrowthlaw13.CycleTells
noncomputable def F6_0 (n : Nat) (cl : CL) (v1 : Value) (h : PH) : R :=
 vb (xLdA 7 v1 h) fun v8 =>
 vb (pcall (F22 n cl v8 (h.fzn))) fun v9 =>
 vb (xExt 0 v9) fun v10 =>
 vb (xExt 1 v9) fun v11 =>
 vb (xLdA 7 v1 h) fun v12 =>
 vb (pcall (F23 n cl v12 (h.fzn))) fun v13 =>
 vb (xExt 0 v13) fun v14 =>
 vb (xExt 1 v13) fun v15 =>
 nb h fun m16 =>
 vb (xLdA 7 v1 h) fun v17 =>
 vb (oldB m16 v1 (xLdA 7 v1 h)) fun v18 =>
 hb (fcall h (F24 n cl v17 (h.fzn))) fun v19 h =>
 hb (fcall h (F25 n cl v18 (h.fzn))) fun v20 h =>
 vb (pcall (F13 n cl v19 v20 (h.fzn))) fun v21 =>
 vb (gd (isB true v21) (some v10)) fun v22 =>
 vb (gd (isB true v21) (some v14)) fun v23 =>
 vb (gd (isB true v21) (xCmp ieq v22 v23)) fun v24 =>
 vb (xPick v21 v24 ff) fun v25 =>
 vb (gd (isB true v25) (some v11)) fun v26 =>
 vb (gd (isB true v25) (some v15)) fun v27 =>
 vb (gd (isB true v25) (pcall (F26 n cl v26 (h.fzn)))) fun v28 =>
 vb (gd (isB true v25) (xCmp ieq v28 v27)) fun v29 =>
 vb (xPick v25 v29 ff) fun v30 =>
 some (v30, h)
noncomputable def F6 (n : Nat) (cl : CL) (a0 : Value) (h : PH) : R :=
 hb (xBox a0 h) fun v1 h =>
 vb (pcall (F21 n cl (h.fzn))) fun v2 =>
 vb (xNot v2) fun v3 =>
 vb (gd (isB false v3) (xLdA 7 v1 h)) fun v4 =>
 vb (gd (isB false v3) (pcall (F12 n cl v4 (h.fzn)))) fun v5 =>
 vb (gd (isB false v3) (xNot v5)) fun v6 =>
 vb (xPick v3 tt v6) fun v7 =>
 bite v7 (some (v2, h)) (F6_0 n cl v1 h)
noncomputable def D6 (n : Nat) (cl : CL) : CL := fun f xs h => sw f 21 (u0 xs (F21 n cl h)) (sw f 12 (ucons xs fun b0 xs => u0 xs (F12 n cl b0 h)) (sw f 22 (ucons xs fun b0 xs => u0 xs (F22 n cl b0 h)) (sw f 23 (ucons xs fun b0 xs => u0 xs (F23 n cl b0 h)) (sw f 24 (ucons xs fun b0 xs => u0 xs (F24 n cl b0 h)) (sw f 25 (ucons xs fun b0 xs => u0 xs (F25 n cl b0 h)) (sw f 13 (ucons xs fun b0 xs => ucons xs fun b1 xs => u0 xs (F13 n cl b0 b1 h)) (sw f 26 (ucons xs fun b0 xs => u0 xs (F26 n cl b0 h)) (cl f xs h))))))))
theorem Dk6 {n : Nat} {cl : CL} (hcl : OkCL Try.prog cl) : OkCL Try.prog (D6 n cl) := by
  intro f xs h v h' hx
  rcases sw_ok hx with ⟨rfl, hx⟩ | hx
  · obtain ⟨rfl, hx⟩ := u0_ok hx; exact S21 (n := n) (cl := cl) hcl hx
  rcases sw_ok hx with ⟨rfl, hx⟩ | hx
  · obtain ⟨_, _, rfl, hx⟩ := ucons_ok hx; obtain ⟨rfl, hx⟩ := u0_ok hx; exact S12 (n := n) (cl := cl) hcl hx
  rcases sw_ok hx with ⟨rfl, hx⟩ | hx
  · obtain ⟨_, _, rfl, hx⟩ := ucons_ok hx; obtain ⟨rfl, hx⟩ := u0_ok hx; exact S22 (n := n) (cl := cl) hcl hx
  rcases sw_ok hx with ⟨rfl, hx⟩ | hx
  · obtain ⟨_, _, rfl, hx⟩ := ucons_ok hx; obtain ⟨rfl, hx⟩ := u0_ok hx; exact S23 (n := n) (cl := cl) hcl hx
  rcases sw_ok hx with ⟨rfl, hx⟩ | hx
  · obtain ⟨_, _, rfl, hx⟩ := ucons_ok hx; obtain ⟨rfl, hx⟩ := u0_ok hx; exact S24 (n := n) (cl := cl) hcl hx
  rcases sw_ok hx with ⟨rfl, hx⟩ | hx
  · obtain ⟨_, _, rfl, hx⟩ := ucons_ok hx; obtain ⟨rfl, hx⟩ := u0_ok hx; exact S25 (n := n) (cl := cl) hcl hx
  rcases sw_ok hx with ⟨rfl, hx⟩ | hx
  · obtain ⟨_, _, rfl, hx⟩ := ucons_ok hx; obtain ⟨_, _, rfl, hx⟩ := ucons_ok hx; obtain ⟨rfl, hx⟩ := u0_ok hx; exact S13 (n := n) (cl := cl) hcl hx
  rcases sw_ok hx with ⟨rfl, hx⟩ | hx
  · obtain ⟨_, _, rfl, hx⟩ := ucons_ok hx; obtain ⟨rfl, hx⟩ := u0_ok hx; exact S26 (n := n) (cl := cl) hcl hx
  exact hcl _ _ _ _ _ hx
theorem E6 (n : Nat) (cl : CL) (a0 : Value) (h : PH) : exF Try.prog n (D6 n cl) ⟨[12, 13, 21, 22, 23, 26], [24, 25], [], [(6, [0, 2, 1, 3, 4, 5, 6, 7, 8, 9, 10, 11, 13, 12, 14, 15, 16])], [(6, [1, 2])]⟩ Try.f6 [a0] h = F6 n cl a0 h := by kernel_rfl
theorem S6 {n : Nat} {cl : CL} (hcl : OkCL Try.prog cl) {a0 : Value} {h h' : PH} {v : Value} (hx : F6 n cl a0 h = some (v, h')) : (enterable Try.prog 6 = true ∧ ACall Try.prog 6 [a0] h.abs (fun u k => u = v ∧ k = h'.abs)) ∧ Inv h h' :=
  exF_ok (Dk6 hcl) hmx Try.func6 (by kernel_rfl) ((E6 n cl a0 h).trans hx)
-- undergrowth/undergrowthlaw13.CycleRings
noncomputable def F7_0 (n : Nat) (cl : CL) (v60 : Value) (v62 : Value) (v64 : Value) (r6 : Kt) (v52 : Value) (v54 : Value) (v56 : Value) (v58 : Value) (h : PH) : R :=
 vb (xFld 3 v60) fun v66 =>
 vb (xLd v66 h) fun v67 =>
 vb (abuild Try.prog 29 [(0, v62), (1, v64)]) fun v68 =>
 hb (xBS 1 (bsRow Try.prog 23 1 [(0, v68)]) h) fun v69 h =>
 hb (xApp (appInfo Try.prog #[23, 23]) v67 v69 h) fun v70 h =>
 vb (xFld 3 v60) fun v71 =>
 hb (xSt1 v71 v70 h) fun _ h =>
 vb (xAri Int.add v62 (vN 1)) fun v72 =>
 r6 [v52, v54, v56, v58, v60, v72] h
noncomputable def F7_1 (n : Nat) (cl : CL) (v49 : Value) (k13 : Kt) (v37 : Value) (v39 : Value) (v41 : Value) (v43 : Value) (v45 : Value) (v47 : Value) (h : PH) : R :=
 hb (xBS 1 (bsRow Try.prog 25 1 [(0, (vM 0))]) h) fun v77 h =>
 hb (xApp (appInfo Try.prog #[25, 25]) v49 v77 h) fun v78 h =>
 k13 [v37, v39, v41, v43, v45, v47, v78] h
noncomputable def F7_2 (n : Nat) (cl : CL) (r6 : Kt) (y51 : List Value) (h : PH) : R :=
 ucons y51 fun v52 y53 => ucons y53 fun v54 y55 => ucons y55 fun v56 y57 => ucons y57 fun v58 y59 => ucons y59 fun v60 y61 => ucons y61 fun v62 y63 => ucons y63 fun v64 y65 => F7_0 n cl v60 v62 v64 r6 v52 v54 v56 v58 h
noncomputable def F7_3 (n : Nat) (cl : CL) (v41 : Value) (v47 : Value) (v43 : Value) (v49 : Value) (v37 : Value) (v39 : Value) (v45 : Value) (h : PH) (k13 : Kt) : R :=
 vb (gd (isB true v41) (some v47)) fun v73 =>
 vb (gd (isB true v41) (some v43)) fun v74 =>
 vb (gd (isB true v41) (xCmp ieq v73 v74)) fun v75 =>
 vb (xPick v41 v75 ff) fun v76 =>
 bite v76 (F7_1 n cl v49 k13 v37 v39 v41 v43 v45 v47 h) (k13 [v37, v39, v41, v43, v45, v47, v49] h)
noncomputable def F7_4 (n : Nat) (cl : CL) (v30 : Value) (v20 : Value) (k11 : Kt) (v22 : Value) (v24 : Value) (v26 : Value) (v28 : Value) (h : PH) : R :=
 vb (xAri Int.add v30 (vN 1)) fun v82 =>
 vb (abin Try.prog .rem 3 (Operand.tmp 58) (Operand.tmp 59) v82 v20) fun v83 =>
 hb (xBS 3 (bsRow Try.prog 25 3 [(0, v20), (1, v83), (2, v20)]) h) fun v84 h =>
 k11 [v20, v22, v24, v26, v28, v30, v84] h
noncomputable def F7_5 (n : Nat) (cl : CL) (r6 : Kt) (y36 : List Value) (h : PH) : R :=
 ucons y36 fun v37 y38 => ucons y38 fun v39 y40 => ucons y40 fun v41 y42 => ucons y42 fun v43 y44 => ucons y44 fun v45 y46 => ucons y46 fun v47 y48 => ucons y48 fun v49 y50 => jn (F7_2 n cl r6) (F7_3 n cl v41 v47 v43 v49 v37 v39 v45 h)
noncomputable def F7_6 (n : Nat) (cl : CL) (v22 : Value) (v30 : Value) (v20 : Value) (v24 : Value) (v26 : Value) (v28 : Value) (v35 : Value) (h : PH) (k11 : Kt) : R :=
 vb (gd (isB false v22) (some v30)) fun v79 =>
 vb (gd (isB false v22) (xCmp ieq v79 (vN 0))) fun v80 =>
 vb (xPick v22 tt v80) fun v81 =>
 bite v81 (F7_4 n cl v30 v20 k11 v22 v24 v26 v28 h) (k11 [v20, v22, v24, v26, v28, v30, v35] h)
noncomputable def F7_7 (n : Nat) (cl : CL) (v30 : Value) (v20 : Value) (r6 : Kt) (v22 : Value) (v24 : Value) (v26 : Value) (v28 : Value) (h : PH) : R :=
 vb (xAri Int.add v30 (vN 1)) fun v33 =>
 vb (abin Try.prog .rem 3 (Operand.tmp 47) (Operand.tmp 48) v33 v20) fun v34 =>
 hb (xBS 1 (bsRow Try.prog 25 1 [(0, v34)]) h) fun v35 h =>
 jn (F7_5 n cl r6) (F7_6 n cl v22 v30 v20 v24 v26 v28 v35 h)
noncomputable def F7_8 (n : Nat) (cl : CL) (v118 : Value) (r20 : Kt) (v108 : Value) (v110 : Value) (v112 : Value) (v114 : Value) (v116 : Value) (h : PH) : R :=
 vb (xAri Int.add v118 (vN 1)) fun v124 =>
 r20 [v108, v110, v112, v114, v116, v124] h
noncomputable def F7_9 (n : Nat) (cl : CL) (v112 : Value) (v118 : Value) (v110 : Value) (r20 : Kt) (v108 : Value) (v114 : Value) (v116 : Value) (h : PH) : R :=
 vb (xIdxS 1 v112 v118) fun v121 =>
 vb (xLd v121 h) fun v122 =>
 vb (abin Try.prog .eql 4 (Operand.tmp 115) (Operand.tmp 116) v122 v110) fun v123 =>
 bite v123 (some (ff, h)) (F7_8 n cl v118 r20 v108 v110 v112 v114 v116 h)
noncomputable def F7_10 (n : Nat) (cl : CL) (v116 : Value) (v114 : Value) (h : PH) : R :=
 vb (pcall (F26 n cl v116 (h.fzn))) fun v125 =>
 vb (xCmp ieq v125 (vN 0)) fun v126 =>
 vb (gd (isB true v126) (some v114)) fun v127 =>
 vb (gd (isB true v126) (xCmp ieq v127 (vM 0))) fun v128 =>
 vb (xPick v126 v128 ff) fun v129 =>
 some (v129, h)
noncomputable def F7_11 (n : Nat) (cl : CL) (v116 : Value) (v114 : Value) (h : PH) : R :=
 vb (pcall (F26 n cl v116 (h.fzn))) fun v130 =>
 vb (xCmp ieq v130 (vN 8)) fun v131 =>
 vb (gd (isB true v131) (some v114)) fun v132 =>
 vb (gd (isB true v131) (xCmp ieq v132 (vN 0))) fun v133 =>
 vb (xPick v131 v133 ff) fun v134 =>
 some (v134, h)
noncomputable def F7_12 (n : Nat) (cl : CL) (v118 : Value) (v108 : Value) (v112 : Value) (v110 : Value) (r20 : Kt) (v114 : Value) (v116 : Value) (h : PH) : R :=
 vb (xCmp ilt v118 v108) fun v120 =>
 bite v120 (F7_9 n cl v112 v118 v110 r20 v108 v114 v116 h) (bite v110 (F7_10 n cl v116 v114 h) (F7_11 n cl v116 v114 h))
noncomputable def F7_13 (n : Nat) (cl : CL) (r20 : Kt) (y107 : List Value) (h : PH) : R :=
 ucons y107 fun v108 y109 => ucons y109 fun v110 y111 => ucons y111 fun v112 y113 => ucons y113 fun v114 y115 => ucons y115 fun v116 y117 => ucons y117 fun v118 y119 => F7_12 n cl v118 v108 v112 v110 r20 v114 v116 h
noncomputable def F7_14 (n : Nat) (cl : CL) (v28 : Value) (v20 : Value) (v24 : Value) (h : PH) : R :=
 vb (xFld 3 v28) fun v85 =>
 vb (xLd v85 h) fun v86 =>
 vb (abuild Try.prog 29 [(0, v20)]) fun v87 =>
 hb (xBS 1 (bsRow Try.prog 25 1 [(0, (vM 0))]) h) fun v88 h =>
 vb (abuild Try.prog 29 [(1, v88)]) fun v89 =>
 hb (xBS 2 (bsRow Try.prog 23 2 [(0, v87), (1, v89)]) h) fun v90 h =>
 hb (xApp (appInfo Try.prog #[23, 23]) v86 v90 h) fun v91 h =>
 vb (xFld 3 v28) fun v92 =>
 hb (xSt1 v92 v91 h) fun _ h =>
 vb (xLdA 7 v28 h) fun v93 =>
 hb (fcall h (F24 n cl v93 (h.fzn))) fun v94 h =>
 vb (xLdA 7 v28 h) fun v95 =>
 vb (pcall (F22 n cl v95 (h.fzn))) fun v96 =>
 vb (xExt 0 v96) fun v97 =>
 vb (xExt 1 v96) fun v98 =>
 vb (xLenS v94) fun v99 =>
 vb (xAri Int.add v20 (vN 1)) fun v100 =>
 vb (xCmp ine v99 v100) fun v101 =>
 vb (gd (isB false v101) (some v94)) fun v102 =>
 vb (gd (isB false v101) (some v20)) fun v103 =>
 vb (gd (isB false v101) (xIdxS 1 v102 v103)) fun v104 =>
 vb (gd (isB false v101) (xLd v104 h)) fun v105 =>
 vb (xPick v101 tt v105) fun v106 =>
 bite v106 (some (ff, h)) (lp n (F7_13 n cl) [v20, v24, v94, v97, v98, (vN 0)] h)
noncomputable def F7_15 (n : Nat) (cl : CL) (v30 : Value) (v20 : Value) (r6 : Kt) (v22 : Value) (v24 : Value) (v26 : Value) (v28 : Value) (h : PH) : R :=
 vb (xCmp ilt v30 v20) fun v32 =>
 bite v32 (F7_7 n cl v30 v20 r6 v22 v24 v26 v28 h) (F7_14 n cl v28 v20 v24 h)
noncomputable def F7_16 (n : Nat) (cl : CL) (r6 : Kt) (y19 : List Value) (h : PH) : R :=
 ucons y19 fun v20 y21 => ucons y21 fun v22 y23 => ucons y23 fun v24 y25 => ucons y25 fun v26 y27 => ucons y27 fun v28 y29 => ucons y29 fun v30 y31 => F7_15 n cl v30 v20 r6 v22 v24 v26 v28 h
noncomputable def F7_17 (n : Nat) (cl : CL) (a0 : Value) (a1 : Value) (a2 : Value) (a3 : Value) (h : PH) : R :=
 vb (xAri Int.add a0 (vN 1)) fun v16 =>
 vb (abuild Try.prog 27 [(0, v16), (1, (vN 1))]) fun v17 =>
 hb (xAlloc (zcells Try.prog 27) h) fun v18 h =>
 hb (xStA 7 v18 v17 h) fun _ h =>
 lp n (F7_16 n cl) [a0, a1, a2, a3, v18, (vN 0)] h
noncomputable def F7 (n : Nat) (cl : CL) (a0 a1 a2 a3 : Value) (h : PH) : R :=
 vb (pcall (F21 n cl (h.fzn))) fun v1 =>
 vb (xNot v1) fun v2 =>
 vb (gd (isB false v2) (some a0)) fun v3 =>
 vb (gd (isB false v2) (xCmp ilt v3 (vN 1))) fun v4 =>
 vb (xPick v2 tt v4) fun v5 =>
 vb (gd (isB false v5) (some a0)) fun v6 =>
 vb (gd (isB false v5) (xCmp (fun x y => ilt y x) v6 (vN 20))) fun v7 =>
 vb (xPick v5 tt v7) fun v8 =>
 vb (gd (isB false v8) (some a3)) fun v9 =>
 vb (gd (isB false v8) (xCmp ilt v9 (vN 0))) fun v10 =>
 vb (xPick v8 tt v10) fun v11 =>
 vb (gd (isB false v11) (some a3)) fun v12 =>
 vb (gd (isB false v11) (some a0)) fun v13 =>
 vb (gd (isB false v11) (xCmp (fun x y => ile y x) v12 v13)) fun v14 =>
 vb (xPick v11 tt v14) fun v15 =>
 bite v15 (some (v1, h)) (F7_17 n cl a0 a1 a2 a3 h)
noncomputable def D7 (n : Nat) (cl : CL) : CL := fun f xs h => sw f 21 (u0 xs (F21 n cl h)) (sw f 24 (ucons xs fun b0 xs => u0 xs (F24 n cl b0 h)) (sw f 22 (ucons xs fun b0 xs => u0 xs (F22 n cl b0 h)) (sw f 26 (ucons xs fun b0 xs => u0 xs (F26 n cl b0 h)) (cl f xs h))))
theorem Dk7 {n : Nat} {cl : CL} (hcl : OkCL Try.prog cl) : OkCL Try.prog (D7 n cl) := by
  intro f xs h v h' hx
  rcases sw_ok hx with ⟨rfl, hx⟩ | hx
  · obtain ⟨rfl, hx⟩ := u0_ok hx; exact S21 (n := n) (cl := cl) hcl hx
  rcases sw_ok hx with ⟨rfl, hx⟩ | hx
  · obtain ⟨_, _, rfl, hx⟩ := ucons_ok hx; obtain ⟨rfl, hx⟩ := u0_ok hx; exact S24 (n := n) (cl := cl) hcl hx
  rcases sw_ok hx with ⟨rfl, hx⟩ | hx
  · obtain ⟨_, _, rfl, hx⟩ := ucons_ok hx; obtain ⟨rfl, hx⟩ := u0_ok hx; exact S22 (n := n) (cl := cl) hcl hx
  rcases sw_ok hx with ⟨rfl, hx⟩ | hx
  · obtain ⟨_, _, rfl, hx⟩ := ucons_ok hx; obtain ⟨rfl, hx⟩ := u0_ok hx; exact S26 (n := n) (cl := cl) hcl hx
  exact hcl _ _ _ _ _ hx
theorem E7 (n : Nat) (cl : CL) (a0 a1 a2 a3 : Value) (h : PH) : exF Try.prog n (D7 n cl) ⟨[21, 22, 26], [24], [(6, [0, 1, 2, 3, 10, 11]), (11, [0, 1, 2, 3, 10, 11, 12]), (13, [0, 1, 2, 3, 10, 11, 12]), (20, [0, 2, 13, 14, 15, 16])], [], []⟩ Try.f7 [a0, a1, a2, a3] h = F7 n cl a0 a1 a2 a3 h := by kernel_rfl
theorem S7 {n : Nat} {cl : CL} (hcl : OkCL Try.prog cl) {a0 a1 a2 a3 : Value} {h h' : PH} {v : Value} (hx : F7 n cl a0 a1 a2 a3 h = some (v, h')) : (enterable Try.prog 7 = true ∧ ACall Try.prog 7 [a0, a1, a2, a3] h.abs (fun u k => u = v ∧ k = h'.abs)) ∧ Inv h h' :=
  exF_ok (Dk7 hcl) hmx Try.func7 (by kernel_rfl) ((E7 n cl a0 a1 a2 a3 h).trans hx)
-- undergrowth/undergrowthlaw13.CycleUseless
noncomputable def F8_0 (n : Nat) (cl : CL) (v39 : Value) (r6 : Kt) (v31 : Value) (v33 : Value) (v35 : Value) (v37 : Value) (h : PH) : R :=
 vb (xAri Int.add v39 (vN 1)) fun v41 =>
 r6 [v31, v33, v35, v37, v41] h
noncomputable def F8_1 (n : Nat) (cl : CL) (v52 : Value) (v54 : Value) (k7 : Kt) (v46 : Value) (v48 : Value) (v50 : Value) (h : PH) : R :=
 vb (xFld 3 v52) fun v64 =>
 vb (xLd v64 h) fun v65 =>
 hb (xBS 2 (bsRow Try.prog 25 2 [(0, v54), (1, (vM 0))]) h) fun v66 h =>
 vb (abuild Try.prog 29 [(1, v66)]) fun v67 =>
 hb (xBS 1 (bsRow Try.prog 23 1 [(0, v67)]) h) fun v68 h =>
 hb (xApp (appInfo Try.prog #[23, 23]) v65 v68 h) fun v69 h =>
 vb (xFld 3 v52) fun v70 =>
 hb (xSt1 v70 v69 h) fun _ h =>
 k7 [v46, v48, v50, v52, v54] h
noncomputable def F8_2 (n : Nat) (cl : CL) (v54 : Value) (v48 : Value) (v50 : Value) (v52 : Value) (k7 : Kt) (v46 : Value) (h : PH) : R :=
 vb (xCmp (fun x y => ilt y x) v54 (vN 0)) fun v56 =>
 vb (gd (isB true v56) (some v54)) fun v57 =>
 vb (gd (isB true v56) (some v48)) fun v58 =>
 vb (gd (isB true v56) (xCmp ine v57 v58)) fun v59 =>
 vb (gd (isB true v56) (some v59)) fun v60 =>
 vb (gd (isB false v60) (some v50)) fun v61 =>
 vb (gd (isB true v56) (xPick v60 tt v61)) fun v62 =>
 vb (xPick v56 v62 ff) fun v63 =>
 bite v63 (F8_1 n cl v52 v54 k7 v46 v48 v50 h) (k7 [v46, v48, v50, v52, v54] h)
noncomputable def F8_3 (n : Nat) (cl : CL) (v25 : Value) (v44 : Value) (k11 : Kt) (v19 : Value) (v21 : Value) (v23 : Value) (v27 : Value) (h : PH) : R :=
 vb (xFld 3 v25) fun v75 =>
 vb (xLd v75 h) fun v76 =>
 vb (xLdA 3 v44 h) fun v77 =>
 hb (xBS 1 (bsRow Try.prog 23 1 [(0, v77)]) h) fun v78 h =>
 hb (xApp (appInfo Try.prog #[23, 23]) v76 v78 h) fun v79 h =>
 vb (xFld 3 v25) fun v80 =>
 hb (xSt1 v80 v79 h) fun _ h =>
 k11 [v19, v21, v23, v25, v27] h
noncomputable def F8_4 (n : Nat) (cl : CL) (k7 : Kt) (y45 : List Value) (h : PH) : R :=
 ucons y45 fun v46 y47 => ucons y47 fun v48 y49 => ucons y49 fun v50 y51 => ucons y51 fun v52 y53 => ucons y53 fun v54 y55 => F8_2 n cl v54 v48 v50 v52 k7 v46 h
noncomputable def F8_5 (n : Nat) (cl : CL) (v27 : Value) (v21 : Value) (v23 : Value) (v25 : Value) (v44 : Value) (v19 : Value) (h : PH) (k11 : Kt) : R :=
 vb (xCmp ine v27 v21) fun v71 =>
 vb (gd (isB false v71) (some v23)) fun v72 =>
 vb (gd (isB false v71) (xNot v72)) fun v73 =>
 vb (xPick v71 tt v73) fun v74 =>
 bite v74 (F8_3 n cl v25 v44 k11 v19 v21 v23 v27 h) (k11 [v19, v21, v23, v25, v27] h)
noncomputable def F8_6 (n : Nat) (cl : CL) (r6 : Kt) (y30 : List Value) (h : PH) : R :=
 ucons y30 fun v31 y32 => ucons y32 fun v33 y34 => ucons y34 fun v35 y36 => ucons y36 fun v37 y38 => ucons y38 fun v39 y40 => F8_0 n cl v39 r6 v31 v33 v35 v37 h
noncomputable def F8_7 (n : Nat) (cl : CL) (v27 : Value) (v21 : Value) (v23 : Value) (v25 : Value) (v19 : Value) (h : PH) (k7 : Kt) : R :=
 hb (xBS 1 (bsRow Try.prog 25 1 [(0, (vM 0))]) h) fun v42 h =>
 vb (abuild Try.prog 29 [(0, v27), (1, v42)]) fun v43 =>
 hb (xAlloc (zcells Try.prog 29) h) fun v44 h =>
 hb (xStA 3 v44 v43 h) fun _ h =>
 jn (F8_4 n cl k7) (F8_5 n cl v27 v21 v23 v25 v44 v19 h)
noncomputable def F8_8 (n : Nat) (cl : CL) (v25 : Value) (v21 : Value) (h : PH) : R :=
 vb (xLdA 7 v25 h) fun v81 =>
 vb (pcall (F22 n cl v81 (h.fzn))) fun v82 =>
 vb (xExt 0 v82) fun v83 =>
 vb (xExt 1 v82) fun v84 =>
 vb (pcall (F26 n cl v84 (h.fzn))) fun v85 =>
 vb (xCmp ieq v85 (vN 7)) fun v86 =>
 vb (gd (isB true v86) (some v83)) fun v87 =>
 vb (gd (isB true v86) (some v21)) fun v88 =>
 vb (gd (isB true v86) (xCmp ieq v87 v88)) fun v89 =>
 vb (xPick v86 v89 ff) fun v90 =>
 some (v90, h)
noncomputable def F8_9 (n : Nat) (cl : CL) (v27 : Value) (v19 : Value) (r6 : Kt) (v21 : Value) (v23 : Value) (v25 : Value) (h : PH) : R :=
 vb (xCmp ilt v27 v19) fun v29 =>
 bite v29 (jn (F8_6 n cl r6) (F8_7 n cl v27 v21 v23 v25 v19 h)) (F8_8 n cl v25 v21 h)
noncomputable def F8_10 (n : Nat) (cl : CL) (r6 : Kt) (y18 : List Value) (h : PH) : R :=
 ucons y18 fun v19 y20 => ucons y20 fun v21 y22 => ucons y22 fun v23 y24 => ucons y24 fun v25 y26 => ucons y26 fun v27 y28 => F8_9 n cl v27 v19 r6 v21 v23 v25 h
noncomputable def F8_11 (n : Nat) (cl : CL) (a0 : Value) (a1 : Value) (a2 : Value) (h : PH) : R :=
 vb (abuild Try.prog 27 [(0, a0), (1, (vN 1))]) fun v16 =>
 hb (xAlloc (zcells Try.prog 27) h) fun v17 h =>
 hb (xStA 7 v17 v16 h) fun _ h =>
 lp n (F8_10 n cl) [a0, a1, a2, v17, (vN 0)] h
noncomputable def F8 (n : Nat) (cl : CL) (a0 a1 a2 : Value) (h : PH) : R :=
 vb (pcall (F21 n cl (h.fzn))) fun v1 =>
 vb (xNot v1) fun v2 =>
 vb (gd (isB false v2) (some a0)) fun v3 =>
 vb (gd (isB false v2) (xCmp ilt v3 (vN 2))) fun v4 =>
 vb (xPick v2 tt v4) fun v5 =>
 vb (gd (isB false v5) (some a0)) fun v6 =>
 vb (gd (isB false v5) (xCmp (fun x y => ilt y x) v6 (vN 20))) fun v7 =>
 vb (xPick v5 tt v7) fun v8 =>
 vb (gd (isB false v8) (some a1)) fun v9 =>
 vb (gd (isB false v8) (xCmp ilt v9 (vN 1))) fun v10 =>
 vb (xPick v8 tt v10) fun v11 =>
 vb (gd (isB false v11) (some a1)) fun v12 =>
 vb (gd (isB false v11) (some a0)) fun v13 =>
 vb (gd (isB false v11) (xCmp (fun x y => ile y x) v12 v13)) fun v14 =>
 vb (xPick v11 tt v14) fun v15 =>
 bite v15 (some (v1, h)) (F8_11 n cl a0 a1 a2 h)
noncomputable def D8 (n : Nat) (cl : CL) : CL := fun f xs h => sw f 21 (u0 xs (F21 n cl h)) (sw f 22 (ucons xs fun b0 xs => u0 xs (F22 n cl b0 h)) (sw f 26 (ucons xs fun b0 xs => u0 xs (F26 n cl b0 h)) (cl f xs h)))
theorem Dk8 {n : Nat} {cl : CL} (hcl : OkCL Try.prog cl) : OkCL Try.prog (D8 n cl) := by
  intro f xs h v h' hx
  rcases sw_ok hx with ⟨rfl, hx⟩ | hx
  · obtain ⟨rfl, hx⟩ := u0_ok hx; exact S21 (n := n) (cl := cl) hcl hx
  rcases sw_ok hx with ⟨rfl, hx⟩ | hx
  · obtain ⟨_, _, rfl, hx⟩ := ucons_ok hx; obtain ⟨rfl, hx⟩ := u0_ok hx; exact S22 (n := n) (cl := cl) hcl hx
  rcases sw_ok hx with ⟨rfl, hx⟩ | hx
  · obtain ⟨_, _, rfl, hx⟩ := ucons_ok hx; obtain ⟨rfl, hx⟩ := u0_ok hx; exact S26 (n := n) (cl := cl) hcl hx
  exact hcl _ _ _ _ _ hx
theorem E8 (n : Nat) (cl : CL) (a0 a1 a2 : Value) (h : PH) : exF Try.prog n (D8 n cl) ⟨[21, 22, 26], [], [(6, [0, 1, 2, 8, 9]), (7, [0, 1, 2, 8, 9]), (11, [0, 1, 2, 8, 9])], [], []⟩ Try.f8 [a0, a1, a2] h = F8 n cl a0 a1 a2 h := by kernel_rfl
theorem S8 {n : Nat} {cl : CL} (hcl : OkCL Try.prog cl) {a0 a1 a2 : Value} {h h' : PH} {v : Value} (hx : F8 n cl a0 a1 a2 h = some (v, h')) : (enterable Try.prog 8 = true ∧ ACall Try.prog 8 [a0, a1, a2] h.abs (fun u k => u = v ∧ k = h'.abs)) ∧ Inv h h' :=
  exF_ok (Dk8 hcl) hmx Try.func8 (by kernel_rfl) ((E8 n cl a0 a1 a2 h).trans hx)
-- undergrowth/undergrowthlaw13.CycleHidden
noncomputable def F9_0 (n : Nat) (cl : CL) (v45 : Value) (r6 : Kt) (v37 : Value) (v39 : Value) (v41 : Value) (v43 : Value) (h : PH) : R :=
 vb (xAri Int.add v45 (vN 1)) fun v47 =>
 r6 [v37, v39, v41, v43, v47] h
noncomputable def F9_1 (n : Nat) (cl : CL) (v55 : Value) (k7 : Kt) (v49 : Value) (v51 : Value) (v53 : Value) (v57 : Value) (h : PH) : R :=
 hb (xBS 1 (bsRow Try.prog 25 1 [(0, (vN 2))]) h) fun v60 h =>
 hb (xApp (appInfo Try.prog #[25, 25]) v55 v60 h) fun v61 h =>
 k7 [v49, v51, v53, v61, v57] h
noncomputable def F9_2 (n : Nat) (cl : CL) (v55 : Value) (k7 : Kt) (v49 : Value) (v51 : Value) (v53 : Value) (v57 : Value) (h : PH) : R :=
 hb (xBS 1 (bsRow Try.prog 25 1 [(0, (vN 1))]) h) fun v62 h =>
 hb (xApp (appInfo Try.prog #[25, 25]) v55 v62 h) fun v63 h =>
 k7 [v49, v51, v53, v63, v57] h
noncomputable def F9_3 (n : Nat) (cl : CL) (v57 : Value) (v53 : Value) (v55 : Value) (k7 : Kt) (v49 : Value) (v51 : Value) (h : PH) : R :=
 vb (xCmp ieq v57 v53) fun v59 =>
 bite v59 (F9_1 n cl v55 k7 v49 v51 v53 v57 h) (F9_2 n cl v55 k7 v49 v51 v53 v57 h)
noncomputable def F9_4 (n : Nat) (cl : CL) (v30 : Value) (k10 : Kt) (v24 : Value) (v26 : Value) (v28 : Value) (v32 : Value) (h : PH) : R :=
 hb (xBS 1 (bsRow Try.prog 25 1 [(0, (vN 0))]) h) fun v65 h =>
 hb (xApp (appInfo Try.prog #[25, 25]) v30 v65 h) fun v66 h =>
 k10 [v24, v26, v28, v66, v32] h
noncomputable def F9_5 (n : Nat) (cl : CL) (k7 : Kt) (y48 : List Value) (h : PH) : R :=
 ucons y48 fun v49 y50 => ucons y50 fun v51 y52 => ucons y52 fun v53 y54 => ucons y54 fun v55 y56 => ucons y56 fun v57 y58 => F9_3 n cl v57 v53 v55 k7 v49 v51 h
noncomputable def F9_6 (n : Nat) (cl : CL) (v32 : Value) (v24 : Value) (v30 : Value) (v26 : Value) (v28 : Value) (h : PH) (k10 : Kt) : R :=
 vb (xCmp ieq v32 v24) fun v64 =>
 bite v64 (F9_4 n cl v30 k10 v24 v26 v28 v32 h) (k10 [v24, v26, v28, v30, v32] h)
noncomputable def F9_7 (n : Nat) (cl : CL) (r6 : Kt) (y36 : List Value) (h : PH) : R :=
 ucons y36 fun v37 y38 => ucons y38 fun v39 y40 => ucons y40 fun v41 y42 => ucons y42 fun v43 y44 => ucons y44 fun v45 y46 => F9_0 n cl v45 r6 v37 v39 v41 v43 h
noncomputable def F9_8 (n : Nat) (cl : CL) (v84 : Value) (v68 : Value) (v88 : Value) (h : PH) : R :=
 vb (xIdxS 1 v84 (vN 0)) fun v99 =>
 vb (xLd v99 h) fun v100 =>
 vb (xCmp ilt v68 (vN 0)) fun v101 =>
 vb (abin Try.prog .eql 4 (Operand.tmp 103) (Operand.tmp 105) v100 v101) fun v102 =>
 vb (gd (isB true v102) (some v88)) fun v103 =>
 vb (gd (isB true v102) (pcall (F26 n cl v103 (h.fzn)))) fun v104 =>
 vb (gd (isB true v102) (xCmp ieq v104 (vN 8))) fun v105 =>
 vb (gd (isB true v102) (some v68)) fun v106 =>
 vb (gd (isB true v102) (xCmp ilt v106 (vN 0))) fun v107 =>
 vb (gd (isB true v102) (abin Try.prog .eql 4 (Operand.tmp 110) (Operand.tmp 112) v105 v107)) fun v108 =>
 vb (xPick v102 v108 ff) fun v109 =>
 vb (gd (isB true v109) (some v88)) fun v110 =>
 vb (gd (isB true v109) (pcall (F26 n cl v110 (h.fzn)))) fun v111 =>
 vb (gd (isB true v109) (xCmp ieq v111 (vN 0))) fun v112 =>
 vb (gd (isB true v109) (some v68)) fun v113 =>
 vb (gd (isB true v109) (xCmp (fun x y => ile y x) v113 (vN 0))) fun v114 =>
 vb (gd (isB true v109) (abin Try.prog .eql 4 (Operand.tmp 118) (Operand.tmp 120) v112 v114)) fun v115 =>
 vb (xPick v109 v115 ff) fun v116 =>
 some (v116, h)
noncomputable def F9_9 (n : Nat) (cl : CL) (v70 : Value) (v68 : Value) (h : PH) : R :=
 vb (abuild Try.prog 29 [(1, v70)]) fun v72 =>
 hb (xBS 2 (bsRow Try.prog 25 2 [(0, (vN 1)), (1, (vN 2))]) h) fun v73 h =>
 vb (abuild Try.prog 29 [(1, v73)]) fun v74 =>
 vb (abuild Try.prog 29 [(0, (vN 1))]) fun v75 =>
 hb (xBS 1 (bsRow Try.prog 25 1 [(0, (vM 0))]) h) fun v76 h =>
 vb (abuild Try.prog 29 [(0, (vN 1)), (1, v76)]) fun v77 =>
 hb (xBS 1 (bsRow Try.prog 25 1 [(0, (vM 1))]) h) fun v78 h =>
 vb (abuild Try.prog 29 [(0, (vN 2)), (1, v78)]) fun v79 =>
 hb (xBS 5 (bsRow Try.prog 23 5 [(0, v72), (1, v74), (2, v75), (3, v77), (4, v79)]) h) fun v80 h =>
 vb (abuild Try.prog 27 [(0, (vN 3)), (1, (vN 2)), (3, v80)]) fun v81 =>
 hb (xAlloc (zcells Try.prog 27) h) fun v82 h =>
 hb (xStA 7 v82 v81 h) fun _ h =>
 vb (xLdA 7 v82 h) fun v83 =>
 hb (fcall h (F24 n cl v83 (h.fzn))) fun v84 h =>
 vb (xLdA 7 v82 h) fun v85 =>
 vb (pcall (F22 n cl v85 (h.fzn))) fun v86 =>
 vb (xExt 0 v86) fun v87 =>
 vb (xExt 1 v86) fun v88 =>
 vb (xLenS v84) fun v89 =>
 vb (xCmp ine v89 (vN 3)) fun v90 =>
 vb (gd (isB false v90) (some v84)) fun v91 =>
 vb (gd (isB false v90) (xIdxS 1 v91 (vN 1))) fun v92 =>
 vb (gd (isB false v90) (xLd v92 h)) fun v93 =>
 vb (xPick v90 tt v93) fun v94 =>
 vb (gd (isB false v94) (some v84)) fun v95 =>
 vb (gd (isB false v94) (xIdxS 1 v95 (vN 2))) fun v96 =>
 vb (gd (isB false v94) (xLd v96 h)) fun v97 =>
 vb (xPick v94 tt v97) fun v98 =>
 bite v98 (some (ff, h)) (F9_8 n cl v84 v68 v88 h)
noncomputable def F9_10 (n : Nat) (cl : CL) (v30 : Value) (k15 : Kt) (v28 : Value) (h : PH) : R :=
 hb (xBS 1 (bsRow Try.prog 25 1 [(0, (vN 0))]) h) fun v118 h =>
 hb (xApp (appInfo Try.prog #[25, 25]) v30 v118 h) fun v119 h =>
 k15 [v28, v119] h
noncomputable def F9_11 (n : Nat) (cl : CL) (v26 : Value) (v30 : Value) (v28 : Value) (h : PH) (k15 : Kt) : R :=
 vb (xCmp ieq v26 (vN 0)) fun v117 =>
 bite v117 (F9_10 n cl v30 k15 v28 h) (k15 [v28, v30] h)
noncomputable def F9_12 (n : Nat) (cl : CL) (v26 : Value) (v30 : Value) (v28 : Value) (h : PH) : R :=
 jn (fun y67 h => ucons y67 fun v68 y69 => ucons y69 fun v70 y71 => F9_9 n cl v70 v68 h) (F9_11 n cl v26 v30 v28 h)
noncomputable def F9_13 (n : Nat) (cl : CL) (v24 : Value) (v26 : Value) (v32 : Value) (r6 : Kt) (v30 : Value) (v28 : Value) (h : PH) : R :=
 vb (xAri Int.add v24 v26) fun v34 =>
 vb (xCmp ilt v32 v34) fun v35 =>
 bite v35 (jn (F9_7 n cl r6) (fun k7 => jn (F9_5 n cl k7) (F9_6 n cl v32 v24 v30 v26 v28 h))) (F9_12 n cl v26 v30 v28 h)
noncomputable def F9_14 (n : Nat) (cl : CL) (r6 : Kt) (y23 : List Value) (h : PH) : R :=
 ucons y23 fun v24 y25 => ucons y25 fun v26 y27 => ucons y27 fun v28 y29 => ucons y29 fun v30 y31 => ucons y31 fun v32 y33 => F9_13 n cl v24 v26 v32 r6 v30 v28 h
noncomputable def F9 (n : Nat) (cl : CL) (a0 a1 a2 : Value) (h : PH) : R :=
 vb (pcall (F21 n cl (h.fzn))) fun v1 =>
 vb (xNot v1) fun v2 =>
 vb (gd (isB false v2) (some a0)) fun v3 =>
 vb (gd (isB false v2) (xCmp ilt v3 (vN 0))) fun v4 =>
 vb (xPick v2 tt v4) fun v5 =>
 vb (gd (isB false v5) (some a1)) fun v6 =>
 vb (gd (isB false v5) (xCmp ilt v6 (vN 0))) fun v7 =>
 vb (xPick v5 tt v7) fun v8 =>
 vb (gd (isB false v8) (some a0)) fun v9 =>
 vb (gd (isB false v8) (some a1)) fun v10 =>
 vb (gd (isB false v8) (xAri Int.add v9 v10)) fun v11 =>
 vb (gd (isB false v8) (xCmp (fun x y => ilt y x) v11 (vN 7))) fun v12 =>
 vb (xPick v8 tt v12) fun v13 =>
 vb (gd (isB false v13) (some a2)) fun v14 =>
 vb (gd (isB false v13) (xCmp ilt v14 (vM 0))) fun v15 =>
 vb (xPick v13 tt v15) fun v16 =>
 vb (gd (isB false v16) (some a2)) fun v17 =>
 vb (gd (isB false v16) (some a0)) fun v18 =>
 vb (gd (isB false v16) (some a1)) fun v19 =>
 vb (gd (isB false v16) (xAri Int.add v18 v19)) fun v20 =>
 vb (gd (isB false v16) (xCmp (fun x y => ile y x) v17 v20)) fun v21 =>
 vb (xPick v16 tt v21) fun v22 =>
 bite v22 (some (v1, h)) (lp n (F9_14 n cl) [a0, a1, a2, nils, (vN 0)] h)
noncomputable def D9 (n : Nat) (cl : CL) : CL := fun f xs h => sw f 21 (u0 xs (F21 n cl h)) (sw f 24 (ucons xs fun b0 xs => u0 xs (F24 n cl b0 h)) (sw f 22 (ucons xs fun b0 xs => u0 xs (F22 n cl b0 h)) (sw f 26 (ucons xs fun b0 xs => u0 xs (F26 n cl b0 h)) (cl f xs h))))
theorem Dk9 {n : Nat} {cl : CL} (hcl : OkCL Try.prog cl) : OkCL Try.prog (D9 n cl) := by
  intro f xs h v h' hx
  rcases sw_ok hx with ⟨rfl, hx⟩ | hx
  · obtain ⟨rfl, hx⟩ := u0_ok hx; exact S21 (n := n) (cl := cl) hcl hx
  rcases sw_ok hx with ⟨rfl, hx⟩ | hx
  · obtain ⟨_, _, rfl, hx⟩ := ucons_ok hx; obtain ⟨rfl, hx⟩ := u0_ok hx; exact S24 (n := n) (cl := cl) hcl hx
  rcases sw_ok hx with ⟨rfl, hx⟩ | hx
  · obtain ⟨_, _, rfl, hx⟩ := ucons_ok hx; obtain ⟨rfl, hx⟩ := u0_ok hx; exact S22 (n := n) (cl := cl) hcl hx
  rcases sw_ok hx with ⟨rfl, hx⟩ | hx
  · obtain ⟨_, _, rfl, hx⟩ := ucons_ok hx; obtain ⟨rfl, hx⟩ := u0_ok hx; exact S26 (n := n) (cl := cl) hcl hx
  exact hcl _ _ _ _ _ hx
theorem E9 (n : Nat) (cl : CL) (a0 a1 a2 : Value) (h : PH) : exF Try.prog n (D9 n cl) ⟨[21, 22, 26], [24], [(6, [0, 1, 2, 8, 9]), (7, [0, 1, 2, 8, 9]), (10, [0, 1, 2, 8, 9]), (15, [2, 8])], [], []⟩ Try.f9 [a0, a1, a2] h = F9 n cl a0 a1 a2 h := by kernel_rfl
theorem S9 {n : Nat} {cl : CL} (hcl : OkCL Try.prog cl) {a0 a1 a2 : Value} {h h' : PH} {v : Value} (hx : F9 n cl a0 a1 a2 h = some (v, h')) : (enterable Try.prog 9 = true ∧ ACall Try.prog 9 [a0, a1, a2] h.abs (fun u k => u = v ∧ k = h'.abs)) ∧ Inv h h' :=
  exF_ok (Dk9 hcl) hmx Try.func9 (by kernel_rfl) ((E9 n cl a0 a1 a2 h).trans hx)

/-- Functions that are called by value, or that call themselves; so deep. -/
noncomputable def CLs (n : Nat) (ih : CL) : CL := fun f xs h => sw f 49 (ucons xs fun b0 xs => u0 xs (F49 n ih b0 h)) (sw f 45 (ucons xs fun b0 xs => ucons xs fun b1 xs => u0 xs (F45 n ih b0 b1 h)) (sw f 40 (ucons xs fun b0 xs => ucons xs fun b1 xs => u0 xs (F40 n ih b0 b1 h)) (none)))
theorem CLs_ok {n : Nat} {ih : CL} (hcl : OkCL Try.prog ih) : OkCL Try.prog (CLs n ih) := by
  intro f xs h v h' hx
  unfold CLs at hx
  rcases sw_ok hx with ⟨rfl, hx⟩ | hx
  · obtain ⟨_, _, rfl, hx⟩ := ucons_ok hx; obtain ⟨rfl, hx⟩ := u0_ok hx; exact S49 (n := n) (cl := ih) hcl hx
  rcases sw_ok hx with ⟨rfl, hx⟩ | hx
  · obtain ⟨_, _, rfl, hx⟩ := ucons_ok hx; obtain ⟨_, _, rfl, hx⟩ := ucons_ok hx; obtain ⟨rfl, hx⟩ := u0_ok hx; exact S45 (n := n) (cl := ih) hcl hx
  rcases sw_ok hx with ⟨rfl, hx⟩ | hx
  · obtain ⟨_, _, rfl, hx⟩ := ucons_ok hx; obtain ⟨_, _, rfl, hx⟩ := ucons_ok hx; obtain ⟨rfl, hx⟩ := u0_ok hx; exact S40 (n := n) (cl := ih) hcl hx
  cases hx
noncomputable def CLV (n d : Nat) : CL := Nat.rec (motive := fun _ => CL) CNo (fun _ ih => CLs n ih) d
theorem CLV_ok (n : Nat) : ∀ d, OkCL Try.prog (CLV n d)
  | 0 => CNo_ok _
  | .succ d => CLs_ok (CLV_ok n d)

end Go.Am
