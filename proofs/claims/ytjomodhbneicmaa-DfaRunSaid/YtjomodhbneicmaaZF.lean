import Derived.Test.YtjomodhbneicmaaZX
import Derived.Test.YtjomodhbneicmaaProg
set_option linter.unusedVariables false
set_option maxRecDepth 100000
namespace Go.Am
open Go Go.RowKit Go.Proofs
theorem hmx : Try.prog.follows .mixedOrders = true := by kernel_rfl
-- (*undergrowth/dfa.patterns).words
noncomputable def F38 (n : Nat) (cl : CL) (a0 : Value) (h : PH) : R :=
 vb (xNil a0) fun v1 =>
 vb (xFld 0 v1) fun v2 =>
 vb (xLd v2 h) fun v3 =>
 vb (xQuo v3 (vN 64)) fun v4 =>
 vb (xAri Int.add v4 (vN 1)) fun v5 =>
 hb (xMk (zinfo Try.prog 82) v5 v5 h) fun v6 h =>
 some (v6, h)
theorem E38 (n : Nat) (cl : CL) (a0 : Value) (h : PH) : exF Try.prog n cl ⟨[], [], [], [], [], [], []⟩ Try.f38 [a0] h = F38 n cl a0 h := by kernel_rfl
theorem S38 {n : Nat} {cl : CL} (hcl : OkCL Try.prog cl) {a0 : Value} {h h' : PH} {v : Value} (hx : F38 n cl a0 h = some (v, h')) : (enterable Try.prog 38 = true ∧ ACall Try.prog 38 [a0] h.abs (fun u k => u = v ∧ k = h'.abs)) ∧ Inv h h' :=
  exF_ok hcl hmx Try.func38 (by kernel_rfl) ((E38 n cl a0 h).trans hx)
-- (undergrowth/dfa.bits).add
noncomputable def F93 (n : Nat) (cl : CL) (a0 a1 : Value) (h : PH) : R :=
 vb (xQuo a1 (vN 64)) fun v1 =>
 vb (xIdxS 1 a0 v1) fun v2 =>
 vb (xRem a1 (vN 64)) fun v3 =>
 vb (xShl (Value.int .u64 (.ofNat 1)) v3) fun v4 =>
 vb (xLd v2 h) fun v5 =>
 vb (xBit Nat.lor v5 v4) fun v6 =>
 vb (xIdxS 1 a0 v1) fun v7 =>
 hb (xSt1 v7 v6 h) fun _ h =>
 some (Value.tuple ⟨[]⟩, h)
theorem E93 (n : Nat) (cl : CL) (a0 a1 : Value) (h : PH) : exF Try.prog n cl ⟨[], [], [], [(0, [0, 1, 2, 3, 5, 6, 7, 4, 8, 9, 10])], [], [], []⟩ Try.f93 [a0, a1] h = F93 n cl a0 a1 h := by kernel_rfl
theorem S93 {n : Nat} {cl : CL} (hcl : OkCL Try.prog cl) {a0 a1 : Value} {h h' : PH} {v : Value} (hx : F93 n cl a0 a1 h = some (v, h')) : (enterable Try.prog 93 = true ∧ ACall Try.prog 93 [a0, a1] h.abs (fun u k => u = v ∧ k = h'.abs)) ∧ Inv h h' :=
  exF_ok hcl hmx Try.func93 (by kernel_rfl) ((E93 n cl a0 a1 h).trans hx)
-- (*undergrowth/dfa.patterns).places
noncomputable def F92_0 (n : Nat) (cl : CL) (v30 : Value) (r4 : Kt) (v20 : Value) (v22 : Value) (v24 : Value) (v26 : Value) (v28 : Value) (h : PH) : R :=
 vb (xAri Int.add v30 (vN 1)) fun v32 =>
 r4 [v20, v22, v24, v26, v28, v32] h
noncomputable def F92_1 (n : Nat) (cl : CL) (v5 : Value) (v34 : Value) (v9 : Value) (k19 : Kt) (v7 : Value) (v11 : Value) (v13 : Value) (v15 : Value) (h : PH) : R :=
 vb (xAri Int.add v5 v34) fun v40 =>
 hb (F93 n cl v9 v40 h) fun v41 h =>
 k19 [v5, v7, v9, v11, v13, v15] h
noncomputable def F92_2 (n : Nat) (cl : CL) (r4 : Kt) (y18 : List Value) (h : PH) : R :=
 ucons y18 fun v20 y21 => ucons y21 fun v22 y23 => ucons y23 fun v24 y25 => ucons y25 fun v26 y27 => ucons y27 fun v28 y29 => ucons y29 fun v30 y31 => F92_0 n cl v30 r4 v20 v22 v24 v26 v28 h
noncomputable def F92_3 (n : Nat) (cl : CL) (v11 : Value) (v15 : Value) (v7 : Value) (v5 : Value) (v9 : Value) (v13 : Value) (h : PH) (k19 : Kt) : R :=
 vb (xIdxS 1 v11 v15) fun v33 =>
 vb (xLd v33 h) fun v34 =>
 vb (xCmp (fun x y => ile y x) v34 (vN 0)) fun v35 =>
 vb (gd (isB true v35) (some v34)) fun v36 =>
 vb (gd (isB true v35) (some v7)) fun v37 =>
 vb (gd (isB true v35) (xCmp ilt v36 v37)) fun v38 =>
 vb (xPick v35 v38 ff) fun v39 =>
 bite v39 (F92_1 n cl v5 v34 v9 k19 v7 v11 v13 v15 h) (k19 [v5, v7, v9, v11, v13, v15] h)
noncomputable def F92_4 (n : Nat) (cl : CL) (v15 : Value) (v13 : Value) (r4 : Kt) (v11 : Value) (v7 : Value) (v5 : Value) (v9 : Value) (h : PH) : R :=
 vb (xCmp ilt v15 v13) fun v17 =>
 bite v17 (jn (F92_2 n cl r4) (F92_3 n cl v11 v15 v7 v5 v9 v13 h)) (some (v9, h))
noncomputable def F92_5 (n : Nat) (cl : CL) (r4 : Kt) (y3 : List Value) (h : PH) : R :=
 ucons y3 fun v5 y6 => ucons y6 fun v7 y8 => ucons y8 fun v9 y10 => ucons y10 fun v11 y12 => ucons y12 fun v13 y14 => ucons y14 fun v15 y16 => F92_4 n cl v15 v13 r4 v11 v7 v5 v9 h
noncomputable def F92 (n : Nat) (cl : CL) (a0 a1 a2 a3 : Value) (h : PH) : R :=
 hb (fcall h (F38 n cl a0 (h.fzn))) fun v1 h =>
 vb (xLenS a1) fun v2 =>
 lp n (F92_5 n cl) [a2, a3, v1, a1, v2, (vN 0)] h
noncomputable def D92 (n : Nat) (cl : CL) : CL := fun f xs h => sw f 38 (ucons xs fun b0 xs => u0 xs (F38 n cl b0 h)) (sw f 93 (ucons xs fun b0 xs => ucons xs fun b1 xs => u0 xs (F93 n cl b0 b1 h)) (cl f xs h))
theorem Dk92 {n : Nat} {cl : CL} (hcl : OkCL Try.prog cl) : OkCL Try.prog (D92 n cl) := by
  intro f xs h v h' hx
  rcases sw_ok hx with ⟨rfl, hx⟩ | hx
  · obtain ⟨_, _, rfl, hx⟩ := ucons_ok hx; obtain ⟨rfl, hx⟩ := u0_ok hx; exact S38 (n := n) (cl := cl) hcl hx
  rcases sw_ok hx with ⟨rfl, hx⟩ | hx
  · obtain ⟨_, _, rfl, hx⟩ := ucons_ok hx; obtain ⟨_, _, rfl, hx⟩ := ucons_ok hx; obtain ⟨rfl, hx⟩ := u0_ok hx; exact S93 (n := n) (cl := cl) hcl hx
  exact hcl _ _ _ _ _ hx
theorem E92 (n : Nat) (cl : CL) (a0 a1 a2 a3 : Value) (h : PH) : exF Try.prog n (D92 n cl) ⟨[], [38], [(3, [2, 3, 9, 14, 15, 16]), (7, [2, 3, 9, 14, 15, 16])], [], [], [], []⟩ Try.f92 [a0, a1, a2, a3] h = F92 n cl a0 a1 a2 a3 h := by kernel_rfl
theorem S92 {n : Nat} {cl : CL} (hcl : OkCL Try.prog cl) {a0 a1 a2 a3 : Value} {h h' : PH} {v : Value} (hx : F92 n cl a0 a1 a2 a3 h = some (v, h')) : (enterable Try.prog 92 = true ∧ ACall Try.prog 92 [a0, a1, a2, a3] h.abs (fun u k => u = v ∧ k = h'.abs)) ∧ Inv h h' :=
  exF_ok (Dk92 hcl) hmx Try.func92 (by kernel_rfl) ((E92 n cl a0 a1 a2 a3 h).trans hx)
-- (undergrowth/dfa.bits).join
noncomputable def F91_0 (n : Nat) (cl : CL) (v4 : Value) (v10 : Value) (v6 : Value) (r3 : Kt) (v8 : Value) (h : PH) : R :=
 vb (xIdxS 1 v4 v10) fun v13 =>
 vb (xIdxS 1 v6 v10) fun v14 =>
 vb (xLd v13 h) fun v15 =>
 vb (xLd v14 h) fun v16 =>
 vb (xBit Nat.lor v15 v16) fun v17 =>
 vb (xIdxS 1 v4 v10) fun v18 =>
 hb (xSt1 v18 v17 h) fun _ h =>
 vb (xAri Int.add v10 (vN 1)) fun v19 =>
 r3 [v4, v6, v8, v19] h
noncomputable def F91_1 (n : Nat) (cl : CL) (v10 : Value) (v8 : Value) (v4 : Value) (v6 : Value) (r3 : Kt) (h : PH) : R :=
 vb (xCmp ilt v10 v8) fun v12 =>
 bite v12 (F91_0 n cl v4 v10 v6 r3 v8 h) (some (Value.tuple ⟨[]⟩, h))
noncomputable def F91_2 (n : Nat) (cl : CL) (r3 : Kt) (y2 : List Value) (h : PH) : R :=
 ucons y2 fun v4 y5 => ucons y5 fun v6 y7 => ucons y7 fun v8 y9 => ucons y9 fun v10 y11 => F91_1 n cl v10 v8 v4 v6 r3 h
noncomputable def F91 (n : Nat) (cl : CL) (a0 a1 : Value) (h : PH) : R :=
 vb (xLenS a0) fun v1 =>
 lp n (F91_2 n cl) [a0, a1, v1, (vN 0)] h
theorem E91 (n : Nat) (cl : CL) (a0 a1 : Value) (h : PH) : exF Try.prog n cl ⟨[], [], [(1, [0, 1, 6, 7])], [(3, [0, 1, 2, 4, 5, 6, 3, 7, 8, 9, 10])], [], [], []⟩ Try.f91 [a0, a1] h = F91 n cl a0 a1 h := by kernel_rfl
theorem S91 {n : Nat} {cl : CL} (hcl : OkCL Try.prog cl) {a0 a1 : Value} {h h' : PH} {v : Value} (hx : F91 n cl a0 a1 h = some (v, h')) : (enterable Try.prog 91 = true ∧ ACall Try.prog 91 [a0, a1] h.abs (fun u k => u = v ∧ k = h'.abs)) ∧ Inv h h' :=
  exF_ok hcl hmx Try.func91 (by kernel_rfl) ((E91 n cl a0 a1 h).trans hx)
-- (undergrowth/regex.set).has
noncomputable def F103 (n : Nat) (cl : CL) (a0 a1 : Value) (h : PH) : R :=
 hb (xBox a0 h) fun v1 h =>
 vb (xQuo a1 (vN 64)) fun v2 =>
 vb (xIdxA 4 1 v1 v2) fun v3 =>
 vb (xLd v3 h) fun v4 =>
 vb (xRem a1 (vN 64)) fun v5 =>
 vb (xShr v4 v5) fun v6 =>
 vb (xBit Nat.land v6 (Value.int .u64 (.ofNat 1))) fun v7 =>
 vb (xCmp ieq v7 (Value.int .u64 (.ofNat 1))) fun v8 =>
 some (v8, h)
theorem E103 (n : Nat) (cl : CL) (a0 a1 : Value) (h : PH) : exF Try.prog n cl ⟨[], [], [], [], [], [], []⟩ Try.f103 [a0, a1] h = F103 n cl a0 a1 h := by kernel_rfl
theorem S103 {n : Nat} {cl : CL} (hcl : OkCL Try.prog cl) {a0 a1 : Value} {h h' : PH} {v : Value} (hx : F103 n cl a0 a1 h = some (v, h')) : (enterable Try.prog 103 = true ∧ ACall Try.prog 103 [a0, a1] h.abs (fun u k => u = v ∧ k = h'.abs)) ∧ Inv h h' :=
  exF_ok hcl hmx Try.func103 (by kernel_rfl) ((E103 n cl a0 a1 h).trans hx)
-- undergrowth/regex.Has
noncomputable def F84 (n : Nat) (cl : CL) (a0 a1 : Value) (h : PH) : R :=
 hb (xBox a0 h) fun v1 h =>
 vb (xLdA 4 v1 h) fun v2 =>
 vb (xConvI .i64 a1) fun v3 =>
 vb (pcall (F103 n cl v2 v3 (h.fzn))) fun v4 =>
 some (v4, h)
noncomputable def D84 (n : Nat) (cl : CL) : CL := fun f xs h => sw f 103 (ucons xs fun b0 xs => ucons xs fun b1 xs => u0 xs (F103 n cl b0 b1 h)) (cl f xs h)
theorem Dk84 {n : Nat} {cl : CL} (hcl : OkCL Try.prog cl) : OkCL Try.prog (D84 n cl) := by
  intro f xs h v h' hx
  rcases sw_ok hx with ⟨rfl, hx⟩ | hx
  · obtain ⟨_, _, rfl, hx⟩ := ucons_ok hx; obtain ⟨_, _, rfl, hx⟩ := ucons_ok hx; obtain ⟨rfl, hx⟩ := u0_ok hx; exact S103 (n := n) (cl := cl) hcl hx
  exact hcl _ _ _ _ _ hx
theorem E84 (n : Nat) (cl : CL) (a0 a1 : Value) (h : PH) : exF Try.prog n (D84 n cl) ⟨[103], [], [], [], [], [], []⟩ Try.f84 [a0, a1] h = F84 n cl a0 a1 h := by kernel_rfl
theorem S84 {n : Nat} {cl : CL} (hcl : OkCL Try.prog cl) {a0 a1 : Value} {h h' : PH} {v : Value} (hx : F84 n cl a0 a1 h = some (v, h')) : (enterable Try.prog 84 = true ∧ ACall Try.prog 84 [a0, a1] h.abs (fun u k => u = v ∧ k = h'.abs)) ∧ Inv h h' :=
  exF_ok (Dk84 hcl) hmx Try.func84 (by kernel_rfl) ((E84 n cl a0 a1 h).trans hx)
-- (*undergrowth/dfa.patterns).pattern
noncomputable def F69_0 (n : Nat) (cl : CL) (v127 : Value) (r85 : Kt) (v109 : Value) (v111 : Value) (v113 : Value) (v115 : Value) (v117 : Value) (v119 : Value) (v121 : Value) (v123 : Value) (v125 : Value) (h : PH) : R :=
 vb (xAri Int.add v127 (vN 1)) fun v129 =>
 r85 [v109, v111, v113, v115, v117, v119, v121, v123, v125, v129] h
noncomputable def F69_1 (n : Nat) (cl : CL) (v86 : Value) (v104 : Value) (v88 : Value) (v94 : Value) (k108 : Kt) (v90 : Value) (v92 : Value) (v96 : Value) (v98 : Value) (v100 : Value) (v102 : Value) (h : PH) : R :=
 vb (xNil v86) fun v133 =>
 vb (xFld 5 v133) fun v134 =>
 vb (xIdxA 256 1 v134 v104) fun v135 =>
 vb (xLd v135 h) fun v136 =>
 vb (xAri Int.add v88 v94) fun v137 =>
 hb (F93 n cl v136 v137 h) fun v138 h =>
 k108 [v86, v88, v90, v92, v94, v96, v98, v100, v102, v104] h
noncomputable def F69_2 (n : Nat) (cl : CL) (r85 : Kt) (y107 : List Value) (h : PH) : R :=
 ucons y107 fun v109 y110 => ucons y110 fun v111 y112 => ucons y112 fun v113 y114 => ucons y114 fun v115 y116 => ucons y116 fun v117 y118 => ucons y118 fun v119 y120 => ucons y120 fun v121 y122 => ucons y122 fun v123 y124 => ucons y124 fun v125 y126 => ucons y126 fun v127 y128 => F69_0 n cl v127 r85 v109 v111 v113 v115 v117 v119 v121 v123 v125 h
noncomputable def F69_3 (n : Nat) (cl : CL) (v96 : Value) (v104 : Value) (v86 : Value) (v88 : Value) (v94 : Value) (v90 : Value) (v92 : Value) (v98 : Value) (v100 : Value) (v102 : Value) (h : PH) (k108 : Kt) : R :=
 vb (xLdA 4 v96 h) fun v130 =>
 vb (xConvI .u8 v104) fun v131 =>
 vb (pcall (F84 n cl v130 v131 (h.fzn))) fun v132 =>
 bite v132 (F69_1 n cl v86 v104 v88 v94 k108 v90 v92 v96 v98 v100 v102 h) (k108 [v86, v88, v90, v92, v94, v96, v98, v100, v102, v104] h)
noncomputable def F69_4 (n : Nat) (cl : CL) (v102 : Value) (r35 : Kt) (v86 : Value) (v88 : Value) (v90 : Value) (v92 : Value) (v98 : Value) (v100 : Value) (h : PH) : R :=
 vb (xAri Int.add v102 (vN 1)) fun v139 =>
 r35 [v86, v88, v90, v92, v98, v100, v139] h
noncomputable def F69_5 (n : Nat) (cl : CL) (v104 : Value) (r85 : Kt) (v96 : Value) (v86 : Value) (v88 : Value) (v94 : Value) (v90 : Value) (v92 : Value) (v98 : Value) (v100 : Value) (v102 : Value) (r35 : Kt) (h : PH) : R :=
 vb (xCmp ilt v104 (vN 256)) fun v106 =>
 bite v106 (jn (F69_2 n cl r85) (F69_3 n cl v96 v104 v86 v88 v94 v90 v92 v98 v100 v102 h)) (F69_4 n cl v102 r35 v86 v88 v90 v92 v98 v100 h)
noncomputable def F69_6 (n : Nat) (cl : CL) (r35 : Kt) (r85 : Kt) (y84 : List Value) (h : PH) : R :=
 ucons y84 fun v86 y87 => ucons y87 fun v88 y89 => ucons y89 fun v90 y91 => ucons y91 fun v92 y93 => ucons y93 fun v94 y95 => ucons y95 fun v96 y97 => ucons y97 fun v98 y99 => ucons y99 fun v100 y101 => ucons y101 fun v102 y103 => ucons y103 fun v104 y105 => F69_5 n cl v104 r85 v96 v86 v88 v94 v90 v92 v98 v100 v102 r35 h
noncomputable def F69_7 (n : Nat) (cl : CL) (v57 : Value) (v69 : Value) (r35 : Kt) (v59 : Value) (v61 : Value) (v63 : Value) (v65 : Value) (v67 : Value) (v71 : Value) (v73 : Value) (v75 : Value) (h : PH) : R :=
 vb (xNil v57) fun v77 =>
 vb (xFld 2 v77) fun v78 =>
 vb (xLd v78 h) fun v79 =>
 hb (xBS 1 (bsRow Try.prog 84 1 [(0, v69)]) h) fun v80 h =>
 hb (xApp (appInfo Try.prog #[84, 84]) v79 v80 h) fun v81 h =>
 vb (xNil v57) fun v82 =>
 vb (xFld 2 v82) fun v83 =>
 hb (xSt1 v83 v81 h) fun _ h =>
 lp n (F69_6 n cl r35) [v57, v59, v61, v63, v65, v67, v71, v73, v75, (vN 0)] h
noncomputable def F69_8 (n : Nat) (cl : CL) (v40 : Value) (v48 : Value) (v36 : Value) (v38 : Value) (v42 : Value) (k56 : Kt) (v53 : Value) (v44 : Value) (v46 : Value) (h : PH) : R :=
 vb (xFld 4 v40) fun v144 =>
 vb (xLd v144 h) fun v145 =>
 vb (xIdxS 1 v145 v48) fun v146 =>
 vb (xLd v146 h) fun v147 =>
 hb (fcall h (F92 n cl v36 v147 v38 v42 (h.fzn))) fun v148 h =>
 k56 [v36, v38, v40, v42, v48, v53, v148, v44, v46, v48] h
noncomputable def F69_9 (n : Nat) (cl : CL) (r35 : Kt) (y55 : List Value) (h : PH) : R :=
 ucons y55 fun v57 y58 => ucons y58 fun v59 y60 => ucons y60 fun v61 y62 => ucons y62 fun v63 y64 => ucons y64 fun v65 y66 => ucons y66 fun v67 y68 => ucons y68 fun v69 y70 => ucons y70 fun v71 y72 => ucons y72 fun v73 y74 => ucons y74 fun v75 y76 => F69_7 n cl v57 v69 r35 v59 v61 v63 v65 v67 v71 v73 v75 h
noncomputable def F69_10 (n : Nat) (cl : CL) (v40 : Value) (v48 : Value) (v36 : Value) (v38 : Value) (v42 : Value) (v53 : Value) (v44 : Value) (v46 : Value) (v54 : Value) (h : PH) (k56 : Kt) : R :=
 vb (xFld 4 v40) fun v140 =>
 vb (xLd v140 h) fun v141 =>
 vb (xLenS v141) fun v142 =>
 vb (xCmp ilt v48 v142) fun v143 =>
 bite v143 (F69_8 n cl v40 v48 v36 v38 v42 k56 v53 v44 v46 h) (k56 [v36, v38, v40, v42, v48, v53, v54, v44, v46, v48] h)
noncomputable def F69_11 (n : Nat) (cl : CL) (v44 : Value) (v48 : Value) (v36 : Value) (r35 : Kt) (v40 : Value) (v38 : Value) (v42 : Value) (v46 : Value) (h : PH) : R :=
 vb (xIdxS 4 v44 v48) fun v51 =>
 vb (xLdA 4 v51 h) fun v52 =>
 hb (xAlloc (zcells Try.prog 54) h) fun v53 h =>
 hb (xStA 4 v53 v52 h) fun _ h =>
 hb (fcall h (F38 n cl v36 (h.fzn))) fun v54 h =>
 jn (F69_9 n cl r35) (F69_10 n cl v40 v48 v36 v38 v42 v53 v44 v46 v54 h)
noncomputable def F69_12 (n : Nat) (cl : CL) (v48 : Value) (v46 : Value) (v44 : Value) (v36 : Value) (r35 : Kt) (v40 : Value) (v38 : Value) (v42 : Value) (h : PH) : R :=
 vb (xCmp ilt v48 v46) fun v50 =>
 bite v50 (F69_11 n cl v44 v48 v36 r35 v40 v38 v42 v46 h) (some (Value.tuple ⟨[]⟩, h))
noncomputable def F69_13 (n : Nat) (cl : CL) (r35 : Kt) (y34 : List Value) (h : PH) : R :=
 ucons y34 fun v36 y37 => ucons y37 fun v38 y39 => ucons y39 fun v40 y41 => ucons y41 fun v42 y43 => ucons y43 fun v44 y45 => ucons y45 fun v46 y47 => ucons y47 fun v48 y49 => F69_12 n cl v48 v46 v44 v36 r35 v40 v38 v42 h
noncomputable def F69 (n : Nat) (cl : CL) (a0 a1 a2 : Value) (h : PH) : R :=
 hb (xBox a1 h) fun v1 h =>
 vb (xFld 0 v1) fun v2 =>
 vb (xLd v2 h) fun v3 =>
 vb (xLenS v3) fun v4 =>
 vb (xNil a0) fun v5 =>
 vb (xFld 1 v5) fun v6 =>
 vb (xFld 2 v1) fun v7 =>
 vb (xLd v6 h) fun v8 =>
 vb (xLd v7 h) fun v9 =>
 hb (fcall h (F92 n cl a0 v9 a2 v4 (h.fzn))) fun v10 h =>
 lchk (xLd v6 h) v8 <|
 hb (F91 n cl v8 v10 h) fun v11 h =>
 vb (xNil a0) fun v12 =>
 vb (xFld 3 v12) fun v13 =>
 vb (xFld 3 v1) fun v14 =>
 vb (xLd v13 h) fun v15 =>
 vb (xLd v14 h) fun v16 =>
 hb (fcall h (F92 n cl a0 v16 a2 v4 (h.fzn))) fun v17 h =>
 lchk (xLd v13 h) v15 <|
 hb (xBS 1 (bsRow Try.prog 84 1 [(0, v17)]) h) fun v18 h =>
 hb (xApp (appInfo Try.prog #[84, 84]) v15 v18 h) fun v19 h =>
 vb (xNil a0) fun v20 =>
 vb (xFld 3 v20) fun v21 =>
 hb (xSt1 v21 v19 h) fun _ h =>
 vb (xNil a0) fun v22 =>
 vb (xFld 4 v22) fun v23 =>
 vb (xFld 1 v1) fun v24 =>
 vb (xLd v23 h) fun v25 =>
 vb (xLd v24 h) fun v26 =>
 hb (xBS 1 (bsRow Try.prog 49 1 [(0, v26)]) h) fun v27 h =>
 hb (xApp (appInfo Try.prog #[49, 49]) v25 v27 h) fun v28 h =>
 vb (xNil a0) fun v29 =>
 vb (xFld 4 v29) fun v30 =>
 hb (xSt1 v30 v28 h) fun _ h =>
 vb (xFld 0 v1) fun v31 =>
 vb (xLd v31 h) fun v32 =>
 vb (xLenS v32) fun v33 =>
 lp n (F69_13 n cl) [a0, a2, v1, v4, v32, v33, (vN 0)] h
noncomputable def D69 (n : Nat) (cl : CL) : CL := fun f xs h => sw f 92 (ucons xs fun b0 xs => ucons xs fun b1 xs => ucons xs fun b2 xs => ucons xs fun b3 xs => u0 xs (F92 n cl b0 b1 b2 b3 h)) (sw f 91 (ucons xs fun b0 xs => ucons xs fun b1 xs => u0 xs (F91 n cl b0 b1 h)) (sw f 38 (ucons xs fun b0 xs => u0 xs (F38 n cl b0 h)) (sw f 84 (ucons xs fun b0 xs => ucons xs fun b1 xs => u0 xs (F84 n cl b0 b1 h)) (sw f 93 (ucons xs fun b0 xs => ucons xs fun b1 xs => u0 xs (F93 n cl b0 b1 h)) (cl f xs h)))))
theorem Dk69 {n : Nat} {cl : CL} (hcl : OkCL Try.prog cl) : OkCL Try.prog (D69 n cl) := by
  intro f xs h v h' hx
  rcases sw_ok hx with ⟨rfl, hx⟩ | hx
  · obtain ⟨_, _, rfl, hx⟩ := ucons_ok hx; obtain ⟨_, _, rfl, hx⟩ := ucons_ok hx; obtain ⟨_, _, rfl, hx⟩ := ucons_ok hx; obtain ⟨_, _, rfl, hx⟩ := ucons_ok hx; obtain ⟨rfl, hx⟩ := u0_ok hx; exact S92 (n := n) (cl := cl) hcl hx
  rcases sw_ok hx with ⟨rfl, hx⟩ | hx
  · obtain ⟨_, _, rfl, hx⟩ := ucons_ok hx; obtain ⟨_, _, rfl, hx⟩ := ucons_ok hx; obtain ⟨rfl, hx⟩ := u0_ok hx; exact S91 (n := n) (cl := cl) hcl hx
  rcases sw_ok hx with ⟨rfl, hx⟩ | hx
  · obtain ⟨_, _, rfl, hx⟩ := ucons_ok hx; obtain ⟨rfl, hx⟩ := u0_ok hx; exact S38 (n := n) (cl := cl) hcl hx
  rcases sw_ok hx with ⟨rfl, hx⟩ | hx
  · obtain ⟨_, _, rfl, hx⟩ := ucons_ok hx; obtain ⟨_, _, rfl, hx⟩ := ucons_ok hx; obtain ⟨rfl, hx⟩ := u0_ok hx; exact S84 (n := n) (cl := cl) hcl hx
  rcases sw_ok hx with ⟨rfl, hx⟩ | hx
  · obtain ⟨_, _, rfl, hx⟩ := ucons_ok hx; obtain ⟨_, _, rfl, hx⟩ := ucons_ok hx; obtain ⟨rfl, hx⟩ := u0_ok hx; exact S93 (n := n) (cl := cl) hcl hx
  exact hcl _ _ _ _ _ hx
theorem E69 (n : Nat) (cl : CL) (a0 a1 a2 : Value) (h : PH) : exF Try.prog n (D69 n cl) ⟨[84], [38, 92], [(6, [0, 2, 4, 6, 52, 53, 54]), (11, [0, 2, 4, 6, 7, 8, 9, 52, 53, 54]), (13, [0, 2, 4, 6, 7, 8, 52, 53, 54, 85]), (17, [0, 2, 4, 6, 7, 8, 52, 53, 54, 85])], [(2, [0, 1, 2, 4, 5, 7, 8, 3, 6, 9, 10]), (3, [0, 1, 2, 3, 5, 6, 8, 9, 4, 7, 10, 11, 12, 13, 14, 15]), (4, [0, 1, 2, 3, 5, 4, 6, 7, 8, 9, 10, 11])], [(2, [3, 9]), (3, [4, 10])], [], []⟩ Try.f69 [a0, a1, a2] h = F69 n cl a0 a1 a2 h := by kernel_rfl
theorem S69 {n : Nat} {cl : CL} (hcl : OkCL Try.prog cl) {a0 a1 a2 : Value} {h h' : PH} {v : Value} (hx : F69 n cl a0 a1 a2 h = some (v, h')) : (enterable Try.prog 69 = true ∧ ACall Try.prog 69 [a0, a1, a2] h.abs (fun u k => u = v ∧ k = h'.abs)) ∧ Inv h h' :=
  exF_ok (Dk69 hcl) hmx Try.func69 (by kernel_rfl) ((E69 n cl a0 a1 a2 h).trans hx)
-- undergrowth/dfa.read
noncomputable def F37_0 (n : Nat) (cl : CL) (v10 : Value) (v14 : Value) (v8 : Value) (r5 : Kt) (v6 : Value) (v12 : Value) (h : PH) : R :=
 vb (xIdxS 5 v10 v14) fun v17 =>
 vb (xLdA 5 v17 h) fun v18 =>
 hb (xAlloc (zcells Try.prog 43) h) fun v19 h =>
 hb (xStA 5 v19 v18 h) fun _ h =>
 vb (xNil v8) fun v20 =>
 vb (xFld 0 v20) fun v21 =>
 vb (xFld 0 v19) fun v22 =>
 vb (xLd v21 h) fun v23 =>
 vb (xLd v22 h) fun v24 =>
 vb (xLenS v24) fun v25 =>
 vb (xAri Int.add v23 v25) fun v26 =>
 vb (xNil v8) fun v27 =>
 vb (xFld 0 v27) fun v28 =>
 hb (xSt1 v28 v26 h) fun _ h =>
 vb (xAri Int.add v14 (vN 1)) fun v29 =>
 r5 [v6, v8, v10, v12, v29] h
noncomputable def F37_1 (n : Nat) (cl : CL) (v37 : Value) (v39 : Value) (r34 : Kt) (v35 : Value) (h : PH) : R :=
 vb (xNil v37) fun v42 =>
 vb (xFld 5 v42) fun v43 =>
 hb (fcall h (F38 n cl v37 (h.fzn))) fun v44 h =>
 vb (xIdxA 256 1 v43 v39) fun v45 =>
 hb (xSt1 v45 v44 h) fun _ h =>
 vb (xAri Int.add v39 (vN 1)) fun v46 =>
 r34 [v35, v37, v46] h
noncomputable def F37_2 (n : Nat) (cl : CL) (v54 : Value) (v58 : Value) (v50 : Value) (v52 : Value) (r49 : Kt) (v56 : Value) (h : PH) : R :=
 vb (xIdxS 5 v54 v58) fun v61 =>
 vb (xLdA 5 v61 h) fun v62 =>
 hb (xAlloc (zcells Try.prog 43) h) fun v63 h =>
 hb (xStA 5 v63 v62 h) fun _ h =>
 vb (xLdA 5 v63 h) fun v64 =>
 hb (F69 n cl v50 v64 v52 h) fun v65 h =>
 vb (xFld 0 v63) fun v66 =>
 vb (xLd v66 h) fun v67 =>
 vb (xLenS v67) fun v68 =>
 vb (xAri Int.add v52 v68) fun v69 =>
 vb (xAri Int.add v58 (vN 1)) fun v70 =>
 r49 [v50, v69, v54, v56, v70] h
noncomputable def F37_3 (n : Nat) (cl : CL) (v58 : Value) (v56 : Value) (v54 : Value) (v50 : Value) (v52 : Value) (r49 : Kt) (h : PH) : R :=
 vb (xCmp ilt v58 v56) fun v60 =>
 bite v60 (F37_2 n cl v54 v58 v50 v52 r49 v56 h) (some (v50, h))
noncomputable def F37_4 (n : Nat) (cl : CL) (r49 : Kt) (y48 : List Value) (h : PH) : R :=
 ucons y48 fun v50 y51 => ucons y51 fun v52 y53 => ucons y53 fun v54 y55 => ucons y55 fun v56 y57 => ucons y57 fun v58 y59 => F37_3 n cl v58 v56 v54 v50 v52 r49 h
noncomputable def F37_5 (n : Nat) (cl : CL) (v35 : Value) (v37 : Value) (h : PH) : R :=
 vb (xLenS v35) fun v47 =>
 lp n (F37_4 n cl) [v37, (vN 0), v35, v47, (vN 0)] h
noncomputable def F37_6 (n : Nat) (cl : CL) (v39 : Value) (v37 : Value) (r34 : Kt) (v35 : Value) (h : PH) : R :=
 vb (xCmp ilt v39 (vN 256)) fun v41 =>
 bite v41 (F37_1 n cl v37 v39 r34 v35 h) (F37_5 n cl v35 v37 h)
noncomputable def F37_7 (n : Nat) (cl : CL) (r34 : Kt) (y33 : List Value) (h : PH) : R :=
 ucons y33 fun v35 y36 => ucons y36 fun v37 y38 => ucons y38 fun v39 y40 => F37_6 n cl v39 v37 r34 v35 h
noncomputable def F37_8 (n : Nat) (cl : CL) (v8 : Value) (v6 : Value) (h : PH) : R :=
 hb (fcall h (F38 n cl v8 (h.fzn))) fun v30 h =>
 vb (xNil v8) fun v31 =>
 vb (xFld 1 v31) fun v32 =>
 hb (xSt1 v32 v30 h) fun _ h =>
 lp n (F37_7 n cl) [v6, v8, (vN 0)] h
noncomputable def F37_9 (n : Nat) (cl : CL) (v14 : Value) (v12 : Value) (v10 : Value) (v8 : Value) (r5 : Kt) (v6 : Value) (h : PH) : R :=
 vb (xCmp ilt v14 v12) fun v16 =>
 bite v16 (F37_0 n cl v10 v14 v8 r5 v6 v12 h) (F37_8 n cl v8 v6 h)
noncomputable def F37_10 (n : Nat) (cl : CL) (r5 : Kt) (y4 : List Value) (h : PH) : R :=
 ucons y4 fun v6 y7 => ucons y7 fun v8 y9 => ucons y9 fun v10 y11 => ucons y11 fun v12 y13 => ucons y13 fun v14 y15 => F37_9 n cl v14 v12 v10 v8 r5 v6 h
noncomputable def F37 (n : Nat) (cl : CL) (a0 : Value) (h : PH) : R :=
 vb (abuild Try.prog 88 []) fun v1 =>
 hb (xBox v1 h) fun v2 h =>
 vb (xLenS a0) fun v3 =>
 lp n (F37_10 n cl) [a0, v2, a0, v3, (vN 0)] h
noncomputable def D37 (n : Nat) (cl : CL) : CL := fun f xs h => sw f 38 (ucons xs fun b0 xs => u0 xs (F38 n cl b0 h)) (sw f 69 (ucons xs fun b0 xs => ucons xs fun b1 xs => ucons xs fun b2 xs => u0 xs (F69 n cl b0 b1 b2 h)) (cl f xs h))
theorem Dk37 {n : Nat} {cl : CL} (hcl : OkCL Try.prog cl) : OkCL Try.prog (D37 n cl) := by
  intro f xs h v h' hx
  rcases sw_ok hx with ⟨rfl, hx⟩ | hx
  · obtain ⟨_, _, rfl, hx⟩ := ucons_ok hx; obtain ⟨rfl, hx⟩ := u0_ok hx; exact S38 (n := n) (cl := cl) hcl hx
  rcases sw_ok hx with ⟨rfl, hx⟩ | hx
  · obtain ⟨_, _, rfl, hx⟩ := ucons_ok hx; obtain ⟨_, _, rfl, hx⟩ := ucons_ok hx; obtain ⟨_, _, rfl, hx⟩ := ucons_ok hx; obtain ⟨rfl, hx⟩ := u0_ok hx; exact S69 (n := n) (cl := cl) hcl hx
  exact hcl _ _ _ _ _ hx
theorem E37 (n : Nat) (cl : CL) (a0 : Value) (h : PH) : exF Try.prog n (D37 n cl) ⟨[], [38], [(3, [0, 3, 12, 13, 14]), (9, [0, 3, 34]), (15, [3, 7, 45, 46, 47])], [(5, [0, 1, 2, 4, 3, 5, 6, 7, 8, 9, 10]), (11, [0, 1, 2, 4, 5, 3, 6, 7])], [], [], []⟩ Try.f37 [a0] h = F37 n cl a0 h := by kernel_rfl
theorem S37 {n : Nat} {cl : CL} (hcl : OkCL Try.prog cl) {a0 : Value} {h h' : PH} {v : Value} (hx : F37 n cl a0 h = some (v, h')) : (enterable Try.prog 37 = true ∧ ACall Try.prog 37 [a0] h.abs (fun u k => u = v ∧ k = h'.abs)) ∧ Inv h h' :=
  exF_ok (Dk37 hcl) hmx Try.func37 (by kernel_rfl) ((E37 n cl a0 h).trans hx)
-- slices.Index[[]bool,bool]
noncomputable def F39_0 (n : Nat) (cl : CL) (v10 : Value) (r3 : Kt) (v4 : Value) (v6 : Value) (v8 : Value) (h : PH) : R :=
 vb (xAri Int.add v10 (vN 1)) fun v16 =>
 r3 [v4, v6, v8, v16] h
noncomputable def F39_1 (n : Nat) (cl : CL) (v4 : Value) (v10 : Value) (v6 : Value) (r3 : Kt) (v8 : Value) (h : PH) : R :=
 vb (xIdxS 1 v4 v10) fun v13 =>
 vb (xLd v13 h) fun v14 =>
 vb (abin Try.prog .eql 4 (Operand.tmp 11) (Operand.tmp 15) v6 v14) fun v15 =>
 bite v15 (some (v10, h)) (F39_0 n cl v10 r3 v4 v6 v8 h)
noncomputable def F39_2 (n : Nat) (cl : CL) (v10 : Value) (v8 : Value) (v4 : Value) (v6 : Value) (r3 : Kt) (h : PH) : R :=
 vb (xCmp ilt v10 v8) fun v12 =>
 bite v12 (F39_1 n cl v4 v10 v6 r3 v8 h) (some ((vM 0), h))
noncomputable def F39_3 (n : Nat) (cl : CL) (r3 : Kt) (y2 : List Value) (h : PH) : R :=
 ucons y2 fun v4 y5 => ucons y5 fun v6 y7 => ucons y7 fun v8 y9 => ucons y9 fun v10 y11 => F39_2 n cl v10 v8 v4 v6 r3 h
noncomputable def F39 (n : Nat) (cl : CL) (a0 a1 : Value) (h : PH) : R :=
 vb (xLenS a0) fun v1 =>
 lp n (F39_3 n cl) [a0, a1, v1, (vN 0)] h
theorem E39 (n : Nat) (cl : CL) (a0 a1 : Value) (h : PH) : exF Try.prog n cl ⟨[], [], [(2, [0, 1, 7, 8])], [], [], [], []⟩ Try.f39 [a0, a1] h = F39 n cl a0 a1 h := by kernel_rfl
theorem S39 {n : Nat} {cl : CL} (hcl : OkCL Try.prog cl) {a0 a1 : Value} {h h' : PH} {v : Value} (hx : F39 n cl a0 a1 h = some (v, h')) : (enterable Try.prog 39 = true ∧ ACall Try.prog 39 [a0, a1] h.abs (fun u k => u = v ∧ k = h'.abs)) ∧ Inv h h' :=
  exF_ok hcl hmx Try.func39 (by kernel_rfl) ((E39 n cl a0 a1 h).trans hx)
-- (undergrowth/dfa.bits).has
noncomputable def F94 (n : Nat) (cl : CL) (a0 a1 : Value) (h : PH) : R :=
 vb (xQuo a1 (vN 64)) fun v1 =>
 vb (xIdxS 1 a0 v1) fun v2 =>
 vb (xLd v2 h) fun v3 =>
 vb (xRem a1 (vN 64)) fun v4 =>
 vb (xShr v3 v4) fun v5 =>
 vb (xBit Nat.land v5 (Value.int .u64 (.ofNat 1))) fun v6 =>
 vb (xCmp ieq v6 (Value.int .u64 (.ofNat 1))) fun v7 =>
 some (v7, h)
theorem E94 (n : Nat) (cl : CL) (a0 a1 : Value) (h : PH) : exF Try.prog n cl ⟨[], [], [], [], [], [], []⟩ Try.f94 [a0, a1] h = F94 n cl a0 a1 h := by kernel_rfl
theorem S94 {n : Nat} {cl : CL} (hcl : OkCL Try.prog cl) {a0 a1 : Value} {h h' : PH} {v : Value} (hx : F94 n cl a0 a1 h = some (v, h')) : (enterable Try.prog 94 = true ∧ ACall Try.prog 94 [a0, a1] h.abs (fun u k => u = v ∧ k = h'.abs)) ∧ Inv h h' :=
  exF_ok hcl hmx Try.func94 (by kernel_rfl) ((E94 n cl a0 a1 h).trans hx)
-- (*undergrowth/dfa.patterns).after
noncomputable def F70_0 (n : Nat) (cl : CL) (v28 : Value) (r6 : Kt) (v20 : Value) (v22 : Value) (v24 : Value) (v26 : Value) (h : PH) : R :=
 vb (xAri Int.add v28 (vN 1)) fun v30 =>
 r6 [v20, v22, v24, v26, v30] h
noncomputable def F70_1 (n : Nat) (cl : CL) (v7 : Value) (v15 : Value) (v11 : Value) (k19 : Kt) (v9 : Value) (v13 : Value) (h : PH) : R :=
 vb (xNil v7) fun v32 =>
 vb (xFld 2 v32) fun v33 =>
 vb (xLd v33 h) fun v34 =>
 vb (xIdxS 1 v34 v15) fun v35 =>
 vb (xLd v35 h) fun v36 =>
 hb (F91 n cl v11 v36 h) fun v37 h =>
 k19 [v7, v9, v11, v13, v15] h
noncomputable def F70_2 (n : Nat) (cl : CL) (r6 : Kt) (y18 : List Value) (h : PH) : R :=
 ucons y18 fun v20 y21 => ucons y21 fun v22 y23 => ucons y23 fun v24 y25 => ucons y25 fun v26 y27 => ucons y27 fun v28 y29 => F70_0 n cl v28 r6 v20 v22 v24 v26 h
noncomputable def F70_3 (n : Nat) (cl : CL) (v9 : Value) (v15 : Value) (v7 : Value) (v11 : Value) (v13 : Value) (h : PH) (k19 : Kt) : R :=
 vb (pcall (F94 n cl v9 v15 (h.fzn))) fun v31 =>
 bite v31 (F70_1 n cl v7 v15 v11 k19 v9 v13 h) (k19 [v7, v9, v11, v13, v15] h)
noncomputable def F70_4 (n : Nat) (cl : CL) (v15 : Value) (v13 : Value) (r6 : Kt) (v9 : Value) (v7 : Value) (v11 : Value) (h : PH) : R :=
 vb (xCmp ilt v15 v13) fun v17 =>
 bite v17 (jn (F70_2 n cl r6) (F70_3 n cl v9 v15 v7 v11 v13 h)) (some (v11, h))
noncomputable def F70_5 (n : Nat) (cl : CL) (r6 : Kt) (y5 : List Value) (h : PH) : R :=
 ucons y5 fun v7 y8 => ucons y8 fun v9 y10 => ucons y10 fun v11 y12 => ucons y12 fun v13 y14 => ucons y14 fun v15 y16 => F70_4 n cl v15 v13 r6 v9 v7 v11 h
noncomputable def F70 (n : Nat) (cl : CL) (a0 a1 : Value) (h : PH) : R :=
 hb (fcall h (F38 n cl a0 (h.fzn))) fun v1 h =>
 vb (xNil a0) fun v2 =>
 vb (xFld 0 v2) fun v3 =>
 vb (xLd v3 h) fun v4 =>
 lp n (F70_5 n cl) [a0, a1, v1, v4, (vN 0)] h
noncomputable def D70 (n : Nat) (cl : CL) : CL := fun f xs h => sw f 38 (ucons xs fun b0 xs => u0 xs (F38 n cl b0 h)) (sw f 94 (ucons xs fun b0 xs => ucons xs fun b1 xs => u0 xs (F94 n cl b0 b1 h)) (sw f 91 (ucons xs fun b0 xs => ucons xs fun b1 xs => u0 xs (F91 n cl b0 b1 h)) (cl f xs h)))
theorem Dk70 {n : Nat} {cl : CL} (hcl : OkCL Try.prog cl) : OkCL Try.prog (D70 n cl) := by
  intro f xs h v h' hx
  rcases sw_ok hx with ⟨rfl, hx⟩ | hx
  · obtain ⟨_, _, rfl, hx⟩ := ucons_ok hx; obtain ⟨rfl, hx⟩ := u0_ok hx; exact S38 (n := n) (cl := cl) hcl hx
  rcases sw_ok hx with ⟨rfl, hx⟩ | hx
  · obtain ⟨_, _, rfl, hx⟩ := ucons_ok hx; obtain ⟨_, _, rfl, hx⟩ := ucons_ok hx; obtain ⟨rfl, hx⟩ := u0_ok hx; exact S94 (n := n) (cl := cl) hcl hx
  rcases sw_ok hx with ⟨rfl, hx⟩ | hx
  · obtain ⟨_, _, rfl, hx⟩ := ucons_ok hx; obtain ⟨_, _, rfl, hx⟩ := ucons_ok hx; obtain ⟨rfl, hx⟩ := u0_ok hx; exact S91 (n := n) (cl := cl) hcl hx
  exact hcl _ _ _ _ _ hx
theorem E70 (n : Nat) (cl : CL) (a0 a1 : Value) (h : PH) : exF Try.prog n (D70 n cl) ⟨[94], [38], [(3, [0, 1, 5, 12, 13]), (7, [0, 1, 5, 12, 13])], [], [], [], []⟩ Try.f70 [a0, a1] h = F70 n cl a0 a1 h := by kernel_rfl
theorem S70 {n : Nat} {cl : CL} (hcl : OkCL Try.prog cl) {a0 a1 : Value} {h h' : PH} {v : Value} (hx : F70 n cl a0 a1 h = some (v, h')) : (enterable Try.prog 70 = true ∧ ACall Try.prog 70 [a0, a1] h.abs (fun u k => u = v ∧ k = h'.abs)) ∧ Inv h h' :=
  exF_ok (Dk70 hcl) hmx Try.func70 (by kernel_rfl) ((E70 n cl a0 a1 h).trans hx)
-- slices.Clone[undergrowth/dfa.bits,uint64]
noncomputable def F98_0 (n : Nat) (cl : CL) (a0 : Value) (h : PH) : R :=
 hb (xBS 0 (bsRow Try.prog 82 0 []) h) fun v2 h =>
 hb (xApp (appInfo Try.prog #[82, 82]) v2 a0 h) fun v3 h =>
 some (v3, h)
noncomputable def F98 (n : Nat) (cl : CL) (a0 : Value) (h : PH) : R :=
 vb (abin Try.prog .eql 82 (Operand.tmp 3) (Operand.const (Value.slice none 0 0)) a0 nils) fun v1 =>
 bite v1 (some (nils, h)) (F98_0 n cl a0 h)
theorem E98 (n : Nat) (cl : CL) (a0 : Value) (h : PH) : exF Try.prog n cl ⟨[], [], [], [], [], [], []⟩ Try.f98 [a0] h = F98 n cl a0 h := by kernel_rfl
theorem S98 {n : Nat} {cl : CL} (hcl : OkCL Try.prog cl) {a0 : Value} {h h' : PH} {v : Value} (hx : F98 n cl a0 h = some (v, h')) : (enterable Try.prog 98 = true ∧ ACall Try.prog 98 [a0] h.abs (fun u k => u = v ∧ k = h'.abs)) ∧ Inv h h' :=
  exF_ok hcl hmx Try.func98 (by kernel_rfl) ((E98 n cl a0 h).trans hx)
-- (undergrowth/dfa.bits).meet
noncomputable def F72_0 (n : Nat) (cl : CL) (v7 : Value) (v11 : Value) (v5 : Value) (r4 : Kt) (v9 : Value) (h : PH) : R :=
 vb (xIdxS 1 v7 v11) fun v14 =>
 vb (xIdxS 1 v5 v11) fun v15 =>
 vb (xLd v14 h) fun v16 =>
 vb (xLd v15 h) fun v17 =>
 vb (xBit Nat.land v16 v17) fun v18 =>
 vb (xIdxS 1 v7 v11) fun v19 =>
 hb (xSt1 v19 v18 h) fun _ h =>
 vb (xAri Int.add v11 (vN 1)) fun v20 =>
 r4 [v5, v7, v9, v20] h
noncomputable def F72_1 (n : Nat) (cl : CL) (v11 : Value) (v9 : Value) (v7 : Value) (v5 : Value) (r4 : Kt) (h : PH) : R :=
 vb (xCmp ilt v11 v9) fun v13 =>
 bite v13 (F72_0 n cl v7 v11 v5 r4 v9 h) (some (v7, h))
noncomputable def F72_2 (n : Nat) (cl : CL) (r4 : Kt) (y3 : List Value) (h : PH) : R :=
 ucons y3 fun v5 y6 => ucons y6 fun v7 y8 => ucons y8 fun v9 y10 => ucons y10 fun v11 y12 => F72_1 n cl v11 v9 v7 v5 r4 h
noncomputable def F72 (n : Nat) (cl : CL) (a0 a1 : Value) (h : PH) : R :=
 hb (fcall h (F98 n cl a0 (h.fzn))) fun v1 h =>
 vb (xLenS v1) fun v2 =>
 lp n (F72_2 n cl) [a1, v1, v2, (vN 0)] h
noncomputable def D72 (n : Nat) (cl : CL) : CL := fun f xs h => sw f 98 (ucons xs fun b0 xs => u0 xs (F98 n cl b0 h)) (cl f xs h)
theorem Dk72 {n : Nat} {cl : CL} (hcl : OkCL Try.prog cl) : OkCL Try.prog (D72 n cl) := by
  intro f xs h v h' hx
  rcases sw_ok hx with ⟨rfl, hx⟩ | hx
  · obtain ⟨_, _, rfl, hx⟩ := ucons_ok hx; obtain ⟨rfl, hx⟩ := u0_ok hx; exact S98 (n := n) (cl := cl) hcl hx
  exact hcl _ _ _ _ _ hx
theorem E72 (n : Nat) (cl : CL) (a0 a1 : Value) (h : PH) : exF Try.prog n (D72 n cl) ⟨[], [98], [(3, [1, 5, 10, 11])], [(5, [0, 1, 2, 4, 5, 6, 3, 7, 8, 9, 10])], [], [], []⟩ Try.f72 [a0, a1] h = F72 n cl a0 a1 h := by kernel_rfl
theorem S72 {n : Nat} {cl : CL} (hcl : OkCL Try.prog cl) {a0 a1 : Value} {h h' : PH} {v : Value} (hx : F72 n cl a0 a1 h = some (v, h')) : (enterable Try.prog 72 = true ∧ ACall Try.prog 72 [a0, a1] h.abs (fun u k => u = v ∧ k = h'.abs)) ∧ Inv h h' :=
  exF_ok (Dk72 hcl) hmx Try.func72 (by kernel_rfl) ((E72 n cl a0 a1 h).trans hx)
-- slices.IndexFunc[undergrowth/dfa.bits,uint64]
noncomputable def F122_0 (n : Nat) (cl : CL) (v10 : Value) (r3 : Kt) (v4 : Value) (v6 : Value) (v8 : Value) (h : PH) : R :=
 vb (xAri Int.add v10 (vN 1)) fun v16 =>
 r3 [v4, v6, v8, v16] h
noncomputable def F122_1 (n : Nat) (cl : CL) (v4 : Value) (v10 : Value) (v6 : Value) (r3 : Kt) (v8 : Value) (h : PH) : R :=
 vb (xIdxS 1 v4 v10) fun v13 =>
 vb (xLd v13 h) fun v14 =>
 hb (xCall cl v6 [v14] h) fun v15 h =>
 bite v15 (some (v10, h)) (F122_0 n cl v10 r3 v4 v6 v8 h)
noncomputable def F122_2 (n : Nat) (cl : CL) (v10 : Value) (v8 : Value) (v4 : Value) (v6 : Value) (r3 : Kt) (h : PH) : R :=
 vb (xCmp ilt v10 v8) fun v12 =>
 bite v12 (F122_1 n cl v4 v10 v6 r3 v8 h) (some ((vM 0), h))
noncomputable def F122_3 (n : Nat) (cl : CL) (r3 : Kt) (y2 : List Value) (h : PH) : R :=
 ucons y2 fun v4 y5 => ucons y5 fun v6 y7 => ucons y7 fun v8 y9 => ucons y9 fun v10 y11 => F122_2 n cl v10 v8 v4 v6 r3 h
noncomputable def F122 (n : Nat) (cl : CL) (a0 a1 : Value) (h : PH) : R :=
 vb (xLenS a0) fun v1 =>
 lp n (F122_3 n cl) [a0, a1, v1, (vN 0)] h
theorem E122 (n : Nat) (cl : CL) (a0 a1 : Value) (h : PH) : exF Try.prog n cl ⟨[], [], [(2, [0, 1, 7, 8])], [], [], [], []⟩ Try.f122 [a0, a1] h = F122 n cl a0 a1 h := by kernel_rfl
theorem S122 {n : Nat} {cl : CL} (hcl : OkCL Try.prog cl) {a0 a1 : Value} {h h' : PH} {v : Value} (hx : F122 n cl a0 a1 h = some (v, h')) : (enterable Try.prog 122 = true ∧ ACall Try.prog 122 [a0, a1] h.abs (fun u k => u = v ∧ k = h'.abs)) ∧ Inv h h' :=
  exF_ok hcl hmx Try.func122 (by kernel_rfl) ((E122 n cl a0 a1 h).trans hx)
-- slices.ContainsFunc[undergrowth/dfa.bits,uint64]
noncomputable def F106 (n : Nat) (cl : CL) (a0 a1 : Value) (h : PH) : R :=
 vb (pcall (F122 n cl a0 a1 (h.fzn))) fun v1 =>
 vb (xCmp (fun x y => ile y x) v1 (vN 0)) fun v2 =>
 some (v2, h)
noncomputable def D106 (n : Nat) (cl : CL) : CL := fun f xs h => sw f 122 (ucons xs fun b0 xs => ucons xs fun b1 xs => u0 xs (F122 n cl b0 b1 h)) (cl f xs h)
theorem Dk106 {n : Nat} {cl : CL} (hcl : OkCL Try.prog cl) : OkCL Try.prog (D106 n cl) := by
  intro f xs h v h' hx
  rcases sw_ok hx with ⟨rfl, hx⟩ | hx
  · obtain ⟨_, _, rfl, hx⟩ := ucons_ok hx; obtain ⟨_, _, rfl, hx⟩ := ucons_ok hx; obtain ⟨rfl, hx⟩ := u0_ok hx; exact S122 (n := n) (cl := cl) hcl hx
  exact hcl _ _ _ _ _ hx
theorem E106 (n : Nat) (cl : CL) (a0 a1 : Value) (h : PH) : exF Try.prog n (D106 n cl) ⟨[122], [], [], [], [], [], []⟩ Try.f106 [a0, a1] h = F106 n cl a0 a1 h := by kernel_rfl
theorem S106 {n : Nat} {cl : CL} (hcl : OkCL Try.prog cl) {a0 a1 : Value} {h h' : PH} {v : Value} (hx : F106 n cl a0 a1 h = some (v, h')) : (enterable Try.prog 106 = true ∧ ACall Try.prog 106 [a0, a1] h.abs (fun u k => u = v ∧ k = h'.abs)) ∧ Inv h h' :=
  exF_ok (Dk106 hcl) hmx Try.func106 (by kernel_rfl) ((E106 n cl a0 a1 h).trans hx)
-- (undergrowth/dfa.bits).empty$1
noncomputable def F107 (n : Nat) (cl : CL) (a0 : Value) (h : PH) : R :=
 vb (xCmp ine a0 (Value.int .u64 (.ofNat 0))) fun v1 =>
 some (v1, h)
theorem E107 (n : Nat) (cl : CL) (a0 : Value) (h : PH) : exF Try.prog n cl ⟨[], [], [], [], [], [], []⟩ Try.f107 [a0] h = F107 n cl a0 h := by kernel_rfl
theorem S107 {n : Nat} {cl : CL} (hcl : OkCL Try.prog cl) {a0 : Value} {h h' : PH} {v : Value} (hx : F107 n cl a0 h = some (v, h')) : (enterable Try.prog 107 = true ∧ ACall Try.prog 107 [a0] h.abs (fun u k => u = v ∧ k = h'.abs)) ∧ Inv h h' :=
  exF_ok hcl hmx Try.func107 (by kernel_rfl) ((E107 n cl a0 h).trans hx)
-- (undergrowth/dfa.bits).empty
noncomputable def F95 (n : Nat) (cl : CL) (a0 : Value) (h : PH) : R :=
 vb (pcall (F106 n cl a0 (fnV 107 [] []) (h.fzn))) fun v1 =>
 vb (xNot v1) fun v2 =>
 some (v2, h)
noncomputable def D95 (n : Nat) (cl : CL) : CL := fun f xs h => sw f 106 (ucons xs fun b0 xs => ucons xs fun b1 xs => u0 xs (F106 n cl b0 b1 h)) (cl f xs h)
theorem Dk95 {n : Nat} {cl : CL} (hcl : OkCL Try.prog cl) : OkCL Try.prog (D95 n cl) := by
  intro f xs h v h' hx
  rcases sw_ok hx with ⟨rfl, hx⟩ | hx
  · obtain ⟨_, _, rfl, hx⟩ := ucons_ok hx; obtain ⟨_, _, rfl, hx⟩ := ucons_ok hx; obtain ⟨rfl, hx⟩ := u0_ok hx; exact S106 (n := n) (cl := cl) hcl hx
  exact hcl _ _ _ _ _ hx
theorem E95 (n : Nat) (cl : CL) (a0 : Value) (h : PH) : exF Try.prog n (D95 n cl) ⟨[106], [], [], [], [], [], []⟩ Try.f95 [a0] h = F95 n cl a0 h := by kernel_rfl
theorem S95 {n : Nat} {cl : CL} (hcl : OkCL Try.prog cl) {a0 : Value} {h h' : PH} {v : Value} (hx : F95 n cl a0 h = some (v, h')) : (enterable Try.prog 95 = true ∧ ACall Try.prog 95 [a0] h.abs (fun u k => u = v ∧ k = h'.abs)) ∧ Inv h h' :=
  exF_ok (Dk95 hcl) hmx Try.func95 (by kernel_rfl) ((E95 n cl a0 h).trans hx)
-- (undergrowth/dfa.bits).key
noncomputable def F96_0 (n : Nat) (cl : CL) (v19 : Value) (v21 : Value) (v17 : Value) (r16 : Kt) (v23 : Value) (v25 : Value) (v27 : Value) (h : PH) : R :=
 vb (xShr v19 v21) fun v30 =>
 vb (xConvI .u8 v30) fun v31 =>
 hb (xBS 1 (bsRow Try.prog 39 1 [(0, v31)]) h) fun v32 h =>
 hb (xApp (appInfo Try.prog #[39, 39]) v17 v32 h) fun v33 h =>
 vb (xAri Int.add v21 (vN 8)) fun v34 =>
 r16 [v33, v19, v34, v23, v25, v27] h
noncomputable def F96_1 (n : Nat) (cl : CL) (v27 : Value) (r3 : Kt) (v17 : Value) (v23 : Value) (v25 : Value) (h : PH) : R :=
 vb (xAri Int.add v27 (vN 1)) fun v35 =>
 r3 [v17, v23, v25, v35] h
noncomputable def F96_2 (n : Nat) (cl : CL) (v21 : Value) (v19 : Value) (v17 : Value) (r16 : Kt) (v23 : Value) (v25 : Value) (v27 : Value) (r3 : Kt) (h : PH) : R :=
 vb (xCmp ilt v21 (vN 64)) fun v29 =>
 bite v29 (F96_0 n cl v19 v21 v17 r16 v23 v25 v27 h) (F96_1 n cl v27 r3 v17 v23 v25 h)
noncomputable def F96_3 (n : Nat) (cl : CL) (r3 : Kt) (r16 : Kt) (y15 : List Value) (h : PH) : R :=
 ucons y15 fun v17 y18 => ucons y18 fun v19 y20 => ucons y20 fun v21 y22 => ucons y22 fun v23 y24 => ucons y24 fun v25 y26 => ucons y26 fun v27 y28 => F96_2 n cl v21 v19 v17 r16 v23 v25 v27 r3 h
noncomputable def F96_4 (n : Nat) (cl : CL) (v6 : Value) (v10 : Value) (r3 : Kt) (v4 : Value) (v8 : Value) (h : PH) : R :=
 vb (xIdxS 1 v6 v10) fun v13 =>
 vb (xLd v13 h) fun v14 =>
 lp n (F96_3 n cl r3) [v4, v14, (vN 0), v6, v8, v10] h
noncomputable def F96_5 (n : Nat) (cl : CL) (v4 : Value) (h : PH) : R :=
 vb (xB2S v4 h) fun v36 =>
 some (v36, h)
noncomputable def F96_6 (n : Nat) (cl : CL) (v10 : Value) (v8 : Value) (v6 : Value) (r3 : Kt) (v4 : Value) (h : PH) : R :=
 vb (xCmp ilt v10 v8) fun v12 =>
 bite v12 (F96_4 n cl v6 v10 r3 v4 v8 h) (F96_5 n cl v4 h)
noncomputable def F96_7 (n : Nat) (cl : CL) (r3 : Kt) (y2 : List Value) (h : PH) : R :=
 ucons y2 fun v4 y5 => ucons y5 fun v6 y7 => ucons y7 fun v8 y9 => ucons y9 fun v10 y11 => F96_6 n cl v10 v8 v6 r3 v4 h
noncomputable def F96 (n : Nat) (cl : CL) (a0 : Value) (h : PH) : R :=
 vb (xLenS a0) fun v1 =>
 lp n (F96_7 n cl) [nils, a0, v1, (vN 0)] h
theorem E96 (n : Nat) (cl : CL) (a0 : Value) (h : PH) : exF Try.prog n cl ⟨[], [], [(3, [3, 7, 8, 9]), (6, [3, 5, 6, 7, 8, 9])], [], [], [], []⟩ Try.f96 [a0] h = F96 n cl a0 h := by kernel_rfl
theorem S96 {n : Nat} {cl : CL} (hcl : OkCL Try.prog cl) {a0 : Value} {h h' : PH} {v : Value} (hx : F96 n cl a0 h = some (v, h')) : (enterable Try.prog 96 = true ∧ ACall Try.prog 96 [a0] h.abs (fun u k => u = v ∧ k = h'.abs)) ∧ Inv h h' :=
  exF_ok hcl hmx Try.func96 (by kernel_rfl) ((E96 n cl a0 h).trans hx)
-- (*undergrowth/dfa.patterns).accept$1
noncomputable def F109 (n : Nat) (cl : CL) (a0 a1 : Value) (h : PH) : R :=
 vb (xLd a1 h) fun v1 =>
 hb (fcall h (F72 n cl a0 v1 (h.fzn))) fun v2 h =>
 vb (pcall (F95 n cl v2 (h.fzn))) fun v3 =>
 vb (xNot v3) fun v4 =>
 some (v4, h)
noncomputable def D109 (n : Nat) (cl : CL) : CL := fun f xs h => sw f 72 (ucons xs fun b0 xs => ucons xs fun b1 xs => u0 xs (F72 n cl b0 b1 h)) (sw f 95 (ucons xs fun b0 xs => u0 xs (F95 n cl b0 h)) (cl f xs h))
theorem Dk109 {n : Nat} {cl : CL} (hcl : OkCL Try.prog cl) : OkCL Try.prog (D109 n cl) := by
  intro f xs h v h' hx
  rcases sw_ok hx with ⟨rfl, hx⟩ | hx
  · obtain ⟨_, _, rfl, hx⟩ := ucons_ok hx; obtain ⟨_, _, rfl, hx⟩ := ucons_ok hx; obtain ⟨rfl, hx⟩ := u0_ok hx; exact S72 (n := n) (cl := cl) hcl hx
  rcases sw_ok hx with ⟨rfl, hx⟩ | hx
  · obtain ⟨_, _, rfl, hx⟩ := ucons_ok hx; obtain ⟨rfl, hx⟩ := u0_ok hx; exact S95 (n := n) (cl := cl) hcl hx
  exact hcl _ _ _ _ _ hx
theorem E109 (n : Nat) (cl : CL) (a0 a1 : Value) (h : PH) : exF Try.prog n (D109 n cl) ⟨[95], [72], [], [], [], [], []⟩ Try.f109 [a0, a1] h = F109 n cl a0 a1 h := by kernel_rfl
theorem S109 {n : Nat} {cl : CL} (hcl : OkCL Try.prog cl) {a0 a1 : Value} {h h' : PH} {v : Value} (hx : F109 n cl a0 a1 h = some (v, h')) : (enterable Try.prog 109 = true ∧ ACall Try.prog 109 [a0, a1] h.abs (fun u k => u = v ∧ k = h'.abs)) ∧ Inv h h' :=
  exF_ok (Dk109 hcl) hmx Try.func109 (by kernel_rfl) ((E109 n cl a0 a1 h).trans hx)
-- slices.IndexFunc[[]undergrowth/dfa.bits,undergrowth/dfa.bits]
noncomputable def F108_0 (n : Nat) (cl : CL) (v10 : Value) (r3 : Kt) (v4 : Value) (v6 : Value) (v8 : Value) (h : PH) : R :=
 vb (xAri Int.add v10 (vN 1)) fun v16 =>
 r3 [v4, v6, v8, v16] h
noncomputable def F108_1 (n : Nat) (cl : CL) (v4 : Value) (v10 : Value) (v6 : Value) (r3 : Kt) (v8 : Value) (h : PH) : R :=
 vb (xIdxS 1 v4 v10) fun v13 =>
 vb (xLd v13 h) fun v14 =>
 hb (xCall cl v6 [v14] h) fun v15 h =>
 bite v15 (some (v10, h)) (F108_0 n cl v10 r3 v4 v6 v8 h)
noncomputable def F108_2 (n : Nat) (cl : CL) (v10 : Value) (v8 : Value) (v4 : Value) (v6 : Value) (r3 : Kt) (h : PH) : R :=
 vb (xCmp ilt v10 v8) fun v12 =>
 bite v12 (F108_1 n cl v4 v10 v6 r3 v8 h) (some ((vM 0), h))
noncomputable def F108_3 (n : Nat) (cl : CL) (r3 : Kt) (y2 : List Value) (h : PH) : R :=
 ucons y2 fun v4 y5 => ucons y5 fun v6 y7 => ucons y7 fun v8 y9 => ucons y9 fun v10 y11 => F108_2 n cl v10 v8 v4 v6 r3 h
noncomputable def F108 (n : Nat) (cl : CL) (a0 a1 : Value) (h : PH) : R :=
 vb (xLenS a0) fun v1 =>
 lp n (F108_3 n cl) [a0, a1, v1, (vN 0)] h
theorem E108 (n : Nat) (cl : CL) (a0 a1 : Value) (h : PH) : exF Try.prog n cl ⟨[], [], [(2, [0, 1, 7, 8])], [], [], [], []⟩ Try.f108 [a0, a1] h = F108 n cl a0 a1 h := by kernel_rfl
theorem S108 {n : Nat} {cl : CL} (hcl : OkCL Try.prog cl) {a0 a1 : Value} {h h' : PH} {v : Value} (hx : F108 n cl a0 a1 h = some (v, h')) : (enterable Try.prog 108 = true ∧ ACall Try.prog 108 [a0, a1] h.abs (fun u k => u = v ∧ k = h'.abs)) ∧ Inv h h' :=
  exF_ok hcl hmx Try.func108 (by kernel_rfl) ((E108 n cl a0 a1 h).trans hx)
-- (*undergrowth/dfa.patterns).accept
noncomputable def F97 (n : Nat) (cl : CL) (a0 a1 : Value) (h : PH) : R :=
 hb (xBox a1 h) fun v1 h =>
 vb (xNil a0) fun v2 =>
 vb (xFld 3 v2) fun v3 =>
 vb (xLd v3 h) fun v4 =>
 vb (some (Value.func (Fn.func 109) ⟨[]⟩ ⟨[v1]⟩)) fun v5 =>
 vb (pcall (F108 n cl v4 v5 (h.fzn))) fun v6 =>
 some (v6, h)
noncomputable def D97 (n : Nat) (cl : CL) : CL := fun f xs h => sw f 108 (ucons xs fun b0 xs => ucons xs fun b1 xs => u0 xs (F108 n cl b0 b1 h)) (cl f xs h)
theorem Dk97 {n : Nat} {cl : CL} (hcl : OkCL Try.prog cl) : OkCL Try.prog (D97 n cl) := by
  intro f xs h v h' hx
  rcases sw_ok hx with ⟨rfl, hx⟩ | hx
  · obtain ⟨_, _, rfl, hx⟩ := ucons_ok hx; obtain ⟨_, _, rfl, hx⟩ := ucons_ok hx; obtain ⟨rfl, hx⟩ := u0_ok hx; exact S108 (n := n) (cl := cl) hcl hx
  exact hcl _ _ _ _ _ hx
theorem E97 (n : Nat) (cl : CL) (a0 a1 : Value) (h : PH) : exF Try.prog n (D97 n cl) ⟨[108], [], [], [], [], [], []⟩ Try.f97 [a0, a1] h = F97 n cl a0 a1 h := by kernel_rfl
theorem S97 {n : Nat} {cl : CL} (hcl : OkCL Try.prog cl) {a0 a1 : Value} {h h' : PH} {v : Value} (hx : F97 n cl a0 a1 h = some (v, h')) : (enterable Try.prog 97 = true ∧ ACall Try.prog 97 [a0, a1] h.abs (fun u k => u = v ∧ k = h'.abs)) ∧ Inv h h' :=
  exF_ok (Dk97 hcl) hmx Try.func97 (by kernel_rfl) ((E97 n cl a0 a1 h).trans hx)
-- (*undergrowth/dfa.sets).state
noncomputable def F71_0 (n : Nat) (cl : CL) (a0 : Value) (v2 : Value) (a1 : Value) (k10 : Kt) (h : PH) : R :=
 vb (xNil a0) fun v14 =>
 vb (xFld 2 v14) fun v15 =>
 vb (xLd v15 h) fun v16 =>
 vb (xLenS v16) fun v17 =>
 vb (xNil a0) fun v18 =>
 vb (xFld 1 v18) fun v19 =>
 vb (xLd v19 h) fun v20 =>
 hb (xMUpd Try.prog 9 v20 v2 v17 h) fun _ h =>
 vb (xNil a0) fun v21 =>
 vb (xFld 2 v21) fun v22 =>
 vb (xLd v22 h) fun v23 =>
 hb (xBS 1 (bsRow Try.prog 84 1 [(0, a1)]) h) fun v24 h =>
 hb (xApp (appInfo Try.prog #[84, 84]) v23 v24 h) fun v25 h =>
 vb (xNil a0) fun v26 =>
 vb (xFld 2 v26) fun v27 =>
 hb (xSt1 v27 v25 h) fun _ h =>
 vb (xNil a0) fun v28 =>
 vb (xFld 4 v28) fun v29 =>
 vb (xNil a0) fun v30 =>
 vb (xFld 0 v30) fun v31 =>
 vb (xLd v29 h) fun v32 =>
 vb (xLd v31 h) fun v33 =>
 vb (pcall (F97 n cl v33 a1 (h.fzn))) fun v34 =>
 lchk (xLd v29 h) v32 <|
 hb (xBS 1 (bsRow Try.prog 28 1 [(0, v34)]) h) fun v35 h =>
 hb (xApp (appInfo Try.prog #[28, 28]) v32 v35 h) fun v36 h =>
 vb (xNil a0) fun v37 =>
 vb (xFld 4 v37) fun v38 =>
 hb (xSt1 v38 v36 h) fun _ h =>
 k10 [v17] h
noncomputable def F71_1 (n : Nat) (cl : CL) (v8 : Value) (a0 : Value) (v2 : Value) (a1 : Value) (v7 : Value) (h : PH) (k10 : Kt) : R :=
 vb (xNot v8) fun v13 =>
 bite v13 (F71_0 n cl a0 v2 a1 k10 h) (k10 [v7] h)
noncomputable def F71_2 (n : Nat) (cl : CL) (a1 : Value) (a0 : Value) (h : PH) : R :=
 vb (pcall (F96 n cl a1 (h.fzn))) fun v2 =>
 vb (xNil a0) fun v3 =>
 vb (xFld 1 v3) fun v4 =>
 vb (xLd v4 h) fun v5 =>
 vb (xLkp Try.prog 9 3 true v5 v2 h) fun v6 =>
 vb (xExt 0 v6) fun v7 =>
 vb (xExt 1 v6) fun v8 =>
 jn (fun y9 h => ucons y9 fun v11 y12 => some (v11, h)) (F71_1 n cl v8 a0 v2 a1 v7 h)
noncomputable def F71 (n : Nat) (cl : CL) (a0 a1 : Value) (h : PH) : R :=
 vb (pcall (F95 n cl a1 (h.fzn))) fun v1 =>
 bite v1 (some ((vM 0), h)) (F71_2 n cl a1 a0 h)
noncomputable def D71 (n : Nat) (cl : CL) : CL := fun f xs h => sw f 95 (ucons xs fun b0 xs => u0 xs (F95 n cl b0 h)) (sw f 96 (ucons xs fun b0 xs => u0 xs (F96 n cl b0 h)) (sw f 97 (ucons xs fun b0 xs => ucons xs fun b1 xs => u0 xs (F97 n cl b0 b1 h)) (cl f xs h)))
theorem Dk71 {n : Nat} {cl : CL} (hcl : OkCL Try.prog cl) : OkCL Try.prog (D71 n cl) := by
  intro f xs h v h' hx
  rcases sw_ok hx with ⟨rfl, hx⟩ | hx
  · obtain ⟨_, _, rfl, hx⟩ := ucons_ok hx; obtain ⟨rfl, hx⟩ := u0_ok hx; exact S95 (n := n) (cl := cl) hcl hx
  rcases sw_ok hx with ⟨rfl, hx⟩ | hx
  · obtain ⟨_, _, rfl, hx⟩ := ucons_ok hx; obtain ⟨rfl, hx⟩ := u0_ok hx; exact S96 (n := n) (cl := cl) hcl hx
  rcases sw_ok hx with ⟨rfl, hx⟩ | hx
  · obtain ⟨_, _, rfl, hx⟩ := ucons_ok hx; obtain ⟨_, _, rfl, hx⟩ := ucons_ok hx; obtain ⟨rfl, hx⟩ := u0_ok hx; exact S97 (n := n) (cl := cl) hcl hx
  exact hcl _ _ _ _ _ hx
theorem E71 (n : Nat) (cl : CL) (a0 a1 : Value) (h : PH) : exF Try.prog n (D71 n cl) ⟨[95, 96, 97], [], [(10, [6])], [(9, [0, 1, 2, 3, 5, 6, 7, 9, 4, 8, 10, 11, 12, 13, 14, 15])], [(9, [4, 10])], [], []⟩ Try.f71 [a0, a1] h = F71 n cl a0 a1 h := by kernel_rfl
theorem S71 {n : Nat} {cl : CL} (hcl : OkCL Try.prog cl) {a0 a1 : Value} {h h' : PH} {v : Value} (hx : F71 n cl a0 a1 h = some (v, h')) : (enterable Try.prog 71 = true ∧ ACall Try.prog 71 [a0, a1] h.abs (fun u k => u = v ∧ k = h'.abs)) ∧ Inv h h' :=
  exF_ok (Dk71 hcl) hmx Try.func71 (by kernel_rfl) ((E71 n cl a0 a1 h).trans hx)
-- (*undergrowth/dfa.sets).make
noncomputable def F40_0 (n : Nat) (cl : CL) (v30 : Value) (v40 : Value) (v34 : Value) (v36 : Value) (r29 : Kt) (v32 : Value) (v38 : Value) (h : PH) : R :=
 vb (xNil v30) fun v43 =>
 vb (xFld 0 v43) fun v44 =>
 vb (xLd v44 h) fun v45 =>
 vb (xNil v45) fun v46 =>
 vb (xFld 5 v46) fun v47 =>
 vb (xIdxA 256 1 v47 v40) fun v48 =>
 vb (xLd v48 h) fun v49 =>
 hb (fcall h (F72 n cl v34 v49 (h.fzn))) fun v50 h =>
 hb (F71 n cl v30 v50 h) fun v51 h =>
 vb (xIdxS 1 v36 v40) fun v52 =>
 hb (xSt1 v52 v51 h) fun _ h =>
 vb (xAri Int.add v40 (vN 1)) fun v53 =>
 r29 [v30, v32, v34, v36, v38, v53] h
noncomputable def F40_1 (n : Nat) (cl : CL) (v32 : Value) (r2 : Kt) (v30 : Value) (h : PH) : R :=
 vb (xAri Int.add v32 (vN 1)) fun v66 =>
 r2 [v30, v66] h
noncomputable def F40_2 (n : Nat) (cl : CL) (v30 : Value) (v36 : Value) (v32 : Value) (r2 : Kt) (h : PH) : R :=
 vb (xNil v30) fun v54 =>
 vb (xFld 3 v54) fun v55 =>
 vb (xLd v55 h) fun v56 =>
 hb (xBS 1 (bsRow Try.prog 27 1 [(0, v36)]) h) fun v57 h =>
 hb (xApp (appInfo Try.prog #[27, 27]) v56 v57 h) fun v58 h =>
 vb (xNil v30) fun v59 =>
 vb (xFld 3 v59) fun v60 =>
 hb (xSt1 v60 v58 h) fun _ h =>
 vb (xNil v30) fun v61 =>
 vb (xFld 2 v61) fun v62 =>
 vb (xLd v62 h) fun v63 =>
 vb (xLenS v63) fun v64 =>
 vb (xCmp (fun x y => ilt y x) v64 (vN 2000)) fun v65 =>
 bite v65 (some (ff, h)) (F40_1 n cl v32 r2 v30 h)
noncomputable def F40_3 (n : Nat) (cl : CL) (v40 : Value) (v38 : Value) (v30 : Value) (v34 : Value) (v36 : Value) (r29 : Kt) (v32 : Value) (r2 : Kt) (h : PH) : R :=
 vb (xCmp ilt v40 v38) fun v42 =>
 bite v42 (F40_0 n cl v30 v40 v34 v36 r29 v32 v38 h) (F40_2 n cl v30 v36 v32 r2 h)
noncomputable def F40_4 (n : Nat) (cl : CL) (r2 : Kt) (r29 : Kt) (y28 : List Value) (h : PH) : R :=
 ucons y28 fun v30 y31 => ucons y31 fun v32 y33 => ucons y33 fun v34 y35 => ucons y35 fun v36 y37 => ucons y37 fun v38 y39 => ucons y39 fun v40 y41 => F40_3 n cl v40 v38 v30 v34 v36 r29 v32 r2 h
noncomputable def F40_5 (n : Nat) (cl : CL) (r2 : Kt) (v20 : Value) (v22 : Value) (v24 : Value) (h : PH) : R :=
 hb (xMk (zinfo Try.prog 28) (vN 256) (vN 256) h) fun v26 h =>
 vb (xLenS v26) fun v27 =>
 lp n (F40_4 n cl r2) [v20, v22, v24, v26, v27, (vN 0)] h
noncomputable def F40_6 (n : Nat) (cl : CL) (v3 : Value) (v5 : Value) (k19 : Kt) (h : PH) : R :=
 vb (xNil v3) fun v68 =>
 vb (xFld 0 v68) fun v69 =>
 vb (xNil v3) fun v70 =>
 vb (xFld 2 v70) fun v71 =>
 vb (xLd v69 h) fun v72 =>
 vb (xLd v71 h) fun v73 =>
 vb (xIdxS 1 v73 v5) fun v74 =>
 vb (xLd v74 h) fun v75 =>
 hb (F70 n cl v72 v75 h) fun v76 h =>
 k19 [v3, v5, v76] h
noncomputable def F40_7 (n : Nat) (cl : CL) (r2 : Kt) (y18 : List Value) (h : PH) : R :=
 ucons y18 fun v20 y21 => ucons y21 fun v22 y23 => ucons y23 fun v24 y25 => F40_5 n cl r2 v20 v22 v24 h
noncomputable def F40_8 (n : Nat) (cl : CL) (v5 : Value) (v3 : Value) (v17 : Value) (h : PH) (k19 : Kt) : R :=
 vb (xCmp (fun x y => ilt y x) v5 (vN 0)) fun v67 =>
 bite v67 (F40_6 n cl v3 v5 k19 h) (k19 [v3, v5, v17] h)
noncomputable def F40_9 (n : Nat) (cl : CL) (v3 : Value) (r2 : Kt) (v5 : Value) (h : PH) : R :=
 vb (xNil v3) fun v12 =>
 vb (xFld 0 v12) fun v13 =>
 vb (xLd v13 h) fun v14 =>
 vb (xNil v14) fun v15 =>
 vb (xFld 1 v15) fun v16 =>
 vb (xLd v16 h) fun v17 =>
 jn (F40_7 n cl r2) (F40_8 n cl v5 v3 v17 h)
noncomputable def F40_10 (n : Nat) (cl : CL) (v3 : Value) (v5 : Value) (r2 : Kt) (h : PH) : R :=
 vb (xNil v3) fun v7 =>
 vb (xFld 2 v7) fun v8 =>
 vb (xLd v8 h) fun v9 =>
 vb (xLenS v9) fun v10 =>
 vb (xCmp ilt v5 v10) fun v11 =>
 bite v11 (F40_9 n cl v3 r2 v5 h) (some (tt, h))
noncomputable def F40 (n : Nat) (cl : CL) (a0 : Value) (h : PH) : R :=
 lp n (fun r2 y1 h => ucons y1 fun v3 y4 => ucons y4 fun v5 y6 => F40_10 n cl v3 v5 r2 h) [a0, (vN 0)] h
noncomputable def D40 (n : Nat) (cl : CL) : CL := fun f xs h => sw f 72 (ucons xs fun b0 xs => ucons xs fun b1 xs => u0 xs (F72 n cl b0 b1 h)) (sw f 71 (ucons xs fun b0 xs => ucons xs fun b1 xs => u0 xs (F71 n cl b0 b1 h)) (sw f 70 (ucons xs fun b0 xs => ucons xs fun b1 xs => u0 xs (F70 n cl b0 b1 h)) (cl f xs h)))
theorem Dk40 {n : Nat} {cl : CL} (hcl : OkCL Try.prog cl) : OkCL Try.prog (D40 n cl) := by
  intro f xs h v h' hx
  rcases sw_ok hx with ⟨rfl, hx⟩ | hx
  · obtain ⟨_, _, rfl, hx⟩ := ucons_ok hx; obtain ⟨_, _, rfl, hx⟩ := ucons_ok hx; obtain ⟨rfl, hx⟩ := u0_ok hx; exact S72 (n := n) (cl := cl) hcl hx
  rcases sw_ok hx with ⟨rfl, hx⟩ | hx
  · obtain ⟨_, _, rfl, hx⟩ := ucons_ok hx; obtain ⟨_, _, rfl, hx⟩ := ucons_ok hx; obtain ⟨rfl, hx⟩ := u0_ok hx; exact S71 (n := n) (cl := cl) hcl hx
  rcases sw_ok hx with ⟨rfl, hx⟩ | hx
  · obtain ⟨_, _, rfl, hx⟩ := ucons_ok hx; obtain ⟨_, _, rfl, hx⟩ := ucons_ok hx; obtain ⟨rfl, hx⟩ := u0_ok hx; exact S70 (n := n) (cl := cl) hcl hx
  exact hcl _ _ _ _ _ hx
theorem E40 (n : Nat) (cl : CL) (a0 : Value) (h : PH) : exF Try.prog n (D40 n cl) ⟨[], [72], [(2, [0, 3]), (7, [0, 3, 4]), (9, [0, 3, 4, 5, 39, 40])], [(6, [0, 1, 2, 4, 5, 6, 8, 3, 7, 9, 10, 11, 12])], [], [], []⟩ Try.f40 [a0] h = F40 n cl a0 h := by kernel_rfl
theorem S40 {n : Nat} {cl : CL} (hcl : OkCL Try.prog cl) {a0 : Value} {h h' : PH} {v : Value} (hx : F40 n cl a0 h = some (v, h')) : (enterable Try.prog 40 = true ∧ ACall Try.prog 40 [a0] h.abs (fun u k => u = v ∧ k = h'.abs)) ∧ Inv h h' :=
  exF_ok (Dk40 hcl) hmx Try.func40 (by kernel_rfl) ((E40 n cl a0 h).trans hx)
-- slices.Clone[[]int,int]
noncomputable def F73_0 (n : Nat) (cl : CL) (a0 : Value) (h : PH) : R :=
 hb (xBS 0 (bsRow Try.prog 28 0 []) h) fun v2 h =>
 hb (xApp (appInfo Try.prog #[28, 28]) v2 a0 h) fun v3 h =>
 some (v3, h)
noncomputable def F73 (n : Nat) (cl : CL) (a0 : Value) (h : PH) : R :=
 vb (abin Try.prog .eql 28 (Operand.tmp 3) (Operand.const (Value.slice none 0 0)) a0 nils) fun v1 =>
 bite v1 (some (nils, h)) (F73_0 n cl a0 h)
theorem E73 (n : Nat) (cl : CL) (a0 : Value) (h : PH) : exF Try.prog n cl ⟨[], [], [], [], [], [], []⟩ Try.f73 [a0] h = F73 n cl a0 h := by kernel_rfl
theorem S73 {n : Nat} {cl : CL} (hcl : OkCL Try.prog cl) {a0 : Value} {h h' : PH} {v : Value} (hx : F73 n cl a0 h = some (v, h')) : (enterable Try.prog 73 = true ∧ ACall Try.prog 73 [a0] h.abs (fun u k => u = v ∧ k = h'.abs)) ∧ Inv h h' :=
  exF_ok hcl hmx Try.func73 (by kernel_rfl) ((E73 n cl a0 h).trans hx)
-- (*undergrowth/dfa.sets).signature$1
noncomputable def F99 (n : Nat) (cl : CL) (a0 a1 : Value) (h : PH) : R :=
 vb (xLd a1 h) fun v1 =>
 vb (xConvI .u8 a0) fun v2 =>
 vb (xShr a0 (Value.int .u64 (.ofNat 8))) fun v3 =>
 vb (xConvI .u8 v3) fun v4 =>
 vb (xShr a0 (Value.int .u64 (.ofNat 16))) fun v5 =>
 vb (xConvI .u8 v5) fun v6 =>
 hb (xBS 3 (bsRow Try.prog 39 3 [(0, v2), (1, v4), (2, v6)]) h) fun v7 h =>
 hb (xApp (appInfo Try.prog #[39, 39]) v1 v7 h) fun v8 h =>
 hb (xSt1 a1 v8 h) fun _ h =>
 some (Value.tuple ⟨[]⟩, h)
theorem E99 (n : Nat) (cl : CL) (a0 a1 : Value) (h : PH) : exF Try.prog n cl ⟨[], [], [], [], [], [], []⟩ Try.f99 [a0, a1] h = F99 n cl a0 a1 h := by kernel_rfl
theorem S99 {n : Nat} {cl : CL} (hcl : OkCL Try.prog cl) {a0 a1 : Value} {h h' : PH} {v : Value} (hx : F99 n cl a0 a1 h = some (v, h')) : (enterable Try.prog 99 = true ∧ ACall Try.prog 99 [a0, a1] h.abs (fun u k => u = v ∧ k = h'.abs)) ∧ Inv h h' :=
  exF_ok hcl hmx Try.func99 (by kernel_rfl) ((E99 n cl a0 a1 h).trans hx)
-- (*undergrowth/dfa.sets).signature
noncomputable def F74_0 (n : Nat) (cl : CL) (v50 : Value) (v60 : Value) (v58 : Value) (v62 : Value) (r12 : Kt) (v48 : Value) (v52 : Value) (v54 : Value) (v56 : Value) (h : PH) : R :=
 vb (xIdxS 1 v50 v60) fun v64 =>
 vb (xLd v64 h) fun v65 =>
 hb (xCall cl v58 [v65] h) fun v66 h =>
 vb (xAri Int.add v62 (vN 1)) fun v67 =>
 r12 [v48, v50, v52, v54, v56, v58, v67] h
noncomputable def F74_1 (n : Nat) (cl : CL) (r12 : Kt) (y46 : List Value) (h : PH) : R :=
 ucons y46 fun v48 y49 => ucons y49 fun v50 y51 => ucons y51 fun v52 y53 => ucons y53 fun v54 y55 => ucons y55 fun v56 y57 => ucons y57 fun v58 y59 => ucons y59 fun v60 y61 => ucons y61 fun v62 y63 => F74_0 n cl v50 v60 v58 v62 r12 v48 v52 v54 v56 h
noncomputable def F74_2 (n : Nat) (cl : CL) (v42 : Value) (v30 : Value) (v32 : Value) (v34 : Value) (v36 : Value) (v38 : Value) (v40 : Value) (v44 : Value) (h : PH) (k47 : Kt) : R :=
 vb (xCmp ieq v42 (vM 0)) fun v68 =>
 bite v68 (k47 [v30, v32, v34, v36, v38, v40, v36, v44] h) (k47 [v30, v32, v34, v36, v38, v40, v42, v44] h)
noncomputable def F74_3 (n : Nat) (cl : CL) (v13 : Value) (v17 : Value) (v25 : Value) (k29 : Kt) (v15 : Value) (v19 : Value) (v21 : Value) (v23 : Value) (h : PH) : R :=
 vb (xNil v13) fun v70 =>
 vb (xFld 3 v70) fun v71 =>
 vb (xLd v71 h) fun v72 =>
 vb (xIdxS 1 v72 v17) fun v73 =>
 vb (xLd v73 h) fun v74 =>
 vb (xIdxS 1 v74 v25) fun v75 =>
 vb (xLd v75 h) fun v76 =>
 k29 [v13, v15, v17, v19, v21, v23, v76, v25] h
noncomputable def F74_4 (n : Nat) (cl : CL) (r12 : Kt) (y28 : List Value) (h : PH) : R :=
 ucons y28 fun v30 y31 => ucons y31 fun v32 y33 => ucons y33 fun v34 y35 => ucons y35 fun v36 y37 => ucons y37 fun v38 y39 => ucons y39 fun v40 y41 => ucons y41 fun v42 y43 => ucons y43 fun v44 y45 => jn (F74_1 n cl r12) (F74_2 n cl v42 v30 v32 v34 v36 v38 v40 v44 h)
noncomputable def F74_5 (n : Nat) (cl : CL) (v17 : Value) (v19 : Value) (v13 : Value) (v25 : Value) (v15 : Value) (v21 : Value) (v23 : Value) (h : PH) (k29 : Kt) : R :=
 vb (xCmp ilt v17 v19) fun v69 =>
 bite v69 (F74_3 n cl v13 v17 v25 k29 v15 v19 v21 v23 h) (k29 [v13, v15, v17, v19, v21, v23, (vM 0), v25] h)
noncomputable def F74_6 (n : Nat) (cl : CL) (v21 : Value) (h : PH) : R :=
 vb (xLd v21 h) fun v77 =>
 vb (xB2S v77 h) fun v78 =>
 some (v78, h)
noncomputable def F74_7 (n : Nat) (cl : CL) (v25 : Value) (r12 : Kt) (v17 : Value) (v19 : Value) (v13 : Value) (v15 : Value) (v21 : Value) (v23 : Value) (h : PH) : R :=
 vb (xCmp ilt v25 (vN 256)) fun v27 =>
 bite v27 (jn (F74_4 n cl r12) (F74_5 n cl v17 v19 v13 v25 v15 v21 v23 h)) (F74_6 n cl v21 h)
noncomputable def F74_8 (n : Nat) (cl : CL) (r12 : Kt) (y11 : List Value) (h : PH) : R :=
 ucons y11 fun v13 y14 => ucons y14 fun v15 y16 => ucons y16 fun v17 y18 => ucons y18 fun v19 y20 => ucons y20 fun v21 y22 => ucons y22 fun v23 y24 => ucons y24 fun v25 y26 => F74_7 n cl v25 r12 v17 v19 v13 v15 v21 v23 h
noncomputable def F74 (n : Nat) (cl : CL) (a0 a1 a2 : Value) (h : PH) : R :=
 vb (xNil a0) fun v1 =>
 vb (xFld 2 v1) fun v2 =>
 vb (xLd v2 h) fun v3 =>
 vb (xLenS v3) fun v4 =>
 hb (xBS 0 (bsRow Try.prog 39 0 []) h) fun v5 h =>
 hb (xAlloc (zcells Try.prog 39) h) fun v6 h =>
 hb (xSt1 v6 v5 h) fun _ h =>
 vb (some (Value.func (Fn.func 99) ⟨[]⟩ ⟨[v6]⟩)) fun v7 =>
 vb (xIdxS 1 a1 a2) fun v8 =>
 vb (xLd v8 h) fun v9 =>
 hb (xCall cl v7 [v9] h) fun v10 h =>
 lp n (F74_8 n cl) [a0, a1, a2, v4, v6, v7, (vN 0)] h
theorem E74 (n : Nat) (cl : CL) (a0 a1 a2 : Value) (h : PH) : exF Try.prog n cl ⟨[], [], [(6, [0, 1, 2, 7, 8, 9, 25]), (11, [0, 1, 2, 7, 8, 9, 11, 25]), (13, [0, 1, 2, 7, 8, 9, 11, 25])], [], [], [], []⟩ Try.f74 [a0, a1, a2] h = F74 n cl a0 a1 a2 h := by kernel_rfl
theorem S74 {n : Nat} {cl : CL} (hcl : OkCL Try.prog cl) {a0 a1 a2 : Value} {h h' : PH} {v : Value} (hx : F74 n cl a0 a1 a2 h = some (v, h')) : (enterable Try.prog 74 = true ∧ ACall Try.prog 74 [a0, a1, a2] h.abs (fun u k => u = v ∧ k = h'.abs)) ∧ Inv h h' :=
  exF_ok hcl hmx Try.func74 (by kernel_rfl) ((E74 n cl a0 a1 a2 h).trans hx)
-- (*undergrowth/dfa.sets).classes
noncomputable def F41_0 (n : Nat) (cl : CL) (v55 : Value) (v61 : Value) (v57 : Value) (v59 : Value) (v65 : Value) (r26 : Kt) (v47 : Value) (v49 : Value) (v51 : Value) (v53 : Value) (v63 : Value) (h : PH) : R :=
 vb (xLkp Try.prog 9 3 false v55 v61 h) fun v67 =>
 vb (xIdxS 1 v57 v59) fun v68 =>
 hb (xSt1 v68 v67 h) fun _ h =>
 vb (xAri Int.add v65 (vN 1)) fun v69 =>
 r26 [v47, v49, v51, v53, v55, v57, v63, v69] h
noncomputable def F41_1 (n : Nat) (cl : CL) (v35 : Value) (v44 : Value) (k46 : Kt) (v27 : Value) (v29 : Value) (v31 : Value) (v33 : Value) (v37 : Value) (v41 : Value) (v39 : Value) (h : PH) : R :=
 vb (xMLen v35 h) fun v74 =>
 hb (xMUpd Try.prog 9 v35 v44 v74 h) fun _ h =>
 k46 [v27, v29, v31, v33, v35, v37, v41, v44, v39, v41] h
noncomputable def F41_2 (n : Nat) (cl : CL) (r26 : Kt) (y45 : List Value) (h : PH) : R :=
 ucons y45 fun v47 y48 => ucons y48 fun v49 y50 => ucons y50 fun v51 y52 => ucons y52 fun v53 y54 => ucons y54 fun v55 y56 => ucons y56 fun v57 y58 => ucons y58 fun v59 y60 => ucons y60 fun v61 y62 => ucons y62 fun v63 y64 => ucons y64 fun v65 y66 => F41_0 n cl v55 v61 v57 v59 v65 r26 v47 v49 v51 v53 v63 h
noncomputable def F41_3 (n : Nat) (cl : CL) (v35 : Value) (v44 : Value) (v27 : Value) (v29 : Value) (v31 : Value) (v33 : Value) (v37 : Value) (v41 : Value) (v39 : Value) (h : PH) (k46 : Kt) : R :=
 vb (xLkp Try.prog 9 3 true v35 v44 h) fun v70 =>
 vb (xExt 0 v70) fun v71 =>
 vb (xExt 1 v70) fun v72 =>
 vb (xNot v72) fun v73 =>
 bite v73 (F41_1 n cl v35 v44 k46 v27 v29 v31 v33 v37 v41 v39 h) (k46 [v27, v29, v31, v33, v35, v37, v41, v44, v39, v41] h)
noncomputable def F41_4 (n : Nat) (cl : CL) (v27 : Value) (v31 : Value) (v41 : Value) (r26 : Kt) (v35 : Value) (v29 : Value) (v33 : Value) (v37 : Value) (v39 : Value) (h : PH) : R :=
 vb (pcall (F74 n cl v27 v31 v41 (h.fzn))) fun v44 =>
 jn (F41_2 n cl r26) (F41_3 n cl v35 v44 v27 v29 v31 v33 v37 v41 v39 h)
noncomputable def F41_5 (n : Nat) (cl : CL) (v37 : Value) (v29 : Value) (h : PH) : R :=
 vb (acut Try.prog 28 v37 none (some v29) none) fun v77 =>
 vb (xIdxS 1 v37 v29) fun v78 =>
 vb (xLd v78 h) fun v79 =>
 some (Value.tuple ⟨[v77, v79]⟩, h)
noncomputable def F41_6 (n : Nat) (cl : CL) (v35 : Value) (r12 : Kt) (v27 : Value) (v29 : Value) (v37 : Value) (h : PH) : R :=
 vb (xMLen v35 h) fun v80 =>
 r12 [v27, v29, v37, v80] h
noncomputable def F41_7 (n : Nat) (cl : CL) (v35 : Value) (v33 : Value) (v37 : Value) (v29 : Value) (r12 : Kt) (v27 : Value) (h : PH) : R :=
 vb (xMLen v35 h) fun v75 =>
 vb (xCmp ieq v75 v33) fun v76 =>
 bite v76 (F41_5 n cl v37 v29 h) (F41_6 n cl v35 r12 v27 v29 v37 h)
noncomputable def F41_8 (n : Nat) (cl : CL) (v41 : Value) (v39 : Value) (v27 : Value) (v31 : Value) (r26 : Kt) (v35 : Value) (v29 : Value) (v33 : Value) (v37 : Value) (r12 : Kt) (h : PH) : R :=
 vb (xCmp ilt v41 v39) fun v43 =>
 bite v43 (F41_4 n cl v27 v31 v41 r26 v35 v29 v33 v37 v39 h) (F41_7 n cl v35 v33 v37 v29 r12 v27 h)
noncomputable def F41_9 (n : Nat) (cl : CL) (r12 : Kt) (r26 : Kt) (y25 : List Value) (h : PH) : R :=
 ucons y25 fun v27 y28 => ucons y28 fun v29 y30 => ucons y30 fun v31 y32 => ucons y32 fun v33 y34 => ucons y34 fun v35 y36 => ucons y36 fun v37 y38 => ucons y38 fun v39 y40 => ucons y40 fun v41 y42 => F41_8 n cl v41 v39 v27 v31 r26 v35 v29 v33 v37 r12 h
noncomputable def F41_10 (n : Nat) (cl : CL) (v15 : Value) (r12 : Kt) (v13 : Value) (v17 : Value) (v19 : Value) (h : PH) : R :=
 hb (xMMk h) fun v21 h =>
 vb (xAri Int.add v15 (vN 1)) fun v22 =>
 hb (xMk (zinfo Try.prog 28) v22 v22 h) fun v23 h =>
 vb (xAri Int.add v15 (vN 1)) fun v24 =>
 lp n (F41_9 n cl r12) [v13, v15, v17, v19, v21, v23, v24, (vN 0)] h
noncomputable def F41_11 (n : Nat) (cl : CL) (r12 : Kt) (y11 : List Value) (h : PH) : R :=
 ucons y11 fun v13 y14 => ucons y14 fun v15 y16 => ucons y16 fun v17 y18 => ucons y18 fun v19 y20 => F41_10 n cl v15 r12 v13 v17 v19 h
noncomputable def F41 (n : Nat) (cl : CL) (a0 : Value) (h : PH) : R :=
 vb (xNil a0) fun v1 =>
 vb (xFld 2 v1) fun v2 =>
 vb (xLd v2 h) fun v3 =>
 vb (xLenS v3) fun v4 =>
 vb (xNil a0) fun v5 =>
 vb (xFld 4 v5) fun v6 =>
 vb (xLd v6 h) fun v7 =>
 hb (fcall h (F73 n cl v7 (h.fzn))) fun v8 h =>
 hb (xBS 1 (bsRow Try.prog 28 1 [(0, (vM 0))]) h) fun v9 h =>
 hb (xApp (appInfo Try.prog #[28, 28]) v8 v9 h) fun v10 h =>
 lp n (F41_11 n cl) [a0, v4, v10, (vN 0)] h
noncomputable def D41 (n : Nat) (cl : CL) : CL := fun f xs h => sw f 73 (ucons xs fun b0 xs => u0 xs (F73 n cl b0 h)) (sw f 74 (ucons xs fun b0 xs => ucons xs fun b1 xs => ucons xs fun b2 xs => u0 xs (F74 n cl b0 b1 b2 h)) (cl f xs h))
theorem Dk41 {n : Nat} {cl : CL} (hcl : OkCL Try.prog cl) : OkCL Try.prog (D41 n cl) := by
  intro f xs h v h' hx
  rcases sw_ok hx with ⟨rfl, hx⟩ | hx
  · obtain ⟨_, _, rfl, hx⟩ := ucons_ok hx; obtain ⟨rfl, hx⟩ := u0_ok hx; exact S73 (n := n) (cl := cl) hcl hx
  rcases sw_ok hx with ⟨rfl, hx⟩ | hx
  · obtain ⟨_, _, rfl, hx⟩ := ucons_ok hx; obtain ⟨_, _, rfl, hx⟩ := ucons_ok hx; obtain ⟨_, _, rfl, hx⟩ := ucons_ok hx; obtain ⟨rfl, hx⟩ := u0_ok hx; exact S74 (n := n) (cl := cl) hcl hx
  exact hcl _ _ _ _ _ hx
theorem E41 (n : Nat) (cl : CL) (a0 : Value) (h : PH) : exF Try.prog n (D41 n cl) ⟨[74], [73], [(4, [0, 4, 5, 6]), (7, [0, 4, 5, 6, 7, 8, 30, 31]), (13, [0, 4, 5, 6, 7, 8, 9, 10, 30, 31])], [(17, [0, 1, 2, 3, 4, 5, 7, 6, 8])], [], [], []⟩ Try.f41 [a0] h = F41 n cl a0 h := by kernel_rfl
theorem S41 {n : Nat} {cl : CL} (hcl : OkCL Try.prog cl) {a0 : Value} {h h' : PH} {v : Value} (hx : F41 n cl a0 h = some (v, h')) : (enterable Try.prog 41 = true ∧ ACall Try.prog 41 [a0] h.abs (fun u k => u = v ∧ k = h'.abs)) ∧ Inv h h' :=
  exF_ok (Dk41 hcl) hmx Try.func41 (by kernel_rfl) ((E41 n cl a0 h).trans hx)
-- (*undergrowth/dfa.sets).number
noncomputable def F42_0 (n : Nat) (cl : CL) (v76 : Value) (r30 : Kt) (v56 : Value) (v58 : Value) (v60 : Value) (v62 : Value) (v64 : Value) (v66 : Value) (v68 : Value) (v70 : Value) (v72 : Value) (v74 : Value) (h : PH) : R :=
 vb (xAri Int.add v76 (vN 1)) fun v78 =>
 r30 [v56, v58, v60, v62, v64, v66, v68, v70, v72, v74, v78] h
noncomputable def F42_1 (n : Nat) (cl : CL) (v101 : Value) (v119 : Value) (v109 : Value) (v115 : Value) (v117 : Value) (k55 : Kt) (v99 : Value) (v103 : Value) (v105 : Value) (v107 : Value) (v111 : Value) (v113 : Value) (v121 : Value) (v123 : Value) (h : PH) : R :=
 vb (xIdxS 1 v101 v119) fun v125 =>
 vb (xLd v125 h) fun v126 =>
 vb (xLkp Try.prog 3 3 false v109 v126 h) fun v127 =>
 vb (xIdxS 1 v115 v117) fun v128 =>
 hb (xSt1 v128 v127 h) fun _ h =>
 k55 [v99, v101, v103, v105, v107, v109, v111, v113, v115, v121, v123] h
noncomputable def F42_2 (n : Nat) (cl : CL) (v33 : Value) (v88 : Value) (v43 : Value) (v41 : Value) (k98 : Kt) (v31 : Value) (v35 : Value) (v37 : Value) (v39 : Value) (v45 : Value) (v47 : Value) (v51 : Value) (v49 : Value) (h : PH) : R :=
 vb (xIdxS 1 v33 v88) fun v135 =>
 vb (xLd v135 h) fun v136 =>
 vb (xLenS v43) fun v137 =>
 hb (xMUpd Try.prog 3 v41 v136 v137 h) fun _ h =>
 hb (xBS 1 (bsRow Try.prog 28 1 [(0, v88)]) h) fun v138 h =>
 hb (xApp (appInfo Try.prog #[28, 28]) v43 v138 h) fun v139 h =>
 k98 [v31, v33, v35, v37, v39, v41, v139, v45, v47, v51, v88, v49, v51] h
noncomputable def F42_3 (n : Nat) (cl : CL) (k55 : Kt) (y97 : List Value) (h : PH) : R :=
 ucons y97 fun v99 y100 => ucons y100 fun v101 y102 => ucons y102 fun v103 y104 => ucons y104 fun v105 y106 => ucons y106 fun v107 y108 => ucons y108 fun v109 y110 => ucons y110 fun v111 y112 => ucons y112 fun v113 y114 => ucons y114 fun v115 y116 => ucons y116 fun v117 y118 => ucons y118 fun v119 y120 => ucons y120 fun v121 y122 => ucons y122 fun v123 y124 => F42_1 n cl v101 v119 v109 v115 v117 k55 v99 v103 v105 v107 v111 v113 v121 v123 h
noncomputable def F42_4 (n : Nat) (cl : CL) (v33 : Value) (v88 : Value) (v41 : Value) (v43 : Value) (v31 : Value) (v35 : Value) (v37 : Value) (v39 : Value) (v45 : Value) (v47 : Value) (v51 : Value) (v49 : Value) (h : PH) (k98 : Kt) : R :=
 vb (xIdxS 1 v33 v88) fun v129 =>
 vb (xLd v129 h) fun v130 =>
 vb (xLkp Try.prog 3 3 true v41 v130 h) fun v131 =>
 vb (xExt 0 v131) fun v132 =>
 vb (xExt 1 v131) fun v133 =>
 vb (xNot v133) fun v134 =>
 bite v134 (F42_2 n cl v33 v88 v43 v41 k98 v31 v35 v37 v39 v45 v47 v51 v49 h) (k98 [v31, v33, v35, v37, v39, v41, v43, v45, v47, v51, v88, v49, v51] h)
noncomputable def F42_5 (n : Nat) (cl : CL) (r30 : Kt) (y54 : List Value) (h : PH) : R :=
 ucons y54 fun v56 y57 => ucons y57 fun v58 y59 => ucons y59 fun v60 y61 => ucons y61 fun v62 y63 => ucons y63 fun v64 y65 => ucons y65 fun v66 y67 => ucons y67 fun v68 y69 => ucons y69 fun v70 y71 => ucons y71 fun v72 y73 => ucons y73 fun v74 y75 => ucons y75 fun v76 y77 => F42_0 n cl v76 r30 v56 v58 v60 v62 v64 v66 v68 v70 v72 v74 h
noncomputable def F42_6 (n : Nat) (cl : CL) (v47 : Value) (v51 : Value) (v31 : Value) (v43 : Value) (v45 : Value) (v33 : Value) (v35 : Value) (v37 : Value) (v39 : Value) (v41 : Value) (v49 : Value) (h : PH) (k55 : Kt) : R :=
 vb (xIdxS 1 v47 v51) fun v79 =>
 hb (xSt1 v79 (vM 0) h) fun _ h =>
 vb (xNil v31) fun v80 =>
 vb (xFld 3 v80) fun v81 =>
 vb (xIdxS 1 v43 v45) fun v82 =>
 vb (xLd v81 h) fun v83 =>
 vb (xLd v82 h) fun v84 =>
 vb (xIdxS 1 v83 v84) fun v85 =>
 vb (xLd v85 h) fun v86 =>
 vb (xIdxS 1 v86 v51) fun v87 =>
 vb (xLd v87 h) fun v88 =>
 vb (xCmp ieq v88 (vM 0)) fun v89 =>
 vb (gd (isB false v89) (some v33)) fun v90 =>
 vb (gd (isB false v89) (some v88)) fun v91 =>
 vb (gd (isB false v89) (xIdxS 1 v90 v91)) fun v92 =>
 vb (gd (isB false v89) (xLd v92 h)) fun v93 =>
 vb (gd (isB false v89) (some v35)) fun v94 =>
 vb (gd (isB false v89) (xCmp ieq v93 v94)) fun v95 =>
 vb (xPick v89 tt v95) fun v96 =>
 bite v96 (k55 [v31, v33, v35, v37, v39, v41, v43, v45, v47, v49, v51] h) (jn (F42_3 n cl k55) (F42_4 n cl v33 v88 v41 v43 v31 v35 v37 v39 v45 v47 v51 v49 h))
noncomputable def F42_7 (n : Nat) (cl : CL) (v39 : Value) (v47 : Value) (v31 : Value) (v43 : Value) (v45 : Value) (r8 : Kt) (v33 : Value) (v35 : Value) (v37 : Value) (v41 : Value) (h : PH) : R :=
 vb (xFld 0 v39) fun v140 =>
 vb (xLd v140 h) fun v141 =>
 hb (xBS 1 (bsRow Try.prog 27 1 [(0, v47)]) h) fun v142 h =>
 hb (xApp (appInfo Try.prog #[27, 27]) v141 v142 h) fun v143 h =>
 vb (xFld 0 v39) fun v144 =>
 hb (xSt1 v144 v143 h) fun _ h =>
 vb (xFld 1 v39) fun v145 =>
 vb (xNil v31) fun v146 =>
 vb (xFld 4 v146) fun v147 =>
 vb (xIdxS 1 v43 v45) fun v148 =>
 vb (xLd v145 h) fun v149 =>
 vb (xLd v147 h) fun v150 =>
 vb (xLd v148 h) fun v151 =>
 vb (xIdxS 1 v150 v151) fun v152 =>
 vb (xLd v152 h) fun v153 =>
 hb (xBS 1 (bsRow Try.prog 28 1 [(0, v153)]) h) fun v154 h =>
 hb (xApp (appInfo Try.prog #[28, 28]) v149 v154 h) fun v155 h =>
 vb (xFld 1 v39) fun v156 =>
 hb (xSt1 v156 v155 h) fun _ h =>
 vb (xAri Int.add v45 (vN 1)) fun v157 =>
 r8 [v31, v33, v35, v37, v39, v41, v43, v157] h
noncomputable def F42_8 (n : Nat) (cl : CL) (v51 : Value) (v49 : Value) (r30 : Kt) (v47 : Value) (v31 : Value) (v43 : Value) (v45 : Value) (v33 : Value) (v35 : Value) (v37 : Value) (v39 : Value) (v41 : Value) (r8 : Kt) (h : PH) : R :=
 vb (xCmp ilt v51 v49) fun v53 =>
 bite v53 (jn (F42_5 n cl r30) (F42_6 n cl v47 v51 v31 v43 v45 v33 v35 v37 v39 v41 v49 h)) (F42_7 n cl v39 v47 v31 v43 v45 r8 v33 v35 v37 v41 h)
noncomputable def F42_9 (n : Nat) (cl : CL) (r8 : Kt) (r30 : Kt) (y29 : List Value) (h : PH) : R :=
 ucons y29 fun v31 y32 => ucons y32 fun v33 y34 => ucons y34 fun v35 y36 => ucons y36 fun v37 y38 => ucons y38 fun v39 y40 => ucons y40 fun v41 y42 => ucons y42 fun v43 y44 => ucons y44 fun v45 y46 => ucons y46 fun v47 y48 => ucons y48 fun v49 y50 => ucons y50 fun v51 y52 => F42_8 n cl v51 v49 r30 v47 v31 v43 v45 v33 v35 v37 v39 v41 r8 h
noncomputable def F42_10 (n : Nat) (cl : CL) (r8 : Kt) (v9 : Value) (v11 : Value) (v13 : Value) (v15 : Value) (v17 : Value) (v19 : Value) (v21 : Value) (v23 : Value) (h : PH) : R :=
 hb (xMk (zinfo Try.prog 28) (vN 256) (vN 256) h) fun v27 h =>
 vb (xLenS v27) fun v28 =>
 lp n (F42_9 n cl r8) [v9, v11, v13, v15, v17, v19, v21, v23, v27, v28, (vN 0)] h
noncomputable def F42_11 (n : Nat) (cl : CL) (v17 : Value) (v15 : Value) (h : PH) : R :=
 vb (xLdA 2 v17 h) fun v158 =>
 hb (xStA 2 v15 v158 h) fun _ h =>
 vb (xLdA 2 v15 h) fun v159 => some (v159, h)
noncomputable def F42_12 (n : Nat) (cl : CL) (v21 : Value) (v23 : Value) (r8 : Kt) (v9 : Value) (v11 : Value) (v13 : Value) (v15 : Value) (v17 : Value) (v19 : Value) (h : PH) : R :=
 vb (xLenS v21) fun v25 =>
 vb (xCmp ilt v23 v25) fun v26 =>
 bite v26 (F42_10 n cl r8 v9 v11 v13 v15 v17 v19 v21 v23 h) (F42_11 n cl v17 v15 h)
noncomputable def F42_13 (n : Nat) (cl : CL) (r8 : Kt) (y7 : List Value) (h : PH) : R :=
 ucons y7 fun v9 y10 => ucons y10 fun v11 y12 => ucons y12 fun v13 y14 => ucons y14 fun v15 y16 => ucons y16 fun v17 y18 => ucons y18 fun v19 y20 => ucons y20 fun v21 y22 => ucons y22 fun v23 y24 => F42_12 n cl v21 v23 r8 v9 v11 v13 v15 v17 v19 h
noncomputable def F42 (n : Nat) (cl : CL) (a0 a1 a2 : Value) (h : PH) : R :=
 hb (xAlloc (zcells Try.prog 30) h) fun v1 h =>
 hb (xAlloc (zcells Try.prog 30) h) fun v2 h =>
 hb (xMMk h) fun v3 h =>
 vb (xIdxS 1 a1 (vN 0)) fun v4 =>
 vb (xLd v4 h) fun v5 =>
 hb (xMUpd Try.prog 3 v3 v5 (vN 0) h) fun _ h =>
 hb (xBS 1 (bsRow Try.prog 28 1 [(0, (vN 0))]) h) fun v6 h =>
 lp n (F42_13 n cl) [a0, a1, a2, v1, v2, v3, v6, (vN 0)] h
theorem E42 (n : Nat) (cl : CL) (a0 a1 a2 : Value) (h : PH) : exF Try.prog n cl ⟨[], [], [(5, [0, 1, 2, 6, 7, 8, 9, 10]), (9, [0, 1, 2, 6, 7, 8, 9, 10, 11, 30, 31]), (18, [0, 1, 2, 6, 7, 8, 9, 10, 11, 12, 13, 30, 31]), (19, [0, 1, 2, 6, 7, 8, 9, 10, 11, 30, 31])], [(12, [0, 1, 2, 4, 5, 6, 10, 3, 7, 8, 9, 11, 12, 13]), (21, [0, 2, 3, 4, 6, 7, 8, 1, 5, 9, 10, 11, 12, 13, 14, 15])], [], [], []⟩ Try.f42 [a0, a1, a2] h = F42 n cl a0 a1 a2 h := by kernel_rfl
theorem S42 {n : Nat} {cl : CL} (hcl : OkCL Try.prog cl) {a0 a1 a2 : Value} {h h' : PH} {v : Value} (hx : F42 n cl a0 a1 a2 h = some (v, h')) : (enterable Try.prog 42 = true ∧ ACall Try.prog 42 [a0, a1, a2] h.abs (fun u k => u = v ∧ k = h'.abs)) ∧ Inv h h' :=
  exF_ok hcl hmx Try.func42 (by kernel_rfl) ((E42 n cl a0 a1 a2 h).trans hx)
-- undergrowth/dfa.Of
noncomputable def F16_0 (n : Nat) (cl : CL) (v1 : Value) (h : PH) : R :=
 vb (abuild Try.prog 30 []) fun v4 =>
 hb (xStA 2 v1 v4 h) fun _ h =>
 vb (xLdA 2 v1 h) fun v5 => some (Value.tuple ⟨[v5, (vN 3)]⟩, h)
noncomputable def F16_1 (n : Nat) (cl : CL) (v1 : Value) (h : PH) : R :=
 vb (abuild Try.prog 30 []) fun v20 =>
 hb (xStA 2 v1 v20 h) fun _ h =>
 vb (xLdA 2 v1 h) fun v21 => some (Value.tuple ⟨[v21, (vN 3)]⟩, h)
noncomputable def F16_2 (n : Nat) (cl : CL) (v17 : Value) (v1 : Value) (h : PH) : R :=
 hb (fcall h (F41 n cl v17 (h.fzn))) fun v22 h =>
 vb (xExt 0 v22) fun v23 =>
 vb (xExt 1 v22) fun v24 =>
 hb (fcall h (F42 n cl v17 v23 v24 (h.fzn))) fun v25 h =>
 hb (xStA 2 v1 v25 h) fun _ h =>
 vb (xLdA 2 v1 h) fun v26 => some (Value.tuple ⟨[v26, (vN 0)]⟩, h)
noncomputable def F16_3 (n : Nat) (cl : CL) (a0 : Value) (v1 : Value) (h : PH) : R :=
 hb (F37 n cl a0 h) fun v6 h =>
 kp 4 h fun q7 h =>
 vb (xNil v6) fun v8 =>
 vb (xFld 4 v8) fun v9 =>
 vb (xLd v9 h) fun v10 =>
 avk q7 4 [v6] <|
 hb (fcall h (F38 n cl v6 (h.fzn))) fun v11 h =>
 avk q7 4 [v10, tt] <|
 vb (pcall (F39 n cl v10 tt (h.fzn))) fun v12 =>
 hb (xfill (Nat.add q7 0) h (xMMk hE)) fun v13 h =>
 hb (xfill (Nat.add q7 1) h (xBS 1 (bsRow Try.prog 84 1 [(0, v11)]) hE)) fun v14 h =>
 hb (xfill (Nat.add q7 2) h (xBS 1 (bsRow Try.prog 28 1 [(0, v12)]) hE)) fun v15 h =>
 vb (abuild Try.prog 90 [(0, v6), (1, v13), (2, v14), (4, v15)]) fun v16 =>
 hb (xfill (Nat.add q7 3) h (xBox v16 hE)) fun v17 h =>
 hb (F40 n cl v17 h) fun v18 h =>
 vb (xNot v18) fun v19 =>
 bite v19 (F16_1 n cl v1 h) (F16_2 n cl v17 v1 h)
noncomputable def F16 (n : Nat) (cl : CL) (a0 : Value) (h : PH) : R :=
 hb (xAlloc (zcells Try.prog 30) h) fun v1 h =>
 vb (xLenS a0) fun v2 =>
 vb (xCmp (fun x y => ilt y x) v2 (vN 40)) fun v3 =>
 bite v3 (F16_0 n cl v1 h) (F16_3 n cl a0 v1 h)
noncomputable def D16 (n : Nat) (cl : CL) : CL := fun f xs h => sw f 37 (ucons xs fun b0 xs => u0 xs (F37 n cl b0 h)) (sw f 38 (ucons xs fun b0 xs => u0 xs (F38 n cl b0 h)) (sw f 39 (ucons xs fun b0 xs => ucons xs fun b1 xs => u0 xs (F39 n cl b0 b1 h)) (sw f 40 (ucons xs fun b0 xs => u0 xs (F40 n cl b0 h)) (sw f 41 (ucons xs fun b0 xs => u0 xs (F41 n cl b0 h)) (sw f 42 (ucons xs fun b0 xs => ucons xs fun b1 xs => ucons xs fun b2 xs => u0 xs (F42 n cl b0 b1 b2 h)) (cl f xs h))))))
theorem Dk16 {n : Nat} {cl : CL} (hcl : OkCL Try.prog cl) : OkCL Try.prog (D16 n cl) := by
  intro f xs h v h' hx
  rcases sw_ok hx with ⟨rfl, hx⟩ | hx
  · obtain ⟨_, _, rfl, hx⟩ := ucons_ok hx; obtain ⟨rfl, hx⟩ := u0_ok hx; exact S37 (n := n) (cl := cl) hcl hx
  rcases sw_ok hx with ⟨rfl, hx⟩ | hx
  · obtain ⟨_, _, rfl, hx⟩ := ucons_ok hx; obtain ⟨rfl, hx⟩ := u0_ok hx; exact S38 (n := n) (cl := cl) hcl hx
  rcases sw_ok hx with ⟨rfl, hx⟩ | hx
  · obtain ⟨_, _, rfl, hx⟩ := ucons_ok hx; obtain ⟨_, _, rfl, hx⟩ := ucons_ok hx; obtain ⟨rfl, hx⟩ := u0_ok hx; exact S39 (n := n) (cl := cl) hcl hx
  rcases sw_ok hx with ⟨rfl, hx⟩ | hx
  · obtain ⟨_, _, rfl, hx⟩ := ucons_ok hx; obtain ⟨rfl, hx⟩ := u0_ok hx; exact S40 (n := n) (cl := cl) hcl hx
  rcases sw_ok hx with ⟨rfl, hx⟩ | hx
  · obtain ⟨_, _, rfl, hx⟩ := ucons_ok hx; obtain ⟨rfl, hx⟩ := u0_ok hx; exact S41 (n := n) (cl := cl) hcl hx
  rcases sw_ok hx with ⟨rfl, hx⟩ | hx
  · obtain ⟨_, _, rfl, hx⟩ := ucons_ok hx; obtain ⟨_, _, rfl, hx⟩ := ucons_ok hx; obtain ⟨_, _, rfl, hx⟩ := ucons_ok hx; obtain ⟨rfl, hx⟩ := u0_ok hx; exact S42 (n := n) (cl := cl) hcl hx
  exact hcl _ _ _ _ _ hx
theorem E16 (n : Nat) (cl : CL) (a0 : Value) (h : PH) : exF Try.prog n (D16 n cl) ⟨[39], [38, 41, 42], [], [(4, [0, 2, 5, 6, 7, 8, 3, 9, 1, 4, 10, 11, 12, 13])], [], [], [(4, [1, 4, 10, 12])]⟩ Try.f16 [a0] h = F16 n cl a0 h := by kernel_rfl
theorem S16 {n : Nat} {cl : CL} (hcl : OkCL Try.prog cl) {a0 : Value} {h h' : PH} {v : Value} (hx : F16 n cl a0 h = some (v, h')) : (enterable Try.prog 16 = true ∧ ACall Try.prog 16 [a0] h.abs (fun u k => u = v ∧ k = h'.abs)) ∧ Inv h h' :=
  exF_ok (Dk16 hcl) hmx Try.func16 (by kernel_rfl) ((E16 n cl a0 h).trans hx)
-- (*undergrowth/undergrowthref1.reader).over
noncomputable def F56 (n : Nat) (cl : CL) (a0 : Value) (h : PH) : R :=
 vb (xNil a0) fun v1 =>
 vb (xFld 1 v1) fun v2 =>
 vb (xNil a0) fun v3 =>
 vb (xFld 0 v3) fun v4 =>
 vb (xLd v2 h) fun v5 =>
 vb (xLd v4 h) fun v6 =>
 vb (xLenT v6) fun v7 =>
 vb (xCmp (fun x y => ile y x) v5 v7) fun v8 =>
 some (v8, h)
theorem E56 (n : Nat) (cl : CL) (a0 : Value) (h : PH) : exF Try.prog n cl ⟨[], [], [], [(1, [0, 1, 2, 4, 5, 6, 3, 7, 8, 9, 10])], [], [], []⟩ Try.f56 [a0] h = F56 n cl a0 h := by kernel_rfl
theorem S56 {n : Nat} {cl : CL} (hcl : OkCL Try.prog cl) {a0 : Value} {h h' : PH} {v : Value} (hx : F56 n cl a0 h = some (v, h')) : (enterable Try.prog 56 = true ∧ ACall Try.prog 56 [a0] h.abs (fun u k => u = v ∧ k = h'.abs)) ∧ Inv h h' :=
  exF_ok hcl hmx Try.func56 (by kernel_rfl) ((E56 n cl a0 h).trans hx)
-- (*undergrowth/undergrowthref1.reader).is
noncomputable def F83 (n : Nat) (cl : CL) (a0 a1 : Value) (h : PH) : R :=
 vb (pcall (F56 n cl a0 (h.fzn))) fun v1 =>
 vb (xNot v1) fun v2 =>
 vb (gd (isB true v2) (some a0)) fun v3 =>
 vb (gd (isB true v2) (xNil v3)) fun v4 =>
 vb (gd (isB true v2) (xFld 0 v4)) fun v5 =>
 vb (gd (isB true v2) (some a0)) fun v6 =>
 vb (gd (isB true v2) (xNil v6)) fun v7 =>
 vb (gd (isB true v2) (xFld 1 v7)) fun v8 =>
 vb (gd (isB true v2) (some a1)) fun v9 =>
 vb (gd (isB true v2) (xLd v5 h)) fun v10 =>
 vb (gd (isB true v2) (xLd v8 h)) fun v11 =>
 vb (gd (isB true v2) (aindex Try.prog 9 v10 v11)) fun v12 =>
 vb (gd (isB true v2) (xCmp ieq v12 v9)) fun v13 =>
 vb (xPick v2 v13 ff) fun v14 =>
 some (v14, h)
noncomputable def D83 (n : Nat) (cl : CL) : CL := fun f xs h => sw f 56 (ucons xs fun b0 xs => u0 xs (F56 n cl b0 h)) (cl f xs h)
theorem Dk83 {n : Nat} {cl : CL} (hcl : OkCL Try.prog cl) : OkCL Try.prog (D83 n cl) := by
  intro f xs h v h' hx
  rcases sw_ok hx with ⟨rfl, hx⟩ | hx
  · obtain ⟨_, _, rfl, hx⟩ := ucons_ok hx; obtain ⟨rfl, hx⟩ := u0_ok hx; exact S56 (n := n) (cl := cl) hcl hx
  exact hcl _ _ _ _ _ hx
theorem E83 (n : Nat) (cl : CL) (a0 a1 : Value) (h : PH) : exF Try.prog n (D83 n cl) ⟨[56], [], [], [(1, [0, 1, 2, 3, 4, 5, 6, 8, 9, 10, 13, 7, 11, 12, 14, 15, 16])], [], [], []⟩ Try.f83 [a0, a1] h = F83 n cl a0 a1 h := by kernel_rfl
theorem S83 {n : Nat} {cl : CL} (hcl : OkCL Try.prog cl) {a0 a1 : Value} {h h' : PH} {v : Value} (hx : F83 n cl a0 a1 h = some (v, h')) : (enterable Try.prog 83 = true ∧ ACall Try.prog 83 [a0, a1] h.abs (fun u k => u = v ∧ k = h'.abs)) ∧ Inv h h' :=
  exF_ok (Dk83 hcl) hmx Try.func83 (by kernel_rfl) ((E83 n cl a0 a1 h).trans hx)
-- (*undergrowth/undergrowthref1.reader).fail
noncomputable def F57_0 (n : Nat) (cl : CL) (a0 : Value) (a1 : Value) (a2 : Value) (h : PH) : R :=
 vb (xNil a0) fun v5 =>
 vb (xFld 2 v5) fun v6 =>
 hb (xSt1 v6 a1 h) fun _ h =>
 vb (xNil a0) fun v7 =>
 vb (xFld 3 v7) fun v8 =>
 hb (xSt1 v8 a2 h) fun _ h =>
 some (Value.tuple ⟨[]⟩, h)
noncomputable def F57 (n : Nat) (cl : CL) (a0 a1 a2 : Value) (h : PH) : R :=
 vb (xNil a0) fun v1 =>
 vb (xFld 2 v1) fun v2 =>
 vb (xLd v2 h) fun v3 =>
 vb (xCmp ieq v3 (vN 0)) fun v4 =>
 bite v4 (F57_0 n cl a0 a1 a2 h) (some (Value.tuple ⟨[]⟩, h))
theorem E57 (n : Nat) (cl : CL) (a0 a1 a2 : Value) (h : PH) : exF Try.prog n cl ⟨[], [], [], [], [], [], []⟩ Try.f57 [a0, a1, a2] h = F57 n cl a0 a1 a2 h := by kernel_rfl
theorem S57 {n : Nat} {cl : CL} (hcl : OkCL Try.prog cl) {a0 a1 a2 : Value} {h h' : PH} {v : Value} (hx : F57 n cl a0 a1 a2 h = some (v, h')) : (enterable Try.prog 57 = true ∧ ACall Try.prog 57 [a0, a1, a2] h.abs (fun u k => u = v ∧ k = h'.abs)) ∧ Inv h h' :=
  exF_ok hcl hmx Try.func57 (by kernel_rfl) ((E57 n cl a0 a1 a2 h).trans hx)
-- undergrowth/undergrowthref1.With
noncomputable def F133 (n : Nat) (cl : CL) (a0 a1 : Value) (h : PH) : R :=
 hb (xBox a0 h) fun v1 h =>
 hb (xAlloc (zcells Try.prog 54) h) fun v2 h =>
 vb (xShr a1 (Value.int .u64 (.ofNat 6))) fun v3 =>
 vb (xShr a1 (Value.int .u64 (.ofNat 6))) fun v4 =>
 vb (xIdxA 4 1 v1 v4) fun v5 =>
 vb (xLd v5 h) fun v6 =>
 vb (xBit Nat.land a1 (Value.int .u8 (.ofNat 63))) fun v7 =>
 vb (xConvI .u64 v7) fun v8 =>
 vb (xShl (Value.int .u64 (.ofNat 1)) v8) fun v9 =>
 vb (xBit Nat.lor v6 v9) fun v10 =>
 vb (xIdxA 4 1 v1 v3) fun v11 =>
 hb (xSt1 v11 v10 h) fun _ h =>
 vb (xLdA 4 v1 h) fun v12 =>
 hb (xStA 4 v2 v12 h) fun _ h =>
 vb (xLdA 4 v2 h) fun v13 => some (v13, h)
theorem E133 (n : Nat) (cl : CL) (a0 a1 : Value) (h : PH) : exF Try.prog n cl ⟨[], [], [], [], [], [], []⟩ Try.f133 [a0, a1] h = F133 n cl a0 a1 h := by kernel_rfl
theorem S133 {n : Nat} {cl : CL} (hcl : OkCL Try.prog cl) {a0 a1 : Value} {h h' : PH} {v : Value} (hx : F133 n cl a0 a1 h = some (v, h')) : (enterable Try.prog 133 = true ∧ ACall Try.prog 133 [a0, a1] h.abs (fun u k => u = v ∧ k = h'.abs)) ∧ Inv h h' :=
  exF_ok hcl hmx Try.func133 (by kernel_rfl) ((E133 n cl a0 a1 h).trans hx)
-- undergrowth/undergrowthref1.dot
noncomputable def F123_0 (n : Nat) (cl : CL) (v18 : Value) (r4 : Kt) (v14 : Value) (v16 : Value) (h : PH) : R :=
 vb (xAri Int.add v18 (vN 1)) fun v20 =>
 r4 [v14, v16, v20] h
noncomputable def F123_1 (n : Nat) (cl : CL) (v7 : Value) (v9 : Value) (k13 : Kt) (v5 : Value) (h : PH) : R :=
 vb (xLdA 4 v7 h) fun v22 =>
 vb (xConvI .u8 v9) fun v23 =>
 vb (pcall (F133 n cl v22 v23 (h.fzn))) fun v24 =>
 hb (xStA 4 v7 v24 h) fun _ h =>
 k13 [v5, v7, v9] h
noncomputable def F123_2 (n : Nat) (cl : CL) (r4 : Kt) (y12 : List Value) (h : PH) : R :=
 ucons y12 fun v14 y15 => ucons y15 fun v16 y17 => ucons y17 fun v18 y19 => F123_0 n cl v18 r4 v14 v16 h
noncomputable def F123_3 (n : Nat) (cl : CL) (v9 : Value) (v7 : Value) (v5 : Value) (h : PH) (k13 : Kt) : R :=
 vb (xCmp ine v9 (vN 10)) fun v21 =>
 bite v21 (F123_1 n cl v7 v9 k13 v5 h) (k13 [v5, v7, v9] h)
noncomputable def F123_4 (n : Nat) (cl : CL) (v7 : Value) (v5 : Value) (h : PH) : R :=
 vb (xLdA 4 v7 h) fun v25 =>
 hb (xStA 4 v5 v25 h) fun _ h =>
 vb (xLdA 4 v5 h) fun v26 => some (v26, h)
noncomputable def F123_5 (n : Nat) (cl : CL) (v9 : Value) (r4 : Kt) (v7 : Value) (v5 : Value) (h : PH) : R :=
 vb (xCmp ilt v9 (vN 256)) fun v11 =>
 bite v11 (jn (F123_2 n cl r4) (F123_3 n cl v9 v7 v5 h)) (F123_4 n cl v7 v5 h)
noncomputable def F123_6 (n : Nat) (cl : CL) (r4 : Kt) (y3 : List Value) (h : PH) : R :=
 ucons y3 fun v5 y6 => ucons y6 fun v7 y8 => ucons y8 fun v9 y10 => F123_5 n cl v9 r4 v7 v5 h
noncomputable def F123 (n : Nat) (cl : CL) (h : PH) : R :=
 hb (xAlloc (zcells Try.prog 54) h) fun v1 h =>
 hb (xAlloc (zcells Try.prog 54) h) fun v2 h =>
 lp n (F123_6 n cl) [v1, v2, (vN 0)] h
noncomputable def D123 (n : Nat) (cl : CL) : CL := fun f xs h => sw f 133 (ucons xs fun b0 xs => ucons xs fun b1 xs => u0 xs (F133 n cl b0 b1 h)) (cl f xs h)
theorem Dk123 {n : Nat} {cl : CL} (hcl : OkCL Try.prog cl) : OkCL Try.prog (D123 n cl) := by
  intro f xs h v h' hx
  rcases sw_ok hx with ⟨rfl, hx⟩ | hx
  · obtain ⟨_, _, rfl, hx⟩ := ucons_ok hx; obtain ⟨_, _, rfl, hx⟩ := ucons_ok hx; obtain ⟨rfl, hx⟩ := u0_ok hx; exact S133 (n := n) (cl := cl) hcl hx
  exact hcl _ _ _ _ _ hx
theorem E123 (n : Nat) (cl : CL) (h : PH) : exF Try.prog n (D123 n cl) ⟨[133], [], [(3, [0, 1, 2]), (4, [0, 1, 2])], [], [], [], []⟩ Try.f123 [] h = F123 n cl  h := by kernel_rfl
theorem S123 {n : Nat} {cl : CL} (hcl : OkCL Try.prog cl) {h h' : PH} {v : Value} (hx : F123 n cl h = some (v, h')) : (enterable Try.prog 123 = true ∧ ACall Try.prog 123 [] h.abs (fun u k => u = v ∧ k = h'.abs)) ∧ Inv h h' :=
  exF_ok (Dk123 hcl) hmx Try.func123 (by kernel_rfl) ((E123 n cl h).trans hx)
-- undergrowth/undergrowthref1.one
noncomputable def F124 (n : Nat) (cl : CL) (a0 : Value) (h : PH) : R :=
 hb (xAlloc (zcells Try.prog 57) h) fun v1 h =>
 hb (xAlloc (zcells Try.prog 54) h) fun v2 h =>
 vb (xLdA 4 v2 h) fun v3 =>
 vb (pcall (F133 n cl v3 a0 (h.fzn))) fun v4 =>
 vb (abuild Try.prog 57 [(0, (vN 1)), (1, v4)]) fun v5 =>
 hb (xStA 6 v1 v5 h) fun _ h =>
 vb (xLdA 6 v1 h) fun v6 => some (v6, h)
noncomputable def D124 (n : Nat) (cl : CL) : CL := fun f xs h => sw f 133 (ucons xs fun b0 xs => ucons xs fun b1 xs => u0 xs (F133 n cl b0 b1 h)) (cl f xs h)
theorem Dk124 {n : Nat} {cl : CL} (hcl : OkCL Try.prog cl) : OkCL Try.prog (D124 n cl) := by
  intro f xs h v h' hx
  rcases sw_ok hx with ⟨rfl, hx⟩ | hx
  · obtain ⟨_, _, rfl, hx⟩ := ucons_ok hx; obtain ⟨_, _, rfl, hx⟩ := ucons_ok hx; obtain ⟨rfl, hx⟩ := u0_ok hx; exact S133 (n := n) (cl := cl) hcl hx
  exact hcl _ _ _ _ _ hx
theorem E124 (n : Nat) (cl : CL) (a0 : Value) (h : PH) : exF Try.prog n (D124 n cl) ⟨[133], [], [], [], [], [], []⟩ Try.f124 [a0] h = F124 n cl a0 h := by kernel_rfl
theorem S124 {n : Nat} {cl : CL} (hcl : OkCL Try.prog cl) {a0 : Value} {h h' : PH} {v : Value} (hx : F124 n cl a0 h = some (v, h')) : (enterable Try.prog 124 = true ∧ ACall Try.prog 124 [a0] h.abs (fun u k => u = v ∧ k = h'.abs)) ∧ Inv h h' :=
  exF_ok (Dk124 hcl) hmx Try.func124 (by kernel_rfl) ((E124 n cl a0 h).trans hx)
-- (*undergrowth/undergrowthref1.reader).byte1
noncomputable def F134_0 (n : Nat) (cl : CL) (v3 : Value) (h : PH) : R :=
 vb (xNil v3) fun v6 =>
 vb (xFld 1 v6) fun v7 =>
 vb (xLd v7 h) fun v8 =>
 hb (F57 n cl v3 (vN 2) v8 h) fun v9 h =>
 some ((Value.int .u8 (.ofNat 0)), h)
noncomputable def F134_1 (n : Nat) (cl : CL) (v3 : Value) (h : PH) : R :=
 vb (xNil v3) fun v10 =>
 vb (xFld 1 v10) fun v11 =>
 vb (xLd v11 h) fun v12 =>
 vb (xAri Int.add v12 (vN 1)) fun v13 =>
 vb (xNil v3) fun v14 =>
 vb (xFld 1 v14) fun v15 =>
 hb (xSt1 v15 v13 h) fun _ h =>
 vb (xNil v3) fun v16 =>
 vb (xFld 0 v16) fun v17 =>
 vb (xNil v3) fun v18 =>
 vb (xFld 1 v18) fun v19 =>
 vb (xLd v17 h) fun v20 =>
 vb (xLd v19 h) fun v21 =>
 vb (xAri Int.sub v21 (vN 1)) fun v22 =>
 vb (aindex Try.prog 9 v20 v22) fun v23 =>
 some (v23, h)
noncomputable def F134_2 (n : Nat) (cl : CL) (v3 : Value) (h : PH) : R :=
 vb (pcall (F56 n cl v3 (h.fzn))) fun v5 =>
 bite v5 (F134_0 n cl v3 h) (F134_1 n cl v3 h)
noncomputable def F134_3 (n : Nat) (cl : CL) (a0 : Value) (k2 : Kt) (h : PH) : R :=
 vb (xNil a0) fun v25 =>
 vb (xFld 1 v25) fun v26 =>
 vb (xLd v26 h) fun v27 =>
 vb (xAri Int.add v27 (vN 1)) fun v28 =>
 vb (xNil a0) fun v29 =>
 vb (xFld 1 v29) fun v30 =>
 hb (xSt1 v30 v28 h) fun _ h =>
 k2 [a0] h
noncomputable def F134_4 (n : Nat) (cl : CL) (a0 : Value) (h : PH) (k2 : Kt) : R :=
 vb (pcall (F83 n cl a0 (Value.int .u8 (.ofNat 92)) (h.fzn))) fun v24 =>
 bite v24 (F134_3 n cl a0 k2 h) (k2 [a0] h)
noncomputable def F134 (n : Nat) (cl : CL) (a0 : Value) (h : PH) : R :=
 jn (fun y1 h => ucons y1 fun v3 y4 => F134_2 n cl v3 h) (F134_4 n cl a0 h)
noncomputable def D134 (n : Nat) (cl : CL) : CL := fun f xs h => sw f 56 (ucons xs fun b0 xs => u0 xs (F56 n cl b0 h)) (sw f 57 (ucons xs fun b0 xs => ucons xs fun b1 xs => ucons xs fun b2 xs => u0 xs (F57 n cl b0 b1 b2 h)) (sw f 83 (ucons xs fun b0 xs => ucons xs fun b1 xs => u0 xs (F83 n cl b0 b1 h)) (cl f xs h)))
theorem Dk134 {n : Nat} {cl : CL} (hcl : OkCL Try.prog cl) : OkCL Try.prog (D134 n cl) := by
  intro f xs h v h' hx
  rcases sw_ok hx with ⟨rfl, hx⟩ | hx
  · obtain ⟨_, _, rfl, hx⟩ := ucons_ok hx; obtain ⟨rfl, hx⟩ := u0_ok hx; exact S56 (n := n) (cl := cl) hcl hx
  rcases sw_ok hx with ⟨rfl, hx⟩ | hx
  · obtain ⟨_, _, rfl, hx⟩ := ucons_ok hx; obtain ⟨_, _, rfl, hx⟩ := ucons_ok hx; obtain ⟨_, _, rfl, hx⟩ := ucons_ok hx; obtain ⟨rfl, hx⟩ := u0_ok hx; exact S57 (n := n) (cl := cl) hcl hx
  rcases sw_ok hx with ⟨rfl, hx⟩ | hx
  · obtain ⟨_, _, rfl, hx⟩ := ucons_ok hx; obtain ⟨_, _, rfl, hx⟩ := ucons_ok hx; obtain ⟨rfl, hx⟩ := u0_ok hx; exact S83 (n := n) (cl := cl) hcl hx
  exact hcl _ _ _ _ _ hx
theorem E134 (n : Nat) (cl : CL) (a0 : Value) (h : PH) : exF Try.prog n (D134 n cl) ⟨[56, 83], [], [(3, [0])], [(7, [0, 1, 2, 4, 5, 6, 3, 7, 8, 9, 10])], [], [], []⟩ Try.f134 [a0] h = F134 n cl a0 h := by kernel_rfl
theorem S134 {n : Nat} {cl : CL} (hcl : OkCL Try.prog cl) {a0 : Value} {h h' : PH} {v : Value} (hx : F134 n cl a0 h = some (v, h')) : (enterable Try.prog 134 = true ∧ ACall Try.prog 134 [a0] h.abs (fun u k => u = v ∧ k = h'.abs)) ∧ Inv h h' :=
  exF_ok (Dk134 hcl) hmx Try.func134 (by kernel_rfl) ((E134 n cl a0 h).trans hx)
-- (*undergrowth/undergrowthref1.reader).class
noncomputable def F125_0 (n : Nat) (cl : CL) (v34 : Value) (v32 : Value) (h : PH) : R :=
 vb (xLdA 4 v34 h) fun v36 =>
 vb (abuild Try.prog 57 [(0, (vN 1)), (1, v36)]) fun v37 =>
 hb (xStA 6 v32 v37 h) fun _ h =>
 vb (xLdA 6 v32 h) fun v38 => some (v38, h)
noncomputable def F125_1 (n : Nat) (cl : CL) (v43 : Value) (v45 : Value) (r40 : Kt) (v41 : Value) (h : PH) : R :=
 vb (xIdxA 4 1 v43 v45) fun v48 =>
 vb (xLd v48 h) fun v49 =>
 vb (xUn Try.prog .xor v49) fun v50 =>
 vb (xIdxA 4 1 v43 v45) fun v51 =>
 hb (xSt1 v51 v50 h) fun _ h =>
 vb (xAri Int.add v45 (vN 1)) fun v52 =>
 r40 [v41, v43, v52] h
noncomputable def F125_2 (n : Nat) (cl : CL) (v45 : Value) (v43 : Value) (r40 : Kt) (v41 : Value) (k31 : Kt) (h : PH) : R :=
 vb (xCmp ilt v45 (vN 4)) fun v47 =>
 bite v47 (F125_1 n cl v43 v45 r40 v41 h) (k31 [v41, v43] h)
noncomputable def F125_3 (n : Nat) (cl : CL) (k31 : Kt) (r40 : Kt) (y39 : List Value) (h : PH) : R :=
 ucons y39 fun v41 y42 => ucons y42 fun v43 y44 => ucons y44 fun v45 y46 => F125_2 n cl v45 v43 r40 v41 k31 h
noncomputable def F125_4 (n : Nat) (cl : CL) (v16 : Value) (v22 : Value) (v18 : Value) (v20 : Value) (h : PH) : R :=
 vb (xNil v16) fun v24 =>
 vb (xFld 1 v24) fun v25 =>
 vb (xLd v25 h) fun v26 =>
 vb (xAri Int.add v26 (vN 1)) fun v27 =>
 vb (xNil v16) fun v28 =>
 vb (xFld 1 v28) fun v29 =>
 hb (xSt1 v29 v27 h) fun _ h =>
 jn (fun y30 h => ucons y30 fun v32 y33 => ucons y33 fun v34 y35 => F125_0 n cl v34 v32 h) (fun k31 => bite v22 (lp n (F125_3 n cl k31) [v18, v20, (vN 0)] h) (k31 [v18, v20] h))
noncomputable def F125_5 (n : Nat) (cl : CL) (v55 : Value) (k15 : Kt) (v57 : Value) (v59 : Value) (v61 : Value) (h : PH) : R :=
 vb (xNil v55) fun v81 =>
 vb (xFld 1 v81) fun v82 =>
 vb (xLd v82 h) fun v83 =>
 hb (F57 n cl v55 (vN 2) v83 h) fun v84 h =>
 k15 [v55, v57, v59, v61] h
noncomputable def F125_6 (n : Nat) (cl : CL) (v109 : Value) (v117 : Value) (r104 : Kt) (v105 : Value) (v107 : Value) (v111 : Value) (v113 : Value) (v115 : Value) (h : PH) : R :=
 vb (xLdA 4 v109 h) fun v121 =>
 vb (xConvI .u8 v117) fun v122 =>
 vb (pcall (F133 n cl v121 v122 (h.fzn))) fun v123 =>
 hb (xStA 4 v109 v123 h) fun _ h =>
 vb (xAri Int.add v117 (vN 1)) fun v124 =>
 r104 [v105, v107, v109, v111, v113, v115, v124] h
noncomputable def F125_7 (n : Nat) (cl : CL) (v113 : Value) (r54 : Kt) (v105 : Value) (v107 : Value) (v109 : Value) (v111 : Value) (h : PH) : R :=
 vb (xAri Int.add v113 (vN 1)) fun v125 =>
 r54 [v105, v107, v109, v111, v125] h
noncomputable def F125_8 (n : Nat) (cl : CL) (v115 : Value) (v117 : Value) (v109 : Value) (r104 : Kt) (v105 : Value) (v107 : Value) (v111 : Value) (v113 : Value) (r54 : Kt) (h : PH) : R :=
 vb (xConvI .i64 v115) fun v119 =>
 vb (xCmp ile v117 v119) fun v120 =>
 bite v120 (F125_6 n cl v109 v117 r104 v105 v107 v111 v113 v115 h) (F125_7 n cl v113 r54 v105 v107 v109 v111 h)
noncomputable def F125_9 (n : Nat) (cl : CL) (r54 : Kt) (r104 : Kt) (y103 : List Value) (h : PH) : R :=
 ucons y103 fun v105 y106 => ucons y106 fun v107 y108 => ucons y108 fun v109 y110 => ucons y110 fun v111 y112 => ucons y112 fun v113 y114 => ucons y114 fun v115 y116 => ucons y116 fun v117 y118 => F125_8 n cl v115 v117 v109 r104 v105 v107 v111 v113 r54 h
noncomputable def F125_10 (n : Nat) (cl : CL) (v98 : Value) (r54 : Kt) (v88 : Value) (v90 : Value) (v92 : Value) (v94 : Value) (v96 : Value) (v100 : Value) (h : PH) : R :=
 vb (xConvI .i64 v98) fun v102 =>
 lp n (F125_9 n cl r54) [v88, v90, v92, v94, v96, v100, v102] h
noncomputable def F125_11 (n : Nat) (cl : CL) (v55 : Value) (v165 : Value) (k87 : Kt) (v57 : Value) (v59 : Value) (v61 : Value) (v63 : Value) (v85 : Value) (v166 : Value) (h : PH) : R :=
 hb (F57 n cl v55 (vN 2) v165 h) fun v175 h =>
 k87 [v55, v57, v59, v61, v63, v85, v166] h
noncomputable def F125_12 (n : Nat) (cl : CL) (v55 : Value) (v85 : Value) (k87 : Kt) (v57 : Value) (v59 : Value) (v61 : Value) (v63 : Value) (h : PH) : R :=
 vb (xNil v55) fun v157 =>
 vb (xFld 1 v157) fun v158 =>
 vb (xLd v158 h) fun v159 =>
 vb (xAri Int.add v159 (vN 1)) fun v160 =>
 vb (xNil v55) fun v161 =>
 vb (xFld 1 v161) fun v162 =>
 hb (xSt1 v162 v160 h) fun _ h =>
 vb (xNil v55) fun v163 =>
 vb (xFld 1 v163) fun v164 =>
 vb (xLd v164 h) fun v165 =>
 hb (F134 n cl v55 h) fun v166 h =>
 vb (xNil v55) fun v167 =>
 vb (xFld 2 v167) fun v168 =>
 vb (xLd v168 h) fun v169 =>
 vb (xCmp ieq v169 (vN 0)) fun v170 =>
 vb (gd (isB true v170) (some v166)) fun v171 =>
 vb (gd (isB true v170) (some v85)) fun v172 =>
 vb (gd (isB true v170) (xCmp ilt v171 v172)) fun v173 =>
 vb (xPick v170 v173 ff) fun v174 =>
 bite v174 (F125_11 n cl v55 v165 k87 v57 v59 v61 v63 v85 v166 h) (k87 [v55, v57, v59, v61, v63, v85, v166] h)
noncomputable def F125_13 (n : Nat) (cl : CL) (r54 : Kt) (y86 : List Value) (h : PH) : R :=
 ucons y86 fun v88 y89 => ucons y89 fun v90 y91 => ucons y91 fun v92 y93 => ucons y93 fun v94 y95 => ucons y95 fun v96 y97 => ucons y97 fun v98 y99 => ucons y99 fun v100 y101 => F125_10 n cl v98 r54 v88 v90 v92 v94 v96 v100 h
noncomputable def F125_14 (n : Nat) (cl : CL) (v55 : Value) (v85 : Value) (v57 : Value) (v59 : Value) (v61 : Value) (v63 : Value) (h : PH) (k87 : Kt) : R :=
 vb (xNil v55) fun v126 =>
 vb (xFld 2 v126) fun v127 =>
 vb (xLd v127 h) fun v128 =>
 vb (xCmp ieq v128 (vN 0)) fun v129 =>
 vb (gd (isB true v129) (some v55)) fun v130 =>
 vb (gd (isB true v129) (pcall (F83 n cl v130 (Value.int .u8 (.ofNat 45)) (h.fzn)))) fun v131 =>
 vb (xPick v129 v131 ff) fun v132 =>
 vb (gd (isB true v132) (some v55)) fun v133 =>
 vb (gd (isB true v132) (xNil v133)) fun v134 =>
 vb (gd (isB true v132) (xFld 1 v134)) fun v135 =>
 vb (gd (isB true v132) (some v55)) fun v136 =>
 vb (gd (isB true v132) (xNil v136)) fun v137 =>
 vb (gd (isB true v132) (xFld 0 v137)) fun v138 =>
 vb (gd (isB true v132) (xLd v135 h)) fun v139 =>
 vb (gd (isB true v132) (xAri Int.add v139 (vN 1))) fun v140 =>
 vb (gd (isB true v132) (xLd v138 h)) fun v141 =>
 vb (gd (isB true v132) (xLenT v141)) fun v142 =>
 vb (gd (isB true v132) (xCmp ilt v140 v142)) fun v143 =>
 vb (xPick v132 v143 ff) fun v144 =>
 vb (gd (isB true v144) (some v55)) fun v145 =>
 vb (gd (isB true v144) (xNil v145)) fun v146 =>
 vb (gd (isB true v144) (xFld 0 v146)) fun v147 =>
 vb (gd (isB true v144) (some v55)) fun v148 =>
 vb (gd (isB true v144) (xNil v148)) fun v149 =>
 vb (gd (isB true v144) (xFld 1 v149)) fun v150 =>
 vb (gd (isB true v144) (xLd v147 h)) fun v151 =>
 vb (gd (isB true v144) (xLd v150 h)) fun v152 =>
 vb (gd (isB true v144) (xAri Int.add v152 (vN 1))) fun v153 =>
 vb (gd (isB true v144) (aindex Try.prog 9 v151 v153)) fun v154 =>
 vb (gd (isB true v144) (xCmp ine v154 (Value.int .u8 (.ofNat 93)))) fun v155 =>
 vb (xPick v144 v155 ff) fun v156 =>
 bite v156 (F125_12 n cl v55 v85 k87 v57 v59 v61 v63 h) (k87 [v55, v57, v59, v61, v63, v85, v85] h)
noncomputable def F125_15 (n : Nat) (cl : CL) (v55 : Value) (r54 : Kt) (v57 : Value) (v59 : Value) (v61 : Value) (v63 : Value) (h : PH) : R :=
 hb (F134 n cl v55 h) fun v85 h =>
 jn (F125_13 n cl r54) (F125_14 n cl v55 v85 v57 v59 v61 v63 h)
noncomputable def F125_16 (n : Nat) (cl : CL) (v55 : Value) (k15 : Kt) (v57 : Value) (v59 : Value) (v61 : Value) (r54 : Kt) (v63 : Value) (h : PH) : R :=
 vb (pcall (F83 n cl v55 (Value.int .u8 (.ofNat 93)) (h.fzn))) fun v77 =>
 vb (gd (isB false v77) (some v55)) fun v78 =>
 vb (gd (isB false v77) (pcall (F56 n cl v78 (h.fzn)))) fun v79 =>
 vb (xPick v77 tt v79) fun v80 =>
 bite v80 (F125_5 n cl v55 k15 v57 v59 v61 h) (F125_15 n cl v55 r54 v57 v59 v61 v63 h)
noncomputable def F125_17 (n : Nat) (cl : CL) (v55 : Value) (v63 : Value) (k15 : Kt) (v57 : Value) (v59 : Value) (v61 : Value) (r54 : Kt) (h : PH) : R :=
 vb (xNil v55) fun v65 =>
 vb (xFld 2 v65) fun v66 =>
 vb (xLd v66 h) fun v67 =>
 vb (xCmp ieq v67 (vN 0)) fun v68 =>
 vb (gd (isB true v68) (some v55)) fun v69 =>
 vb (gd (isB true v68) (pcall (F83 n cl v69 (Value.int .u8 (.ofNat 93)) (h.fzn)))) fun v70 =>
 vb (gd (isB true v68) (some v70)) fun v71 =>
 vb (gd (isB true v71) (some v63)) fun v72 =>
 vb (gd (isB true v71) (xCmp (fun x y => ilt y x) v72 (vN 0))) fun v73 =>
 vb (gd (isB true v68) (xPick v71 v73 ff)) fun v74 =>
 vb (gd (isB true v68) (xNot v74)) fun v75 =>
 vb (xPick v68 v75 ff) fun v76 =>
 bite v76 (F125_16 n cl v55 k15 v57 v59 v61 r54 v63 h) (k15 [v55, v57, v59, v61] h)
noncomputable def F125_18 (n : Nat) (cl : CL) (k15 : Kt) (r54 : Kt) (y53 : List Value) (h : PH) : R :=
 ucons y53 fun v55 y56 => ucons y56 fun v57 y58 => ucons y58 fun v59 y60 => ucons y60 fun v61 y62 => ucons y62 fun v63 y64 => F125_17 n cl v55 v63 k15 v57 v59 v61 r54 h
noncomputable def F125_19 (n : Nat) (cl : CL) (y14 : List Value) (h : PH) : R :=
 ucons y14 fun v16 y17 => ucons y17 fun v18 y19 => ucons y19 fun v20 y21 => ucons y21 fun v22 y23 => F125_4 n cl v16 v22 v18 v20 h
noncomputable def F125_20 (n : Nat) (cl : CL) (a0 : Value) (k5 : Kt) (v1 : Value) (v2 : Value) (v3 : Value) (h : PH) : R :=
 vb (xNil a0) fun v176 =>
 vb (xFld 1 v176) fun v177 =>
 vb (xLd v177 h) fun v178 =>
 vb (xAri Int.add v178 (vN 1)) fun v179 =>
 vb (xNil a0) fun v180 =>
 vb (xFld 1 v180) fun v181 =>
 hb (xSt1 v181 v179 h) fun _ h =>
 k5 [a0, v1, v2, v3] h
noncomputable def F125_21 (n : Nat) (cl : CL) (y4 : List Value) (h : PH) : R :=
 ucons y4 fun v6 y7 => ucons y7 fun v8 y9 => ucons y9 fun v10 y11 => ucons y11 fun v12 y13 => jn (F125_19 n cl) (fun k15 => lp n (F125_18 n cl k15) [v6, v8, v10, v12, (vN 0)] h)
noncomputable def F125 (n : Nat) (cl : CL) (a0 : Value) (h : PH) : R :=
 hb (xAlloc (zcells Try.prog 57) h) fun v1 h =>
 hb (xAlloc (zcells Try.prog 54) h) fun v2 h =>
 vb (pcall (F83 n cl a0 (Value.int .u8 (.ofNat 94)) (h.fzn))) fun v3 =>
 jn (F125_21 n cl) (fun k5 => bite v3 (F125_20 n cl a0 k5 v1 v2 v3 h) (k5 [a0, v1, v2, v3] h))
noncomputable def D125 (n : Nat) (cl : CL) : CL := fun f xs h => sw f 83 (ucons xs fun b0 xs => ucons xs fun b1 xs => u0 xs (F83 n cl b0 b1 h)) (sw f 56 (ucons xs fun b0 xs => u0 xs (F56 n cl b0 h)) (sw f 57 (ucons xs fun b0 xs => ucons xs fun b1 xs => ucons xs fun b2 xs => u0 xs (F57 n cl b0 b1 b2 h)) (sw f 134 (ucons xs fun b0 xs => u0 xs (F134 n cl b0 h)) (sw f 133 (ucons xs fun b0 xs => ucons xs fun b1 xs => u0 xs (F133 n cl b0 b1 h)) (cl f xs h)))))
theorem Dk125 {n : Nat} {cl : CL} (hcl : OkCL Try.prog cl) : OkCL Try.prog (D125 n cl) := by
  intro f xs h v h' hx
  rcases sw_ok hx with ⟨rfl, hx⟩ | hx
  · obtain ⟨_, _, rfl, hx⟩ := ucons_ok hx; obtain ⟨_, _, rfl, hx⟩ := ucons_ok hx; obtain ⟨rfl, hx⟩ := u0_ok hx; exact S83 (n := n) (cl := cl) hcl hx
  rcases sw_ok hx with ⟨rfl, hx⟩ | hx
  · obtain ⟨_, _, rfl, hx⟩ := ucons_ok hx; obtain ⟨rfl, hx⟩ := u0_ok hx; exact S56 (n := n) (cl := cl) hcl hx
  rcases sw_ok hx with ⟨rfl, hx⟩ | hx
  · obtain ⟨_, _, rfl, hx⟩ := ucons_ok hx; obtain ⟨_, _, rfl, hx⟩ := ucons_ok hx; obtain ⟨_, _, rfl, hx⟩ := ucons_ok hx; obtain ⟨rfl, hx⟩ := u0_ok hx; exact S57 (n := n) (cl := cl) hcl hx
  rcases sw_ok hx with ⟨rfl, hx⟩ | hx
  · obtain ⟨_, _, rfl, hx⟩ := ucons_ok hx; obtain ⟨rfl, hx⟩ := u0_ok hx; exact S134 (n := n) (cl := cl) hcl hx
  rcases sw_ok hx with ⟨rfl, hx⟩ | hx
  · obtain ⟨_, _, rfl, hx⟩ := ucons_ok hx; obtain ⟨_, _, rfl, hx⟩ := ucons_ok hx; obtain ⟨rfl, hx⟩ := u0_ok hx; exact S133 (n := n) (cl := cl) hcl hx
  exact hcl _ _ _ _ _ hx
theorem E125 (n : Nat) (cl : CL) (a0 : Value) (h : PH) : exF Try.prog n (D125 n cl) ⟨[56, 83, 133], [], [(5, [0, 2, 3, 4]), (6, [0, 2, 3, 4, 5]), (17, [0, 2, 3, 4, 5, 6, 7]), (18, [0, 2, 3, 4, 5, 7, 9]), (22, [0, 2, 3, 4]), (25, [2, 3, 10]), (28, [2, 3])], [(11, [0, 1, 2, 3, 4, 5, 6, 7, 8, 9, 10, 11, 12, 15, 16, 17, 13, 14, 18, 19, 20, 21, 22, 23, 24, 25, 27, 28, 29, 26, 30, 31, 32, 33, 34])], [], [], []⟩ Try.f125 [a0] h = F125 n cl a0 h := by kernel_rfl
theorem S125 {n : Nat} {cl : CL} (hcl : OkCL Try.prog cl) {a0 : Value} {h h' : PH} {v : Value} (hx : F125 n cl a0 h = some (v, h')) : (enterable Try.prog 125 = true ∧ ACall Try.prog 125 [a0] h.abs (fun u k => u = v ∧ k = h'.abs)) ∧ Inv h h' :=
  exF_ok (Dk125 hcl) hmx Try.func125 (by kernel_rfl) ((E125 n cl a0 h).trans hx)
-- undergrowth/undergrowthref1.special
noncomputable def F126 (n : Nat) (cl : CL) (a0 : Value) (h : PH) : R :=
 vb (xCmp ieq a0 (Value.int .u8 (.ofNat 124))) fun v1 =>
 vb (gd (isB false v1) (some a0)) fun v2 =>
 vb (gd (isB false v1) (xCmp ieq v2 (Value.int .u8 (.ofNat 42)))) fun v3 =>
 vb (xPick v1 tt v3) fun v4 =>
 vb (gd (isB false v4) (some a0)) fun v5 =>
 vb (gd (isB false v4) (xCmp ieq v5 (Value.int .u8 (.ofNat 43)))) fun v6 =>
 vb (xPick v4 tt v6) fun v7 =>
 vb (gd (isB false v7) (some a0)) fun v8 =>
 vb (gd (isB false v7) (xCmp ieq v8 (Value.int .u8 (.ofNat 63)))) fun v9 =>
 vb (xPick v7 tt v9) fun v10 =>
 vb (gd (isB false v10) (some a0)) fun v11 =>
 vb (gd (isB false v10) (xCmp ieq v11 (Value.int .u8 (.ofNat 40)))) fun v12 =>
 vb (xPick v10 tt v12) fun v13 =>
 vb (gd (isB false v13) (some a0)) fun v14 =>
 vb (gd (isB false v13) (xCmp ieq v14 (Value.int .u8 (.ofNat 41)))) fun v15 =>
 vb (xPick v13 tt v15) fun v16 =>
 vb (gd (isB false v16) (some a0)) fun v17 =>
 vb (gd (isB false v16) (xCmp ieq v17 (Value.int .u8 (.ofNat 91)))) fun v18 =>
 vb (xPick v16 tt v18) fun v19 =>
 vb (gd (isB false v19) (some a0)) fun v20 =>
 vb (gd (isB false v19) (xCmp ieq v20 (Value.int .u8 (.ofNat 93)))) fun v21 =>
 vb (xPick v19 tt v21) fun v22 =>
 some (v22, h)
theorem E126 (n : Nat) (cl : CL) (a0 : Value) (h : PH) : exF Try.prog n cl ⟨[], [], [], [], [], [], []⟩ Try.f126 [a0] h = F126 n cl a0 h := by kernel_rfl
theorem S126 {n : Nat} {cl : CL} (hcl : OkCL Try.prog cl) {a0 : Value} {h h' : PH} {v : Value} (hx : F126 n cl a0 h = some (v, h')) : (enterable Try.prog 126 = true ∧ ACall Try.prog 126 [a0] h.abs (fun u k => u = v ∧ k = h'.abs)) ∧ Inv h h' :=
  exF_ok hcl hmx Try.func126 (by kernel_rfl) ((E126 n cl a0 h).trans hx)
-- (*undergrowth/undergrowthref1.reader).atom
noncomputable def F110_0 (n : Nat) (cl : CL) (a0 : Value) (v4 : Value) (v1 : Value) (h : PH) : R :=
 hb (F57 n cl a0 (vN 4) v4 h) fun v11 h =>
 vb (abuild Try.prog 57 []) fun v12 =>
 hb (xStA 6 v1 v12 h) fun _ h =>
 vb (xLdA 6 v1 h) fun v13 => some (v13, h)
noncomputable def F110_1 (n : Nat) (cl : CL) (v25 : Value) (v29 : Value) (v27 : Value) (h : PH) : R :=
 vb (xNil v25) fun v31 =>
 vb (xFld 1 v31) fun v32 =>
 vb (xLd v32 h) fun v33 =>
 vb (xAri Int.add v33 (vN 1)) fun v34 =>
 vb (xNil v25) fun v35 =>
 vb (xFld 1 v35) fun v36 =>
 hb (xSt1 v36 v34 h) fun _ h =>
 vb (xLdA 6 v29 h) fun v37 =>
 hb (xStA 6 v27 v37 h) fun _ h =>
 vb (xLdA 6 v27 h) fun v38 => some (v38, h)
noncomputable def F110_2 (n : Nat) (cl : CL) (a0 : Value) (k24 : Kt) (v1 : Value) (v22 : Value) (h : PH) : R :=
 vb (xNil a0) fun v47 =>
 vb (xFld 1 v47) fun v48 =>
 vb (xLd v48 h) fun v49 =>
 hb (F57 n cl a0 (vN 2) v49 h) fun v50 h =>
 k24 [a0, v1, v22] h
noncomputable def F110_3 (n : Nat) (cl : CL) (y23 : List Value) (h : PH) : R :=
 ucons y23 fun v25 y26 => ucons y26 fun v27 y28 => ucons y28 fun v29 y30 => F110_1 n cl v25 v29 v27 h
noncomputable def F110_4 (n : Nat) (cl : CL) (a0 : Value) (v1 : Value) (v22 : Value) (h : PH) (k24 : Kt) : R :=
 vb (xNil a0) fun v39 =>
 vb (xFld 2 v39) fun v40 =>
 vb (xLd v40 h) fun v41 =>
 vb (xCmp ieq v41 (vN 0)) fun v42 =>
 vb (gd (isB true v42) (some a0)) fun v43 =>
 vb (gd (isB true v42) (pcall (F83 n cl v43 (Value.int .u8 (.ofNat 41)) (h.fzn)))) fun v44 =>
 vb (gd (isB true v42) (xNot v44)) fun v45 =>
 vb (xPick v42 v45 ff) fun v46 =>
 bite v46 (F110_2 n cl a0 k24 v1 v22 h) (k24 [a0, v1, v22] h)
noncomputable def F110_5 (n : Nat) (cl : CL) (a0 : Value) (a1 : Value) (v1 : Value) (h : PH) : R :=
 vb (xNil a0) fun v14 =>
 vb (xFld 1 v14) fun v15 =>
 vb (xLd v15 h) fun v16 =>
 vb (xAri Int.add v16 (vN 1)) fun v17 =>
 vb (xNil a0) fun v18 =>
 vb (xFld 1 v18) fun v19 =>
 hb (xSt1 v19 v17 h) fun _ h =>
 vb (xAri Int.add a1 (vN 1)) fun v20 =>
 hb (cl 55 [a0, v20] h) fun v21 h =>
 hb (xAlloc (zcells Try.prog 57) h) fun v22 h =>
 hb (xStA 6 v22 v21 h) fun _ h =>
 jn (F110_3 n cl) (F110_4 n cl a0 v1 v22 h)
noncomputable def F110_6 (n : Nat) (cl : CL) (a1 : Value) (a0 : Value) (v4 : Value) (v1 : Value) (h : PH) : R :=
 vb (xCmp (fun x y => ile y x) a1 (vN 20)) fun v10 =>
 bite v10 (F110_0 n cl a0 v4 v1 h) (F110_5 n cl a0 a1 v1 h)
noncomputable def F110_7 (n : Nat) (cl : CL) (a0 : Value) (v1 : Value) (h : PH) : R :=
 vb (xNil a0) fun v52 =>
 vb (xFld 1 v52) fun v53 =>
 vb (xLd v53 h) fun v54 =>
 vb (xAri Int.add v54 (vN 1)) fun v55 =>
 vb (xNil a0) fun v56 =>
 vb (xFld 1 v56) fun v57 =>
 hb (xSt1 v57 v55 h) fun _ h =>
 vb (pcall (F123 n cl (h.fzn))) fun v58 =>
 vb (abuild Try.prog 57 [(0, (vN 1)), (1, v58)]) fun v59 =>
 hb (xStA 6 v1 v59 h) fun _ h =>
 vb (xLdA 6 v1 h) fun v60 => some (v60, h)
noncomputable def F110_8 (n : Nat) (cl : CL) (a0 : Value) (v1 : Value) (h : PH) : R :=
 vb (xNil a0) fun v69 =>
 vb (xFld 1 v69) fun v70 =>
 vb (xLd v70 h) fun v71 =>
 hb (F57 n cl a0 (vN 2) v71 h) fun v72 h =>
 vb (abuild Try.prog 57 []) fun v73 =>
 hb (xStA 6 v1 v73 h) fun _ h =>
 vb (xLdA 6 v1 h) fun v74 => some (v74, h)
noncomputable def F110_9 (n : Nat) (cl : CL) (a0 : Value) (v1 : Value) (h : PH) : R :=
 vb (xNil a0) fun v75 =>
 vb (xFld 1 v75) fun v76 =>
 vb (xLd v76 h) fun v77 =>
 vb (xAri Int.add v77 (vN 1)) fun v78 =>
 vb (xNil a0) fun v79 =>
 vb (xFld 1 v79) fun v80 =>
 hb (xSt1 v80 v78 h) fun _ h =>
 vb (xNil a0) fun v81 =>
 vb (xFld 0 v81) fun v82 =>
 vb (xNil a0) fun v83 =>
 vb (xFld 1 v83) fun v84 =>
 vb (xLd v82 h) fun v85 =>
 vb (xLd v84 h) fun v86 =>
 vb (xAri Int.sub v86 (vN 1)) fun v87 =>
 vb (aindex Try.prog 9 v85 v87) fun v88 =>
 hb (fcall h (F124 n cl v88 (h.fzn))) fun v89 h =>
 hb (xStA 6 v1 v89 h) fun _ h =>
 vb (xLdA 6 v1 h) fun v90 => some (v90, h)
noncomputable def F110_10 (n : Nat) (cl : CL) (a0 : Value) (v1 : Value) (h : PH) : R :=
 vb (xNil a0) fun v62 =>
 vb (xFld 1 v62) fun v63 =>
 vb (xLd v63 h) fun v64 =>
 vb (xAri Int.add v64 (vN 1)) fun v65 =>
 vb (xNil a0) fun v66 =>
 vb (xFld 1 v66) fun v67 =>
 hb (xSt1 v67 v65 h) fun _ h =>
 vb (pcall (F56 n cl a0 (h.fzn))) fun v68 =>
 bite v68 (F110_8 n cl a0 v1 h) (F110_9 n cl a0 v1 h)
noncomputable def F110_11 (n : Nat) (cl : CL) (a0 : Value) (v1 : Value) (h : PH) : R :=
 vb (xNil a0) fun v92 =>
 vb (xFld 1 v92) fun v93 =>
 vb (xLd v93 h) fun v94 =>
 vb (xAri Int.add v94 (vN 1)) fun v95 =>
 vb (xNil a0) fun v96 =>
 vb (xFld 1 v96) fun v97 =>
 hb (xSt1 v97 v95 h) fun _ h =>
 hb (F125 n cl a0 h) fun v98 h =>
 hb (xStA 6 v1 v98 h) fun _ h =>
 vb (xLdA 6 v1 h) fun v99 => some (v99, h)
noncomputable def F110_12 (n : Nat) (cl : CL) (a0 : Value) (v4 : Value) (v1 : Value) (h : PH) : R :=
 hb (F57 n cl a0 (vN 2) v4 h) fun v101 h =>
 vb (abuild Try.prog 57 []) fun v102 =>
 hb (xStA 6 v1 v102 h) fun _ h =>
 vb (xLdA 6 v1 h) fun v103 => some (v103, h)
noncomputable def F110_13 (n : Nat) (cl : CL) (a0 : Value) (v8 : Value) (v1 : Value) (h : PH) : R :=
 vb (xNil a0) fun v104 =>
 vb (xFld 1 v104) fun v105 =>
 vb (xLd v105 h) fun v106 =>
 vb (xAri Int.add v106 (vN 1)) fun v107 =>
 vb (xNil a0) fun v108 =>
 vb (xFld 1 v108) fun v109 =>
 hb (xSt1 v109 v107 h) fun _ h =>
 hb (fcall h (F124 n cl v8 (h.fzn))) fun v110 h =>
 hb (xStA 6 v1 v110 h) fun _ h =>
 vb (xLdA 6 v1 h) fun v111 => some (v111, h)
noncomputable def F110_14 (n : Nat) (cl : CL) (v8 : Value) (a0 : Value) (v4 : Value) (v1 : Value) (h : PH) : R :=
 vb (pcall (F126 n cl v8 (h.fzn))) fun v100 =>
 bite v100 (F110_12 n cl a0 v4 v1 h) (F110_13 n cl a0 v8 v1 h)
noncomputable def F110_15 (n : Nat) (cl : CL) (v8 : Value) (a0 : Value) (v1 : Value) (v4 : Value) (h : PH) : R :=
 vb (xCmp ieq v8 (Value.int .u8 (.ofNat 91))) fun v91 =>
 bite v91 (F110_11 n cl a0 v1 h) (F110_14 n cl v8 a0 v4 v1 h)
noncomputable def F110_16 (n : Nat) (cl : CL) (v8 : Value) (a0 : Value) (v1 : Value) (v4 : Value) (h : PH) : R :=
 vb (xCmp ieq v8 (Value.int .u8 (.ofNat 92))) fun v61 =>
 bite v61 (F110_10 n cl a0 v1 h) (F110_15 n cl v8 a0 v1 v4 h)
noncomputable def F110_17 (n : Nat) (cl : CL) (v8 : Value) (a0 : Value) (v1 : Value) (v4 : Value) (h : PH) : R :=
 vb (xCmp ieq v8 (Value.int .u8 (.ofNat 46))) fun v51 =>
 bite v51 (F110_7 n cl a0 v1 h) (F110_16 n cl v8 a0 v1 v4 h)
noncomputable def F110 (n : Nat) (cl : CL) (a0 a1 : Value) (h : PH) : R :=
 hb (xAlloc (zcells Try.prog 57) h) fun v1 h =>
 vb (xNil a0) fun v2 =>
 vb (xFld 1 v2) fun v3 =>
 vb (xLd v3 h) fun v4 =>
 vb (xNil a0) fun v5 =>
 vb (xFld 0 v5) fun v6 =>
 vb (xLd v6 h) fun v7 =>
 vb (aindex Try.prog 9 v7 v4) fun v8 =>
 vb (xCmp ieq v8 (Value.int .u8 (.ofNat 40))) fun v9 =>
 bite v9 (F110_6 n cl a1 a0 v4 v1 h) (F110_17 n cl v8 a0 v1 v4 h)
noncomputable def D110 (n : Nat) (cl : CL) : CL := fun f xs h => sw f 57 (ucons xs fun b0 xs => ucons xs fun b1 xs => ucons xs fun b2 xs => u0 xs (F57 n cl b0 b1 b2 h)) (sw f 83 (ucons xs fun b0 xs => ucons xs fun b1 xs => u0 xs (F83 n cl b0 b1 h)) (sw f 123 (u0 xs (F123 n cl h)) (sw f 56 (ucons xs fun b0 xs => u0 xs (F56 n cl b0 h)) (sw f 124 (ucons xs fun b0 xs => u0 xs (F124 n cl b0 h)) (sw f 125 (ucons xs fun b0 xs => u0 xs (F125 n cl b0 h)) (sw f 126 (ucons xs fun b0 xs => u0 xs (F126 n cl b0 h)) (cl f xs h)))))))
theorem Dk110 {n : Nat} {cl : CL} (hcl : OkCL Try.prog cl) : OkCL Try.prog (D110 n cl) := by
  intro f xs h v h' hx
  rcases sw_ok hx with ⟨rfl, hx⟩ | hx
  · obtain ⟨_, _, rfl, hx⟩ := ucons_ok hx; obtain ⟨_, _, rfl, hx⟩ := ucons_ok hx; obtain ⟨_, _, rfl, hx⟩ := ucons_ok hx; obtain ⟨rfl, hx⟩ := u0_ok hx; exact S57 (n := n) (cl := cl) hcl hx
  rcases sw_ok hx with ⟨rfl, hx⟩ | hx
  · obtain ⟨_, _, rfl, hx⟩ := ucons_ok hx; obtain ⟨_, _, rfl, hx⟩ := ucons_ok hx; obtain ⟨rfl, hx⟩ := u0_ok hx; exact S83 (n := n) (cl := cl) hcl hx
  rcases sw_ok hx with ⟨rfl, hx⟩ | hx
  · obtain ⟨rfl, hx⟩ := u0_ok hx; exact S123 (n := n) (cl := cl) hcl hx
  rcases sw_ok hx with ⟨rfl, hx⟩ | hx
  · obtain ⟨_, _, rfl, hx⟩ := ucons_ok hx; obtain ⟨rfl, hx⟩ := u0_ok hx; exact S56 (n := n) (cl := cl) hcl hx
  rcases sw_ok hx with ⟨rfl, hx⟩ | hx
  · obtain ⟨_, _, rfl, hx⟩ := ucons_ok hx; obtain ⟨rfl, hx⟩ := u0_ok hx; exact S124 (n := n) (cl := cl) hcl hx
  rcases sw_ok hx with ⟨rfl, hx⟩ | hx
  · obtain ⟨_, _, rfl, hx⟩ := ucons_ok hx; obtain ⟨rfl, hx⟩ := u0_ok hx; exact S125 (n := n) (cl := cl) hcl hx
  rcases sw_ok hx with ⟨rfl, hx⟩ | hx
  · obtain ⟨_, _, rfl, hx⟩ := ucons_ok hx; obtain ⟨rfl, hx⟩ := u0_ok hx; exact S126 (n := n) (cl := cl) hcl hx
  exact hcl _ _ _ _ _ hx
theorem E110 (n : Nat) (cl : CL) (a0 a1 : Value) (h : PH) : exF Try.prog n (D110 n cl) ⟨[56, 83, 123, 126], [124], [(11, [0, 4, 7])], [(22, [0, 1, 2, 4, 5, 6, 3, 7, 8, 9, 10, 11])], [], [], []⟩ Try.f110 [a0, a1] h = F110 n cl a0 a1 h := by kernel_rfl
theorem S110 {n : Nat} {cl : CL} (hcl : OkCL Try.prog cl) {a0 a1 : Value} {h h' : PH} {v : Value} (hx : F110 n cl a0 a1 h = some (v, h')) : (enterable Try.prog 110 = true ∧ ACall Try.prog 110 [a0, a1] h.abs (fun u k => u = v ∧ k = h'.abs)) ∧ Inv h h' :=
  exF_ok (Dk110 hcl) hmx Try.func110 (by kernel_rfl) ((E110 n cl a0 a1 h).trans hx)
-- (*undergrowth/undergrowthref1.reader).rep
noncomputable def F102_0 (n : Nat) (cl : CL) (v39 : Value) (v43 : Value) (v45 : Value) (r5 : Kt) (v41 : Value) (h : PH) : R :=
 vb (xNil v39) fun v47 =>
 vb (xFld 1 v47) fun v48 =>
 vb (xLd v48 h) fun v49 =>
 vb (xAri Int.add v49 (vN 1)) fun v50 =>
 vb (xNil v39) fun v51 =>
 vb (xFld 1 v51) fun v52 =>
 hb (xSt1 v52 v50 h) fun _ h =>
 vb (xLdA 6 v43 h) fun v53 =>
 hb (xBS 1 (bsRow Try.prog 55 1 [(0, v53)]) h) fun v54 h =>
 vb (abuild Try.prog 57 [(0, v45), (2, v54)]) fun v55 =>
 hb (xStA 6 v43 v55 h) fun _ h =>
 r5 [v39, v41, v43] h
noncomputable def F102_1 (n : Nat) (cl : CL) (r5 : Kt) (y37 : List Value) (h : PH) : R :=
 ucons y37 fun v39 y40 => ucons y40 fun v41 y42 => ucons y42 fun v43 y44 => ucons y44 fun v45 y46 => F102_0 n cl v39 v43 v45 r5 v41 h
noncomputable def F102_2 (n : Nat) (cl : CL) (v29 : Value) (v31 : Value) (v33 : Value) (v35 : Value) (h : PH) (k38 : Kt) : R :=
 vb (pcall (F83 n cl v29 (Value.int .u8 (.ofNat 63)) (h.fzn))) fun v56 =>
 bite v56 (k38 [v29, v31, v33, (vN 6)] h) (k38 [v29, v31, v33, v35] h)
noncomputable def F102_3 (n : Nat) (cl : CL) (r5 : Kt) (y27 : List Value) (h : PH) : R :=
 ucons y27 fun v29 y30 => ucons y30 fun v31 y32 => ucons y32 fun v33 y34 => ucons y34 fun v35 y36 => jn (F102_1 n cl r5) (F102_2 n cl v29 v31 v33 v35 h)
noncomputable def F102_4 (n : Nat) (cl : CL) (v6 : Value) (v8 : Value) (v10 : Value) (h : PH) (k28 : Kt) : R :=
 vb (pcall (F83 n cl v6 (Value.int .u8 (.ofNat 43)) (h.fzn))) fun v57 =>
 bite v57 (k28 [v6, v8, v10, (vN 5)] h) (k28 [v6, v8, v10, (vN 4)] h)
noncomputable def F102_5 (n : Nat) (cl : CL) (v10 : Value) (v8 : Value) (h : PH) : R :=
 vb (xLdA 6 v10 h) fun v58 =>
 hb (xStA 6 v8 v58 h) fun _ h =>
 vb (xLdA 6 v8 h) fun v59 => some (v59, h)
noncomputable def F102_6 (n : Nat) (cl : CL) (v6 : Value) (r5 : Kt) (v8 : Value) (v10 : Value) (h : PH) : R :=
 vb (xNil v6) fun v12 =>
 vb (xFld 2 v12) fun v13 =>
 vb (xLd v13 h) fun v14 =>
 vb (xCmp ieq v14 (vN 0)) fun v15 =>
 vb (gd (isB true v15) (some v6)) fun v16 =>
 vb (gd (isB true v15) (pcall (F83 n cl v16 (Value.int .u8 (.ofNat 42)) (h.fzn)))) fun v17 =>
 vb (gd (isB true v15) (some v17)) fun v18 =>
 vb (gd (isB false v18) (some v6)) fun v19 =>
 vb (gd (isB false v18) (pcall (F83 n cl v19 (Value.int .u8 (.ofNat 43)) (h.fzn)))) fun v20 =>
 vb (gd (isB true v15) (xPick v18 tt v20)) fun v21 =>
 vb (gd (isB true v15) (some v21)) fun v22 =>
 vb (gd (isB false v22) (some v6)) fun v23 =>
 vb (gd (isB false v22) (pcall (F83 n cl v23 (Value.int .u8 (.ofNat 63)) (h.fzn)))) fun v24 =>
 vb (gd (isB true v15) (xPick v22 tt v24)) fun v25 =>
 vb (xPick v15 v25 ff) fun v26 =>
 bite v26 (jn (F102_3 n cl r5) (F102_4 n cl v6 v8 v10 h)) (F102_5 n cl v10 v8 h)
noncomputable def F102_7 (n : Nat) (cl : CL) (r5 : Kt) (y4 : List Value) (h : PH) : R :=
 ucons y4 fun v6 y7 => ucons y7 fun v8 y9 => ucons y9 fun v10 y11 => F102_6 n cl v6 r5 v8 v10 h
noncomputable def F102 (n : Nat) (cl : CL) (a0 a1 : Value) (h : PH) : R :=
 hb (xAlloc (zcells Try.prog 57) h) fun v1 h =>
 hb (F110 n cl a0 a1 h) fun v2 h =>
 hb (xAlloc (zcells Try.prog 57) h) fun v3 h =>
 hb (xStA 6 v3 v2 h) fun _ h =>
 lp n (F102_7 n cl) [a0, v1, v3] h
noncomputable def D102 (n : Nat) (cl : CL) : CL := fun f xs h => sw f 110 (ucons xs fun b0 xs => ucons xs fun b1 xs => u0 xs (F110 n cl b0 b1 h)) (sw f 83 (ucons xs fun b0 xs => ucons xs fun b1 xs => u0 xs (F83 n cl b0 b1 h)) (cl f xs h))
theorem Dk102 {n : Nat} {cl : CL} (hcl : OkCL Try.prog cl) : OkCL Try.prog (D102 n cl) := by
  intro f xs h v h' hx
  rcases sw_ok hx with ⟨rfl, hx⟩ | hx
  · obtain ⟨_, _, rfl, hx⟩ := ucons_ok hx; obtain ⟨_, _, rfl, hx⟩ := ucons_ok hx; obtain ⟨rfl, hx⟩ := u0_ok hx; exact S110 (n := n) (cl := cl) hcl hx
  rcases sw_ok hx with ⟨rfl, hx⟩ | hx
  · obtain ⟨_, _, rfl, hx⟩ := ucons_ok hx; obtain ⟨_, _, rfl, hx⟩ := ucons_ok hx; obtain ⟨rfl, hx⟩ := u0_ok hx; exact S83 (n := n) (cl := cl) hcl hx
  exact hcl _ _ _ _ _ hx
theorem E102 (n : Nat) (cl : CL) (a0 a1 : Value) (h : PH) : exF Try.prog n (D102 n cl) ⟨[83], [], [(2, [0, 4, 5]), (6, [0, 4, 5, 6]), (8, [0, 4, 5, 6])], [], [], [], []⟩ Try.f102 [a0, a1] h = F102 n cl a0 a1 h := by kernel_rfl
theorem S102 {n : Nat} {cl : CL} (hcl : OkCL Try.prog cl) {a0 a1 : Value} {h h' : PH} {v : Value} (hx : F102 n cl a0 a1 h = some (v, h')) : (enterable Try.prog 102 = true ∧ ACall Try.prog 102 [a0, a1] h.abs (fun u k => u = v ∧ k = h'.abs)) ∧ Inv h h' :=
  exF_ok (Dk102 hcl) hmx Try.func102 (by kernel_rfl) ((E102 n cl a0 a1 h).trans hx)
-- (*undergrowth/undergrowthref1.reader).seq
noncomputable def F82_0 (n : Nat) (cl : CL) (v4 : Value) (v6 : Value) (v10 : Value) (r3 : Kt) (v8 : Value) (h : PH) : R :=
 hb (F102 n cl v4 v6 h) fun v28 h =>
 hb (xBS 1 (bsRow Try.prog 55 1 [(0, v28)]) h) fun v29 h =>
 hb (xApp (appInfo Try.prog #[55, 55]) v10 v29 h) fun v30 h =>
 r3 [v4, v6, v8, v30] h
noncomputable def F82_1 (n : Nat) (cl : CL) (v8 : Value) (h : PH) : R :=
 vb (abuild Try.prog 57 []) fun v33 =>
 hb (xStA 6 v8 v33 h) fun _ h =>
 vb (xLdA 6 v8 h) fun v34 => some (v34, h)
noncomputable def F82_2 (n : Nat) (cl : CL) (v10 : Value) (v8 : Value) (h : PH) : R :=
 vb (xIdxS 6 v10 (vN 0)) fun v36 =>
 vb (xLdA 6 v36 h) fun v37 =>
 hb (xStA 6 v8 v37 h) fun _ h =>
 vb (xLdA 6 v8 h) fun v38 => some (v38, h)
noncomputable def F82_3 (n : Nat) (cl : CL) (v10 : Value) (v8 : Value) (h : PH) : R :=
 vb (abuild Try.prog 57 [(0, (vN 2)), (2, v10)]) fun v39 =>
 hb (xStA 6 v8 v39 h) fun _ h =>
 vb (xLdA 6 v8 h) fun v40 => some (v40, h)
noncomputable def F82_4 (n : Nat) (cl : CL) (v31 : Value) (v10 : Value) (v8 : Value) (h : PH) : R :=
 vb (xCmp ieq v31 (vN 1)) fun v35 =>
 bite v35 (F82_2 n cl v10 v8 h) (F82_3 n cl v10 v8 h)
noncomputable def F82_5 (n : Nat) (cl : CL) (v10 : Value) (v8 : Value) (h : PH) : R :=
 vb (xLenS v10) fun v31 =>
 vb (xCmp ieq v31 (vN 0)) fun v32 =>
 bite v32 (F82_1 n cl v8 h) (F82_4 n cl v31 v10 v8 h)
noncomputable def F82_6 (n : Nat) (cl : CL) (v4 : Value) (v6 : Value) (v10 : Value) (r3 : Kt) (v8 : Value) (h : PH) : R :=
 vb (xNil v4) fun v12 =>
 vb (xFld 2 v12) fun v13 =>
 vb (xLd v13 h) fun v14 =>
 vb (xCmp ieq v14 (vN 0)) fun v15 =>
 vb (gd (isB true v15) (some v4)) fun v16 =>
 vb (gd (isB true v15) (pcall (F56 n cl v16 (h.fzn)))) fun v17 =>
 vb (gd (isB true v15) (xNot v17)) fun v18 =>
 vb (xPick v15 v18 ff) fun v19 =>
 vb (gd (isB true v19) (some v4)) fun v20 =>
 vb (gd (isB true v19) (pcall (F83 n cl v20 (Value.int .u8 (.ofNat 124)) (h.fzn)))) fun v21 =>
 vb (gd (isB true v19) (xNot v21)) fun v22 =>
 vb (xPick v19 v22 ff) fun v23 =>
 vb (gd (isB true v23) (some v4)) fun v24 =>
 vb (gd (isB true v23) (pcall (F83 n cl v24 (Value.int .u8 (.ofNat 41)) (h.fzn)))) fun v25 =>
 vb (gd (isB true v23) (xNot v25)) fun v26 =>
 vb (xPick v23 v26 ff) fun v27 =>
 bite v27 (F82_0 n cl v4 v6 v10 r3 v8 h) (F82_5 n cl v10 v8 h)
noncomputable def F82_7 (n : Nat) (cl : CL) (r3 : Kt) (y2 : List Value) (h : PH) : R :=
 ucons y2 fun v4 y5 => ucons y5 fun v6 y7 => ucons y7 fun v8 y9 => ucons y9 fun v10 y11 => F82_6 n cl v4 v6 v10 r3 v8 h
noncomputable def F82 (n : Nat) (cl : CL) (a0 a1 : Value) (h : PH) : R :=
 hb (xAlloc (zcells Try.prog 57) h) fun v1 h =>
 lp n (F82_7 n cl) [a0, a1, v1, nils] h
noncomputable def D82 (n : Nat) (cl : CL) : CL := fun f xs h => sw f 56 (ucons xs fun b0 xs => u0 xs (F56 n cl b0 h)) (sw f 83 (ucons xs fun b0 xs => ucons xs fun b1 xs => u0 xs (F83 n cl b0 b1 h)) (sw f 102 (ucons xs fun b0 xs => ucons xs fun b1 xs => u0 xs (F102 n cl b0 b1 h)) (cl f xs h)))
theorem Dk82 {n : Nat} {cl : CL} (hcl : OkCL Try.prog cl) : OkCL Try.prog (D82 n cl) := by
  intro f xs h v h' hx
  rcases sw_ok hx with ⟨rfl, hx⟩ | hx
  · obtain ⟨_, _, rfl, hx⟩ := ucons_ok hx; obtain ⟨rfl, hx⟩ := u0_ok hx; exact S56 (n := n) (cl := cl) hcl hx
  rcases sw_ok hx with ⟨rfl, hx⟩ | hx
  · obtain ⟨_, _, rfl, hx⟩ := ucons_ok hx; obtain ⟨_, _, rfl, hx⟩ := ucons_ok hx; obtain ⟨rfl, hx⟩ := u0_ok hx; exact S83 (n := n) (cl := cl) hcl hx
  rcases sw_ok hx with ⟨rfl, hx⟩ | hx
  · obtain ⟨_, _, rfl, hx⟩ := ucons_ok hx; obtain ⟨_, _, rfl, hx⟩ := ucons_ok hx; obtain ⟨rfl, hx⟩ := u0_ok hx; exact S102 (n := n) (cl := cl) hcl hx
  exact hcl _ _ _ _ _ hx
theorem E82 (n : Nat) (cl : CL) (a0 a1 : Value) (h : PH) : exF Try.prog n (D82 n cl) ⟨[56, 83], [], [(2, [0, 1, 4, 5])], [], [], [], []⟩ Try.f82 [a0, a1] h = F82 n cl a0 a1 h := by kernel_rfl
theorem S82 {n : Nat} {cl : CL} (hcl : OkCL Try.prog cl) {a0 a1 : Value} {h h' : PH} {v : Value} (hx : F82 n cl a0 a1 h = some (v, h')) : (enterable Try.prog 82 = true ∧ ACall Try.prog 82 [a0, a1] h.abs (fun u k => u = v ∧ k = h'.abs)) ∧ Inv h h' :=
  exF_ok (Dk82 hcl) hmx Try.func82 (by kernel_rfl) ((E82 n cl a0 a1 h).trans hx)
-- (*undergrowth/undergrowthref1.reader).alt
noncomputable def F55_0 (n : Nat) (cl : CL) (v6 : Value) (v8 : Value) (v12 : Value) (r5 : Kt) (v10 : Value) (h : PH) : R :=
 vb (xNil v6) fun v21 =>
 vb (xFld 1 v21) fun v22 =>
 vb (xLd v22 h) fun v23 =>
 vb (xAri Int.add v23 (vN 1)) fun v24 =>
 vb (xNil v6) fun v25 =>
 vb (xFld 1 v25) fun v26 =>
 hb (xSt1 v26 v24 h) fun _ h =>
 hb (F82 n cl v6 v8 h) fun v27 h =>
 hb (xBS 1 (bsRow Try.prog 55 1 [(0, v27)]) h) fun v28 h =>
 hb (xApp (appInfo Try.prog #[55, 55]) v12 v28 h) fun v29 h =>
 r5 [v6, v8, v10, v29] h
noncomputable def F55_1 (n : Nat) (cl : CL) (v12 : Value) (v10 : Value) (h : PH) : R :=
 vb (xIdxS 6 v12 (vN 0)) fun v32 =>
 vb (xLdA 6 v32 h) fun v33 =>
 hb (xStA 6 v10 v33 h) fun _ h =>
 vb (xLdA 6 v10 h) fun v34 => some (v34, h)
noncomputable def F55_2 (n : Nat) (cl : CL) (v12 : Value) (v10 : Value) (h : PH) : R :=
 vb (abuild Try.prog 57 [(0, (vN 3)), (2, v12)]) fun v35 =>
 hb (xStA 6 v10 v35 h) fun _ h =>
 vb (xLdA 6 v10 h) fun v36 => some (v36, h)
noncomputable def F55_3 (n : Nat) (cl : CL) (v12 : Value) (v10 : Value) (h : PH) : R :=
 vb (xLenS v12) fun v30 =>
 vb (xCmp ieq v30 (vN 1)) fun v31 =>
 bite v31 (F55_1 n cl v12 v10 h) (F55_2 n cl v12 v10 h)
noncomputable def F55_4 (n : Nat) (cl : CL) (v6 : Value) (v8 : Value) (v12 : Value) (r5 : Kt) (v10 : Value) (h : PH) : R :=
 vb (xNil v6) fun v14 =>
 vb (xFld 2 v14) fun v15 =>
 vb (xLd v15 h) fun v16 =>
 vb (xCmp ieq v16 (vN 0)) fun v17 =>
 vb (gd (isB true v17) (some v6)) fun v18 =>
 vb (gd (isB true v17) (pcall (F83 n cl v18 (Value.int .u8 (.ofNat 124)) (h.fzn)))) fun v19 =>
 vb (xPick v17 v19 ff) fun v20 =>
 bite v20 (F55_0 n cl v6 v8 v12 r5 v10 h) (F55_3 n cl v12 v10 h)
noncomputable def F55_5 (n : Nat) (cl : CL) (r5 : Kt) (y4 : List Value) (h : PH) : R :=
 ucons y4 fun v6 y7 => ucons y7 fun v8 y9 => ucons y9 fun v10 y11 => ucons y11 fun v12 y13 => F55_4 n cl v6 v8 v12 r5 v10 h
noncomputable def F55 (n : Nat) (cl : CL) (a0 a1 : Value) (h : PH) : R :=
 hb (xAlloc (zcells Try.prog 57) h) fun v1 h =>
 hb (F82 n cl a0 a1 h) fun v2 h =>
 hb (xBS 1 (bsRow Try.prog 55 1 [(0, v2)]) h) fun v3 h =>
 lp n (F55_5 n cl) [a0, a1, v1, v3] h
noncomputable def D55 (n : Nat) (cl : CL) : CL := fun f xs h => sw f 82 (ucons xs fun b0 xs => ucons xs fun b1 xs => u0 xs (F82 n cl b0 b1 h)) (sw f 83 (ucons xs fun b0 xs => ucons xs fun b1 xs => u0 xs (F83 n cl b0 b1 h)) (cl f xs h))
theorem Dk55 {n : Nat} {cl : CL} (hcl : OkCL Try.prog cl) : OkCL Try.prog (D55 n cl) := by
  intro f xs h v h' hx
  rcases sw_ok hx with ⟨rfl, hx⟩ | hx
  · obtain ⟨_, _, rfl, hx⟩ := ucons_ok hx; obtain ⟨_, _, rfl, hx⟩ := ucons_ok hx; obtain ⟨rfl, hx⟩ := u0_ok hx; exact S82 (n := n) (cl := cl) hcl hx
  rcases sw_ok hx with ⟨rfl, hx⟩ | hx
  · obtain ⟨_, _, rfl, hx⟩ := ucons_ok hx; obtain ⟨_, _, rfl, hx⟩ := ucons_ok hx; obtain ⟨rfl, hx⟩ := u0_ok hx; exact S83 (n := n) (cl := cl) hcl hx
  exact hcl _ _ _ _ _ hx
theorem E55 (n : Nat) (cl : CL) (a0 a1 : Value) (h : PH) : exF Try.prog n (D55 n cl) ⟨[83], [], [(2, [0, 1, 4, 5])], [], [], [], []⟩ Try.f55 [a0, a1] h = F55 n cl a0 a1 h := by kernel_rfl
theorem S55 {n : Nat} {cl : CL} (hcl : OkCL Try.prog cl) {a0 a1 : Value} {h h' : PH} {v : Value} (hx : F55 n cl a0 a1 h = some (v, h')) : (enterable Try.prog 55 = true ∧ ACall Try.prog 55 [a0, a1] h.abs (fun u k => u = v ∧ k = h'.abs)) ∧ Inv h h' :=
  exF_ok (Dk55 hcl) hmx Try.func55 (by kernel_rfl) ((E55 n cl a0 a1 h).trans hx)
-- undergrowth/undergrowthref1.Parse
noncomputable def F30_0 (n : Nat) (cl : CL) (v1 : Value) (h : PH) : R :=
 vb (abuild Try.prog 57 []) fun v4 =>
 hb (xStA 6 v1 v4 h) fun _ h =>
 vb (xLdA 6 v1 h) fun v5 => some (Value.tuple ⟨[v5, (vN 0), (vN 3)]⟩, h)
noncomputable def F30_1 (n : Nat) (cl : CL) (v16 : Value) (v14 : Value) (h : PH) : R :=
 vb (abuild Try.prog 57 []) fun v24 =>
 vb (xNil v16) fun v25 =>
 vb (xFld 3 v25) fun v26 =>
 vb (xNil v16) fun v27 =>
 vb (xFld 2 v27) fun v28 =>
 vb (xLd v26 h) fun v29 =>
 vb (xLd v28 h) fun v30 =>
 hb (xStA 6 v14 v24 h) fun _ h =>
 lchk (xLd v26 h) v29 <|
 lchk (xLd v28 h) v30 <|
 vb (xLdA 6 v14 h) fun v31 => some (Value.tuple ⟨[v31, v29, v30]⟩, h)
noncomputable def F30_2 (n : Nat) (cl : CL) (v18 : Value) (v12 : Value) (v14 : Value) (h : PH) : R :=
 vb (xLdA 6 v18 h) fun v32 =>
 vb (xLenT v12) fun v33 =>
 hb (xStA 6 v14 v32 h) fun _ h =>
 vb (xLdA 6 v14 h) fun v34 => some (Value.tuple ⟨[v34, v33, (vN 0)]⟩, h)
noncomputable def F30_3 (n : Nat) (cl : CL) (v16 : Value) (v14 : Value) (v18 : Value) (v12 : Value) (h : PH) : R :=
 vb (xNil v16) fun v20 =>
 vb (xFld 2 v20) fun v21 =>
 vb (xLd v21 h) fun v22 =>
 vb (xCmp ine v22 (vN 0)) fun v23 =>
 bite v23 (F30_1 n cl v16 v14 h) (F30_2 n cl v18 v12 v14 h)
noncomputable def F30_4 (n : Nat) (cl : CL) (v7 : Value) (k11 : Kt) (a0 : Value) (v1 : Value) (v9 : Value) (h : PH) : R :=
 vb (xNil v7) fun v43 =>
 vb (xFld 1 v43) fun v44 =>
 vb (xLd v44 h) fun v45 =>
 hb (F57 n cl v7 (vN 2) v45 h) fun v46 h =>
 k11 [a0, v1, v7, v9] h
noncomputable def F30_5 (n : Nat) (cl : CL) (y10 : List Value) (h : PH) : R :=
 ucons y10 fun v12 y13 => ucons y13 fun v14 y15 => ucons y15 fun v16 y17 => ucons y17 fun v18 y19 => F30_3 n cl v16 v14 v18 v12 h
noncomputable def F30_6 (n : Nat) (cl : CL) (v7 : Value) (a0 : Value) (v1 : Value) (v9 : Value) (h : PH) (k11 : Kt) : R :=
 vb (xNil v7) fun v35 =>
 vb (xFld 2 v35) fun v36 =>
 vb (xLd v36 h) fun v37 =>
 vb (xCmp ieq v37 (vN 0)) fun v38 =>
 vb (gd (isB true v38) (some v7)) fun v39 =>
 vb (gd (isB true v38) (pcall (F56 n cl v39 (h.fzn)))) fun v40 =>
 vb (gd (isB true v38) (xNot v40)) fun v41 =>
 vb (xPick v38 v41 ff) fun v42 =>
 bite v42 (F30_4 n cl v7 k11 a0 v1 v9 h) (k11 [a0, v1, v7, v9] h)
noncomputable def F30_7 (n : Nat) (cl : CL) (a0 : Value) (v1 : Value) (h : PH) : R :=
 vb (abuild Try.prog 116 [(0, a0)]) fun v6 =>
 hb (xBox v6 h) fun v7 h =>
 hb (cl 55 [v7, (vN 0)] h) fun v8 h =>
 hb (xAlloc (zcells Try.prog 57) h) fun v9 h =>
 hb (xStA 6 v9 v8 h) fun _ h =>
 jn (F30_5 n cl) (F30_6 n cl v7 a0 v1 v9 h)
noncomputable def F30 (n : Nat) (cl : CL) (a0 : Value) (h : PH) : R :=
 hb (xAlloc (zcells Try.prog 57) h) fun v1 h =>
 vb (xLenT a0) fun v2 =>
 vb (xCmp (fun x y => ilt y x) v2 (vN 200)) fun v3 =>
 bite v3 (F30_0 n cl v1 h) (F30_7 n cl a0 v1 h)
noncomputable def D30 (n : Nat) (cl : CL) : CL := fun f xs h => sw f 56 (ucons xs fun b0 xs => u0 xs (F56 n cl b0 h)) (sw f 57 (ucons xs fun b0 xs => ucons xs fun b1 xs => ucons xs fun b2 xs => u0 xs (F57 n cl b0 b1 b2 h)) (cl f xs h))
theorem Dk30 {n : Nat} {cl : CL} (hcl : OkCL Try.prog cl) : OkCL Try.prog (D30 n cl) := by
  intro f xs h v h' hx
  rcases sw_ok hx with ⟨rfl, hx⟩ | hx
  · obtain ⟨_, _, rfl, hx⟩ := ucons_ok hx; obtain ⟨rfl, hx⟩ := u0_ok hx; exact S56 (n := n) (cl := cl) hcl hx
  rcases sw_ok hx with ⟨rfl, hx⟩ | hx
  · obtain ⟨_, _, rfl, hx⟩ := ucons_ok hx; obtain ⟨_, _, rfl, hx⟩ := ucons_ok hx; obtain ⟨_, _, rfl, hx⟩ := ucons_ok hx; obtain ⟨rfl, hx⟩ := u0_ok hx; exact S57 (n := n) (cl := cl) hcl hx
  exact hcl _ _ _ _ _ hx
theorem E30 (n : Nat) (cl : CL) (a0 : Value) (h : PH) : exF Try.prog n (D30 n cl) ⟨[56], [], [(7, [0, 2, 5, 6])], [(8, [0, 1, 2, 3, 5, 6, 7, 4, 8, 9, 10, 11])], [(8, [4, 8, 9])], [], []⟩ Try.f30 [a0] h = F30 n cl a0 h := by kernel_rfl
theorem S30 {n : Nat} {cl : CL} (hcl : OkCL Try.prog cl) {a0 : Value} {h h' : PH} {v : Value} (hx : F30 n cl a0 h = some (v, h')) : (enterable Try.prog 30 = true ∧ ACall Try.prog 30 [a0] h.abs (fun u k => u = v ∧ k = h'.abs)) ∧ Inv h h' :=
  exF_ok (Dk30 hcl) hmx Try.func30 (by kernel_rfl) ((E30 n cl a0 h).trans hx)
-- undergrowth/undergrowthref1.places
noncomputable def F53_0 (n : Nat) (cl : CL) (v14 : Value) (v18 : Value) (v16 : Value) (r13 : Kt) (h : PH) : R :=
 vb (xFld 5 v14) fun v35 =>
 vb (xLd v35 h) fun v36 =>
 vb (xIdxS 6 v36 v18) fun v37 =>
 vb (xLdA 6 v37 h) fun v38 =>
 vb (pcall (cl 53 [v38] (h.fzn))) fun v39 =>
 vb (xAri Int.add v16 v39) fun v40 =>
 vb (xAri Int.add v18 (vN 1)) fun v41 =>
 r13 [v14, v40, v41] h
noncomputable def F53_1 (n : Nat) (cl : CL) (v14 : Value) (v18 : Value) (v16 : Value) (r13 : Kt) (h : PH) : R :=
 vb (xFld 5 v14) fun v20 =>
 vb (xLd v20 h) fun v21 =>
 vb (xLenS v21) fun v22 =>
 vb (xCmp ilt v18 v22) fun v23 =>
 vb (gd (isB true v23) (some v18)) fun v24 =>
 vb (gd (isB true v23) (xCmp ieq v24 (vN 0))) fun v25 =>
 vb (gd (isB true v23) (some v25)) fun v26 =>
 vb (gd (isB false v26) (xFld 0 v14)) fun v27 =>
 vb (gd (isB false v26) (xLd v27 h)) fun v28 =>
 vb (gd (isB false v26) (xCmp ile v28 (vN 3))) fun v29 =>
 vb (gd (isB true v23) (xPick v26 tt v29)) fun v30 =>
 vb (xPick v23 v30 ff) fun v31 =>
 vb (gd (isB true v31) (some v16)) fun v32 =>
 vb (gd (isB true v31) (xCmp ile v32 (vN 150))) fun v33 =>
 vb (xPick v31 v33 ff) fun v34 =>
 bite v34 (F53_0 n cl v14 v18 v16 r13 h) (some (v16, h))
noncomputable def F53_2 (n : Nat) (cl : CL) (r13 : Kt) (y12 : List Value) (h : PH) : R :=
 ucons y12 fun v14 y15 => ucons y15 fun v16 y17 => ucons y17 fun v18 y19 => F53_1 n cl v14 v18 v16 r13 h
noncomputable def F53_3 (n : Nat) (cl : CL) (v1 : Value) (h : PH) : R :=
 vb (xFld 0 v1) fun v5 =>
 vb (xLd v5 h) fun v6 =>
 vb (xCmp ilt v6 (vN 2)) fun v7 =>
 vb (gd (isB false v7) (xFld 0 v1)) fun v8 =>
 vb (gd (isB false v7) (xLd v8 h)) fun v9 =>
 vb (gd (isB false v7) (xCmp (fun x y => ilt y x) v9 (vN 6))) fun v10 =>
 vb (xPick v7 tt v10) fun v11 =>
 bite v11 (some ((vN 0), h)) (lp n (F53_2 n cl) [v1, (vN 0), (vN 0)] h)
noncomputable def F53 (n : Nat) (cl : CL) (a0 : Value) (h : PH) : R :=
 hb (xBox a0 h) fun v1 h =>
 vb (xFld 0 v1) fun v2 =>
 vb (xLd v2 h) fun v3 =>
 vb (xCmp ieq v3 (vN 1)) fun v4 =>
 bite v4 (some ((vN 1), h)) (F53_3 n cl v1 h)
theorem E53 (n : Nat) (cl : CL) (a0 : Value) (h : PH) : exF Try.prog n cl ⟨[53], [], [(7, [1, 3, 4])], [], [], [], []⟩ Try.f53 [a0] h = F53 n cl a0 h := by kernel_rfl
theorem S53 {n : Nat} {cl : CL} (hcl : OkCL Try.prog cl) {a0 : Value} {h h' : PH} {v : Value} (hx : F53 n cl a0 h = some (v, h')) : (enterable Try.prog 53 = true ∧ ACall Try.prog 53 [a0] h.abs (fun u k => u = v ∧ k = h'.abs)) ∧ Inv h h' :=
  exF_ok hcl hmx Try.func53 (by kernel_rfl) ((E53 n cl a0 h).trans hx)
-- undergrowth/undergrowthref1.Deep
noncomputable def F25_0 (n : Nat) (cl : CL) (v36 : Value) (r3 : Kt) (v32 : Value) (v34 : Value) (h : PH) : R :=
 vb (xAri Int.add v36 (vN 1)) fun v38 =>
 r3 [v32, v34, v38] h
noncomputable def F25_1 (n : Nat) (cl : CL) (r3 : Kt) (y30 : List Value) (h : PH) : R :=
 ucons y30 fun v32 y33 => ucons y33 fun v34 y35 => ucons y35 fun v36 y37 => F25_0 n cl v36 r3 v32 v34 h
noncomputable def F25_2 (n : Nat) (cl : CL) (v4 : Value) (v8 : Value) (v6 : Value) (h : PH) (k31 : Kt) : R :=
 vb (xFld 5 v4) fun v39 =>
 vb (xLd v39 h) fun v40 =>
 vb (xIdxS 6 v40 v8) fun v41 =>
 vb (xLdA 6 v41 h) fun v42 =>
 vb (pcall (cl 25 [v42] (h.fzn))) fun v43 =>
 vb (xCmp (fun x y => ilt y x) v43 v6) fun v44 =>
 bite v44 (k31 [v4, v43, v8] h) (k31 [v4, v6, v8] h)
noncomputable def F25_3 (n : Nat) (cl : CL) (v6 : Value) (h : PH) : R :=
 vb (xAri Int.add v6 (vN 1)) fun v45 =>
 some (v45, h)
noncomputable def F25_4 (n : Nat) (cl : CL) (v4 : Value) (v8 : Value) (r3 : Kt) (v6 : Value) (h : PH) : R :=
 vb (xFld 5 v4) fun v10 =>
 vb (xLd v10 h) fun v11 =>
 vb (xLenS v11) fun v12 =>
 vb (xCmp ilt v8 v12) fun v13 =>
 vb (gd (isB true v13) (xFld 0 v4)) fun v14 =>
 vb (gd (isB true v13) (xLd v14 h)) fun v15 =>
 vb (gd (isB true v13) (xCmp (fun x y => ile y x) v15 (vN 2))) fun v16 =>
 vb (xPick v13 v16 ff) fun v17 =>
 vb (gd (isB true v17) (xFld 0 v4)) fun v18 =>
 vb (gd (isB true v17) (xLd v18 h)) fun v19 =>
 vb (gd (isB true v17) (xCmp ile v19 (vN 6))) fun v20 =>
 vb (xPick v17 v20 ff) fun v21 =>
 vb (gd (isB true v21) (some v8)) fun v22 =>
 vb (gd (isB true v21) (xCmp ieq v22 (vN 0))) fun v23 =>
 vb (gd (isB true v21) (some v23)) fun v24 =>
 vb (gd (isB false v24) (xFld 0 v4)) fun v25 =>
 vb (gd (isB false v24) (xLd v25 h)) fun v26 =>
 vb (gd (isB false v24) (xCmp ile v26 (vN 3))) fun v27 =>
 vb (gd (isB true v21) (xPick v24 tt v27)) fun v28 =>
 vb (xPick v21 v28 ff) fun v29 =>
 bite v29 (jn (F25_1 n cl r3) (F25_2 n cl v4 v8 v6 h)) (F25_3 n cl v6 h)
noncomputable def F25_5 (n : Nat) (cl : CL) (r3 : Kt) (y2 : List Value) (h : PH) : R :=
 ucons y2 fun v4 y5 => ucons y5 fun v6 y7 => ucons y7 fun v8 y9 => F25_4 n cl v4 v8 r3 v6 h
noncomputable def F25 (n : Nat) (cl : CL) (a0 : Value) (h : PH) : R :=
 hb (xBox a0 h) fun v1 h =>
 lp n (F25_5 n cl) [v1, (vN 0), (vN 0)] h
theorem E25 (n : Nat) (cl : CL) (a0 : Value) (h : PH) : exF Try.prog n cl ⟨[25], [], [(3, [1, 3, 4]), (4, [1, 3, 4])], [], [], [], []⟩ Try.f25 [a0] h = F25 n cl a0 h := by kernel_rfl
theorem S25 {n : Nat} {cl : CL} (hcl : OkCL Try.prog cl) {a0 : Value} {h h' : PH} {v : Value} (hx : F25 n cl a0 h = some (v, h')) : (enterable Try.prog 25 = true ∧ ACall Try.prog 25 [a0] h.abs (fun u k => u = v ∧ k = h'.abs)) ∧ Inv h h' :=
  exF_ok hcl hmx Try.func25 (by kernel_rfl) ((E25 n cl a0 h).trans hx)
-- undergrowth/undergrowthref1.union
noncomputable def F45_0 (n : Nat) (cl : CL) (v3 : Value) (v9 : Value) (v7 : Value) (r2 : Kt) (v5 : Value) (v11 : Value) (h : PH) : R :=
 vb (xIdxS 1 v3 v9) fun v38 =>
 vb (xLd v38 h) fun v39 =>
 hb (xBS 1 (bsRow Try.prog 28 1 [(0, v39)]) h) fun v40 h =>
 hb (xApp (appInfo Try.prog #[28, 28]) v7 v40 h) fun v41 h =>
 vb (xAri Int.add v9 (vN 1)) fun v42 =>
 r2 [v3, v5, v41, v42, v11] h
noncomputable def F45_1 (n : Nat) (cl : CL) (v5 : Value) (v11 : Value) (v7 : Value) (r2 : Kt) (v3 : Value) (v9 : Value) (h : PH) : R :=
 vb (xIdxS 1 v5 v11) fun v55 =>
 vb (xLd v55 h) fun v56 =>
 hb (xBS 1 (bsRow Try.prog 28 1 [(0, v56)]) h) fun v57 h =>
 hb (xApp (appInfo Try.prog #[28, 28]) v7 v57 h) fun v58 h =>
 vb (xAri Int.add v11 (vN 1)) fun v59 =>
 r2 [v3, v5, v58, v9, v59] h
noncomputable def F45_2 (n : Nat) (cl : CL) (v3 : Value) (v9 : Value) (v7 : Value) (v11 : Value) (r2 : Kt) (v5 : Value) (h : PH) : R :=
 vb (xIdxS 1 v3 v9) fun v60 =>
 vb (xLd v60 h) fun v61 =>
 hb (xBS 1 (bsRow Try.prog 28 1 [(0, v61)]) h) fun v62 h =>
 hb (xApp (appInfo Try.prog #[28, 28]) v7 v62 h) fun v63 h =>
 vb (xAri Int.add v9 (vN 1)) fun v64 =>
 vb (xAri Int.add v11 (vN 1)) fun v65 =>
 r2 [v3, v5, v63, v64, v65] h
noncomputable def F45_3 (n : Nat) (cl : CL) (v3 : Value) (v9 : Value) (v5 : Value) (v11 : Value) (v7 : Value) (r2 : Kt) (h : PH) : R :=
 vb (xLenS v3) fun v43 =>
 vb (xCmp (fun x y => ile y x) v9 v43) fun v44 =>
 vb (gd (isB false v44) (some v5)) fun v45 =>
 vb (gd (isB false v44) (some v11)) fun v46 =>
 vb (gd (isB false v44) (xIdxS 1 v45 v46)) fun v47 =>
 vb (gd (isB false v44) (some v3)) fun v48 =>
 vb (gd (isB false v44) (some v9)) fun v49 =>
 vb (gd (isB false v44) (xIdxS 1 v48 v49)) fun v50 =>
 vb (gd (isB false v44) (xLd v47 h)) fun v51 =>
 vb (gd (isB false v44) (xLd v50 h)) fun v52 =>
 vb (gd (isB false v44) (xCmp ilt v51 v52)) fun v53 =>
 vb (xPick v44 tt v53) fun v54 =>
 bite v54 (F45_1 n cl v5 v11 v7 r2 v3 v9 h) (F45_2 n cl v3 v9 v7 v11 r2 v5 h)
noncomputable def F45_4 (n : Nat) (cl : CL) (v5 : Value) (v11 : Value) (v9 : Value) (v3 : Value) (v7 : Value) (r2 : Kt) (h : PH) : R :=
 vb (xLenS v5) fun v20 =>
 vb (xCmp (fun x y => ile y x) v11 v20) fun v21 =>
 vb (gd (isB false v21) (some v9)) fun v22 =>
 vb (gd (isB false v21) (some v3)) fun v23 =>
 vb (gd (isB false v21) (xLenS v23)) fun v24 =>
 vb (gd (isB false v21) (xCmp ilt v22 v24)) fun v25 =>
 vb (gd (isB false v21) (some v25)) fun v26 =>
 vb (gd (isB true v26) (some v3)) fun v27 =>
 vb (gd (isB true v26) (some v9)) fun v28 =>
 vb (gd (isB true v26) (xIdxS 1 v27 v28)) fun v29 =>
 vb (gd (isB true v26) (some v5)) fun v30 =>
 vb (gd (isB true v26) (some v11)) fun v31 =>
 vb (gd (isB true v26) (xIdxS 1 v30 v31)) fun v32 =>
 vb (gd (isB true v26) (xLd v29 h)) fun v33 =>
 vb (gd (isB true v26) (xLd v32 h)) fun v34 =>
 vb (gd (isB true v26) (xCmp ilt v33 v34)) fun v35 =>
 vb (gd (isB false v21) (xPick v26 v35 ff)) fun v36 =>
 vb (xPick v21 tt v36) fun v37 =>
 bite v37 (F45_0 n cl v3 v9 v7 r2 v5 v11 h) (F45_3 n cl v3 v9 v5 v11 v7 r2 h)
noncomputable def F45_5 (n : Nat) (cl : CL) (v3 : Value) (v9 : Value) (v11 : Value) (v5 : Value) (v7 : Value) (r2 : Kt) (h : PH) : R :=
 vb (xLenS v3) fun v13 =>
 vb (xCmp ilt v9 v13) fun v14 =>
 vb (gd (isB false v14) (some v11)) fun v15 =>
 vb (gd (isB false v14) (some v5)) fun v16 =>
 vb (gd (isB false v14) (xLenS v16)) fun v17 =>
 vb (gd (isB false v14) (xCmp ilt v15 v17)) fun v18 =>
 vb (xPick v14 tt v18) fun v19 =>
 bite v19 (F45_4 n cl v5 v11 v9 v3 v7 r2 h) (some (v7, h))
noncomputable def F45_6 (n : Nat) (cl : CL) (r2 : Kt) (y1 : List Value) (h : PH) : R :=
 ucons y1 fun v3 y4 => ucons y4 fun v5 y6 => ucons y6 fun v7 y8 => ucons y8 fun v9 y10 => ucons y10 fun v11 y12 => F45_5 n cl v3 v9 v11 v5 v7 r2 h
noncomputable def F45 (n : Nat) (cl : CL) (a0 a1 : Value) (h : PH) : R :=
 lp n (F45_6 n cl) [a0, a1, nils, (vN 0), (vN 0)] h
theorem E45 (n : Nat) (cl : CL) (a0 a1 : Value) (h : PH) : exF Try.prog n cl ⟨[], [], [(4, [0, 1, 5, 6, 7])], [(8, [0, 1, 2, 3, 4, 5, 6, 7, 8, 9, 10, 11, 12, 14, 15, 16, 13, 17, 18, 19, 20, 21]), (11, [0, 1, 2, 3, 4, 5, 6, 7, 9, 10, 11, 8, 12, 13, 14, 15])], [], [], []⟩ Try.f45 [a0, a1] h = F45 n cl a0 a1 h := by kernel_rfl
theorem S45 {n : Nat} {cl : CL} (hcl : OkCL Try.prog cl) {a0 a1 : Value} {h h' : PH} {v : Value} (hx : F45 n cl a0 a1 h = some (v, h')) : (enterable Try.prog 45 = true ∧ ACall Try.prog 45 [a0, a1] h.abs (fun u k => u = v ∧ k = h'.abs)) ∧ Inv h h' :=
  exF_ok hcl hmx Try.func45 (by kernel_rfl) ((E45 n cl a0 a1 h).trans hx)
-- (*undergrowth/undergrowthref1.maker).link
noncomputable def F81_0 (n : Nat) (cl : CL) (v3 : Value) (v5 : Value) (v9 : Value) (v7 : Value) (r2 : Kt) (h : PH) : R :=
 vb (xNil v3) fun v13 =>
 vb (xFld 0 v13) fun v14 =>
 vb (xFld 4 v14) fun v15 =>
 vb (xIdxS 1 v5 v9) fun v16 =>
 vb (xNil v3) fun v17 =>
 vb (xFld 0 v17) fun v18 =>
 vb (xFld 4 v18) fun v19 =>
 vb (xIdxS 1 v5 v9) fun v20 =>
 vb (xLd v15 h) fun v21 =>
 vb (xLd v16 h) fun v22 =>
 vb (xLd v19 h) fun v23 =>
 vb (xLd v20 h) fun v24 =>
 vb (xIdxS 1 v23 v24) fun v25 =>
 vb (xLd v25 h) fun v26 =>
 hb (fcall h (F45 n cl v26 v7 (h.fzn))) fun v27 h =>
 lchk (xLd v15 h) v21 <|
 lchk (xLd v16 h) v22 <|
 vb (xIdxS 1 v21 v22) fun v28 =>
 hb (xSt1 v28 v27 h) fun _ h =>
 vb (xAri Int.add v9 (vN 1)) fun v29 =>
 r2 [v3, v5, v7, v29] h
noncomputable def F81_1 (n : Nat) (cl : CL) (v5 : Value) (v9 : Value) (v3 : Value) (v7 : Value) (r2 : Kt) (h : PH) : R :=
 vb (xLenS v5) fun v11 =>
 vb (xCmp ilt v9 v11) fun v12 =>
 bite v12 (F81_0 n cl v3 v5 v9 v7 r2 h) (some (Value.tuple ⟨[]⟩, h))
noncomputable def F81_2 (n : Nat) (cl : CL) (r2 : Kt) (y1 : List Value) (h : PH) : R :=
 ucons y1 fun v3 y4 => ucons y4 fun v5 y6 => ucons y6 fun v7 y8 => ucons y8 fun v9 y10 => F81_1 n cl v5 v9 v3 v7 r2 h
noncomputable def F81 (n : Nat) (cl : CL) (a0 a1 a2 : Value) (h : PH) : R :=
 lp n (F81_2 n cl) [a0, a1, a2, (vN 0)] h
noncomputable def D81 (n : Nat) (cl : CL) : CL := fun f xs h => sw f 45 (ucons xs fun b0 xs => ucons xs fun b1 xs => u0 xs (F45 n cl b0 b1 h)) (cl f xs h)
theorem Dk81 {n : Nat} {cl : CL} (hcl : OkCL Try.prog cl) : OkCL Try.prog (D81 n cl) := by
  intro f xs h v h' hx
  rcases sw_ok hx with ⟨rfl, hx⟩ | hx
  · obtain ⟨_, _, rfl, hx⟩ := ucons_ok hx; obtain ⟨_, _, rfl, hx⟩ := ucons_ok hx; obtain ⟨rfl, hx⟩ := u0_ok hx; exact S45 (n := n) (cl := cl) hcl hx
  exact hcl _ _ _ _ _ hx
theorem E81 (n : Nat) (cl : CL) (a0 a1 a2 : Value) (h : PH) : exF Try.prog n (D81 n cl) ⟨[], [45], [(1, [0, 1, 2, 6])], [(3, [0, 1, 2, 3, 5, 6, 7, 9, 10, 11, 12, 14, 15, 16, 20, 4, 8, 13, 17, 18, 19, 21, 22, 23])], [(3, [4, 8, 21])], [], []⟩ Try.f81 [a0, a1, a2] h = F81 n cl a0 a1 a2 h := by kernel_rfl
theorem S81 {n : Nat} {cl : CL} (hcl : OkCL Try.prog cl) {a0 a1 a2 : Value} {h h' : PH} {v : Value} (hx : F81 n cl a0 a1 a2 h = some (v, h')) : (enterable Try.prog 81 = true ∧ ACall Try.prog 81 [a0, a1, a2] h.abs (fun u k => u = v ∧ k = h'.abs)) ∧ Inv h h' :=
  exF_ok (Dk81 hcl) hmx Try.func81 (by kernel_rfl) ((E81 n cl a0 a1 a2 h).trans hx)
-- (*undergrowth/undergrowthref1.maker).walk
noncomputable def F54_0 (n : Nat) (cl : CL) (v65 : Value) (v69 : Value) (v67 : Value) (r17 : Kt) (v59 : Value) (v61 : Value) (v63 : Value) (h : PH) : R :=
 vb (xFld 0 v65) fun v71 =>
 vb (xLd v71 h) fun v72 =>
 vb (gd (isB true v72) (xFld 0 v69)) fun v73 =>
 vb (gd (isB true v72) (xLd v73 h)) fun v74 =>
 vb (xPick v72 v74 ff) fun v75 =>
 vb (xFld 0 v65) fun v76 =>
 hb (xSt1 v76 v75 h) fun _ h =>
 vb (xAri Int.add v67 (vN 1)) fun v77 =>
 r17 [v59, v61, v63, v65, v77] h
noncomputable def F54_1 (n : Nat) (cl : CL) (v51 : Value) (v55 : Value) (k58 : Kt) (v45 : Value) (v47 : Value) (v49 : Value) (v53 : Value) (h : PH) : R :=
 vb (xFld 2 v51) fun v80 =>
 vb (xLd v80 h) fun v81 =>
 vb (xFld 2 v55) fun v82 =>
 vb (xLd v82 h) fun v83 =>
 hb (fcall h (F45 n cl v81 v83 (h.fzn))) fun v84 h =>
 vb (xFld 2 v51) fun v85 =>
 hb (xSt1 v85 v84 h) fun _ h =>
 k58 [v45, v47, v49, v51, v53, v55] h
noncomputable def F54_2 (n : Nat) (cl : CL) (v55 : Value) (v51 : Value) (k58 : Kt) (v45 : Value) (v47 : Value) (v49 : Value) (v53 : Value) (h : PH) : R :=
 vb (xFld 2 v55) fun v86 =>
 vb (xLd v86 h) fun v87 =>
 vb (xFld 2 v51) fun v88 =>
 hb (xSt1 v88 v87 h) fun _ h =>
 k58 [v45, v47, v49, v51, v53, v55] h
noncomputable def F54_3 (n : Nat) (cl : CL) (r17 : Kt) (y57 : List Value) (h : PH) : R :=
 ucons y57 fun v59 y60 => ucons y60 fun v61 y62 => ucons y62 fun v63 y64 => ucons y64 fun v65 y66 => ucons y66 fun v67 y68 => ucons y68 fun v69 y70 => F54_0 n cl v65 v69 v67 r17 v59 v61 v63 h
noncomputable def F54_4 (n : Nat) (cl : CL) (v55 : Value) (v51 : Value) (v45 : Value) (v47 : Value) (v49 : Value) (v53 : Value) (h : PH) (k58 : Kt) : R :=
 vb (xFld 0 v55) fun v78 =>
 vb (xLd v78 h) fun v79 =>
 bite v79 (F54_1 n cl v51 v55 k58 v45 v47 v49 v53 h) (F54_2 n cl v55 v51 k58 v45 v47 v49 v53 h)
noncomputable def F54_5 (n : Nat) (cl : CL) (v24 : Value) (v37 : Value) (k44 : Kt) (v18 : Value) (v20 : Value) (v22 : Value) (v26 : Value) (h : PH) : R :=
 vb (xFld 1 v24) fun v91 =>
 vb (xLd v91 h) fun v92 =>
 vb (xFld 1 v37) fun v93 =>
 vb (xLd v93 h) fun v94 =>
 hb (fcall h (F45 n cl v92 v94 (h.fzn))) fun v95 h =>
 vb (xFld 1 v24) fun v96 =>
 hb (xSt1 v96 v95 h) fun _ h =>
 k44 [v18, v20, v22, v24, v26, v37] h
noncomputable def F54_6 (n : Nat) (cl : CL) (r17 : Kt) (y43 : List Value) (h : PH) : R :=
 ucons y43 fun v45 y46 => ucons y46 fun v47 y48 => ucons y48 fun v49 y50 => ucons y50 fun v51 y52 => ucons y52 fun v53 y54 => ucons y54 fun v55 y56 => jn (F54_3 n cl r17) (F54_4 n cl v55 v51 v45 v47 v49 v53 h)
noncomputable def F54_7 (n : Nat) (cl : CL) (v24 : Value) (v37 : Value) (v18 : Value) (v20 : Value) (v22 : Value) (v26 : Value) (h : PH) (k44 : Kt) : R :=
 vb (xFld 0 v24) fun v89 =>
 vb (xLd v89 h) fun v90 =>
 bite v90 (F54_5 n cl v24 v37 k44 v18 v20 v22 v26 h) (k44 [v18, v20, v22, v24, v26, v37] h)
noncomputable def F54_8 (n : Nat) (cl : CL) (v20 : Value) (v26 : Value) (v18 : Value) (v24 : Value) (r17 : Kt) (v22 : Value) (h : PH) : R :=
 vb (xFld 5 v20) fun v32 =>
 vb (xLd v32 h) fun v33 =>
 vb (xIdxS 6 v33 v26) fun v34 =>
 vb (xLdA 6 v34 h) fun v35 =>
 hb (cl 54 [v18, v35] h) fun v36 h =>
 hb (xAlloc (zcells Try.prog 112) h) fun v37 h =>
 hb (xStA 3 v37 v36 h) fun _ h =>
 vb (xFld 2 v24) fun v38 =>
 vb (xLd v38 h) fun v39 =>
 vb (xFld 1 v37) fun v40 =>
 vb (xLd v40 h) fun v41 =>
 hb (F81 n cl v18 v39 v41 h) fun v42 h =>
 jn (F54_6 n cl r17) (F54_7 n cl v24 v37 v18 v20 v22 v26 h)
noncomputable def F54_9 (n : Nat) (cl : CL) (v24 : Value) (v22 : Value) (h : PH) : R :=
 vb (xLdA 3 v24 h) fun v97 =>
 hb (xStA 3 v22 v97 h) fun _ h =>
 vb (xLdA 3 v22 h) fun v98 => some (v98, h)
noncomputable def F54_10 (n : Nat) (cl : CL) (v20 : Value) (v26 : Value) (v18 : Value) (v24 : Value) (r17 : Kt) (v22 : Value) (h : PH) : R :=
 vb (xFld 5 v20) fun v28 =>
 vb (xLd v28 h) fun v29 =>
 vb (xLenS v29) fun v30 =>
 vb (xCmp ilt v26 v30) fun v31 =>
 bite v31 (F54_8 n cl v20 v26 v18 v24 r17 v22 h) (F54_9 n cl v24 v22 h)
noncomputable def F54_11 (n : Nat) (cl : CL) (r17 : Kt) (y16 : List Value) (h : PH) : R :=
 ucons y16 fun v18 y19 => ucons y19 fun v20 y21 => ucons y21 fun v22 y23 => ucons y23 fun v24 y25 => ucons y25 fun v26 y27 => F54_10 n cl v20 v26 v18 v24 r17 v22 h
noncomputable def F54_12 (n : Nat) (cl : CL) (v5 : Value) (v7 : Value) (v9 : Value) (h : PH) : R :=
 vb (abuild Try.prog 112 [(0, tt)]) fun v14 =>
 hb (xAlloc (zcells Try.prog 112) h) fun v15 h =>
 hb (xStA 3 v15 v14 h) fun _ h =>
 lp n (F54_11 n cl) [v5, v7, v9, v15, (vN 0)] h
noncomputable def F54_13 (n : Nat) (cl : CL) (v105 : Value) (v111 : Value) (v103 : Value) (v109 : Value) (r102 : Kt) (v107 : Value) (h : PH) : R :=
 vb (xFld 5 v105) fun v117 =>
 vb (xLd v117 h) fun v118 =>
 vb (xIdxS 6 v118 v111) fun v119 =>
 vb (xLdA 6 v119 h) fun v120 =>
 hb (cl 54 [v103, v120] h) fun v121 h =>
 hb (xAlloc (zcells Try.prog 112) h) fun v122 h =>
 hb (xStA 3 v122 v121 h) fun _ h =>
 vb (xFld 1 v109) fun v123 =>
 vb (xLd v123 h) fun v124 =>
 vb (xFld 1 v122) fun v125 =>
 vb (xLd v125 h) fun v126 =>
 hb (fcall h (F45 n cl v124 v126 (h.fzn))) fun v127 h =>
 vb (xFld 1 v109) fun v128 =>
 hb (xSt1 v128 v127 h) fun _ h =>
 vb (xFld 2 v109) fun v129 =>
 vb (xLd v129 h) fun v130 =>
 vb (xFld 2 v122) fun v131 =>
 vb (xLd v131 h) fun v132 =>
 hb (fcall h (F45 n cl v130 v132 (h.fzn))) fun v133 h =>
 vb (xFld 2 v109) fun v134 =>
 hb (xSt1 v134 v133 h) fun _ h =>
 vb (xFld 0 v109) fun v135 =>
 vb (xLd v135 h) fun v136 =>
 vb (gd (isB false v136) (xFld 0 v122)) fun v137 =>
 vb (gd (isB false v136) (xLd v137 h)) fun v138 =>
 vb (xPick v136 tt v138) fun v139 =>
 vb (xFld 0 v109) fun v140 =>
 hb (xSt1 v140 v139 h) fun _ h =>
 vb (xAri Int.add v111 (vN 1)) fun v141 =>
 r102 [v103, v105, v107, v109, v141] h
noncomputable def F54_14 (n : Nat) (cl : CL) (v109 : Value) (v107 : Value) (h : PH) : R :=
 vb (xLdA 3 v109 h) fun v142 =>
 hb (xStA 3 v107 v142 h) fun _ h =>
 vb (xLdA 3 v107 h) fun v143 => some (v143, h)
noncomputable def F54_15 (n : Nat) (cl : CL) (v105 : Value) (v111 : Value) (v103 : Value) (v109 : Value) (r102 : Kt) (v107 : Value) (h : PH) : R :=
 vb (xFld 5 v105) fun v113 =>
 vb (xLd v113 h) fun v114 =>
 vb (xLenS v114) fun v115 =>
 vb (xCmp ilt v111 v115) fun v116 =>
 bite v116 (F54_13 n cl v105 v111 v103 v109 r102 v107 h) (F54_14 n cl v109 v107 h)
noncomputable def F54_16 (n : Nat) (cl : CL) (r102 : Kt) (y101 : List Value) (h : PH) : R :=
 ucons y101 fun v103 y104 => ucons y104 fun v105 y106 => ucons y106 fun v107 y108 => ucons y108 fun v109 y110 => ucons y110 fun v111 y112 => F54_15 n cl v105 v111 v103 v109 r102 v107 h
noncomputable def F54_17 (n : Nat) (cl : CL) (v5 : Value) (v7 : Value) (v9 : Value) (h : PH) : R :=
 hb (xAlloc (zcells Try.prog 112) h) fun v100 h =>
 lp n (F54_16 n cl) [v5, v7, v9, v100, (vN 0)] h
noncomputable def F54_18 (n : Nat) (cl : CL) (v150 : Value) (h : PH) : R :=
 vb (abuild Try.prog 112 [(0, tt)]) fun v158 =>
 hb (xStA 3 v150 v158 h) fun _ h =>
 vb (xLdA 3 v150 h) fun v159 => some (v159, h)
noncomputable def F54_19 (n : Nat) (cl : CL) (v178 : Value) (v176 : Value) (h : PH) : R :=
 vb (xLdA 3 v178 h) fun v180 =>
 hb (xStA 3 v176 v180 h) fun _ h =>
 vb (xLdA 3 v176 h) fun v181 => some (v181, h)
noncomputable def F54_20 (n : Nat) (cl : CL) (v172 : Value) (k175 : Kt) (v170 : Value) (h : PH) : R :=
 vb (xFld 0 v172) fun v185 =>
 hb (xSt1 v185 tt h) fun _ h =>
 k175 [v170, v172] h
noncomputable def F54_21 (n : Nat) (cl : CL) (v168 : Value) (v172 : Value) (v170 : Value) (h : PH) (k175 : Kt) : R :=
 vb (xFld 0 v168) fun v182 =>
 vb (xLd v182 h) fun v183 =>
 vb (xCmp ine v183 (vN 5)) fun v184 =>
 bite v184 (F54_20 n cl v172 k175 v170 h) (k175 [v170, v172] h)
noncomputable def F54_22 (n : Nat) (cl : CL) (v168 : Value) (v172 : Value) (v170 : Value) (h : PH) : R :=
 jn (fun y174 h => ucons y174 fun v176 y177 => ucons y177 fun v178 y179 => F54_19 n cl v178 v176 h) (F54_21 n cl v168 v172 v170 h)
noncomputable def F54_23 (n : Nat) (cl : CL) (v165 : Value) (v146 : Value) (k167 : Kt) (v148 : Value) (v150 : Value) (h : PH) : R :=
 vb (xFld 2 v165) fun v189 =>
 vb (xLd v189 h) fun v190 =>
 vb (xFld 1 v165) fun v191 =>
 vb (xLd v191 h) fun v192 =>
 hb (F81 n cl v146 v190 v192 h) fun v193 h =>
 k167 [v148, v150, v165] h
noncomputable def F54_24 (n : Nat) (cl : CL) (y166 : List Value) (h : PH) : R :=
 ucons y166 fun v168 y169 => ucons y169 fun v170 y171 => ucons y171 fun v172 y173 => F54_22 n cl v168 v172 v170 h
noncomputable def F54_25 (n : Nat) (cl : CL) (v148 : Value) (v165 : Value) (v146 : Value) (v150 : Value) (h : PH) (k167 : Kt) : R :=
 vb (xFld 0 v148) fun v186 =>
 vb (xLd v186 h) fun v187 =>
 vb (xCmp ine v187 (vN 6)) fun v188 =>
 bite v188 (F54_23 n cl v165 v146 k167 v148 v150 h) (k167 [v148, v150, v165] h)
noncomputable def F54_26 (n : Nat) (cl : CL) (v148 : Value) (v146 : Value) (v150 : Value) (h : PH) : R :=
 vb (xFld 5 v148) fun v160 =>
 vb (xLd v160 h) fun v161 =>
 vb (xIdxS 6 v161 (vN 0)) fun v162 =>
 vb (xLdA 6 v162 h) fun v163 =>
 hb (cl 54 [v146, v163] h) fun v164 h =>
 hb (xAlloc (zcells Try.prog 112) h) fun v165 h =>
 hb (xStA 3 v165 v164 h) fun _ h =>
 jn (F54_24 n cl) (F54_25 n cl v148 v165 v146 v150 h)
noncomputable def F54_27 (n : Nat) (cl : CL) (v148 : Value) (v150 : Value) (v146 : Value) (h : PH) : R :=
 vb (xFld 5 v148) fun v154 =>
 vb (xLd v154 h) fun v155 =>
 vb (xLenS v155) fun v156 =>
 vb (xCmp ieq v156 (vN 0)) fun v157 =>
 bite v157 (F54_18 n cl v150 h) (F54_26 n cl v148 v146 v150 h)
noncomputable def F54_28 (n : Nat) (cl : CL) (v150 : Value) (h : PH) : R :=
 vb (abuild Try.prog 112 [(0, tt)]) fun v194 =>
 hb (xStA 3 v150 v194 h) fun _ h =>
 vb (xLdA 3 v150 h) fun v195 => some (v195, h)
noncomputable def F54_29 (n : Nat) (cl : CL) (v12 : Value) (k145 : Kt) (v5 : Value) (v7 : Value) (v9 : Value) (h : PH) : R :=
 vb (xCmp ieq v12 (vN 6)) fun v198 =>
 k145 [v5, v7, v9, v198] h
noncomputable def F54_30 (n : Nat) (cl : CL) (v12 : Value) (k145 : Kt) (v5 : Value) (v7 : Value) (v9 : Value) (h : PH) : R :=
 vb (xCmp ieq v12 (vN 5)) fun v197 =>
 bite v197 (k145 [v5, v7, v9, v197] h) (F54_29 n cl v12 k145 v5 v7 v9 h)
noncomputable def F54_31 (n : Nat) (cl : CL) (y144 : List Value) (h : PH) : R :=
 ucons y144 fun v146 y147 => ucons y147 fun v148 y149 => ucons y149 fun v150 y151 => ucons y151 fun v152 y153 => bite v152 (F54_27 n cl v148 v150 v146 h) (F54_28 n cl v150 h)
noncomputable def F54_32 (n : Nat) (cl : CL) (v12 : Value) (v5 : Value) (v7 : Value) (v9 : Value) (h : PH) (k145 : Kt) : R :=
 vb (xCmp ieq v12 (vN 4)) fun v196 =>
 bite v196 (k145 [v5, v7, v9, v196] h) (F54_30 n cl v12 k145 v5 v7 v9 h)
noncomputable def F54_33 (n : Nat) (cl : CL) (v12 : Value) (v5 : Value) (v7 : Value) (v9 : Value) (h : PH) : R :=
 vb (xCmp ieq v12 (vN 3)) fun v99 =>
 bite v99 (F54_17 n cl v5 v7 v9 h) (jn (F54_31 n cl) (F54_32 n cl v12 v5 v7 v9 h))
noncomputable def F54_34 (n : Nat) (cl : CL) (v7 : Value) (v5 : Value) (v9 : Value) (h : PH) : R :=
 vb (xFld 0 v7) fun v11 =>
 vb (xLd v11 h) fun v12 =>
 vb (xCmp ieq v12 (vN 2)) fun v13 =>
 bite v13 (F54_12 n cl v5 v7 v9 h) (F54_33 n cl v12 v5 v7 v9 h)
noncomputable def F54_35 (n : Nat) (cl : CL) (a0 : Value) (v1 : Value) (v2 : Value) (h : PH) : R :=
 vb (xNil a0) fun v202 =>
 vb (xFld 0 v202) fun v203 =>
 vb (xFld 0 v203) fun v204 =>
 vb (xLd v204 h) fun v205 =>
 vb (xLenS v205) fun v206 =>
 vb (xNil a0) fun v207 =>
 vb (xFld 0 v207) fun v208 =>
 vb (xFld 0 v208) fun v209 =>
 vb (xFld 1 v1) fun v210 =>
 vb (xLd v209 h) fun v211 =>
 vb (xLdA 4 v210 h) fun v212 =>
 hb (xBS 1 (bsRow Try.prog 41 1 [(0, v212)]) h) fun v213 h =>
 hb (xApp (appInfo Try.prog #[41, 41]) v211 v213 h) fun v214 h =>
 vb (xNil a0) fun v215 =>
 vb (xFld 0 v215) fun v216 =>
 vb (xFld 0 v216) fun v217 =>
 hb (xSt1 v217 v214 h) fun _ h =>
 vb (xNil a0) fun v218 =>
 vb (xFld 0 v218) fun v219 =>
 vb (xFld 4 v219) fun v220 =>
 vb (xLd v220 h) fun v221 =>
 hb (xBS 1 (bsRow Try.prog 27 1 [(0, nils)]) h) fun v222 h =>
 hb (xApp (appInfo Try.prog #[27, 27]) v221 v222 h) fun v223 h =>
 vb (xNil a0) fun v224 =>
 vb (xFld 0 v224) fun v225 =>
 vb (xFld 4 v225) fun v226 =>
 hb (xSt1 v226 v223 h) fun _ h =>
 hb (xBS 1 (bsRow Try.prog 28 1 [(0, v206)]) h) fun v227 h =>
 hb (xBS 1 (bsRow Try.prog 28 1 [(0, v206)]) h) fun v228 h =>
 vb (abuild Try.prog 112 [(1, v227), (2, v228)]) fun v229 =>
 hb (xStA 3 v2 v229 h) fun _ h =>
 vb (xLdA 3 v2 h) fun v230 => some (v230, h)
noncomputable def F54_36 (n : Nat) (cl : CL) (v237 : Value) (h : PH) : R :=
 vb (abuild Try.prog 112 [(0, tt)]) fun v245 =>
 hb (xStA 3 v237 v245 h) fun _ h =>
 vb (xLdA 3 v237 h) fun v246 => some (v246, h)
noncomputable def F54_37 (n : Nat) (cl : CL) (v235 : Value) (v237 : Value) (k4 : Kt) (v233 : Value) (h : PH) : R :=
 vb (xFld 5 v235) fun v241 =>
 vb (xLd v241 h) fun v242 =>
 vb (xLenS v242) fun v243 =>
 vb (xCmp ieq v243 (vN 0)) fun v244 =>
 bite v244 (F54_36 n cl v237 h) (k4 [v233, v235, v237] h)
noncomputable def F54_38 (n : Nat) (cl : CL) (v200 : Value) (k232 : Kt) (a0 : Value) (v1 : Value) (v2 : Value) (h : PH) : R :=
 vb (xCmp ieq v200 (vN 3)) fun v248 =>
 k232 [a0, v1, v2, v248] h
noncomputable def F54_39 (n : Nat) (cl : CL) (k4 : Kt) (y231 : List Value) (h : PH) : R :=
 ucons y231 fun v233 y234 => ucons y234 fun v235 y236 => ucons y236 fun v237 y238 => ucons y238 fun v239 y240 => bite v239 (F54_37 n cl v235 v237 k4 v233 h) (k4 [v233, v235, v237] h)
noncomputable def F54_40 (n : Nat) (cl : CL) (v200 : Value) (a0 : Value) (v1 : Value) (v2 : Value) (h : PH) (k232 : Kt) : R :=
 vb (xCmp ieq v200 (vN 2)) fun v247 =>
 bite v247 (k232 [a0, v1, v2, v247] h) (F54_38 n cl v200 k232 a0 v1 v2 h)
noncomputable def F54_41 (n : Nat) (cl : CL) (v1 : Value) (a0 : Value) (v2 : Value) (h : PH) (k4 : Kt) : R :=
 vb (xFld 0 v1) fun v199 =>
 vb (xLd v199 h) fun v200 =>
 vb (xCmp ieq v200 (vN 1)) fun v201 =>
 bite v201 (F54_35 n cl a0 v1 v2 h) (jn (F54_39 n cl k4) (F54_40 n cl v200 a0 v1 v2 h))
noncomputable def F54 (n : Nat) (cl : CL) (a0 a1 : Value) (h : PH) : R :=
 hb (xBox a1 h) fun v1 h =>
 hb (xAlloc (zcells Try.prog 112) h) fun v2 h =>
 jn (fun y3 h => ucons y3 fun v5 y6 => ucons y6 fun v7 y8 => ucons y8 fun v9 y10 => F54_34 n cl v7 v5 v9 h) (F54_41 n cl v1 a0 v2 h)
noncomputable def D54 (n : Nat) (cl : CL) : CL := fun f xs h => sw f 81 (ucons xs fun b0 xs => ucons xs fun b1 xs => ucons xs fun b2 xs => u0 xs (F81 n cl b0 b1 b2 h)) (sw f 45 (ucons xs fun b0 xs => ucons xs fun b1 xs => u0 xs (F45 n cl b0 b1 h)) (cl f xs h))
theorem Dk54 {n : Nat} {cl : CL} (hcl : OkCL Try.prog cl) : OkCL Try.prog (D54 n cl) := by
  intro f xs h v h' hx
  rcases sw_ok hx with ⟨rfl, hx⟩ | hx
  · obtain ⟨_, _, rfl, hx⟩ := ucons_ok hx; obtain ⟨_, _, rfl, hx⟩ := ucons_ok hx; obtain ⟨_, _, rfl, hx⟩ := ucons_ok hx; obtain ⟨rfl, hx⟩ := u0_ok hx; exact S81 (n := n) (cl := cl) hcl hx
  rcases sw_ok hx with ⟨rfl, hx⟩ | hx
  · obtain ⟨_, _, rfl, hx⟩ := ucons_ok hx; obtain ⟨_, _, rfl, hx⟩ := ucons_ok hx; obtain ⟨rfl, hx⟩ := u0_ok hx; exact S45 (n := n) (cl := cl) hcl hx
  exact hcl _ _ _ _ _ hx
theorem E54 (n : Nat) (cl : CL) (a0 a1 : Value) (h : PH) : exF Try.prog n (D54 n cl) ⟨[], [45], [(9, [0, 3, 4, 52]), (11, [0, 3, 4]), (15, [0, 3, 4, 6, 7]), (21, [0, 3, 4, 6, 7, 8]), (24, [0, 3, 4, 6, 7, 8]), (29, [0, 3, 4, 9, 10]), (39, [0, 3, 4, 148]), (44, [3, 4, 12]), (46, [4, 12])], [(4, [0, 1, 2, 3, 4, 6, 5, 7, 8, 9, 10, 11, 12, 13])], [], [], []⟩ Try.f54 [a0, a1] h = F54 n cl a0 a1 h := by kernel_rfl
theorem S54 {n : Nat} {cl : CL} (hcl : OkCL Try.prog cl) {a0 a1 : Value} {h h' : PH} {v : Value} (hx : F54 n cl a0 a1 h = some (v, h')) : (enterable Try.prog 54 = true ∧ ACall Try.prog 54 [a0, a1] h.abs (fun u k => u = v ∧ k = h'.abs)) ∧ Inv h h' :=
  exF_ok (Dk54 hcl) hmx Try.func54 (by kernel_rfl) ((E54 n cl a0 a1 h).trans hx)
-- undergrowth/undergrowthref1.Posits
noncomputable def F27_0 (n : Nat) (cl : CL) (v2 : Value) (h : PH) : R :=
 vb (abuild Try.prog 43 []) fun v6 =>
 hb (xStA 5 v2 v6 h) fun _ h =>
 vb (xLdA 5 v2 h) fun v7 => some (Value.tuple ⟨[v7, (vN 3)]⟩, h)
noncomputable def F27_1 (n : Nat) (cl : CL) (v2 : Value) (h : PH) : R :=
 vb (abuild Try.prog 43 []) fun v11 =>
 hb (xStA 5 v2 v11 h) fun _ h =>
 vb (xLdA 5 v2 h) fun v12 => some (Value.tuple ⟨[v12, (vN 4)]⟩, h)
noncomputable def F27_2 (n : Nat) (cl : CL) (v1 : Value) (v2 : Value) (h : PH) : R :=
 vb (abuild Try.prog 110 []) fun v13 =>
 hb (xBox v13 h) fun v14 h =>
 vb (xLdA 6 v1 h) fun v15 =>
 hb (cl 54 [v14, v15] h) fun v16 h =>
 hb (xAlloc (zcells Try.prog 112) h) fun v17 h =>
 hb (xStA 3 v17 v16 h) fun _ h =>
 vb (xFld 0 v17) fun v18 =>
 vb (xLd v18 h) fun v19 =>
 vb (xNil v14) fun v20 =>
 vb (xFld 0 v20) fun v21 =>
 vb (xFld 1 v21) fun v22 =>
 hb (xSt1 v22 v19 h) fun _ h =>
 vb (xFld 1 v17) fun v23 =>
 vb (xLd v23 h) fun v24 =>
 vb (xNil v14) fun v25 =>
 vb (xFld 0 v25) fun v26 =>
 vb (xFld 2 v26) fun v27 =>
 hb (xSt1 v27 v24 h) fun _ h =>
 vb (xFld 2 v17) fun v28 =>
 vb (xLd v28 h) fun v29 =>
 vb (xNil v14) fun v30 =>
 vb (xFld 0 v30) fun v31 =>
 vb (xFld 3 v31) fun v32 =>
 hb (xSt1 v32 v29 h) fun _ h =>
 vb (xNil v14) fun v33 =>
 vb (xFld 0 v33) fun v34 =>
 vb (xLdA 5 v34 h) fun v35 =>
 hb (xStA 5 v2 v35 h) fun _ h =>
 vb (xLdA 5 v2 h) fun v36 => some (Value.tuple ⟨[v36, (vN 0)]⟩, h)
noncomputable def F27_3 (n : Nat) (cl : CL) (v1 : Value) (v2 : Value) (h : PH) : R :=
 vb (xLdA 6 v1 h) fun v8 =>
 vb (pcall (cl 25 [v8] (h.fzn))) fun v9 =>
 vb (xCmp (fun x y => ilt y x) v9 (vN 200)) fun v10 =>
 bite v10 (F27_1 n cl v2 h) (F27_2 n cl v1 v2 h)
noncomputable def F27 (n : Nat) (cl : CL) (a0 : Value) (h : PH) : R :=
 hb (xBox a0 h) fun v1 h =>
 hb (xAlloc (zcells Try.prog 43) h) fun v2 h =>
 vb (xLdA 6 v1 h) fun v3 =>
 vb (pcall (cl 53 [v3] (h.fzn))) fun v4 =>
 vb (xCmp (fun x y => ilt y x) v4 (vN 150)) fun v5 =>
 bite v5 (F27_0 n cl v2 h) (F27_3 n cl v1 v2 h)
theorem E27 (n : Nat) (cl : CL) (a0 : Value) (h : PH) : exF Try.prog n cl ⟨[25, 53], [], [], [], [], [], []⟩ Try.f27 [a0] h = F27 n cl a0 h := by kernel_rfl
theorem S27 {n : Nat} {cl : CL} (hcl : OkCL Try.prog cl) {a0 : Value} {h h' : PH} {v : Value} (hx : F27 n cl a0 h = some (v, h')) : (enterable Try.prog 27 = true ∧ ACall Try.prog 27 [a0] h.abs (fun u k => u = v ∧ k = h'.abs)) ∧ Inv h h' :=
  exF_ok hcl hmx Try.func27 (by kernel_rfl) ((E27 n cl a0 h).trans hx)
-- undergrowth/dfa.is
noncomputable def F46 (n : Nat) (cl : CL) (a0 a1 : Value) (h : PH) : R :=
 hb (xBox a0 h) fun v1 h =>
 vb (xCmp (fun x y => ile y x) a1 (vN 0)) fun v2 =>
 vb (gd (isB true v2) (some a1)) fun v3 =>
 vb (gd (isB true v2) (xFld 0 v1)) fun v4 =>
 vb (gd (isB true v2) (xLd v4 h)) fun v5 =>
 vb (gd (isB true v2) (xLenS v5)) fun v6 =>
 vb (gd (isB true v2) (xCmp ilt v3 v6)) fun v7 =>
 vb (xPick v2 v7 ff) fun v8 =>
 vb (gd (isB true v8) (some a1)) fun v9 =>
 vb (gd (isB true v8) (xFld 1 v1)) fun v10 =>
 vb (gd (isB true v8) (xLd v10 h)) fun v11 =>
 vb (gd (isB true v8) (xLenS v11)) fun v12 =>
 vb (gd (isB true v8) (xCmp ilt v9 v12)) fun v13 =>
 vb (xPick v8 v13 ff) fun v14 =>
 some (v14, h)
theorem E46 (n : Nat) (cl : CL) (a0 a1 : Value) (h : PH) : exF Try.prog n cl ⟨[], [], [], [], [], [], []⟩ Try.f46 [a0, a1] h = F46 n cl a0 a1 h := by kernel_rfl
theorem S46 {n : Nat} {cl : CL} (hcl : OkCL Try.prog cl) {a0 a1 : Value} {h h' : PH} {v : Value} (hx : F46 n cl a0 a1 h = some (v, h')) : (enterable Try.prog 46 = true ∧ ACall Try.prog 46 [a0, a1] h.abs (fun u k => u = v ∧ k = h'.abs)) ∧ Inv h h' :=
  exF_ok hcl hmx Try.func46 (by kernel_rfl) ((E46 n cl a0 a1 h).trans hx)
-- undergrowth/dfa.Step
noncomputable def F47_0 (n : Nat) (cl : CL) (v1 : Value) (a1 : Value) (a2 : Value) (h : PH) : R :=
 vb (xFld 0 v1) fun v27 =>
 vb (xLd v27 h) fun v28 =>
 vb (xIdxS 1 v28 a1) fun v29 =>
 vb (xLd v29 h) fun v30 =>
 vb (xIdxS 1 v30 a2) fun v31 =>
 vb (xLd v31 h) fun v32 =>
 some (v32, h)
noncomputable def F47 (n : Nat) (cl : CL) (a0 a1 a2 : Value) (h : PH) : R :=
 hb (xBox a0 h) fun v1 h =>
 vb (xLdA 2 v1 h) fun v2 =>
 vb (pcall (F46 n cl v2 a1 (h.fzn))) fun v3 =>
 vb (xNot v3) fun v4 =>
 vb (gd (isB false v4) (some a2)) fun v5 =>
 vb (gd (isB false v4) (xConvI .i64 v5)) fun v6 =>
 vb (gd (isB false v4) (xFld 0 v1)) fun v7 =>
 vb (gd (isB false v4) (some a1)) fun v8 =>
 vb (gd (isB false v4) (xLd v7 h)) fun v9 =>
 vb (gd (isB false v4) (xIdxS 1 v9 v8)) fun v10 =>
 vb (gd (isB false v4) (xLd v10 h)) fun v11 =>
 vb (gd (isB false v4) (xLenS v11)) fun v12 =>
 vb (gd (isB false v4) (xCmp (fun x y => ile y x) v6 v12)) fun v13 =>
 vb (xPick v4 tt v13) fun v14 =>
 vb (gd (isB false v14) (xFld 0 v1)) fun v15 =>
 vb (gd (isB false v14) (some a1)) fun v16 =>
 vb (gd (isB false v14) (some a2)) fun v17 =>
 vb (gd (isB false v14) (xLdA 2 v1 h)) fun v18 =>
 vb (gd (isB false v14) (xLd v15 h)) fun v19 =>
 vb (gd (isB false v14) (xIdxS 1 v19 v16)) fun v20 =>
 vb (gd (isB false v14) (xLd v20 h)) fun v21 =>
 vb (gd (isB false v14) (xIdxS 1 v21 v17)) fun v22 =>
 vb (gd (isB false v14) (xLd v22 h)) fun v23 =>
 vb (gd (isB false v14) (pcall (F46 n cl v18 v23 (h.fzn)))) fun v24 =>
 vb (gd (isB false v14) (xNot v24)) fun v25 =>
 vb (xPick v14 tt v25) fun v26 =>
 bite v26 (some ((vM 0), h)) (F47_0 n cl v1 a1 a2 h)
noncomputable def D47 (n : Nat) (cl : CL) : CL := fun f xs h => sw f 46 (ucons xs fun b0 xs => ucons xs fun b1 xs => u0 xs (F46 n cl b0 b1 h)) (cl f xs h)
theorem Dk47 {n : Nat} {cl : CL} (hcl : OkCL Try.prog cl) : OkCL Try.prog (D47 n cl) := by
  intro f xs h v h' hx
  rcases sw_ok hx with ⟨rfl, hx⟩ | hx
  · obtain ⟨_, _, rfl, hx⟩ := ucons_ok hx; obtain ⟨_, _, rfl, hx⟩ := ucons_ok hx; obtain ⟨rfl, hx⟩ := u0_ok hx; exact S46 (n := n) (cl := cl) hcl hx
  exact hcl _ _ _ _ _ hx
theorem E47 (n : Nat) (cl : CL) (a0 a1 a2 : Value) (h : PH) : exF Try.prog n (D47 n cl) ⟨[46], [], [], [(1, [1, 0, 2, 3, 4, 5, 6, 7, 9, 8, 10, 11, 12, 13, 14, 15, 17, 19, 22, 16, 18, 20, 21, 23, 24, 25, 26, 27])], [], [], []⟩ Try.f47 [a0, a1, a2] h = F47 n cl a0 a1 a2 h := by kernel_rfl
theorem S47 {n : Nat} {cl : CL} (hcl : OkCL Try.prog cl) {a0 a1 a2 : Value} {h h' : PH} {v : Value} (hx : F47 n cl a0 a1 a2 h = some (v, h')) : (enterable Try.prog 47 = true ∧ ACall Try.prog 47 [a0, a1, a2] h.abs (fun u k => u = v ∧ k = h'.abs)) ∧ Inv h h' :=
  exF_ok (Dk47 hcl) hmx Try.func47 (by kernel_rfl) ((E47 n cl a0 a1 a2 h).trans hx)
-- undergrowth/dfa.Accepts
noncomputable def F48_0 (n : Nat) (cl : CL) (v1 : Value) (a1 : Value) (h : PH) : R :=
 vb (xFld 1 v1) fun v5 =>
 vb (xLd v5 h) fun v6 =>
 vb (xIdxS 1 v6 a1) fun v7 =>
 vb (xLd v7 h) fun v8 =>
 vb ((if plainV.plainVs [(vM 0), v8] then prun Try.prog (Builtin.max_ #[3, 3] 3 ⟨[(vM 0), v8]⟩) else none)) fun v9 =>
 some (v9, h)
noncomputable def F48 (n : Nat) (cl : CL) (a0 a1 : Value) (h : PH) : R :=
 hb (xBox a0 h) fun v1 h =>
 vb (xLdA 2 v1 h) fun v2 =>
 vb (pcall (F46 n cl v2 a1 (h.fzn))) fun v3 =>
 vb (xNot v3) fun v4 =>
 bite v4 (some ((vM 0), h)) (F48_0 n cl v1 a1 h)
noncomputable def D48 (n : Nat) (cl : CL) : CL := fun f xs h => sw f 46 (ucons xs fun b0 xs => ucons xs fun b1 xs => u0 xs (F46 n cl b0 b1 h)) (cl f xs h)
theorem Dk48 {n : Nat} {cl : CL} (hcl : OkCL Try.prog cl) : OkCL Try.prog (D48 n cl) := by
  intro f xs h v h' hx
  rcases sw_ok hx with ⟨rfl, hx⟩ | hx
  · obtain ⟨_, _, rfl, hx⟩ := ucons_ok hx; obtain ⟨_, _, rfl, hx⟩ := ucons_ok hx; obtain ⟨rfl, hx⟩ := u0_ok hx; exact S46 (n := n) (cl := cl) hcl hx
  exact hcl _ _ _ _ _ hx
theorem E48 (n : Nat) (cl : CL) (a0 a1 : Value) (h : PH) : exF Try.prog n (D48 n cl) ⟨[46], [], [], [], [], [], []⟩ Try.f48 [a0, a1] h = F48 n cl a0 a1 h := by kernel_rfl
theorem S48 {n : Nat} {cl : CL} (hcl : OkCL Try.prog cl) {a0 a1 : Value} {h h' : PH} {v : Value} (hx : F48 n cl a0 a1 h = some (v, h')) : (enterable Try.prog 48 = true ∧ ACall Try.prog 48 [a0, a1] h.abs (fun u k => u = v ∧ k = h'.abs)) ∧ Inv h h' :=
  exF_ok (Dk48 hcl) hmx Try.func48 (by kernel_rfl) ((E48 n cl a0 a1 h).trans hx)
-- undergrowth/dfa.Run
noncomputable def F20_0 (n : Nat) (cl : CL) (v16 : Value) (r7 : Kt) (v8 : Value) (v22 : Value) (v12 : Value) (v14 : Value) (h : PH) : R :=
 vb (xAri Int.add v16 (vN 1)) fun v24 =>
 r7 [v8, v22, v12, v14, v24] h
noncomputable def F20_1 (n : Nat) (cl : CL) (v12 : Value) (v16 : Value) (v8 : Value) (v10 : Value) (r7 : Kt) (v14 : Value) (h : PH) : R :=
 vb (xIdxS 1 v12 v16) fun v19 =>
 vb (xLd v19 h) fun v20 =>
 vb (xLdA 2 v8 h) fun v21 =>
 vb (pcall (F47 n cl v21 v10 v20 (h.fzn))) fun v22 =>
 vb (xCmp ieq v22 (vM 0)) fun v23 =>
 bite v23 (some (Value.tuple ⟨[(vM 0), ff]⟩, h)) (F20_0 n cl v16 r7 v8 v22 v12 v14 h)
noncomputable def F20_2 (n : Nat) (cl : CL) (v8 : Value) (v10 : Value) (h : PH) : R :=
 vb (xLdA 2 v8 h) fun v25 =>
 vb (pcall (F48 n cl v25 v10 (h.fzn))) fun v26 =>
 some (Value.tuple ⟨[v26, tt]⟩, h)
noncomputable def F20_3 (n : Nat) (cl : CL) (v16 : Value) (v14 : Value) (v12 : Value) (v8 : Value) (v10 : Value) (r7 : Kt) (h : PH) : R :=
 vb (xCmp ilt v16 v14) fun v18 =>
 bite v18 (F20_1 n cl v12 v16 v8 v10 r7 v14 h) (F20_2 n cl v8 v10 h)
noncomputable def F20_4 (n : Nat) (cl : CL) (r7 : Kt) (y6 : List Value) (h : PH) : R :=
 ucons y6 fun v8 y9 => ucons y9 fun v10 y11 => ucons y11 fun v12 y13 => ucons y13 fun v14 y15 => ucons y15 fun v16 y17 => F20_3 n cl v16 v14 v12 v8 v10 r7 h
noncomputable def F20_5 (n : Nat) (cl : CL) (a1 : Value) (v1 : Value) (h : PH) : R :=
 vb (xLenS a1) fun v5 =>
 lp n (F20_4 n cl) [v1, (vN 0), a1, v5, (vN 0)] h
noncomputable def F20 (n : Nat) (cl : CL) (a0 a1 : Value) (h : PH) : R :=
 hb (xBox a0 h) fun v1 h =>
 vb (xLdA 2 v1 h) fun v2 =>
 vb (pcall (F46 n cl v2 (vN 0) (h.fzn))) fun v3 =>
 vb (xNot v3) fun v4 =>
 bite v4 (some (Value.tuple ⟨[(vM 0), ff]⟩, h)) (F20_5 n cl a1 v1 h)
noncomputable def D20 (n : Nat) (cl : CL) : CL := fun f xs h => sw f 46 (ucons xs fun b0 xs => ucons xs fun b1 xs => u0 xs (F46 n cl b0 b1 h)) (sw f 47 (ucons xs fun b0 xs => ucons xs fun b1 xs => ucons xs fun b2 xs => u0 xs (F47 n cl b0 b1 b2 h)) (sw f 48 (ucons xs fun b0 xs => ucons xs fun b1 xs => u0 xs (F48 n cl b0 b1 h)) (cl f xs h)))
theorem Dk20 {n : Nat} {cl : CL} (hcl : OkCL Try.prog cl) : OkCL Try.prog (D20 n cl) := by
  intro f xs h v h' hx
  rcases sw_ok hx with ⟨rfl, hx⟩ | hx
  · obtain ⟨_, _, rfl, hx⟩ := ucons_ok hx; obtain ⟨_, _, rfl, hx⟩ := ucons_ok hx; obtain ⟨rfl, hx⟩ := u0_ok hx; exact S46 (n := n) (cl := cl) hcl hx
  rcases sw_ok hx with ⟨rfl, hx⟩ | hx
  · obtain ⟨_, _, rfl, hx⟩ := ucons_ok hx; obtain ⟨_, _, rfl, hx⟩ := ucons_ok hx; obtain ⟨_, _, rfl, hx⟩ := ucons_ok hx; obtain ⟨rfl, hx⟩ := u0_ok hx; exact S47 (n := n) (cl := cl) hcl hx
  rcases sw_ok hx with ⟨rfl, hx⟩ | hx
  · obtain ⟨_, _, rfl, hx⟩ := ucons_ok hx; obtain ⟨_, _, rfl, hx⟩ := ucons_ok hx; obtain ⟨rfl, hx⟩ := u0_ok hx; exact S48 (n := n) (cl := cl) hcl hx
  exact hcl _ _ _ _ _ hx
theorem E20 (n : Nat) (cl : CL) (a0 a1 : Value) (h : PH) : exF Try.prog n (D20 n cl) ⟨[46, 47, 48], [], [(5, [2, 6, 12, 13, 14])], [], [], [], []⟩ Try.f20 [a0, a1] h = F20 n cl a0 a1 h := by kernel_rfl
theorem S20 {n : Nat} {cl : CL} (hcl : OkCL Try.prog cl) {a0 a1 : Value} {h h' : PH} {v : Value} (hx : F20 n cl a0 a1 h = some (v, h')) : (enterable Try.prog 20 = true ∧ ACall Try.prog 20 [a0, a1] h.abs (fun u k => u = v ∧ k = h'.abs)) ∧ Inv h h' :=
  exF_ok (Dk20 hcl) hmx Try.func20 (by kernel_rfl) ((E20 n cl a0 a1 h).trans hx)
-- undergrowth/undergrowthlaw5.num
noncomputable def F18 (n : Nat) (cl : CL) (a0 : Value) (h : PH) : R :=
 some (a0, h)
theorem E18 (n : Nat) (cl : CL) (a0 : Value) (h : PH) : exF Try.prog n cl ⟨[], [], [], [], [], [], []⟩ Try.f18 [a0] h = F18 n cl a0 h := by kernel_rfl
theorem S18 {n : Nat} {cl : CL} (hcl : OkCL Try.prog cl) {a0 : Value} {h h' : PH} {v : Value} (hx : F18 n cl a0 h = some (v, h')) : (enterable Try.prog 18 = true ∧ ACall Try.prog 18 [a0] h.abs (fun u k => u = v ∧ k = h'.abs)) ∧ Inv h h' :=
  exF_ok hcl hmx Try.func18 (by kernel_rfl) ((E18 n cl a0 h).trans hx)
-- undergrowth/undergrowthlaw5.alive
noncomputable def F13 (n : Nat) (cl : CL) (h : PH) : R :=
 hb (F16 n cl nils h) fun v1 h =>
 vb (xExt 0 v1) fun v2 =>
 vb (xExt 1 v1) fun v3 =>
 hb (xAlloc (zcells Try.prog 30) h) fun v4 h =>
 hb (xStA 2 v4 v2 h) fun _ h =>
 hb (fcall h (F30 n cl (Value.string { data := #[97] }) (h.fzn))) fun v5 h =>
 vb (xExt 0 v5) fun v6 =>
 vb (xExt 1 v5) fun v7 =>
 vb (xExt 2 v5) fun v8 =>
 hb (xAlloc (zcells Try.prog 57) h) fun v9 h =>
 hb (xStA 6 v9 v6 h) fun _ h =>
 vb (xLdA 6 v9 h) fun v10 =>
 hb (F27 n cl v10 h) fun v11 h =>
 vb (xExt 0 v11) fun v12 =>
 vb (xExt 1 v11) fun v13 =>
 hb (xAlloc (zcells Try.prog 43) h) fun v14 h =>
 hb (xStA 5 v14 v12 h) fun _ h =>
 vb (xLdA 5 v14 h) fun v15 =>
 hb (xBS 1 (bsRow Try.prog 24 1 [(0, v15)]) h) fun v16 h =>
 hb (F16 n cl v16 h) fun v17 h =>
 vb (xExt 0 v17) fun v18 =>
 vb (xExt 1 v17) fun v19 =>
 hb (xAlloc (zcells Try.prog 30) h) fun v20 h =>
 hb (xStA 2 v20 v18 h) fun _ h =>
 vb (xLdA 2 v20 h) fun v21 =>
 hb (xBS 1 (bsRow Try.prog 39 1 [(0, (Value.int .u8 (.ofNat 97)))]) h) fun v22 h =>
 hb (xMark v22 h) fun v23 h =>
 vb (pcall (F20 n cl v21 v23 (h.fzn))) fun v24 =>
 vb (xExt 0 v24) fun v25 =>
 vb (xExt 1 v24) fun v26 =>
 vb (pcall (F18 n cl v3 (h.fzn))) fun v27 =>
 vb (xCmp ieq v27 (vN 0)) fun v28 =>
 vb (gd (isB true v28) (xFld 0 v4)) fun v29 =>
 vb (gd (isB true v28) (xLd v29 h)) fun v30 =>
 vb (gd (isB true v28) (xLenS v30)) fun v31 =>
 vb (gd (isB true v28) (xCmp ieq v31 (vN 1))) fun v32 =>
 vb (xPick v28 v32 ff) fun v33 =>
 vb (gd (isB true v33) (some v19)) fun v34 =>
 vb (gd (isB true v33) (pcall (F18 n cl v34 (h.fzn)))) fun v35 =>
 vb (gd (isB true v33) (xCmp ieq v35 (vN 0))) fun v36 =>
 vb (xPick v33 v36 ff) fun v37 =>
 vb (gd (isB true v37) (xFld 0 v20)) fun v38 =>
 vb (gd (isB true v37) (xLd v38 h)) fun v39 =>
 vb (gd (isB true v37) (xLenS v39)) fun v40 =>
 vb (gd (isB true v37) (xCmp ieq v40 (vN 2))) fun v41 =>
 vb (xPick v37 v41 ff) fun v42 =>
 vb (gd (isB true v42) (some v25)) fun v43 =>
 vb (gd (isB true v42) (xCmp ieq v43 (vN 0))) fun v44 =>
 vb (xPick v42 v44 ff) fun v45 =>
 vb (gd (isB true v45) (some v26)) fun v46 =>
 vb (xPick v45 v46 ff) fun v47 =>
 some (v47, h)
noncomputable def D13 (n : Nat) (cl : CL) : CL := fun f xs h => sw f 16 (ucons xs fun b0 xs => u0 xs (F16 n cl b0 h)) (sw f 30 (ucons xs fun b0 xs => u0 xs (F30 n cl b0 h)) (sw f 27 (ucons xs fun b0 xs => u0 xs (F27 n cl b0 h)) (sw f 20 (ucons xs fun b0 xs => ucons xs fun b1 xs => u0 xs (F20 n cl b0 b1 h)) (sw f 18 (ucons xs fun b0 xs => u0 xs (F18 n cl b0 h)) (cl f xs h)))))
theorem Dk13 {n : Nat} {cl : CL} (hcl : OkCL Try.prog cl) : OkCL Try.prog (D13 n cl) := by
  intro f xs h v h' hx
  rcases sw_ok hx with ⟨rfl, hx⟩ | hx
  · obtain ⟨_, _, rfl, hx⟩ := ucons_ok hx; obtain ⟨rfl, hx⟩ := u0_ok hx; exact S16 (n := n) (cl := cl) hcl hx
  rcases sw_ok hx with ⟨rfl, hx⟩ | hx
  · obtain ⟨_, _, rfl, hx⟩ := ucons_ok hx; obtain ⟨rfl, hx⟩ := u0_ok hx; exact S30 (n := n) (cl := cl) hcl hx
  rcases sw_ok hx with ⟨rfl, hx⟩ | hx
  · obtain ⟨_, _, rfl, hx⟩ := ucons_ok hx; obtain ⟨rfl, hx⟩ := u0_ok hx; exact S27 (n := n) (cl := cl) hcl hx
  rcases sw_ok hx with ⟨rfl, hx⟩ | hx
  · obtain ⟨_, _, rfl, hx⟩ := ucons_ok hx; obtain ⟨_, _, rfl, hx⟩ := ucons_ok hx; obtain ⟨rfl, hx⟩ := u0_ok hx; exact S20 (n := n) (cl := cl) hcl hx
  rcases sw_ok hx with ⟨rfl, hx⟩ | hx
  · obtain ⟨_, _, rfl, hx⟩ := ucons_ok hx; obtain ⟨rfl, hx⟩ := u0_ok hx; exact S18 (n := n) (cl := cl) hcl hx
  exact hcl _ _ _ _ _ hx
theorem E13 (n : Nat) (cl : CL) (h : PH) : exF Try.prog n (D13 n cl) ⟨[18, 20], [30], [], [], [], [], []⟩ Try.f13 [] h = F13 n cl  h := by kernel_rfl
theorem S13 {n : Nat} {cl : CL} (hcl : OkCL Try.prog cl) {h h' : PH} {v : Value} (hx : F13 n cl h = some (v, h')) : (enterable Try.prog 13 = true ∧ ACall Try.prog 13 [] h.abs (fun u k => u = v ∧ k = h'.abs)) ∧ Inv h h' :=
  exF_ok (Dk13 hcl) hmx Try.func13 (by kernel_rfl) ((E13 n cl h).trans hx)
-- undergrowth/undergrowthref1.move
noncomputable def F49_0 (n : Nat) (cl : CL) (v1 : Value) (a1 : Value) (a2 : Value) (h : PH) : R :=
 vb (xFld 0 v1) fun v25 =>
 vb (xLd v25 h) fun v26 =>
 vb (xIdxS 1 v26 a1) fun v27 =>
 vb (xLd v27 h) fun v28 =>
 vb (xIdxS 1 v28 a2) fun v29 =>
 vb (xLd v29 h) fun v30 =>
 vb (xCmp ilt v30 (vN 0)) fun v31 =>
 vb (gd (isB false v31) (some v30)) fun v32 =>
 vb (gd (isB false v31) (xFld 0 v1)) fun v33 =>
 vb (gd (isB false v31) (xLd v33 h)) fun v34 =>
 vb (gd (isB false v31) (xLenS v34)) fun v35 =>
 vb (gd (isB false v31) (xCmp (fun x y => ile y x) v32 v35)) fun v36 =>
 vb (xPick v31 tt v36) fun v37 =>
 vb (gd (isB false v37) (some v30)) fun v38 =>
 vb (gd (isB false v37) (xFld 1 v1)) fun v39 =>
 vb (gd (isB false v37) (xLd v39 h)) fun v40 =>
 vb (gd (isB false v37) (xLenS v40)) fun v41 =>
 vb (gd (isB false v37) (xCmp (fun x y => ile y x) v38 v41)) fun v42 =>
 vb (xPick v37 tt v42) fun v43 =>
 bite v43 (some ((vM 0), h)) (some (v30, h))
noncomputable def F49 (n : Nat) (cl : CL) (a0 a1 a2 : Value) (h : PH) : R :=
 hb (xBox a0 h) fun v1 h =>
 vb (xCmp ilt a1 (vN 0)) fun v2 =>
 vb (gd (isB false v2) (some a1)) fun v3 =>
 vb (gd (isB false v2) (xFld 0 v1)) fun v4 =>
 vb (gd (isB false v2) (xLd v4 h)) fun v5 =>
 vb (gd (isB false v2) (xLenS v5)) fun v6 =>
 vb (gd (isB false v2) (xCmp (fun x y => ile y x) v3 v6)) fun v7 =>
 vb (xPick v2 tt v7) fun v8 =>
 vb (gd (isB false v8) (some a1)) fun v9 =>
 vb (gd (isB false v8) (xFld 1 v1)) fun v10 =>
 vb (gd (isB false v8) (xLd v10 h)) fun v11 =>
 vb (gd (isB false v8) (xLenS v11)) fun v12 =>
 vb (gd (isB false v8) (xCmp (fun x y => ile y x) v9 v12)) fun v13 =>
 vb (xPick v8 tt v13) fun v14 =>
 vb (gd (isB false v14) (some a2)) fun v15 =>
 vb (gd (isB false v14) (xConvI .i64 v15)) fun v16 =>
 vb (gd (isB false v14) (xFld 0 v1)) fun v17 =>
 vb (gd (isB false v14) (xLd v17 h)) fun v18 =>
 vb (gd (isB false v14) (some a1)) fun v19 =>
 vb (gd (isB false v14) (xIdxS 1 v18 v19)) fun v20 =>
 vb (gd (isB false v14) (xLd v20 h)) fun v21 =>
 vb (gd (isB false v14) (xLenS v21)) fun v22 =>
 vb (gd (isB false v14) (xCmp (fun x y => ile y x) v16 v22)) fun v23 =>
 vb (xPick v14 tt v23) fun v24 =>
 bite v24 (some ((vM 0), h)) (F49_0 n cl v1 a1 a2 h)
theorem E49 (n : Nat) (cl : CL) (a0 a1 a2 : Value) (h : PH) : exF Try.prog n cl ⟨[], [], [], [], [], [], []⟩ Try.f49 [a0, a1, a2] h = F49 n cl a0 a1 a2 h := by kernel_rfl
theorem S49 {n : Nat} {cl : CL} (hcl : OkCL Try.prog cl) {a0 a1 a2 : Value} {h h' : PH} {v : Value} (hx : F49 n cl a0 a1 a2 h = some (v, h')) : (enterable Try.prog 49 = true ∧ ACall Try.prog 49 [a0, a1, a2] h.abs (fun u k => u = v ∧ k = h'.abs)) ∧ Inv h h' :=
  exF_ok hcl hmx Try.func49 (by kernel_rfl) ((E49 n cl a0 a1 a2 h).trans hx)
-- undergrowth/undergrowthref1.Run
noncomputable def F21_0 (n : Nat) (cl : CL) (v19 : Value) (r12 : Kt) (v13 : Value) (v15 : Value) (v26 : Value) (h : PH) : R :=
 vb (xAri Int.add v19 (vN 1)) fun v28 =>
 r12 [v13, v15, v26, v28] h
noncomputable def F21_1 (n : Nat) (cl : CL) (v13 : Value) (v19 : Value) (v15 : Value) (v17 : Value) (r12 : Kt) (h : PH) : R :=
 vb (xIdxS 1 v13 v19) fun v23 =>
 vb (xLdA 2 v15 h) fun v24 =>
 vb (xLd v23 h) fun v25 =>
 vb (pcall (F49 n cl v24 v17 v25 (h.fzn))) fun v26 =>
 vb (xCmp ilt v26 (vN 0)) fun v27 =>
 bite v27 (some (Value.tuple ⟨[(vM 0), ff]⟩, h)) (F21_0 n cl v19 r12 v13 v15 v26 h)
noncomputable def F21_2 (n : Nat) (cl : CL) (v15 : Value) (v17 : Value) (h : PH) : R :=
 vb (xFld 1 v15) fun v34 =>
 vb (xLd v34 h) fun v35 =>
 vb (xIdxS 1 v35 v17) fun v36 =>
 vb (xLd v36 h) fun v37 =>
 some (Value.tuple ⟨[v37, tt]⟩, h)
noncomputable def F21_3 (n : Nat) (cl : CL) (v15 : Value) (v17 : Value) (h : PH) : R :=
 vb (xFld 1 v15) fun v29 =>
 vb (xLd v29 h) fun v30 =>
 vb (xIdxS 1 v30 v17) fun v31 =>
 vb (xLd v31 h) fun v32 =>
 vb (xCmp ilt v32 (vN 0)) fun v33 =>
 bite v33 (some (Value.tuple ⟨[(vM 0), tt]⟩, h)) (F21_2 n cl v15 v17 h)
noncomputable def F21_4 (n : Nat) (cl : CL) (v13 : Value) (v19 : Value) (v15 : Value) (v17 : Value) (r12 : Kt) (h : PH) : R :=
 vb (xLenS v13) fun v21 =>
 vb (xCmp ilt v19 v21) fun v22 =>
 bite v22 (F21_1 n cl v13 v19 v15 v17 r12 h) (F21_3 n cl v15 v17 h)
noncomputable def F21_5 (n : Nat) (cl : CL) (r12 : Kt) (y11 : List Value) (h : PH) : R :=
 ucons y11 fun v13 y14 => ucons y14 fun v15 y16 => ucons y16 fun v17 y18 => ucons y18 fun v19 y20 => F21_4 n cl v13 v19 v15 v17 r12 h
noncomputable def F21 (n : Nat) (cl : CL) (a0 a1 : Value) (h : PH) : R :=
 hb (xBox a0 h) fun v1 h =>
 vb (xFld 0 v1) fun v2 =>
 vb (xLd v2 h) fun v3 =>
 vb (xLenS v3) fun v4 =>
 vb (xCmp ieq v4 (vN 0)) fun v5 =>
 vb (gd (isB false v5) (xFld 1 v1)) fun v6 =>
 vb (gd (isB false v5) (xLd v6 h)) fun v7 =>
 vb (gd (isB false v5) (xLenS v7)) fun v8 =>
 vb (gd (isB false v5) (xCmp ieq v8 (vN 0))) fun v9 =>
 vb (xPick v5 tt v9) fun v10 =>
 bite v10 (some (Value.tuple ⟨[(vM 0), ff]⟩, h)) (lp n (F21_5 n cl) [a1, v1, (vN 0), (vN 0)] h)
noncomputable def D21 (n : Nat) (cl : CL) : CL := fun f xs h => sw f 49 (ucons xs fun b0 xs => ucons xs fun b1 xs => ucons xs fun b2 xs => u0 xs (F49 n cl b0 b1 b2 h)) (cl f xs h)
theorem Dk21 {n : Nat} {cl : CL} (hcl : OkCL Try.prog cl) : OkCL Try.prog (D21 n cl) := by
  intro f xs h v h' hx
  rcases sw_ok hx with ⟨rfl, hx⟩ | hx
  · obtain ⟨_, _, rfl, hx⟩ := ucons_ok hx; obtain ⟨_, _, rfl, hx⟩ := ucons_ok hx; obtain ⟨_, _, rfl, hx⟩ := ucons_ok hx; obtain ⟨rfl, hx⟩ := u0_ok hx; exact S49 (n := n) (cl := cl) hcl hx
  exact hcl _ _ _ _ _ hx
theorem E21 (n : Nat) (cl : CL) (a0 a1 : Value) (h : PH) : exF Try.prog n (D21 n cl) ⟨[49], [], [(5, [1, 2, 6, 7])], [(7, [1, 2, 3, 4, 0, 5, 6, 7])], [], [], []⟩ Try.f21 [a0, a1] h = F21 n cl a0 a1 h := by kernel_rfl
theorem S21 {n : Nat} {cl : CL} (hcl : OkCL Try.prog cl) {a0 a1 : Value} {h h' : PH} {v : Value} (hx : F21 n cl a0 a1 h = some (v, h')) : (enterable Try.prog 21 = true ∧ ACall Try.prog 21 [a0, a1] h.abs (fun u k => u = v ∧ k = h'.abs)) ∧ Inv h h' :=
  exF_ok (Dk21 hcl) hmx Try.func21 (by kernel_rfl) ((E21 n cl a0 a1 h).trans hx)
-- undergrowth/undergrowthlaw5.DfaRun
noncomputable def F5_0 (n : Nat) (cl : CL) (v1 : Value) (a1 : Value) (h : PH) : R :=
 vb (xLdA 2 v1 h) fun v18 =>
 vb (pcall (F20 n cl v18 a1 (h.fzn))) fun v19 =>
 vb (xExt 0 v19) fun v20 =>
 vb (xExt 1 v19) fun v21 =>
 vb (xLdA 2 v1 h) fun v22 =>
 vb (pcall (F21 n cl v22 a1 (h.fzn))) fun v23 =>
 vb (xExt 0 v23) fun v24 =>
 vb (xExt 1 v23) fun v25 =>
 vb (xCmp ieq v20 v24) fun v26 =>
 vb (gd (isB true v26) (some v21)) fun v27 =>
 vb (gd (isB true v26) (some v25)) fun v28 =>
 vb (gd (isB true v26) (abin Try.prog .eql 4 (Operand.tmp 47) (Operand.tmp 48) v27 v28)) fun v29 =>
 vb (xPick v26 v29 ff) fun v30 =>
 some (v30, h)
noncomputable def F5 (n : Nat) (cl : CL) (a0 a1 : Value) (h : PH) : R :=
 hb (xBox a0 h) fun v1 h =>
 vb (pcall (cl 13 [] (h.fzn))) fun v2 =>
 vb (xNot v2) fun v3 =>
 vb (gd (isB false v3) (some a1)) fun v4 =>
 vb (gd (isB false v3) (xLenS v4)) fun v5 =>
 vb (gd (isB false v3) (xCmp (fun x y => ilt y x) v5 (vN 60))) fun v6 =>
 vb (xPick v3 tt v6) fun v7 =>
 vb (gd (isB false v7) (xFld 0 v1)) fun v8 =>
 vb (gd (isB false v7) (xLd v8 h)) fun v9 =>
 vb (gd (isB false v7) (xLenS v9)) fun v10 =>
 vb (gd (isB false v7) (xCmp (fun x y => ilt y x) v10 (vN 20))) fun v11 =>
 vb (xPick v7 tt v11) fun v12 =>
 vb (gd (isB false v12) (xFld 1 v1)) fun v13 =>
 vb (gd (isB false v12) (xLd v13 h)) fun v14 =>
 vb (gd (isB false v12) (xLenS v14)) fun v15 =>
 vb (gd (isB false v12) (xCmp (fun x y => ilt y x) v15 (vN 20))) fun v16 =>
 vb (xPick v12 tt v16) fun v17 =>
 bite v17 (some (v2, h)) (F5_0 n cl v1 a1 h)
noncomputable def D5 (n : Nat) (cl : CL) : CL := fun f xs h => sw f 20 (ucons xs fun b0 xs => ucons xs fun b1 xs => u0 xs (F20 n cl b0 b1 h)) (sw f 21 (ucons xs fun b0 xs => ucons xs fun b1 xs => u0 xs (F21 n cl b0 b1 h)) (cl f xs h))
theorem Dk5 {n : Nat} {cl : CL} (hcl : OkCL Try.prog cl) : OkCL Try.prog (D5 n cl) := by
  intro f xs h v h' hx
  rcases sw_ok hx with ⟨rfl, hx⟩ | hx
  · obtain ⟨_, _, rfl, hx⟩ := ucons_ok hx; obtain ⟨_, _, rfl, hx⟩ := ucons_ok hx; obtain ⟨rfl, hx⟩ := u0_ok hx; exact S20 (n := n) (cl := cl) hcl hx
  rcases sw_ok hx with ⟨rfl, hx⟩ | hx
  · obtain ⟨_, _, rfl, hx⟩ := ucons_ok hx; obtain ⟨_, _, rfl, hx⟩ := ucons_ok hx; obtain ⟨rfl, hx⟩ := u0_ok hx; exact S21 (n := n) (cl := cl) hcl hx
  exact hcl _ _ _ _ _ hx
theorem E5 (n : Nat) (cl : CL) (a0 a1 : Value) (h : PH) : exF Try.prog n (D5 n cl) ⟨[13, 20, 21], [], [], [], [], [], []⟩ Try.f5 [a0, a1] h = F5 n cl a0 a1 h := by kernel_rfl
theorem S5 {n : Nat} {cl : CL} (hcl : OkCL Try.prog cl) {a0 a1 : Value} {h h' : PH} {v : Value} (hx : F5 n cl a0 a1 h = some (v, h')) : (enterable Try.prog 5 = true ∧ ACall Try.prog 5 [a0, a1] h.abs (fun u k => u = v ∧ k = h'.abs)) ∧ Inv h h' :=
  exF_ok (Dk5 hcl) hmx Try.func5 (by kernel_rfl) ((E5 n cl a0 a1 h).trans hx)

/-- Functions that are called by value, or that call themselves; so deep. -/
noncomputable def CLs (n : Nat) (ih : CL) : CL := fun f xs h => sw f 107 (ucons xs fun b0 xs => u0 xs (F107 n ih b0 h)) (sw f 109 (ucons xs fun b0 xs => ucons xs fun b1 xs => u0 xs (F109 n ih b0 b1 h)) (sw f 99 (ucons xs fun b0 xs => ucons xs fun b1 xs => u0 xs (F99 n ih b0 b1 h)) (sw f 55 (ucons xs fun b0 xs => ucons xs fun b1 xs => u0 xs (F55 n ih b0 b1 h)) (sw f 53 (ucons xs fun b0 xs => u0 xs (F53 n ih b0 h)) (sw f 25 (ucons xs fun b0 xs => u0 xs (F25 n ih b0 h)) (sw f 54 (ucons xs fun b0 xs => ucons xs fun b1 xs => u0 xs (F54 n ih b0 b1 h)) (none)))))))
theorem CLs_ok {n : Nat} {ih : CL} (hcl : OkCL Try.prog ih) : OkCL Try.prog (CLs n ih) := by
  intro f xs h v h' hx
  unfold CLs at hx
  rcases sw_ok hx with ⟨rfl, hx⟩ | hx
  · obtain ⟨_, _, rfl, hx⟩ := ucons_ok hx; obtain ⟨rfl, hx⟩ := u0_ok hx; exact S107 (n := n) (cl := ih) hcl hx
  rcases sw_ok hx with ⟨rfl, hx⟩ | hx
  · obtain ⟨_, _, rfl, hx⟩ := ucons_ok hx; obtain ⟨_, _, rfl, hx⟩ := ucons_ok hx; obtain ⟨rfl, hx⟩ := u0_ok hx; exact S109 (n := n) (cl := ih) hcl hx
  rcases sw_ok hx with ⟨rfl, hx⟩ | hx
  · obtain ⟨_, _, rfl, hx⟩ := ucons_ok hx; obtain ⟨_, _, rfl, hx⟩ := ucons_ok hx; obtain ⟨rfl, hx⟩ := u0_ok hx; exact S99 (n := n) (cl := ih) hcl hx
  rcases sw_ok hx with ⟨rfl, hx⟩ | hx
  · obtain ⟨_, _, rfl, hx⟩ := ucons_ok hx; obtain ⟨_, _, rfl, hx⟩ := ucons_ok hx; obtain ⟨rfl, hx⟩ := u0_ok hx; exact S55 (n := n) (cl := ih) hcl hx
  rcases sw_ok hx with ⟨rfl, hx⟩ | hx
  · obtain ⟨_, _, rfl, hx⟩ := ucons_ok hx; obtain ⟨rfl, hx⟩ := u0_ok hx; exact S53 (n := n) (cl := ih) hcl hx
  rcases sw_ok hx with ⟨rfl, hx⟩ | hx
  · obtain ⟨_, _, rfl, hx⟩ := ucons_ok hx; obtain ⟨rfl, hx⟩ := u0_ok hx; exact S25 (n := n) (cl := ih) hcl hx
  rcases sw_ok hx with ⟨rfl, hx⟩ | hx
  · obtain ⟨_, _, rfl, hx⟩ := ucons_ok hx; obtain ⟨_, _, rfl, hx⟩ := ucons_ok hx; obtain ⟨rfl, hx⟩ := u0_ok hx; exact S54 (n := n) (cl := ih) hcl hx
  cases hx
noncomputable def CLV (n d : Nat) : CL := Nat.rec (motive := fun _ => CL) CNo (fun _ ih => CLs n ih) d
theorem CLV_ok (n : Nat) : ∀ d, OkCL Try.prog (CLV n d)
  | 0 => CNo_ok _
  | .succ d => CLs_ok (CLV_ok n d)

end Go.Am
