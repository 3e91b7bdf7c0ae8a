import Derived.Test.YtdmfanikejcgjaaW13
set_option linter.unusedSimpArgs false
set_option linter.unusedVariables false
namespace Go.Am
open Go Go.RowKit Go.Proofs

theorem z49 : zcells Try.prog 49 = some [.int .i64 0, .int .i64 0, .int .i64 0] := by kernel_rfl
section
variable {n : Nat} {cl ih : CL} {h : PH}
noncomputable abbrev B20f (n : Nat) (cl : CL) : Kt → Kt := fun r23 y120 h => ucons y120 fun v121 y122 => ucons y122 fun v123 y124 => F20_10 n cl v121 v123 r23 h
noncomputable abbrev B20r (n : Nat) (cl : CL) : Kt → Kt := fun r8 y60 h => ucons y60 fun v61 y62 => ucons y62 fun v63 y64 => F20_12 n cl v61 v63 r8 h
theorem loop20f {h0 : PH} {g : Gr} {v rv fv cv kv : Value} {b1 : Nat} {Q : Value → PH → Prop} (r : RdG h0 v g rv fv cv kv) (hg : GIn g)
    (hbad : ∀ h, g.forbid.any (fun f => !forbidB g f) = true → Q (.tuple ⟨[.int .i64 (-1), .int .i64 6]⟩) h) (hok : ∀ h, g.forbid.any (fun f => !forbidB g f) = false → Q (.tuple ⟨[.int .i64 (-1), .int .i64 0]⟩) h) :
    ∀ (k i m : Nat) (h : PH), i + k = g.forbid.length → k < m → St h0 h [(b1, gcs g rv fv cv kv)] → (∀ j f, j < i → g.forbid[j]? = some f → (!forbidB g f) = false) →
    Ret (lp m (B20f n cl) [.pointer (some ⟨b1, 0, none⟩), .int .i64 i] h) Q := by
  have un1 : isB false undef = false := rfl
  have un2 : isB true undef = false := rfl
  intro k
  induction k with
  | zero =>
    intro i m h hi hm st hno
    obtain ⟨m, rfl⟩ : ∃ q, m = q + 1 := ⟨m - 1, by omega⟩
    rw [lp_succ]
    have l4 : xLd (.pointer (some ⟨b1, 4, none⟩)) h = some fv := xLd_at (st.row (.head _)) rfl
    have c : ¬ ((i : Int) < g.forbid.length) := by omega
    have hany : g.forbid.any (fun f => !forbidB g f) = false := by
      rw [List.any_eq_false]
      intro x hx
      obtain ⟨j, hj⟩ := List.getElem?_of_mem hx
      have := (List.getElem?_eq_some_iff.1 hj).1
      rw [hno j x (by omega) hj]; simp
    simp only [B20f, ucons_cons, F20_10, xFld_p, Nat.zero_add, vb_some, l4, RdS.len r.forbid, xLt_i, c, decide_false, bite_f, vM_eq, vN_eq]
    exact Ret.of (hok h hany)
  | succ k ih' =>
    intro i m h hi hm st hno
    obtain ⟨m, rfl⟩ : ∃ q, m = q + 1 := ⟨m - 1, by omega⟩
    rw [lp_succ]
    have hfl := hg.flen
    have l4 : xLd (.pointer (some ⟨b1, 4, none⟩)) h = some fv := xLd_at (st.row (.head _)) rfl
    have c : ((i : Int) < g.forbid.length) := by omega
    simp only [B20f, ucons_cons, F20_10, xFld_p, Nat.zero_add, vb_some, l4, RdS.len r.forbid, xLt_i, c, decide_true, bite_t, F20_9]
    refine Ret.idx r.forbid (by omega) c fun b o cs f hf s hle hE => ?_
    obtain ⟨x, y, z⟩ := f
    have hf : g.forbid[i]? = some (x, y, z) := by simpa using hf
    refine Ret.vb (xLdA_at (st.sees s) hE hle) ?_
    refine Ret.salloc st z49 fun h2 b3 st2 => ?_
    refine Ret.sstA st2 (i := 0) rfl rfl (Nat.le_refl _) rfl fun h3 st3 => ?_
    have st3 : St h0 h3 [(b3, [.int .i64 x, .int .i64 y, .int .i64 z]), (b1, gcs g rv fv cv kv)] := st3
    have l3 : xLd (.pointer (some ⟨b1, 3, none⟩)) h3 = some rv := xLd_at (st3.row (.tail _ (.head _))) rfl
    have q0 : xLd (.pointer (some ⟨b3, 0, none⟩)) h3 = some (.int .i64 x) := xLd_at (st3.row (.head _)) rfl
    have q1 : xLd (.pointer (some ⟨b3, 1, none⟩)) h3 = some (.int .i64 y) := xLd_at (st3.row (.head _)) rfl
    have q2 : xLd (.pointer (some ⟨b3, 2, none⟩)) h3 = some (.int .i64 z) := xLd_at (st3.row (.head _)) rfl
    have nr := RdS.len r.rules
    have bad : forbidB g (x, y, z) = false → Ret (some (Value.tuple ⟨[.int .i64 (-1), .int .i64 6]⟩, h3)) Q := by
      intro hb
      exact Ret.of (hbad h3 (List.any_eq_true.2 ⟨_, List.mem_of_getElem? hf, by rw [hb]; rfl⟩))
    have good : forbidB g (x, y, z) = true → Ret (F20_8 n cl (.int .i64 i) (lp m (B20f n cl)) (.pointer (some ⟨b1, 0, none⟩)) h3) Q := by
      intro hb
      simp only [F20_8, vN_eq, xAdd_i, vb_some, show (((1 : Nat) : Int)) = 1 from rfl, wrap1 (i := i) (by omega)]
      exact ih' (i + 1) m h3 (by omega) (by omega) (st3.drop (.cons _ (List.Sublist.refl _))) (nextNo hno hf (by rw [hb]; rfl))
    simp only [vN_eq, show (((0 : Nat) : Int)) = 0 from rfl, show (((1 : Nat) : Int)) = 1 from rfl, show (((2 : Nat) : Int)) = 2 from rfl, show (((6 : Nat) : Int)) = 6 from rfl, ia0, ia1, ia2, vb_some, q0, xLt_i, vM_eq, show Int.negSucc 0 = -1 from rfl, xFld_p, Nat.zero_add, nr, l3, q1, q2]
    by_cases a1 : x < 0
    · simp only [a1, decide_true, isB_f, isB_t, Bool.not_true, gd_false, vb_some, un1, un2, xPick_t, tt_eq, bite_t]
      exact bad (by simp [forbidB, a1])
    by_cases a2 : (g.rules.length : Int) ≤ x
    · simp only [a1, a2, decide_true, decide_false, isB_f, isB_t, Bool.not_true, Bool.not_false, gd_false, gd_true, vb_some, un1, un2, xPick_t, xPick_f, tt_eq, q0, q1, q2, l3, xGe_i, nr, bite_t]
      exact bad (by simp [forbidB, a1, a2])
    by_cases a3 : z < 0
    · simp only [a1, a2, a3, decide_true, decide_false, isB_f, isB_t, Bool.not_true, Bool.not_false, gd_false, gd_true, vb_some, un1, un2, xPick_t, xPick_f, tt_eq, q0, q1, q2, l3, xGe_i, xLt_i, nr, bite_t]
      exact bad (by simp [forbidB, a1, a2, a3])
    by_cases a4 : (g.rules.length : Int) ≤ z
    · simp only [a1, a2, a3, a4, decide_true, decide_false, isB_f, isB_t, Bool.not_true, Bool.not_false, gd_false, gd_true, vb_some, un1, un2, xPick_t, xPick_f, tt_eq, q0, q1, q2, l3, xGe_i, xLt_i, nr, bite_t]
      exact bad (by simp [forbidB, a1, a2, a3, a4])
    by_cases a5 : y < 0
    · simp only [a1, a2, a3, a4, a5, decide_true, decide_false, isB_f, isB_t, Bool.not_true, Bool.not_false, gd_false, gd_true, vb_some, un1, un2, xPick_t, xPick_f, tt_eq, q0, q1, q2, l3, xGe_i, xLt_i, nr, bite_t]
      refine bad ?_
      have a1' : (x.toNat : Int) = x := by omega
      have h5 : ¬ 0 ≤ y := by omega
      unfold forbidB
      rw [if_neg (by simp only; omega)]
      split <;> simp [h5]
    have hx0 : x.toNat < g.rules.length := by omega
    have hz0 : z.toNat < g.rules.length := by omega
    have hra : g.rules[x.toNat]? = some g.rules[x.toNat] := List.getElem?_eq_getElem hx0
    have hrb : g.rules[z.toNat]? = some g.rules[z.toNat] := List.getElem?_eq_getElem hz0
    have spec : forbidB g (x, y, z) = decide (0 ≤ y ∧ y < (g.rules[x.toNat]).right.length ∧ (g.rules[x.toNat]).right[y.toNat]? = some (g.rules[z.toNat]).left) := by
      unfold forbidB
      rw [if_neg (by simp only; omega)]
      simp only [hra, hrb]
    simp only [a1, a2, a3, a4, a5, decide_true, decide_false, isB_f, isB_t, Bool.not_true, Bool.not_false, gd_false, gd_true, vb_some, un1, un2, xPick_t, xPick_f, tt_eq, q0, q1, q2, l3, xGe_i, xLt_i, nr, xFld_p, Nat.zero_add]
    refine Ret.idx r.rules (by omega) (by omega) fun b4 o4 cs4 ra hra' s4 hle4 hE4 => ?_
    have era : ra = g.rules[x.toNat] := by rw [hra] at hra'; exact (Option.some.inj hra').symm
    obtain ⟨qv, hE4, hq⟩ := hE4
    have ld1 : xLd (.pointer (some ⟨b4, o4 + 1, none⟩)) h3 = some qv := xLdE (st3.sees s4) hle4 hE4 rfl
    have nq := RdS.len hq
    simp only [xFld_p, vb_some, ld1, nq, xGe_i]
    by_cases a6 : (ra.right.length : Int) ≤ y
    · simp only [a6, decide_true, isB_f, Bool.not_true, gd_false, vb_some, un1, un2, xPick_t, tt_eq, bite_t]
      refine bad ?_
      rw [spec, ← era]
      simp; omega
    simp only [a6, decide_false, isB_f, Bool.not_false, gd_true, vb_some, xPick_f, l3, q0, q1, q2, xFld_p, Nat.zero_add]
    refine Ret.idx r.rules (by omega) (by omega) fun b5 o5 cs5 ra5 hra5 s5 hle5 hE5 => ?_
    have era5 : ra5 = g.rules[x.toNat] := by rw [hra] at hra5; exact (Option.some.inj hra5).symm
    obtain ⟨qv5, hE5, hq5⟩ := hE5
    have ld5 : xLd (.pointer (some ⟨b5, o5 + 1, none⟩)) h3 = some qv5 := xLdE (st3.sees s5) hle5 hE5 rfl
    simp only [xFld_p, vb_some, ld5, q0, q1, q2, l3]
    refine Ret.idx hq5 (by omega) (by rw [era5, ← era]; omega) fun b6 o6 cs6 yv hy s6 hle6 hE6 => ?_
    have ly : xLd (.pointer (some ⟨b6, o6, none⟩)) h3 = some (.int .i64 yv) := xLdE (st3.sees s6) hle6 hE6 (j := 0) rfl
    simp only [ly, vb_some, q0, q1, q2, l3]
    refine Ret.idx r.rules (by omega) (by omega) fun b7 o7 cs7 rb hrb' s7 hle7 hE7 => ?_
    have erb : rb = g.rules[z.toNat] := by rw [hrb] at hrb'; exact (Option.some.inj hrb').symm
    obtain ⟨qv7, hE7, hq7⟩ := hE7
    have lz : xLd (.pointer (some ⟨b7, o7 + 0, none⟩)) h3 = some (.int .i64 rb.left) := xLdE (st3.sees s7) hle7 hE7 rfl
    rw [Nat.add_zero] at lz
    simp only [xFld_p, Nat.add_zero, vb_some, lz, xNe_i]
    rw [era5] at hy
    rw [hy, ← erb] at spec
    by_cases a7 : yv = rb.left
    · simp only [a7, decide_true, Bool.not_true, bite_f]
      refine good ?_
      rw [spec, a7, ← era]
      simp; omega
    · simp only [a7, decide_false, Bool.not_false, bite_t]
      refine bad ?_
      rw [spec]
      simp [a7]
theorem loop20 {h0 : PH} {g : Gr} {v rv fv cv kv : Value} {b1 : Nat} (hn : 9223372036854775808 ≤ n) (r : RdG h0 v g rv fv cv kv) (hg : GIn g) (hw : wholeE g = 0) : ∀ (k i m : Nat) (h : PH), i + k = g.rules.length → k < m → St h0 h [(b1, gcs g rv fv cv kv)] → (∀ j x, j < i → g.rules[j]? = some x → decide (ruleEr g x ≠ 0) = false) →
    Ret (lp m (B20r n cl) [.pointer (some ⟨b1, 0, none⟩), .int .i64 i] h) fun u _ => u = .tuple ⟨[.int .i64 (formE g).1, .int .i64 (formE g).2]⟩ := by
  have un1 : isB false undef = false := rfl
  have un2 : isB true undef = false := rfl
  intro k
  induction k with
  | zero =>
    intro i m h hi hm st hno
    obtain ⟨m, rfl⟩ : ∃ q, m = q + 1 := ⟨m - 1, by omega⟩
    rw [lp_succ]
    have l3 : xLd (.pointer (some ⟨b1, 3, none⟩)) h = some rv := xLd_at (st.row (.head _)) rfl
    have c : ¬ ((i : Int) < g.rules.length) := by omega
    have hf := findIdx_none (p := fun r => decide (ruleEr g r ≠ 0)) (l := g.rules) (i := i) (by omega) hno
    have hf : g.rules.findIdx? (fun r => decide (ruleEr g r ≠ 0)) = none := by
      unfold idxF at hf
      split at hf
      · rename_i j _; omega
      · assumption
    have spec : formE g = if g.forbid.any (fun f => !forbidB g f) then (-1, 6) else (-1, 0) := by
      unfold formE; rw [if_neg (by simp [hw]), hf]
    simp only [B20r, ucons_cons, F20_12, xFld_p, Nat.zero_add, vb_some, l3, RdS.len r.rules, xLt_i, c, decide_false, bite_f, F20_11, vN_eq]
    refine loop20f r hg (fun h' hb => ?_) (fun h' hb => ?_) g.forbid.length 0 n h (by omega) (by have := hg.flen; omega) st (by omega)
    · rw [spec, if_pos hb]
    · rw [spec, hb]; rfl
  | succ k ih' =>
    intro i m h hi hm st hno
    obtain ⟨m, rfl⟩ : ∃ q, m = q + 1 := ⟨m - 1, by omega⟩
    rw [lp_succ]
    have hrl := hg.rlen
    have l3 : xLd (.pointer (some ⟨b1, 3, none⟩)) h = some rv := xLd_at (st.row (.head _)) rfl
    have c : ((i : Int) < g.rules.length) := by omega
    simp only [B20r, ucons_cons, F20_12, xFld_p, Nat.zero_add, vb_some, l3, RdS.len r.rules, xLt_i, c, decide_true, bite_t, F20_7]
    refine Ret.idx r.rules (by omega) c fun b o cs ru hx s hle hE => ?_
    have hx : g.rules[i]? = some ru := by simpa using hx
    have hxm := List.mem_of_getElem? hx
    obtain ⟨qv, hE, hq⟩ := hE
    refine Ret.vb (xLdA_at (st.sees s) hE hle) ?_
    refine Ret.salloc st z29 fun h2 b3 st2 => ?_
    refine Ret.sstA st2 (i := 0) rfl rfl (Nat.le_refl _) (by simp only [oneCells, List.all_cons, List.all_nil, hq.one]; rfl) fun h3 st3 => ?_
    have st3 : St h0 h3 [(b3, [.int .i64 ru.left, qv, .int .i64 ru.dyn]), (b1, gcs g rv fv cv kv)] := st3
    have q0 : xLd (.pointer (some ⟨b3, 0, none⟩)) h3 = some (.int .i64 ru.left) := xLd_at (st3.row (.head _)) rfl
    have l0 : xLd (.pointer (some ⟨b1, 0, none⟩)) h3 = some (.int .i64 g.names) := xLd_at (st3.row (.tail _ (.head _))) rfl
    have go : ∀ ok, ok = isName g.names ru.left → Ret (lp n (F20_6 n cl (lp m (B20r n cl))) [.pointer (some ⟨b1, 0, none⟩), .int .i64 i, .pointer (some ⟨b3, 0, none⟩), .bool ok, .int .i64 ((0 : Nat) : Int)] h3) fun u _ => u = .tuple ⟨[.int .i64 (formE g).1, .int .i64 (formE g).2]⟩ := by
      intro ok hok
      refine loop20s (qv := qv) hq (hg.rl ru hxm) (hg.right ru hxm) (by omega) (fun h' hb => ?_) (fun h' st' hb => ?_) ru.right.length 0 n ok h3 (by omega) (by have := hg.rl ru hxm; omega) (by simp [hok]) st3
      · have hf := findIdx_some (p := fun r => decide (ruleEr g r ≠ 0)) hx (by simp [hb]) hno
        have hf : g.rules.findIdx? (fun r => decide (ruleEr g r ≠ 0)) = some i := by
          unfold idxF at hf
          split at hf
          · rename_i j hj; rw [hj]; congr 1; omega
          · omega
        unfold formE
        rw [if_neg (by simp [hw]), hf]
        simp [hx]
      · exact ih' (i + 1) m h' (by omega) (by omega) st' (nextNo hno hx (by simp [hb]))
    simp only [xFld_p, Nat.zero_add, vb_some, q0, vN_eq, xGe_i, show (((0 : Nat) : Int)) = 0 from rfl]
    by_cases a1 : 0 ≤ ru.left
    · simp only [a1, decide_true, isB_t, gd_true, vb_some, q0, l0, xLt_i, xPick_t]
      exact go _ (by simp [isName, a1])
    · simp only [a1, decide_false, isB_t, gd_false, vb_some, xPick_f, ff_eq]
      exact go _ (by simp [isName, a1])
end
end Go.Am
