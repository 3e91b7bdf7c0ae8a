import Derived.Test.YtdmfanikejcgjaaW14
set_option linter.unusedSimpArgs false
set_option linter.unusedVariables false
namespace Go.Am
open Go Go.RowKit Go.Proofs
section
variable {n : Nat} {cl ih : CL} {h : PH}
theorem c20 [OkH h] {g : Gr} {v rv fv cv kv : Value} (hn : 9223372036854775808 ≤ n) (r : RdG h v g rv fv cv kv) (hg : GIn g) : pcall (F20 n cl v h.fzn) = some (.tuple ⟨[.int .i64 (formE g).1, .int .i64 (formE g).2]⟩) := by
  have un1 : isB false undef = false := rfl
  have un2 : isB true undef = false := rfl
  refine pcall_of ?_ rfl
  unfold F20
  rw [r.v]
  refine Ret.sbox (St.start _) (fun h1 b st => ?_)
  have := st.ok
  have ld : ∀ (o : Nat) (u : Value), (gcs g rv fv cv kv)[o]? = some u → xLd (.pointer (some ⟨b, o, none⟩)) h1 = some u := fun o u e => xLd_at (st.row (.head _)) e
  have l0 := ld 0 _ rfl
  have l1 := ld 1 _ rfl
  have l2 := ld 2 _ rfl
  have l3 := ld 3 _ rfl
  have l4 := ld 4 _ rfl
  have l5 := ld 5 _ rfl
  have l6 := ld 6 _ rfl
  have sees : ∀ b cs, Sees h b cs → Sees h1 b cs := fun b cs s => st.sees s
  have n3 := RdS.len r.rules
  have n4 := RdS.len r.forbid
  have n5 := RdS.len r.rclass
  have n6 := RdS.len r.kclass
  have e1 := c31 (n := n) (cl := cl) (h := h1) hn (r.rclass.mono sees) hg.clen
  have e2 := c31 (n := n) (cl := cl) (h := h1) hn (r.kclass.mono sees) hg.klen
  have bad : ∀ e, wholeE g = e → e ≠ 0 → Ret (some (Value.tuple ⟨[.int .i64 (-1), .int .i64 e]⟩, h1)) fun u (_ : PH) => u = .tuple ⟨[.int .i64 (formE g).1, .int .i64 (formE g).2]⟩ := by
    intro e he h0
    refine Ret.of ?_
    unfold formE
    rw [if_pos (by rw [he]; exact h0), he]
  simp only [xFld_p, Nat.zero_add, vb_some, l0, l1, l2, l3, l4, n3, n4, xLt_i, xGt_i, vN_eq, vM_eq, show Int.negSucc 0 = -1 from rfl,
    show (((1 : Nat) : Int)) = 1 from rfl, show (((40 : Nat) : Int)) = 40 from rfl, show (((60 : Nat) : Int)) = 60 from rfl, show (((200 : Nat) : Int)) = 200 from rfl, show (((0 : Nat) : Int)) = 0 from rfl, show (((3 : Nat) : Int)) = 3 from rfl]
  by_cases a1 : g.names < 1
  · simp only [a1, decide_true, isB_f, Bool.not_true, gd_false, vb_some, un1, un2, xPick_t, tt_eq, bite_t]
    exact bad 3 (by simp [wholeE, a1]) (by decide)
  by_cases a2 : 40 < g.names
  · simp only [a1, a2, decide_true, decide_false, isB_f, Bool.not_true, Bool.not_false, gd_false, gd_true, vb_some, un1, un2, xPick_t, xPick_f, tt_eq, l0, xGt_i, bite_t]
    exact bad 3 (by simp [wholeE, a2]) (by decide)
  by_cases a3 : g.kinds < 0
  · simp only [a1, a2, a3, decide_true, decide_false, isB_f, Bool.not_true, Bool.not_false, gd_false, gd_true, vb_some, un1, un2, xPick_t, xPick_f, tt_eq, l0, l1, xGt_i, xLt_i, bite_t]
    exact bad 3 (by simp [wholeE, a3]) (by decide)
  by_cases a4 : 40 < g.kinds
  · simp only [a1, a2, a3, a4, decide_true, decide_false, isB_f, Bool.not_true, Bool.not_false, gd_false, gd_true, vb_some, un1, un2, xPick_t, xPick_f, tt_eq, l0, l1, xGt_i, xLt_i, bite_t]
    exact bad 3 (by simp [wholeE, a4]) (by decide)
  by_cases a5 : 60 < g.rules.length
  · have a5' : (60 : Int) < g.rules.length := by omega
    simp only [a1, a2, a3, a4, a5', decide_true, decide_false, isB_f, Bool.not_true, Bool.not_false, gd_false, gd_true, vb_some, un1, un2, xPick_t, xPick_f, tt_eq, l0, l1, l3, n3, xGt_i, xLt_i, bite_t]
    exact bad 3 (by simp [wholeE, a5]) (by decide)
  by_cases a6 : 200 < g.forbid.length
  · have a5' : ¬ (60 : Int) < g.rules.length := by omega
    have a6' : (200 : Int) < g.forbid.length := by omega
    simp only [a1, a2, a3, a4, a5', a6', decide_true, decide_false, isB_f, Bool.not_true, Bool.not_false, gd_false, gd_true, vb_some, un1, un2, xPick_t, xPick_f, tt_eq, l0, l1, l3, l4, n3, n4, xGt_i, xLt_i, bite_t]
    exact bad 3 (by simp [wholeE, a6]) (by decide)
  have a5' : ¬ (60 : Int) < g.rules.length := by omega
  have a6' : ¬ (200 : Int) < g.forbid.length := by omega
  have w0 : wholeE g = if !isName g.names g.start then 6 else if !classesB g.rclass g.rules.length || !classesB g.kclass g.kinds then 1 else 0 := by
    unfold wholeE; rw [if_neg (by omega)]
  simp only [a1, a2, a3, a4, a5', a6', decide_true, decide_false, isB_f, Bool.not_true, Bool.not_false, gd_false, gd_true, vb_some, un1, un2, xPick_t, xPick_f, tt_eq, l0, l1, l3, l4, n3, n4, xGt_i, xLt_i, bite_f, F20_15, xFld_p, Nat.zero_add, l2, vN_eq, vM_eq, show Int.negSucc 0 = -1 from rfl, show (((0 : Nat) : Int)) = 0 from rfl, show (((6 : Nat) : Int)) = 6 from rfl, show (((1 : Nat) : Int)) = 1 from rfl]
  by_cases b1 : g.start < 0
  · simp only [b1, decide_true, isB_f, Bool.not_true, gd_false, vb_some, un1, un2, xPick_t, tt_eq, bite_t]
    exact bad 6 (by rw [w0]; simp [isName]; omega) (by decide)
  by_cases b2 : g.names ≤ g.start
  · simp only [b1, b2, decide_true, decide_false, isB_f, Bool.not_true, Bool.not_false, gd_false, gd_true, vb_some, un1, un2, xPick_t, xPick_f, tt_eq, l2, l0, xGe_i, bite_t]
    exact bad 6 (by rw [w0]; simp [isName]; omega) (by decide)
  have hnm : isName g.names g.start = true := isName_iff.2 ⟨by omega, by omega⟩
  rw [hnm] at w0
  have w0 : wholeE g = if !classesB g.rclass g.rules.length || !classesB g.kclass g.kinds then 1 else 0 := w0
  simp only [b1, b2, decide_true, decide_false, isB_f, Bool.not_true, Bool.not_false, gd_false, gd_true, vb_some, un1, un2, xPick_t, xPick_f, tt_eq, l2, l0, xGe_i, bite_f, F20_14, xFld_p, Nat.zero_add, l5, l3, n5, n3, xGt_i, vM_eq, vN_eq, show Int.negSucc 0 = -1 from rfl, show (((1 : Nat) : Int)) = 1 from rfl]
  by_cases d1 : (g.rules.length : Int) < g.rclass.length
  · simp only [d1, decide_true, isB_f, Bool.not_true, gd_false, vb_some, un1, un2, xPick_t, tt_eq, bite_t]
    exact bad 1 (by rw [w0]; simp [classesB]; omega) (by decide)
  by_cases d2 : g.kinds < g.kclass.length
  · simp only [d1, d2, decide_true, decide_false, isB_f, Bool.not_true, Bool.not_false, gd_false, gd_true, vb_some, un1, un2, xPick_t, xPick_f, tt_eq, l6, n6, l1, xGt_i, bite_t]
    exact bad 1 (by rw [w0]; simp [classesB]; omega) (by decide)
  cases d3 : g.rclass.any badClass with
  | true =>
    rw [d3] at e1
    simp only [d1, d2, decide_true, decide_false, isB_f, Bool.not_true, Bool.not_false, gd_false, gd_true, vb_some, un1, un2, xPick_t, xPick_f, tt_eq, l6, n6, l1, l5, xGt_i, e1, xNot_b, bite_t]
    exact bad 1 (by rw [w0]; simp only [classesB, d3]; simp) (by decide)
  | false =>
    rw [d3] at e1
    cases d4 : g.kclass.any badClass with
    | true =>
      rw [d4] at e2
      simp only [d1, d2, decide_true, decide_false, isB_f, Bool.not_true, Bool.not_false, gd_false, gd_true, vb_some, un1, un2, xPick_t, xPick_f, tt_eq, l6, n6, l1, l5, xGt_i, e1, e2, xNot_b, bite_t]
      exact bad 1 (by rw [w0]; simp only [classesB, d4]; simp) (by decide)
    | false =>
      rw [d4] at e2
      have w0 : wholeE g = 0 := by
        rw [w0]; simp only [classesB, d3, d4]
        have q1 : (g.rclass.length : Int) ≤ g.rules.length := by omega
        have q2 : (g.kclass.length : Int) ≤ g.kinds := by omega
        simp [q1, q2]
      simp only [d1, d2, decide_true, decide_false, isB_f, Bool.not_true, Bool.not_false, gd_false, gd_true, vb_some, un1, un2, xPick_t, xPick_f, tt_eq, l6, n6, l1, l5, xGt_i, e1, e2, xNot_b, bite_f, F20_13, vN_eq]
      have sf : ∀ b cs, Sees h b cs → Sees h.fzn b cs := fun b cs s => s
      exact loop20 hn (h0 := h.fzn) (r.mono sf) hg w0 g.rules.length 0 n h1 (by omega) (by have := hg.rlen; omega) st (by omega)
theorem c30 [OkH h] {g : Gr} {v rv fv cv kv : Value} (hn : 9223372036854775808 ≤ n) (r : RdG h v g rv fv cv kv) (hg : GIn g) : pcall (F30 n cl v h.fzn) = some (.bool (goodB g)) := by
  refine pcall_of ?_ rfl
  unfold F30
  rw [r.v]
  refine Ret.sbox (St.start _) (fun h1 b st => ?_)
  have := st.ok
  have lw : xLdA 7 (.pointer (some ⟨b, 0, none⟩)) h1 = some (.agg ⟨gcs g rv fv cv kv⟩) := xLdA_at (st.row (.head _)) rfl (Nat.le_refl _)
  have sees : ∀ b cs, Sees h b cs → Sees h1 b cs := fun b cs s => st.sees s
  have e := c20 (n := n) (cl := cl) (h := h1) hn (r.mono sees) hg
  rw [r.v] at e
  simp only [lw, vb_some, e, xExt_t, List.getElem?_cons_zero, List.getElem?_cons_succ, vN_eq, xEq_i]
  exact Ret.of rfl
end
end Go.Am
