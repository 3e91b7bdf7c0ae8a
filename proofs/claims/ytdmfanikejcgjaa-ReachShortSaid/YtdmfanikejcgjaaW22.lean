import Derived.Test.YtdmfanikejcgjaaW21
import Derived.Test.YtdmfanikejcgjaaL3
set_option linter.unusedSimpArgs false
set_option linter.unusedVariables false
namespace Go.Am
open Go Go.RowKit Go.Proofs
section
variable {n : Nat} {cl ih : CL} {h : PH}
/-- A rule's length, as the reference counts it. -/
theorem loop5s {h0 : PH} {g : Gr} {rv fv cv kv : Value} {b1 b2 b3 c2 : Nat} {k13 : Kt} {ru : Rl} {qv pv mv ii : Value} {ex : List (Nat × List Value)} {out : List Int} {Q : Value → PH → Prop} (hq : RdI h0 qv ru.right) (h8 : ru.right.length ≤ 8) (hs : ∀ s ∈ ru.right, isSym g.names g.kinds s = true) (ht : TabS g out)
    (hk : ∀ h, St h0 h ((b3, [.int .i64 ru.left, qv, .int .i64 ru.dyn]) :: (b2, iv out) :: (b1, gcs g rv fv cv kv) :: ex) → Ret (F5_8 n cl k13 [.pointer (some ⟨b1, 0, none⟩), .slice (some ⟨b2, 0, none⟩) g.names.toNat c2, pv, mv, ii, .pointer (some ⟨b3, 0, none⟩), .int .i64 (longF g out 0 ru.right)] h) Q) :
    ∀ (k j m : Nat) (acc : Int) (h : PH), j + k = ru.right.length → k < m → (acc = -1 ∧ longF g out 0 ru.right = -1 ∨ 0 ≤ acc ∧ acc ≤ j * 1000000000 ∧ longF g out 0 ru.right = longF g out acc (ru.right.drop j)) → St h0 h ((b3, [.int .i64 ru.left, qv, .int .i64 ru.dyn]) :: (b2, iv out) :: (b1, gcs g rv fv cv kv) :: ex) →
    Ret (lp m (F5_11 n cl k13) [.pointer (some ⟨b1, 0, none⟩), .slice (some ⟨b2, 0, none⟩) g.names.toNat c2, pv, mv, ii, .pointer (some ⟨b3, 0, none⟩), .int .i64 acc, .int .i64 j] h) Q := by
  have un1 : isB false undef = false := rfl
  have un2 : isB true undef = false := rfl
  intro k
  induction k with
  | zero =>
    intro j m acc h hj hm ha st
    obtain ⟨m, rfl⟩ : ∃ q, m = q + 1 := ⟨m - 1, by omega⟩
    rw [lp_succ]
    have q1 : xLd (.pointer (some ⟨b3, 1, none⟩)) h = some qv := xLd_at (st.row (.head _)) rfl
    have c : ¬ ((j : Int) < ru.right.length) := by omega
    simp only [F5_11, ucons_cons, F5_10, xFld_p, Nat.zero_add, vb_some, q1, RdS.len hq, xLt_i, c, decide_false, isB_t, gd_false, xPick_f, ff_eq, bite_f, jn_eq, F5_9, vN_eq, xGt_i, show (((1000000000 : Nat) : Int)) = 1000000000 from rfl]
    have hk := hk h st
    rcases ha with ⟨rfl, e⟩ | ⟨h1, h2, e⟩
    · rw [e] at hk
      simp only [show ¬ ((1000000000 : Int) < -1) from by omega, decide_false, bite_f]
      exact hk
    · rw [List.drop_of_length_le (by omega)] at e
      simp only [longF] at e
      by_cases c3 : 1000000000 < acc
      · rw [if_pos c3] at e
        rw [e] at hk
        simp only [c3, decide_true, bite_t]
        exact hk
      · rw [if_neg c3] at e
        rw [e] at hk
        simp only [c3, decide_false, bite_f]
        exact hk
  | succ k ih' =>
    intro j m acc h hj hm ha st
    obtain ⟨m, rfl⟩ : ∃ q, m = q + 1 := ⟨m - 1, by omega⟩
    rw [lp_succ]
    have q1 : xLd (.pointer (some ⟨b3, 1, none⟩)) h = some qv := xLd_at (st.row (.head _)) rfl
    have c : ((j : Int) < ru.right.length) := by omega
    have next : ∀ acc : Int, (acc = -1 ∧ longF g out 0 ru.right = -1 ∨ 0 ≤ acc ∧ acc ≤ ((j + 1 : Nat) : Int) * 1000000000 ∧ longF g out 0 ru.right = longF g out acc (ru.right.drop (j + 1))) → Ret (F5_4 n cl (lp m (F5_11 n cl k13)) [.pointer (some ⟨b1, 0, none⟩), .slice (some ⟨b2, 0, none⟩) g.names.toNat c2, pv, mv, ii, .pointer (some ⟨b3, 0, none⟩), .int .i64 acc, .int .i64 j] h) Q := by
      intro acc ha
      simp only [F5_4, ucons_cons, F5_0, vN_eq, xAdd_i, vb_some, show (((1 : Nat) : Int)) = 1 from rfl, wrap1 (i := j) (by omega)]
      exact ih' (j + 1) m acc h (by omega) (by omega) ha st
    simp only [F5_11, ucons_cons, F5_10, xFld_p, Nat.zero_add, vb_some, q1, RdS.len hq, xLt_i, c, decide_true, isB_t, gd_true, vN_eq, xGe_i, xPick_t, show (((0 : Nat) : Int)) = 0 from rfl]
    rcases ha with ⟨rfl, e⟩ | ⟨h1, h2, e⟩
    · simp only [show ¬ ((0 : Int) ≤ -1) from by omega, decide_false, bite_f, jn_eq, F5_9, vN_eq, xGt_i, vb_some, show (((1000000000 : Nat) : Int)) = 1000000000 from rfl, show ¬ ((1000000000 : Int) < -1) from by omega]
      have hk := hk h st
      rw [e] at hk
      exact hk
    · simp only [h1, decide_true, bite_t, jn_eq, F5_5, xFld_p, Nat.zero_add, vb_some, q1]
      refine Ret.idx hq (by omega) c fun b o cs s hsx sq hle hE => ?_
      have hsx : ru.right[j]? = some s := by simpa using hsx
      have ls : xLd (.pointer (some ⟨b, o, none⟩)) h = some (.int .i64 s) := xLdE (st.sees sq) hle hE (j := 0) rfl
      rw [drop_at hsx] at e
      simp only [ls, vb_some, vN_eq, xLt_i, show (((0 : Nat) : Int)) = 0 from rfl]
      rcases sym_neg (hs s (List.mem_of_getElem? hsx)) with ⟨c1, c2'⟩ | ⟨c1, c2'⟩
      · have ew : IntKind.i64.wrap (acc + 1) = acc + 1 := wrap_in (by omega) (by omega)
        simp only [c1, decide_true, bite_t, F5_1, vN_eq, xAdd_i, vb_some, show (((1 : Nat) : Int)) = 1 from rfl, ew]
        refine next (acc + 1) (.inr ⟨by omega, by omega, ?_⟩)
        rw [e]; simp only [longF, c2', Bool.false_eq_true, if_false]
      · have hnm := isName_iff.1 c2'
        have hlen := ht.len
        have hx : out[s.toNat]? = some (out.getD s.toNat 0) := by rw [List.getD, List.getElem?_eq_getElem (by omega)]; rfl
        have hlo := getD_lo ht (i := s.toNat)
        have ia : xIdxS 1 (.slice (some ⟨b2, 0, none⟩) g.names.toNat c2) (.int .i64 s) = some (.pointer (some ⟨b2, s.toNat, none⟩)) := by
          rw [xIdxS_at hnm.1 (by omega)]; simp
        have lo : xLd (.pointer (some ⟨b2, s.toNat, none⟩)) h = some (.int .i64 (out.getD s.toNat 0)) := xLd_at (st.row (.tail _ (.head _))) (by rw [List.getElem?_map, hx]; rfl)
        simp only [longF, c2', if_true] at e
        simp only [c1, decide_false, bite_f, F5_3, xFld_p, Nat.zero_add, vb_some, q1]
        refine Ret.idx hq (by omega) c fun b4 o4 cs4 s4 hs4 sq4 hle4 hE4 => ?_
        have e4 : s4 = s := by
          have hs4 : ru.right[j]? = some s4 := by simpa using hs4
          rw [hsx] at hs4; exact (Option.some.inj hs4).symm
        have ls4 : xLd (.pointer (some ⟨b4, o4, none⟩)) h = some (.int .i64 s4) := xLdE (st.sees sq4) hle4 hE4 (j := 0) rfl
        rw [e4] at ls4
        simp only [ls4, vb_some, ia, lo, vN_eq, xLt_i, show (((0 : Nat) : Int)) = 0 from rfl, vM_eq, show Int.negSucc 0 = -1 from rfl]
        by_cases c3 : out.getD s.toNat 0 < 0
        · have c4 : out.getD s.toNat 0 = -1 := by omega
          rw [if_pos c4] at e
          simp only [c3, decide_true, bite_t]
          exact next (-1) (.inl ⟨rfl, e⟩)
        · have c4 : ¬ out.getD s.toNat 0 = -1 := by omega
          rw [if_neg c4] at e
          simp only [c3, decide_false, bite_f, F5_2, xFld_p, Nat.zero_add, vb_some, q1]
          refine Ret.idx hq (by omega) c fun b5 o5 cs5 s5 hs5 sq5 hle5 hE5 => ?_
          have e5 : s5 = s := by
            have hs5 : ru.right[j]? = some s5 := by simpa using hs5
            rw [hsx] at hs5; exact (Option.some.inj hs5).symm
          have ls5 : xLd (.pointer (some ⟨b5, o5, none⟩)) h = some (.int .i64 s5) := xLdE (st.sees sq5) hle5 hE5 (j := 0) rfl
          rw [e5] at ls5
          have ew : IntKind.i64.wrap (acc + out.getD s.toNat 0) = acc + out.getD s.toNat 0 := wrap_in (by omega) (by omega)
          simp only [ls5, vb_some, ia, lo, xAdd_i, ew]
          exact next _ (.inr ⟨by omega, by omega, e⟩)
end
end Go.Am
