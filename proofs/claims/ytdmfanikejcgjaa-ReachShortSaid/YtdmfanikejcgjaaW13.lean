import Derived.Test.YtdmfanikejcgjaaW12
set_option linter.unusedSimpArgs false
set_option linter.unusedVariables false
namespace Go.Am
open Go Go.RowKit Go.Proofs

section
variable {n : Nat} {cl ih : CL} {h : PH}
theorem loop31 {v : Value} {l : List Int} {h0 : PH} (r : RdI h0 v l) (hl : l.length < 9223372036854775808) : ∀ (k i m : Nat) (h : PH), i + k = l.length → k < m → St h0 h [] → (∀ j x, j < i → l[j]? = some x → badClass x = false) →
    Ret (lp m (fun r2 y1 h => ucons y1 fun v2 y3 => ucons y3 fun v4 y5 => F31_2 n cl v2 v4 r2 h) [v, .int .i64 i] h) fun u _ => u = .bool (!l.any badClass) := by
  have un1 : isB false undef = false := rfl
  have un2 : isB true undef = false := rfl
  intro k
  induction k with
  | zero =>
    intro i m h hi hm st hno
    obtain ⟨m, rfl⟩ : ∃ q, m = q + 1 := ⟨m - 1, by omega⟩
    rw [lp_succ]
    have c : ¬ ((i : Int) < l.length) := by omega
    have hany : l.any badClass = false := by
      rw [List.any_eq_false]
      intro x hx
      obtain ⟨j, hj⟩ := List.getElem?_of_mem hx
      have := (List.getElem?_eq_some_iff.1 hj).1
      simp [hno j x (by omega) hj]
    simp only [ucons_cons, F31_2, RdS.len r, vb_some, xLt_i, c, decide_false, bite_f, tt_eq]
    exact Ret.of (by rw [hany]; rfl)
  | succ k ih =>
    intro i m h hi hm st hno
    obtain ⟨m, rfl⟩ : ∃ q, m = q + 1 := ⟨m - 1, by omega⟩
    rw [lp_succ]
    have c : ((i : Int) < l.length) := by omega
    simp only [ucons_cons, F31_2, RdS.len r, vb_some, xLt_i, c, decide_true, bite_t, F31_1]
    refine Ret.idx r (by omega) c fun b o cs x hx s hle hE => ?_
    have hx : l[i]? = some x := by simpa using hx
    have ld : xLd (.pointer (some ⟨b, o, none⟩)) h = some (.int .i64 x) := xLdE (st.sees s) hle hE (j := 0) rfl
    have bad : badClass x = true → Ret (some (ff, h)) fun u (_ : PH) => u = .bool (!l.any badClass) := by
      intro hb
      have : l.any badClass = true := List.any_eq_true.2 ⟨x, List.mem_of_getElem? hx, hb⟩
      exact Ret.of (by rw [this]; rfl)
    simp only [ld, vb_some, vN_eq, xLt_i, show (((0 : Nat) : Int)) = 0 from rfl, show (((100 : Nat) : Int)) = 100 from rfl]
    by_cases a1 : x < 0
    · simp only [a1, decide_true, isB_f, Bool.not_true, gd_false, vb_some, un1, un2, xPick_t, tt_eq, bite_t]
      exact bad (by simp [badClass, a1])
    · simp only [a1, decide_false, isB_f, Bool.not_false, gd_true, vb_some]
      refine Ret.idx r (by omega) c fun b2 o2 cs2 x' hx' s2 hle2 hE2 => ?_
      have hxx : x' = x := by
        have hx' : l[i]? = some x' := by simpa using hx'
        rw [hx] at hx'; cases hx'; rfl
      have ld2 : xLd (.pointer (some ⟨b2, o2, none⟩)) h = some (.int .i64 x') := xLdE (st.sees s2) hle2 hE2 (j := 0) rfl
      rw [hxx] at ld2
      simp only [ld2, vb_some, xGt_i, xPick_f]
      by_cases a2 : 100 < x
      · simp only [a2, decide_true, bite_t]
        exact bad (by simp [badClass, a2])
      · simp only [a2, decide_false, bite_f, F31_0, vN_eq, xAdd_i, vb_some, show (((1 : Nat) : Int)) = 1 from rfl, wrap1 (i := i) (by omega)]
        exact ih (i + 1) m h (by omega) (by omega) st (nextNo hno hx (by simp [badClass]; omega))
theorem c31 [OkH h] {v : Value} {l : List Int} (hn : 9223372036854775808 ≤ n) (r : RdI h v l) (hl : l.length < 9223372036854775808) : pcall (F31 n cl v h.fzn) = some (.bool (!l.any badClass)) := by
  refine pcall_of ?_ rfl
  unfold F31
  exact loop31 (h0 := h.fzn) (r.mono fun _ _ s => s) hl l.length 0 n h.fzn (by omega) (by omega) (St.start _) (by omega)
theorem c32 [OkH h] {g : Gr} {rv fv cv kv : Value} {s : Int} (hs : inR s) : pcall (F32 n cl (.agg ⟨gcs g rv fv cv kv⟩) (.int .i64 s) h.fzn) = some (.bool (isSym g.names g.kinds s)) := by
  refine pcall_of ?_ rfl
  unfold F32
  refine Ret.sbox (St.start _) (fun h b st => ?_)
  have l0 : xLd (.pointer (some ⟨b, 0, none⟩)) h = some (.int .i64 g.names) := xLd_at (st.row (.head _)) rfl
  have l1 : xLd (.pointer (some ⟨b, 1, none⟩)) h = some (.int .i64 g.kinds) := xLd_at (st.row (.head _)) rfl
  have hw : IntKind.i64.wrap (-1 - s) = -1 - s := wrap_in (by have := hs.2; omega) (by have := hs.1; omega)
  simp only [vN_eq, xLt_i, vb_some, show (((0 : Nat) : Int)) = 0 from rfl]
  by_cases c : s < 0
  · simp only [c, decide_true, bite_t, F32_0, vM_eq, show Int.negSucc 0 = -1 from rfl, xSub_i, hw, vb_some, xFld_p, Nat.zero_add, l1, xLt_i]
    have c' : ¬ 0 ≤ s := by omega
    exact Ret.of (by simp [isSym, isKind, isName, c, c'])
  · simp only [c, decide_false, bite_f, F32_1, xFld_p, Nat.zero_add, vb_some, l0, xLt_i]
    exact Ret.of (by simp [isSym, isKind, isName, c]; omega)

def okR (g : Gr) (r : Rl) : Bool := isName g.names r.left && !r.right.any fun s => !isSym g.names g.kinds s
theorem okR_er {g : Gr} {r : Rl} : ruleEr g r = if okR g r = true then (if 8 < r.right.length then 3 else if r.dyn < -1000 ∨ 1000 < r.dyn then 1 else 0) else 6 := by
  unfold ruleEr okR
  cases isName g.names r.left <;> cases r.right.any (fun s => !isSym g.names g.kinds s) <;> rfl
/-- What is left to do with a rule, told as far as it is known. -/
theorem loop20s {h0 : PH} {g : Gr} {rv fv cv kv : Value} {b1 b3 : Nat} {r8 : Kt} {ru : Rl} {qv : Value} {i : Nat} {Q : Value → PH → Prop} (hq : RdI h0 qv ru.right) (hl : ru.right.length < 9223372036854775808) (hs : ∀ s ∈ ru.right, inR s) (hi : i < 9223372036854775807)
    (hbad : ∀ h, ruleEr g ru ≠ 0 → Q (.tuple ⟨[.int .i64 i, .int .i64 (ruleEr g ru)]⟩) h)
    (hk : ∀ h, St h0 h [(b1, gcs g rv fv cv kv)] → ruleEr g ru = 0 → Ret (r8 [.pointer (some ⟨b1, 0, none⟩), .int .i64 ((i + 1 : Nat) : Int)] h) Q) :
    ∀ (k j m : Nat) (ok : Bool) (h : PH), j + k = ru.right.length → k < m → (ok = (isName g.names ru.left && (ru.right.take j).all fun s => isSym g.names g.kinds s)) → St h0 h [(b3, [.int .i64 ru.left, qv, .int .i64 ru.dyn]), (b1, gcs g rv fv cv kv)] →
    Ret (lp m (F20_6 n cl r8) [.pointer (some ⟨b1, 0, none⟩), .int .i64 i, .pointer (some ⟨b3, 0, none⟩), .bool ok, .int .i64 j] h) Q := by
  have un1 : isB false undef = false := rfl
  have un2 : isB true undef = false := rfl
  -- the end
  have fin : ∀ (ok : Bool) (h : PH), ok = okR g ru → St h0 h [(b3, [.int .i64 ru.left, qv, .int .i64 ru.dyn]), (b1, gcs g rv fv cv kv)] → Ret (F20_4 n cl (.bool ok) (.int .i64 i) (.pointer (some ⟨b3, 0, none⟩)) r8 (.pointer (some ⟨b1, 0, none⟩)) h) Q := by
    intro ok h hok st
    have q1 : xLd (.pointer (some ⟨b3, 1, none⟩)) h = some qv := xLd_at (st.row (.head _)) rfl
    have q2 : xLd (.pointer (some ⟨b3, 2, none⟩)) h = some (.int .i64 ru.dyn) := xLd_at (st.row (.head _)) rfl
    have er := okR_er (g := g) (r := ru)
    rw [← hok] at er
    unfold F20_4
    cases ok with
    | false =>
      simp only [xNot_b, Bool.not_false, vb_some, bite_t]
      have er : ruleEr g ru = 6 := er
      have := hbad h (by rw [er]; decide)
      rw [er] at this
      exact Ret.of this
    | true =>
      simp only [if_true] at er
      simp only [xNot_b, Bool.not_true, vb_some, bite_f, F20_3, xFld_p, Nat.zero_add, q1, RdS.len hq, vN_eq, xGt_i, show (((8 : Nat) : Int)) = 8 from rfl]
      by_cases a1 : 8 < ru.right.length
      · have a1' : (8 : Int) < ru.right.length := by omega
        rw [if_pos a1] at er
        have := hbad h (by rw [er]; decide)
        rw [er] at this
        simp only [a1', decide_true, bite_t]
        exact Ret.of this
      · have a1' : ¬ (8 : Int) < ru.right.length := by omega
        rw [if_neg a1] at er
        simp only [a1', decide_false, bite_f, F20_2, xFld_p, Nat.zero_add, vb_some, q2, vM_eq, show Int.negSucc 999 = -1000 from rfl, xLt_i, vN_eq, show (((1000 : Nat) : Int)) = 1000 from rfl]
        by_cases a2 : ru.dyn < -1000
        · rw [if_pos (.inl a2)] at er
          have := hbad h (by rw [er]; decide)
          rw [er] at this
          simp only [a2, decide_true, isB_f, Bool.not_true, gd_false, vb_some, xPick_t, tt_eq, bite_t]
          exact Ret.of this
        · by_cases a3 : 1000 < ru.dyn
          · rw [if_pos (.inr a3)] at er
            have := hbad h (by rw [er]; decide)
            rw [er] at this
            simp only [a2, a3, decide_true, decide_false, isB_f, Bool.not_false, gd_true, vb_some, q2, xGt_i, xPick_f, bite_t]
            exact Ret.of this
          · rw [if_neg (by omega)] at er
            simp only [a2, a3, decide_false, isB_f, Bool.not_false, gd_true, vb_some, q2, xGt_i, xPick_f, bite_f, F20_1, vN_eq, xAdd_i, show (((1 : Nat) : Int)) = 1 from rfl, wrap1 (i := i) hi]
            exact hk h (st.drop (.cons _ (List.Sublist.refl _))) er
  intro k
  induction k with
  | zero =>
    intro j m ok h hj hm hok st
    obtain ⟨m, rfl⟩ : ∃ q, m = q + 1 := ⟨m - 1, by omega⟩
    rw [lp_succ]
    have q1 : xLd (.pointer (some ⟨b3, 1, none⟩)) h = some qv := xLd_at (st.row (.head _)) rfl
    have c : ¬ ((j : Int) < ru.right.length) := by omega
    simp only [F20_6, ucons_cons, F20_5, xFld_p, Nat.zero_add, vb_some, q1, RdS.len hq, xLt_i, c, decide_false, isB_t, gd_false, xPick_f, ff_eq, bite_f]
    refine fin ok h ?_ st
    rw [hok, List.take_of_length_le (by omega)]
    unfold okR
    congr 1
    rw [List.all_eq_not_any_not]
  | succ k ih' =>
    intro j m ok h hj hm hok st
    obtain ⟨m, rfl⟩ : ∃ q, m = q + 1 := ⟨m - 1, by omega⟩
    rw [lp_succ]
    have q1 : xLd (.pointer (some ⟨b3, 1, none⟩)) h = some qv := xLd_at (st.row (.head _)) rfl
    have c : ((j : Int) < ru.right.length) := by omega
    have hlt : j < ru.right.length := by omega
    have hx : ru.right[j]? = some ru.right[j] := List.getElem?_eq_getElem hlt
    simp only [F20_6, ucons_cons, F20_5, xFld_p, Nat.zero_add, vb_some, q1, RdS.len hq, xLt_i, c, decide_true, isB_t, gd_true, xPick_t]
    cases ok with
    | false =>
      simp only [bite_f]
      refine fin false h ?_ st
      unfold okR
      cases hnm : isName g.names ru.left with
      | false => rfl
      | true =>
        rw [hnm, Bool.true_and] at hok
        have : (ru.right.any fun s => !isSym g.names g.kinds s) = true := by
          rw [eq_comm, List.all_eq_false] at hok
          obtain ⟨x, hx, hp⟩ := hok
          exact List.any_eq_true.2 ⟨x, List.mem_of_mem_take hx, by simpa using hp⟩
        rw [this]; rfl
    | true =>
      have := st.ok
      have lw : xLdA 7 (.pointer (some ⟨b1, 0, none⟩)) h = some (.agg ⟨gcs g rv fv cv kv⟩) := xLdA_at (st.row (.tail _ (.head _))) rfl (Nat.le_refl _)
      simp only [bite_t, F20_0, xFld_p, Nat.zero_add, vb_some, lw, q1]
      refine Ret.idx hq (by omega) c fun b o cs x hx' s hle hE => ?_
      have hx' : ru.right[j]? = some x := by simpa using hx'
      refine Ret.vb (xLdE (st.sees s) hle hE (j := 0) rfl) ?_
      rw [c32 (hs x (List.mem_of_getElem? hx'))]
      simp only [vb_some, vN_eq, xAdd_i, show (((1 : Nat) : Int)) = 1 from rfl, wrap1 (i := j) (by omega)]
      refine ih' (j + 1) m _ h (by omega) (by omega) ?_ st
      have hok : (isName g.names ru.left && (ru.right.take j).all fun s => isSym g.names g.kinds s) = true := hok.symm
      rw [Bool.and_eq_true] at hok
      rw [List.take_add_one, hx', List.all_append, hok.1, hok.2]
      simp
end
end Go.Am
