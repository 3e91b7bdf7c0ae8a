import Derived.Test.YtdmfanikejcgjaaW11
set_option linter.unusedSimpArgs false
set_option linter.unusedVariables false
namespace Go.Am
open Go Go.RowKit Go.Proofs

theorem rulesU_succ {w : Nat} {e : Bool} {j : Nat} : rulesU w e (j + 1) = (rulesU w e j ++ if u1 w e j = true then [⟨(j : Int), [-1], 0⟩] else []) ++ if u2 w e j = true then [⟨0, [(j : Int), -1], 0⟩] else [] := rfl
theorem ab29 {a : Int} {b c d : Nat} : abuild Try.prog 29 [(0, .int .i64 a), (1, .slice (some ⟨b, 0, none⟩) c d)] = some (.agg ⟨[.int .i64 a, .slice (some ⟨b, 0, none⟩) c d, .int .i64 0]⟩) := by kernel_rfl
theorem ab29' {b c d : Nat} : abuild Try.prog 29 [(1, .slice (some ⟨b, 0, none⟩) c d)] = some (.agg ⟨[.int .i64 0, .slice (some ⟨b, 0, none⟩) c d, .int .i64 0]⟩) := by kernel_rfl
theorem ab27 {a c : Int} : abuild Try.prog 27 [(0, .int .i64 a), (1, .int .i64 c)] = some (.agg ⟨[.int .i64 a, .int .i64 c, .int .i64 0, nils, nils, nils, nils]⟩) := by kernel_rfl
theorem z27 : zcells Try.prog 27 = some [.int .i64 0, .int .i64 0, .int .i64 0, nils, nils, nils, nils] := by kernel_rfl

section
variable {n : Nat} {cl ih : CL} {h : PH}
theorem BG.ok {h0 : PH} {bg : Nat} {nm : Int} {rvv : Value} {rules : List Rl} {ex : List (Nat × List Value)} (g : BG h0 h bg nm rvv rules ex) : OkH h := let ⟨_, s, _, _⟩ := g.st; s.ok
theorem end8 {h0 : PH} {bg w N : Nat} {e : Bool} {rvv : Value} {ex : List (Nat × List Value)} (hn : 9223372036854775808 ≤ n) (h1 : 2 ≤ N) (h2 : N ≤ 20) (h3 : 1 ≤ w) (h4 : w < N) (g : BG h0 h bg N rvv (rulesU w e N) ex) :
    Ret (F8_8 n (CLs n ih) (.pointer (some ⟨bg, 0, none⟩)) (.int .i64 w) h) fun v _ => v = .bool true := by
  have := g.ok
  obtain ⟨rows, s, hm, _⟩ := g.st
  have lw : xLdA 7 (.pointer (some ⟨bg, 0, none⟩)) h = some (.agg ⟨bgC N rvv⟩) := xLdA_at (s.row hm) rfl (Nat.le_refl _)
  have hnm : (gU w e N).names.toNat = N := by simp
  have e22 := c22u (n := n) (ih := ih) (h := h) (w := w) hn g.rd (gU_in (w := w) (e := e) (by omega) h2) (gU_good (by omega) h2) (by show w < ((N : Int)).toNat; omega)
    (fun i hi => ⟨gU_reach (by omega) h2 (by omega), fun res hr _ => gU_prod (by omega) (by omega) hr⟩)
    (by
      cases e with
      | true => exact .inr fun res hr _ => gU_noprod h3 h4 hr
      | false => exact .inl (gU_noreach h3))
  have e26 : ∀ x : Int, pcall (F26 n (CLs n ih) (.int .i64 x) h.fzn) = some (.int .i64 x) := fun x => by unfold F26; exact pcall_some rfl
  unfold F8_8
  simp only [lw, vb_some, e22, xExt_t, List.getElem?_cons_zero, List.getElem?_cons_succ, e26, vN_eq, xEq_i, show (((7 : Nat) : Int)) = 7 from rfl, decide_true, isB_t, gd_true, xPick_t]
  exact Ret.of rfl
theorem loop8 {h0 : PH} {bg w N : Nat} {e : Bool} (hn : 9223372036854775808 ≤ n) (h1 : 2 ≤ N) (h2 : N ≤ 20) (h3 : 1 ≤ w) (h4 : w < N) : ∀ (k i m : Nat) (rvv : Value) (ex : List (Nat × List Value)) (h : PH), i + k = N → k < m → BG h0 h bg N rvv (rulesU w e i) ex →
    Ret (lp m (F8_10 n (CLs n ih)) [.int .i64 N, .int .i64 w, .bool e, .pointer (some ⟨bg, 0, none⟩), .int .i64 i] h) fun v _ => v = .bool true := by
  intro k
  have un1 : isB false undef = false := rfl
  have un2 : isB true undef = false := rfl
  induction k with
  | zero =>
    intro i m rvv ex h hi hm g
    obtain ⟨m, rfl⟩ : ∃ q, m = q + 1 := ⟨m - 1, by omega⟩
    rw [lp_succ]
    have : i = N := by omega
    subst this
    have c : ¬ ((i : Int) < (i : Int)) := by omega
    simp only [F8_10, ucons_cons, F8_9, xLt_i, c, decide_false, vb_some, bite_f]
    exact end8 hn h1 h2 h3 h4 g
  | succ k ih' =>
    intro i m rvv ex h hi hm g
    obtain ⟨m, rfl⟩ : ∃ q, m = q + 1 := ⟨m - 1, by omega⟩
    rw [lp_succ]
    have c : ((i : Int) < (N : Int)) := by omega
    simp only [F8_10, ucons_cons, F8_9, xLt_i, c, decide_true, vb_some, bite_t, jn_eq, F8_7, vM_eq, show Int.negSucc 0 = -1 from rfl]
    refine Ret.bgs g bs25 fun h2' bq g2 => ?_
    refine Ret.vb ab29 ?_
    refine Ret.bgvar g2 z29 rfl rfl fun h3' b44 g3 => ?_
    have hrl := rulesU_len w e i
    -- the second rule, and on
    have second : ∀ (h : PH) (rvv : Value) (rules : List Rl), BG h0 h bg N rvv rules ((b44, [.int .i64 i, .slice (some ⟨bq, 0, none⟩) 1 1, .int .i64 0]) :: (bq, [.int .i64 (-1)]) :: ex) → rules.length ≤ 60 → (rules ++ (if u2 w e i = true then [⟨0, [(i : Int), -1], 0⟩] else []) = rulesU w e (i + 1)) →
        Ret (F8_4 n (CLs n ih) (F8_6 n (CLs n ih) (lp m (F8_10 n (CLs n ih)))) [.int .i64 N, .int .i64 w, .bool e, .pointer (some ⟨bg, 0, none⟩), .int .i64 i] h) fun v _ => v = .bool true := by
      intro h rvv rules g hrules heq
      have next : ∀ (h : PH) (rvv : Value) ex, BG h0 h bg N rvv (rulesU w e (i + 1)) ex → Ret (F8_6 n (CLs n ih) (lp m (F8_10 n (CLs n ih))) [.int .i64 N, .int .i64 w, .bool e, .pointer (some ⟨bg, 0, none⟩), .int .i64 i] h) fun v _ => v = .bool true := by
        intro h rvv ex g
        simp only [F8_6, ucons_cons, F8_0, vN_eq, xAdd_i, vb_some, show (((1 : Nat) : Int)) = 1 from rfl, wrap1 (i := i) (by omega)]
        exact ih' (i + 1) m rvv ex h (by omega) (by omega) g
      have take : u2 w e i = true → Ret (F8_1 n (CLs n ih) (.pointer (some ⟨bg, 0, none⟩)) (.int .i64 i) (F8_6 n (CLs n ih) (lp m (F8_10 n (CLs n ih)))) (.int .i64 N) (.int .i64 w) (.bool e) h) fun v _ => v = .bool true := by
        intro hu
        rw [if_pos hu] at heq
        simp only [F8_1, xFld_p, Nat.zero_add, vb_some, g.ld, vM_eq, show Int.negSucc 0 = -1 from rfl]
        refine Ret.bgs g bs25_2 fun h5 b5 g5 => ?_
        refine Ret.vb ab29' ?_
        refine Ret.bgapp (K := fun h => F8_6 n (CLs n ih) (lp m (F8_10 n (CLs n ih))) [.int .i64 N, .int .i64 w, .bool e, .pointer (some ⟨bg, 0, none⟩), .int .i64 i] h) g5 (r := ⟨0, [(i : Int), -1], 0⟩) (bq := b5) (.head _) hrules fun h6 rvv6 g6 => ?_
        rw [heq] at g6
        exact next h6 rvv6 _ g6
      have skip : u2 w e i = false → Ret (F8_6 n (CLs n ih) (lp m (F8_10 n (CLs n ih))) [.int .i64 N, .int .i64 w, .bool e, .pointer (some ⟨bg, 0, none⟩), .int .i64 i] h) fun v _ => v = .bool true := by
        intro hu
        rw [hu] at heq
        simp at heq
        rw [heq] at g
        exact next h rvv _ g
      simp only [F8_4, ucons_cons, F8_2, vN_eq, xGt_i, vb_some, show (((0 : Nat) : Int)) = 0 from rfl]
      by_cases hi0 : 0 < i
      · have hi1 : (0 : Int) < i := by omega
        by_cases hiw : i = w
        · have hiw' : decide ((i : Int) = (w : Int)) = true := decide_eq_true (by omega)
          simp only [hi1, hiw', decide_true, isB_t, gd_true, vb_some, xNe_i, Bool.not_true, isB_f, Bool.not_false, xPick_f, xPick_t]
          cases e with
          | true => simp only [bite_t]; exact take (by simp [u2, hi0])
          | false => simp only [bite_f]; exact skip (by simp [u2, hiw])
        · have hiw' : decide ((i : Int) = (w : Int)) = false := decide_eq_false (by omega)
          simp only [hi1, hiw', decide_true, decide_false, isB_t, gd_true, vb_some, xNe_i, Bool.not_true, isB_f, Bool.not_false, gd_false, xPick_f, xPick_t, tt_eq, bite_t]
          exact take (by simp [u2, hi0, hiw])
      · have hi1 : ¬ (0 : Int) < i := by omega
        simp only [hi1, decide_false, isB_t, gd_false, vb_some, un1, un2, xPick_f, ff_eq, bite_f]
        exact skip (by simp [u2, hi0])
    -- the first rule
    have take : u1 w e i = true → Ret (F8_3 n (CLs n ih) (.pointer (some ⟨bg, 0, none⟩)) (.pointer (some ⟨b44, 0, none⟩)) (F8_4 n (CLs n ih) (F8_6 n (CLs n ih) (lp m (F8_10 n (CLs n ih))))) (.int .i64 N) (.int .i64 w) (.bool e) (.int .i64 i) h3') fun v _ => v = .bool true := by
      intro hu
      obtain ⟨rows, s3, _, hex⟩ := g3.st
      have l44 : xLdA 3 (.pointer (some ⟨b44, 0, none⟩)) h3' = some (.agg ⟨[.int .i64 i, .slice (some ⟨bq, 0, none⟩) 1 1, .int .i64 0]⟩) := xLdA_at (s3.row (hex _ (.head _))) rfl (Nat.le_refl _)
      simp only [F8_3, xFld_p, Nat.zero_add, vb_some, g3.ld, l44]
      refine Ret.bgapp (K := fun h => F8_4 n (CLs n ih) (F8_6 n (CLs n ih) (lp m (F8_10 n (CLs n ih)))) [.int .i64 N, .int .i64 w, .bool e, .pointer (some ⟨bg, 0, none⟩), .int .i64 i] h) g3 (r := ⟨(i : Int), [-1], 0⟩) (bq := bq) (.tail _ (.head _)) (by omega) fun h6 rvv6 g6 => ?_
      refine second h6 rvv6 _ g6 (by simp; omega) ?_
      rw [rulesU_succ, if_pos hu]
    have skip : u1 w e i = false → Ret (F8_4 n (CLs n ih) (F8_6 n (CLs n ih) (lp m (F8_10 n (CLs n ih)))) [.int .i64 N, .int .i64 w, .bool e, .pointer (some ⟨bg, 0, none⟩), .int .i64 i] h3') fun v _ => v = .bool true := by
      intro hu
      refine second h3' rvv _ g3 (by omega) ?_
      rw [rulesU_succ, hu]; simp
    simp only [F8_5, xNe_i, vb_some]
    by_cases hiw : i = w
    · have hiw' : decide ((i : Int) = (w : Int)) = true := decide_eq_true (by omega)
      simp only [hiw', decide_true, Bool.not_true, isB_f, Bool.not_false, gd_true, vb_some, xNot_b, xPick_f]
      cases e with
      | true => simp only [Bool.not_true, bite_f]; exact skip (by simp [u1, hiw])
      | false => simp only [Bool.not_false, bite_t]; exact take (by simp [u1])
    · have hiw' : decide ((i : Int) = (w : Int)) = false := decide_eq_false (by omega)
      simp only [hiw', decide_false, Bool.not_false, isB_f, Bool.not_true, gd_false, vb_some, xPick_t, tt_eq, bite_t]
      exact take (by simp [u1, hiw])
end
end Go.Am
