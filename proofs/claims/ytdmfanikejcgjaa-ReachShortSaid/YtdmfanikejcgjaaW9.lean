import Derived.Test.YtdmfanikejcgjaaW8
set_option linter.unusedSimpArgs false
set_option linter.unusedVariables false
namespace Go.Am
open Go Go.RowKit Go.Proofs

section
variable {n : Nat} {cl ih : CL} {h : PH}
abbrev none1 (g : Gr) : List Int := List.replicate g.names.toNat (-1)
theorem loop22 {h0 : PH} {g : Gr} {b b2 b3 c2 c3 : Nat} {out : List Bool} {res : List Int} {w : Nat} (hN : g.names.toNat ≤ 40) (ho : out.length = g.names.toNat) (hr : res.length = g.names.toNat) (hw : w < g.names.toNat)
    (h1 : ∀ i, i < w → out[i]? = some true ∧ res[i]? ≠ some (-1)) (h2 : out[w]? ≠ some true ∨ res[w]? = some (-1)) :
    ∀ (k i m : Nat), i + k = w → k < m → ∀ (h : PH), St h0 h [(b3, bv (prodL res)), (b2, bv out)] →
    Ret (lp m (F22_8 n cl) [.pointer (some ⟨b, 0, none⟩), .slice (some ⟨b2, 0, none⟩) g.names.toNat c2, .slice (some ⟨b3, 0, none⟩) g.names.toNat c3, .int .i64 g.names.toNat, .int .i64 i] h) fun v _ => v = .tuple ⟨[.int .i64 w, .int .i64 7]⟩ := by
  intro k
  have u1 : isB false undef = false := rfl
  have u2 : isB true undef = false := rfl
  induction k with
  | zero =>
    intro i m hi hm h st
    obtain ⟨m, rfl⟩ : ∃ q, m = q + 1 := ⟨m - 1, by omega⟩
    rw [lp_succ]
    have : i = w := by omega
    subst this
    have c : ((i : Int) < g.names.toNat) := by omega
    have hx : out[i]? = some out[i] := List.getElem?_eq_getElem (by omega)
    have hy : res[i]? = some res[i] := List.getElem?_eq_getElem (by omega)
    have lo : xLd (.pointer (some ⟨b2, i, none⟩)) h = some (.bool out[i]) := xLd_at (st.row (.tail _ (.head _))) (by rw [List.getElem?_map, hx]; rfl)
    have lp : xLd (.pointer (some ⟨b3, i, none⟩)) h = some (.bool !decide (res[i] = -1)) := xLd_at (st.row (.head _)) (by rw [List.getElem?_map, List.getElem?_map, hy]; rfl)
    have i2 : xIdxS 1 (.slice (some ⟨b2, 0, none⟩) g.names.toNat c2) (.int .i64 i) = some (.pointer (some ⟨b2, i, none⟩)) := by rw [xIdxS_at (by omega) c]; simp
    have i3 : xIdxS 1 (.slice (some ⟨b3, 0, none⟩) g.names.toNat c3) (.int .i64 i) = some (.pointer (some ⟨b3, i, none⟩)) := by rw [xIdxS_at (by omega) c]; simp
    simp only [F22_8, ucons_cons, F22_7, xLt_i, c, decide_true, vb_some, bite_t, F22_1, i2, lo, xNot_b, vN_eq]
    cases hm : out[i] with
    | false => simp only [Bool.not_false, isB_f, Bool.not_true, gd_false, u1, u2, vb_some, xPick_t, tt_eq, bite_t]; exact Ret.of rfl
    | true =>
      have hy1 : res[i] = -1 := by
        rcases h2 with h2 | h2
        · rw [hx, hm] at h2; exact absurd rfl h2
        · rw [hy] at h2; exact Option.some.inj h2
      simp only [Bool.not_true, isB_f, Bool.not_false, gd_true, vb_some, i3, lp, hy1, decide_true, xNot_b, xPick_f, bite_t]
      exact Ret.of rfl
  | succ k ih' =>
    intro i m hi hm h st
    obtain ⟨m, rfl⟩ : ∃ q, m = q + 1 := ⟨m - 1, by omega⟩
    rw [lp_succ]
    have c : ((i : Int) < g.names.toNat) := by omega
    have hx : out[i]? = some out[i] := List.getElem?_eq_getElem (by omega)
    have hy : res[i]? = some res[i] := List.getElem?_eq_getElem (by omega)
    have lo : xLd (.pointer (some ⟨b2, i, none⟩)) h = some (.bool out[i]) := xLd_at (st.row (.tail _ (.head _))) (by rw [List.getElem?_map, hx]; rfl)
    have lp : xLd (.pointer (some ⟨b3, i, none⟩)) h = some (.bool !decide (res[i] = -1)) := xLd_at (st.row (.head _)) (by rw [List.getElem?_map, List.getElem?_map, hy]; rfl)
    have i2 : xIdxS 1 (.slice (some ⟨b2, 0, none⟩) g.names.toNat c2) (.int .i64 i) = some (.pointer (some ⟨b2, i, none⟩)) := by rw [xIdxS_at (by omega) c]; simp
    have i3 : xIdxS 1 (.slice (some ⟨b3, 0, none⟩) g.names.toNat c3) (.int .i64 i) = some (.pointer (some ⟨b3, i, none⟩)) := by rw [xIdxS_at (by omega) c]; simp
    obtain ⟨a1, a2⟩ := h1 i (by omega)
    have hm' : out[i] = true := by rw [hx] at a1; exact Option.some.inj a1
    have hy1 : res[i] ≠ -1 := fun e => a2 (by rw [hy, e])
    simp only [F22_8, ucons_cons, F22_7, xLt_i, c, decide_true, vb_some, bite_t, F22_1, i2, lo, xNot_b, vN_eq, hm', Bool.not_true, isB_f, Bool.not_false, gd_true, i3, lp, hy1, decide_false, xPick_f, bite_f, F22_0, xAdd_i, show (((1 : Nat) : Int)) = 1 from rfl, wrap1 (i := i) (by omega)]
    exact ih' (i + 1) m (by omega) (by omega) h st
theorem c22u [OkH h] {g : Gr} {v rv fv cv kv : Value} {w : Nat} (hn : 9223372036854775808 ≤ n) (r : RdG h v g rv fv cv kv) (hg : GIn g) (hgood : goodB g = true) (hw : w < g.names.toNat)
    (h1 : ∀ i : Nat, i < w → Reach g i ∧ ∀ res, Runs g (none1 g) res → TabS g res → res[i]? ≠ some (-1)) (h2 : ¬ Reach g w ∨ ∀ res, Runs g (none1 g) res → TabS g res → res[w]? = some (-1)) :
    pcall (F22 n (CLs n ih) v h.fzn) = some (.tuple ⟨[.int .i64 w, .int .i64 7]⟩) := by
  refine pcall_of ?_ rfl
  unfold F22
  rw [r.v]
  refine Ret.sbox (St.start _) (fun h1' b st => ?_)
  have := st.ok
  have lw : xLdA 7 (.pointer (some ⟨b, 0, none⟩)) h1' = some (.agg ⟨gcs g rv fv cv kv⟩) := xLdA_at (st.row (.head _)) rfl (Nat.le_refl _)
  have sees : ∀ b cs, Sees h b cs → Sees h1' b cs := fun b cs s => st.sees s
  have e := c33 (n := n) (ih := ih) (h := h1') hn (r.mono sees) hg
  rw [r.v] at e
  have he : (formE g).2 = 0 := by unfold goodB at hgood; simpa using hgood
  obtain ⟨w1, w2, w3, w4, w5, w6, w7⟩ := goodB_whole hgood
  have blt : Nat.blt b h1'.n = true := Nat.ble_eq_true_of_le (st.row (b := b) (.head _)).lt
  simp only [lw, vb_some, e, xExt_t, List.getElem?_cons_zero, List.getElem?_cons_succ, xNe_i, vN_eq, he, show (((0 : Nat) : Int)) = 0 from rfl, decide_true, Bool.not_true, bite_f, F22_9, nb_eq, oldB, blt]
  have e14 := c14 (n := n) (ih := ih) (h := h1') hn (r.mono sees) hg
  rw [r.v] at e14
  refine Ret.fcall e14 fun v3 h2' q kp hraw => ?_
  obtain ⟨out, b2, c2, ho, hR, rfl, hb2, hm2⟩ := q.good hgood
  have hz1 := st.kp.ok.fz
  have st2 : St h.fzn (h1'.back h2') [(b2, bv out), (b, gcs g rv fv cv kv)] := st.push kp (mine_back hm2 (hraw _) (by show h1'.fz ≤ b2; omega)) hb2
  have := st2.ok
  have sees2 : ∀ b cs, Sees h b cs → Sees (h1'.back h2') b cs := fun b cs s => st2.sees (show Sees h.fzn b cs from s)
  have e16 := c16 (n := n) (ih := ih) (h := h1'.back h2') hn (r.mono sees2) hg
  rw [r.v] at e16
  refine Ret.fcall e16 fun v4 h3' q3 kp3 hraw3 => ?_
  obtain ⟨res, b3, c3, hr, ht, rfl, hb3, hm3⟩ := q3.good hgood
  have hz2 := st2.kp.ok.fz
  have st3 := st2.push kp3 (mine_back hm3 (hraw3 _) (by show (h1'.back h2').fz ≤ b3; omega)) hb3
  simp only [xLenS_s, vb_some]
  have hin : ∀ i : Nat, i < g.names.toNat → isName g.names i = true := fun i hi => isName_iff.2 ⟨by omega, by omega⟩
  have mk : ∀ i : Nat, marked out (i : Int) ↔ out[i]? = some true := fun i => by unfold marked; simp
  refine loop22 (h0 := h.fzn) (out := out) (res := res) (w := w) (by omega) ho ht.len hw (fun i hi => ⟨(mk i).1 ((hR i (hin i (by omega))).2 (h1 i hi).1), (h1 i hi).2 res hr ht⟩) ?_ w 0 n (by omega) (by omega) _ (st3.drop (.cons_cons _ (.cons_cons _ (.cons _ .slnil))))
  rcases h2 with h2 | h2
  · exact .inl fun c => h2 ((hR w (hin w hw)).1 ((mk w).2 c))
  · exact .inr (h2 res hr ht)
end
end Go.Am
