import Derived.Test.YtdmfanikejcgjaaW17
set_option linter.unusedSimpArgs false
set_option linter.unusedVariables false
namespace Go.Am
open Go Go.RowKit Go.Proofs
section
variable {n : Nat} {cl ih : CL} {h : PH}
def boolE (x : Bool) (es : List Value) : Prop := es = [.bool x]
theorem ab_neq {b : Bool} : abin Try.prog .neq 4 (Operand.tmp 20) (Operand.tmp 24) (.bool b) (.bool b) = some (.bool false) := by cases b <;> kernel_rfl
theorem loop13 {h0 : PH} {u v : Value} {l : List Bool} (ru : RdS boolE 1 h0 u l) (rv : RdS boolE 1 h0 v l) (hl : l.length < 9223372036854775808) : ∀ (k i m : Nat) (h : PH), i + k = l.length → k < m → St h0 h [] →
    Ret (lp m (F13_3 n cl) [u, v, .int .i64 i] h) fun w _ => w = .bool true := by
  intro k
  induction k with
  | zero =>
    intro i m h hi hm st
    obtain ⟨m, rfl⟩ : ∃ q, m = q + 1 := ⟨m - 1, by omega⟩
    rw [lp_succ]
    have c : ¬ ((i : Int) < l.length) := by omega
    simp only [F13_3, ucons_cons, F13_2, RdS.len ru, vb_some, xLt_i, c, decide_false, bite_f, tt_eq]
    exact Ret.of rfl
  | succ k ih =>
    intro i m h hi hm st
    obtain ⟨m, rfl⟩ : ∃ q, m = q + 1 := ⟨m - 1, by omega⟩
    rw [lp_succ]
    have c : ((i : Int) < l.length) := by omega
    simp only [F13_3, ucons_cons, F13_2, RdS.len ru, vb_some, xLt_i, c, decide_true, bite_t, F13_1]
    refine Ret.idx ru (by omega) c fun b o cs x hx s hle hE => ?_
    refine Ret.idx rv (by omega) c fun b2 o2 cs2 x2 hx2 s2 hle2 hE2 => ?_
    have e2 : x2 = x := by rw [hx] at hx2; exact (Option.some.inj hx2).symm
    have l1 : xLd (.pointer (some ⟨b, o, none⟩)) h = some (.bool x) := xLdE (st.sees s) hle hE (j := 0) rfl
    have l2 : xLd (.pointer (some ⟨b2, o2, none⟩)) h = some (.bool x2) := xLdE (st.sees s2) hle2 hE2 (j := 0) rfl
    rw [e2] at l2
    simp only [l1, l2, vb_some, ab_neq, bite_f, F13_0, vN_eq, xAdd_i, show (((1 : Nat) : Int)) = 1 from rfl, wrap1 (i := i) (by omega)]
    exact ih (i + 1) m h (by omega) (by omega) st
theorem c13 [OkH h] {u v : Value} {l : List Bool} (hn : 9223372036854775808 ≤ n) (ru : RdS boolE 1 h u l) (rv : RdS boolE 1 h v l) (hl : l.length < 9223372036854775808) : pcall (F13 n cl u v h.fzn) = some (.bool true) := by
  refine pcall_of ?_ rfl
  unfold F13
  simp only [RdS.len ru, RdS.len rv, vb_some, xNe_i, decide_true, Bool.not_true, bite_f, vN_eq]
  exact loop13 (h0 := h.fzn) (ru.mono (fun _ _ s => s) fun _ _ _ e => e) (rv.mono (fun _ _ s => s) fun _ _ _ e => e) hl l.length 0 n h.fzn (by omega) (by omega) (St.start _)
theorem loop18 {h0 : PH} {u v : Value} {l : List Int} (ru : RdI h0 u l) (rv : RdI h0 v l) (hl : l.length < 9223372036854775808) : ∀ (k i m : Nat) (h : PH), i + k = l.length → k < m → St h0 h [] →
    Ret (lp m (F18_3 n cl) [u, v, .int .i64 i] h) fun w _ => w = .bool true := by
  intro k
  induction k with
  | zero =>
    intro i m h hi hm st
    obtain ⟨m, rfl⟩ : ∃ q, m = q + 1 := ⟨m - 1, by omega⟩
    rw [lp_succ]
    have c : ¬ ((i : Int) < l.length) := by omega
    simp only [F18_3, ucons_cons, F18_2, RdS.len ru, vb_some, xLt_i, c, decide_false, bite_f, tt_eq]
    exact Ret.of rfl
  | succ k ih =>
    intro i m h hi hm st
    obtain ⟨m, rfl⟩ : ∃ q, m = q + 1 := ⟨m - 1, by omega⟩
    rw [lp_succ]
    have c : ((i : Int) < l.length) := by omega
    simp only [F18_3, ucons_cons, F18_2, RdS.len ru, vb_some, xLt_i, c, decide_true, bite_t, F18_1]
    refine Ret.idx ru (by omega) c fun b o cs x hx s hle hE => ?_
    refine Ret.idx rv (by omega) c fun b2 o2 cs2 x2 hx2 s2 hle2 hE2 => ?_
    have e2 : x2 = x := by rw [hx] at hx2; exact (Option.some.inj hx2).symm
    have l1 : xLd (.pointer (some ⟨b, o, none⟩)) h = some (.int .i64 x) := xLdE (st.sees s) hle hE (j := 0) rfl
    have l2 : xLd (.pointer (some ⟨b2, o2, none⟩)) h = some (.int .i64 x2) := xLdE (st.sees s2) hle2 hE2 (j := 0) rfl
    rw [e2] at l2
    simp only [l1, l2, vb_some, xNe_i, decide_true, Bool.not_true, bite_f, F18_0, vN_eq, xAdd_i, show (((1 : Nat) : Int)) = 1 from rfl, wrap1 (i := i) (by omega)]
    exact ih (i + 1) m h (by omega) (by omega) st
theorem c18 [OkH h] {u v : Value} {l : List Int} (hn : 9223372036854775808 ≤ n) (ru : RdI h u l) (rv : RdI h v l) (hl : l.length < 9223372036854775808) : pcall (F18 n cl u v h.fzn) = some (.bool true) := by
  refine pcall_of ?_ rfl
  unfold F18
  simp only [RdS.len ru, RdS.len rv, vb_some, xNe_i, decide_true, Bool.not_true, bite_f, vN_eq]
  exact loop18 (h0 := h.fzn) (ru.mono fun _ _ s => s) (rv.mono fun _ _ s => s) hl l.length 0 n h.fzn (by omega) (by omega) (St.start _)

/-! ### the reference's Productive -/
theorem loop17 {h0 : PH} {b3 c3 : Nat} {res : List Int} {Q : Value → PH → Prop} (hlen : res.length ≤ 40) (hlo : ∀ x ∈ res, -1 ≤ x)
    (hk : ∀ h b, St h0 h [(b, bv (prodL res)), (b3, iv res)] → Q (.slice (some ⟨b, 0, none⟩) res.length openCap) h) :
    ∀ (k i m : Nat) (h : PH) (bw : Nat), i + k = res.length → k < m → 0 < i → St h0 h [(bw, bv (prodL (res.take i))), (b3, iv res)] → Op h bw 1 →
    Ret (lp m (F17_2 n cl) [.slice (some ⟨b3, 0, none⟩) res.length c3, .slice (some ⟨bw, 0, none⟩) i openCap, .int .i64 i] h) Q := by
  intro k
  induction k with
  | zero =>
    intro i m h bw hi hm _ st op
    obtain ⟨m, rfl⟩ : ∃ q, m = q + 1 := ⟨m - 1, by omega⟩
    rw [lp_succ]
    have c : ¬ ((i : Int) < res.length) := by omega
    have hi' : i = res.length := by omega
    simp only [F17_2, ucons_cons, F17_1, xLenS_s, xLt_i, c, decide_false, vb_some, bite_f]
    subst hi'
    rw [List.take_length] at st
    exact Ret.of (hk h bw st)
  | succ k ih' =>
    intro i m h bw hi hm h0i st op
    obtain ⟨m, rfl⟩ : ∃ q, m = q + 1 := ⟨m - 1, by omega⟩
    rw [lp_succ]
    have c : ((i : Int) < res.length) := by omega
    have hlt : i < res.length := by omega
    have hx : res[i]? = some res[i] := List.getElem?_eq_getElem hlt
    have hge : decide (0 ≤ res[i]) = !decide (res[i] = -1) := by
      have := hlo _ (List.getElem_mem hlt)
      by_cases e : res[i] = -1
      · rw [e]; rfl
      · rw [decide_eq_false e, decide_eq_true (by omega)]; rfl
    have ld : xLd (.pointer (some ⟨b3, i, none⟩)) h = some (.int .i64 res[i]) := xLd_at (st.row (.tail _ (.head _))) (by rw [List.getElem?_map, hx]; rfl)
    simp only [F17_2, ucons_cons, F17_1, xLenS_s, xLt_i, c, decide_true, vb_some, bite_t, F17_0]
    rw [xIdxS_at (by omega) c]
    simp only [vb_some, show 0 + (i : Int).toNat * 1 = i from by simp, ld, vN_eq, xGe_i, show (((0 : Nat) : Int)) = 0 from rfl, hge]
    refine Ret.sbs st bs34 fun h2 bs st2 ok2 => ?_
    rw [ai34]
    refine Ret.sapp st2 (i := 1) (o := 0) (n := 1) rfl ⟨by simp; omega, .inr ⟨ok2 _ _ (st.row (.head _)).lt op, Nat.le_refl _, by decide, by simp⟩⟩ (by omega) (ptail_at (st2.mine _ (.head _)) rfl) (by omega) rfl (by omega) fun h3 b' st3 op3 _ => ?_
    simp only [vN_eq, xAdd_i, vb_some, show (((1 : Nat) : Int)) = 1 from rfl, wrap1 (i := i) (by omega)]
    refine ih' (i + 1) m h3 b' (by omega) (by omega) (by omega) ?_ op3
    have e : bv (prodL (res.take (i + 1))) = (bv (prodL (res.take i))).drop 0 ++ [.bool !decide (res[i] = -1)] := by
      rw [List.drop_zero, bv, prodL, List.map_map, take_succ_map hx]; simp
    rw [e]
    exact st3.drop (.cons_cons _ (.cons _ (List.Sublist.refl _)))
theorem c17 [OkH h] {g : Gr} {v rv fv cv kv : Value} (hn : 9223372036854775808 ≤ n) (r : RdG h v g rv fv cv kv) (hg : GIn g) :
    Ret (F17 n cl v h.fzn) fun v h1 => Kp h.n h.fzn h1 ∧ ProdQ g h h1 v := by
  unfold F17
  rw [r.v]
  refine Ret.sbox (St.start _) (fun h1 b st => ?_)
  have := st.ok
  have lw : xLdA 7 (.pointer (some ⟨b, 0, none⟩)) h1 = some (.agg ⟨gcs g rv fv cv kv⟩) := xLdA_at (st.row (.head _)) rfl (Nat.le_refl _)
  have sees : ∀ b cs, Sees h b cs → Sees h1 b cs := fun b cs s => st.sees s
  have e30 := c30 (n := n) (cl := cl) (h := h1) hn (r.mono sees) hg
  rw [r.v] at e30
  simp only [lw, vb_some, e30, xNot_b]
  cases hgood : goodB g with
  | false => simp only [Bool.not_false, bite_t]; exact Ret.of ⟨st.kp, fun _ => rfl, fun h => by rw [hgood] at h; cases h⟩
  | true =>
    have e := c19 (n := n) (cl := cl) (h := h1) hn (r.mono sees) hg
    rw [r.v] at e
    simp only [Bool.not_true, bite_f, F17_3, lw, vb_some]
    refine Ret.fcall e fun v3 h2 q kp hraw => ?_
    obtain ⟨w1, w2, _⟩ := goodB_whole hgood
    obtain ⟨res, b3, c3, hr, ht, rfl, hb, hm⟩ := q.good hgood
    have hz := st.kp.ok.fz
    have hlen := ht.len
    have st2 : St h.fzn (h1.back h2) [(b3, iv res), (b, gcs g rv fv cv kv)] := st.push kp (mine_back hm (hraw _) (by show h1.fz ≤ b3; omega)) hb
    have st2 := st2.drop (rows' := [(b3, iv res)]) (.cons_cons _ (.cons _ .slnil))
    rw [← hlen]
    simp only [vN_eq]
    obtain ⟨m, hm'⟩ : ∃ q, n = q + 1 := ⟨n - 1, by omega⟩
    have e : ∀ b, lp n b = lp (m + 1) b := fun b => by rw [hm']
    have c : ((((0 : Nat) : Int)) < res.length) := by omega
    have hlt : 0 < res.length := by omega
    have hx : res[0]? = some res[0] := List.getElem?_eq_getElem hlt
    have hge : decide (0 ≤ res[0]) = !decide (res[0] = -1) := by
      have := (ht.lo _ (List.getElem_mem hlt)).1
      by_cases e : res[0] = -1
      · rw [e]; rfl
      · rw [decide_eq_false e, decide_eq_true (by omega)]; rfl
    have ld : xLd (.pointer (some ⟨b3, 0, none⟩)) (h1.back h2) = some (.int .i64 res[0]) := xLd_at (st2.row (.head _)) (by rw [List.getElem?_map, hx]; rfl)
    rw [e, lp_succ]
    simp only [F17_2, ucons_cons, F17_1, xLenS_s, xLt_i, c, decide_true, vb_some, bite_t, F17_0]
    rw [xIdxS_at (by omega) c]
    simp only [vb_some, show 0 + (((0 : Nat) : Int)).toNat * 1 = 0 from by simp, show 0 + (0 : Int).toNat * 1 = 0 from rfl, ld, vN_eq, xGe_i, show (((0 : Nat) : Int)) = 0 from rfl, hge]
    refine Ret.sbs st2 bs34 fun h3 bs st3 ok3 => ?_
    rw [ai34]
    refine Ret.sapp0 st3 (n := 1) (ptail_at (st3.mine _ (.head _)) rfl) (by omega) rfl (by omega) fun h4 b' st4 op4 _ => ?_
    have w01 : IntKind.i64.wrap ((0 : Int) + ((1 : Nat) : Int)) = ((1 : Nat) : Int) := wrap1 (i := 0) (by omega)
    simp only [vN_eq, xAdd_i, vb_some, w01]
    refine loop17 (h0 := h.fzn) (res := res) (by omega) (fun x hx => (ht.lo x hx).1) (fun h5 bw st5 => ⟨st5.kp, fun h => (by rw [hgood] at h; cases h), fun _ => ⟨res, bw, _, hr, ht, by rw [hlen], st5.old _ (.head _), st5.mine _ (.head _)⟩⟩) (res.length - 1) 1 m h4 b' (by omega) (by omega) (by omega) ?_ op4
    have e2 : bv (prodL (res.take 1)) = [.bool !decide (res[0] = -1)] := by
      rw [bv, prodL, List.map_map, take_succ_map hx]; simp
    rw [e2, ← hge]
    exact st4.drop (.cons_cons _ (.cons _ (List.Sublist.refl _)))
end
end Go.Am
