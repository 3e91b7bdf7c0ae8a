import Derived.Test.YtdmfanikejcgjaaW4
import Derived.Test.YtdmfanikejcgjaaL1
set_option linter.unusedSimpArgs false
set_option linter.unusedVariables false
namespace Go.Am
open Go Go.RowKit Go.Proofs

section
variable {n : Nat} {cl ih : CL} {h : PH}
theorem getD_of {l : List Int} {i : Nat} {x : Int} (h : l[i]? = some x) : l.getD i 0 = x := by simp [List.getD, h]
theorem loop28 {h0 : PH} {g : Gr} {rv fv cv kv : Value} {b1 : Nat} {lv qv : Value} {out q : List Int} (hl : RdI h0 lv out) (hq : RdI h0 qv q) (ht : TabS g out) (h8 : q.length ≤ 8) :
    ∀ (k i m : Nat) (acc : Int) (h : PH), i + k = q.length → k < m → 0 ≤ acc → acc ≤ i * 1000000000 → St h0 h [(b1, gcs g rv fv cv kv)] →
    Ret (lp m (F28_8 n cl) [lv, .pointer (some ⟨b1, 0, none⟩), .int .i64 acc, qv, .int .i64 q.length, .int .i64 i] h) fun u _ => u = .int .i64 (longF g out acc (q.drop i)) := by
  intro k
  induction k with
  | zero =>
    intro i m acc h hi hm h0' h1 st
    obtain ⟨m, rfl⟩ : ∃ q, m = q + 1 := ⟨m - 1, by omega⟩
    rw [lp_succ]
    have c : ¬ ((i : Int) < q.length) := by omega
    have e : q.drop i = [] := List.drop_of_length_le (by omega)
    simp only [F28_8, ucons_cons, F28_7, xLt_i, c, decide_false, vb_some, bite_f, F28_6, vN_eq, min33, e, longF]
    rw [if_pos (by rfl)]
    exact Ret.of rfl
  | succ k ih' =>
    intro i m acc h hi hm h0' h1 st
    obtain ⟨m, rfl⟩ : ∃ q, m = q + 1 := ⟨m - 1, by omega⟩
    rw [lp_succ]
    have c : ((i : Int) < q.length) := by omega
    have := st.ok
    have lw : xLdA 7 (.pointer (some ⟨b1, 0, none⟩)) h = some (.agg ⟨gcs g rv fv cv kv⟩) := xLdA_at (st.row (.head _)) rfl (Nat.le_refl _)
    simp only [F28_8, ucons_cons, F28_7, xLt_i, c, decide_true, vb_some, bite_t, jn_eq, F28_5]
    refine Ret.idx hq (by omega) c fun b o cs x hx s hle hE => ?_
    have hx : q[i]? = some x := by simpa using hx
    refine Ret.vb (xLdE (st.sees s) hle hE (j := 0) rfl) ?_
    rw [drop_at hx]
    simp only [lw, vb_some, c29, xNot_b]
    cases hn : isName g.names x with
    | false =>
      have ew : IntKind.i64.wrap (acc + 1) = acc + 1 := wrap_in (by omega) (by omega)
      simp only [Bool.not_false, bite_t, F28_1, vN_eq, xAdd_i, vb_some, F28_4, ucons_cons, F28_0, show (((1 : Nat) : Int)) = 1 from rfl, ew, wrap1 (i := i) (by omega), longF, hn, Bool.false_eq_true, if_false]
      exact ih' (i + 1) m (acc + 1) h (by omega) (by omega) (by omega) (by omega) st
    | true =>
      have hnm := isName_iff.1 hn
      have hlen := ht.len
      simp only [Bool.not_true, bite_f, F28_3]
      refine Ret.idx hl (by omega) (by omega) fun b o cs y hy s hle hE => ?_
      have ly : xLd (.pointer (some ⟨b, o, none⟩)) h = some (.int .i64 y) := xLdE (st.sees s) hle hE (j := 0) rfl
      have hlo := ht.lo y (List.mem_of_getElem? hy)
      simp only [ly, vb_some, vM_eq, xEq_i, show Int.negSucc 0 = -1 from rfl, longF, hn, if_true, getD_of hy]
      by_cases hy1 : y = -1
      · simp only [hy1, decide_true, bite_t, if_true]
        exact Ret.of rfl
      · simp only [hy1, decide_false, bite_f, if_false, F28_2]
        refine Ret.idx hl (by omega) (by omega) fun b o cs y' hy' s' hle' hE' => ?_
        have : y' = y := by rw [hy] at hy'; cases hy'; rfl
        subst this
        have ly : xLd (.pointer (some ⟨b, o, none⟩)) h = some (.int .i64 y') := xLdE (st.sees s') hle' hE' (j := 0) rfl
        have ew : IntKind.i64.wrap (acc + y') = acc + y' := wrap_in (by omega) (by omega)
        simp only [ly, vb_some, xAdd_i, ew, F28_4, ucons_cons, F28_0, vN_eq, show (((1 : Nat) : Int)) = 1 from rfl, wrap1 (i := i) (by omega)]
        exact ih' (i + 1) m (acc + y') h (by omega) (by omega) (by omega) (by omega) st
theorem c28 [OkH h] {g : Gr} {rv fv cv kv lv qv : Value} {out q : List Int} (hn : 9223372036854775808 ≤ n) (hl : RdI h lv out) (hq : RdI h qv q) (ht : TabS g out) (h8 : q.length ≤ 8) :
    pcall (F28 n cl (.agg ⟨gcs g rv fv cv kv⟩) lv qv h.fzn) = some (.int .i64 (longF g out 0 q)) := by
  refine pcall_of ?_ rfl
  unfold F28
  refine Ret.sbox (St.start _) (fun h1 b1 st => ?_)
  refine Ret.vb (RdS.len hq) ?_
  exact loop28 (h0 := h.fzn) (hl.mono fun _ _ s => s) (hq.mono fun _ _ s => s) ht h8 q.length 0 n 0 h1 (by omega) (by omega) (by omega) (by omega) st

/-! ### Shortest -/
abbrev iv (l : List Int) : List Value := l.map (.int .i64)
theorem getD_lo {g : Gr} {out : List Int} (ht : TabS g out) {i : Nat} : -1 ≤ out.getD i 0 ∧ out.getD i 0 ≤ 1000000000 := by
  by_cases hlt : i < out.length
  · rw [getD_of (List.getElem?_eq_getElem hlt)]; exact ht.lo _ (List.getElem_mem hlt)
  · have : out.getD i 0 = 0 := by simp [List.getD, List.getElem?_eq_none (Nat.le_of_not_lt hlt)]
    omega
theorem loop11i {h0 : PH} {g : Gr} {v rv fv cv kv : Value} {b1 b2 c2 : Nat} {r10 : Kt} {Q : Value → PH → Prop} {out0 : List Int} (hn : 9223372036854775808 ≤ n) (r : RdG h0 v g rv fv cv kv) (hg : GIn g) (hgood : goodB g = true)
    (hk : ∀ (h : PH) (out : List Int) (more : Bool), St h0 h [(b2, iv out), (b1, gcs g rv fv cv kv)] → roundS g out0 = (out, more) → TabS g out → (more = true → pot out < pot out0) → Ret (r10 [.pointer (some ⟨b1, 0, none⟩), .slice (some ⟨b2, 0, none⟩) g.names.toNat c2, .bool more] h) Q) :
    ∀ (k i m : Nat) (out : List Int) (more : Bool) (h : PH), i + k = g.rules.length → k < m → MidS g out0 i out more → St h0 h [(b2, iv out), (b1, gcs g rv fv cv kv)] →
    Ret (lp m (F11_6 n cl r10) [.pointer (some ⟨b1, 0, none⟩), .slice (some ⟨b2, 0, none⟩) g.names.toNat c2, .bool more, rv, .int .i64 g.rules.length, .int .i64 i] h) Q := by
  intro k
  induction k with
  | zero =>
    intro i m out more h hi hm md st
    obtain ⟨m, rfl⟩ : ∃ q, m = q + 1 := ⟨m - 1, by omega⟩
    rw [lp_succ]
    have c : ¬ ((i : Int) < g.rules.length) := by omega
    simp only [F11_6, ucons_cons, F11_5, xLt_i, c, decide_false, vb_some, bite_f]
    exact hk h out more st (md.end (by omega)) md.tab md.less
  | succ k ih' =>
    intro i m out more h hi hm md st
    obtain ⟨m, rfl⟩ : ∃ q, m = q + 1 := ⟨m - 1, by omega⟩
    rw [lp_succ]
    have hrl := hg.rlen
    have c : ((i : Int) < g.rules.length) := by omega
    simp only [F11_6, ucons_cons, F11_5, xLt_i, c, decide_true, vb_some, bite_t, jn_eq, F11_4]
    refine Ret.idx r.rules (by omega) c fun b o cs x hx s hle hE => ?_
    have hx : g.rules[i]? = some x := by simpa using hx
    have hxm := List.mem_of_getElem? hx
    obtain ⟨qv, hE, hq⟩ := hE
    refine Ret.vb (xLdA_at (st.sees s) hE hle) ?_
    refine Ret.salloc st z29 fun h2 b3 st2 => ?_
    refine Ret.sstA st2 (i := 0) rfl rfl (Nat.le_refl _) (by simp only [oneCells, List.all_cons, List.all_nil, hq.one]; rfl) fun h3 st3 => ?_
    have := st3.ok
    have lw : xLdA 7 (.pointer (some ⟨b1, 0, none⟩)) h3 = some (.agg ⟨gcs g rv fv cv kv⟩) := xLdA_at (st3.row (.tail _ (.tail _ (.head _)))) rfl (Nat.le_refl _)
    have q0 : xLd (.pointer (some ⟨b3, 0, none⟩)) h3 = some (.int .i64 x.left) := xLd_at (st3.row (.head _)) rfl
    have q1 : xLd (.pointer (some ⟨b3, 1, none⟩)) h3 = some qv := xLd_at (st3.row (.head _)) rfl
    obtain ⟨gl, gs, g8⟩ := goodB_rule hgood hxm
    have hnm := isName_iff.1 gl
    have hlen := md.tab.len
    have hs2 : Sees h3 b2 (iv out) := st3.row (.tail _ (.head _))
    have hol : (out.length : Int) = g.names := by omega
    have hlv : RdI h3 (.slice (some ⟨b2, 0, none⟩) g.names.toNat c2) out := by
      have := RdS.ofRow (e := Value.int .i64) (c := c2) hs2
      rw [hlen] at this; exact this
    have e := c28 (n := n) (cl := cl) (g := g) (rv := rv) (fv := fv) (cv := cv) (kv := kv) hn hlv (hq.mono fun _ _ s => st3.sees s) md.tab g8
    have hx1 : out[x.left.toNat]? = some (out.getD x.left.toNat 0) := by rw [List.getD, List.getElem?_eq_getElem (by omega)]; rfl
    have ia : xIdxS 1 (.slice (some ⟨b2, 0, none⟩) g.names.toNat c2) (.int .i64 x.left) = some (.pointer (some ⟨b2, x.left.toNat, none⟩)) := by
      rw [xIdxS_at hnm.1 (by omega)]; simp
    have lo : xLd (.pointer (some ⟨b2, x.left.toNat, none⟩)) h3 = some (.int .i64 (out.getD x.left.toNat 0)) := xLd_at hs2 (by rw [List.getElem?_map, hx1]; rfl)
    have step : ∀ (out' : List Int) (more' : Bool) (h' : PH), MidS g out0 (i + 1) out' more' → St h0 h' [(b2, iv out'), (b1, gcs g rv fv cv kv)] →
        Ret (F11_3 n cl (lp m (F11_6 n cl r10)) [.pointer (some ⟨b1, 0, none⟩), .slice (some ⟨b2, 0, none⟩) g.names.toNat c2, .bool more', rv, .int .i64 g.rules.length, .int .i64 i] h') Q := by
      intro out' more' h' md' st'
      simp only [F11_3, ucons_cons, F11_1, vN_eq, xAdd_i, vb_some, show (((1 : Nat) : Int)) = 1 from rfl, wrap1 (i := i) (by omega)]
      exact ih' (i + 1) m out' more' h' (by omega) (by omega) md' st'
    have hrange := longF_range md.tab (fun s hs => by have := isName_iff.1 hs; omega) x.right 0 (by omega)
    have turn : ∀ (_ : longF g out 0 x.right ≠ -1) (_ : out.getD x.left.toNat 0 = -1 ∨ longF g out 0 x.right < out.getD x.left.toNat 0),
        Ret (F11_2 n cl (.pointer (some ⟨b3, 0, none⟩)) (.slice (some ⟨b2, 0, none⟩) g.names.toNat c2) (.int .i64 (longF g out 0 x.right)) (F11_3 n cl (lp m (F11_6 n cl r10))) (.pointer (some ⟨b1, 0, none⟩)) rv (.int .i64 g.rules.length) (.int .i64 i) h3) Q := by
      intro t1 t2
      simp only [F11_2, xFld_p, Nat.zero_add, vb_some, q0, ia]
      refine Ret.sst1 st3 (i := 1) (b := b2) (o := x.left.toNat) (v := .int .i64 (longF g out 0 x.right)) rfl (by simp; omega) rfl fun h4 st4 => ?_
      have st4 : St h0 h4 [(b3, [.int .i64 x.left, qv, .int .i64 x.dyn]), (b2, iv (out.set x.left.toNat (longF g out 0 x.right))), (b1, gcs g rv fv cv kv)] := by
        have e : iv (out.set x.left.toNat (longF g out 0 x.right)) = (iv out).set x.left.toNat (.int .i64 (longF g out 0 x.right)) := List.map_set
        rw [e]; exact st4
      exact step _ true h4 (md.turn hx (by omega) rfl (by omega) (by omega) t2) (st4.drop (.cons _ (List.Sublist.refl _)))
    simp only [lw, vb_some, xFld_p, Nat.zero_add, q1, e, vM_eq, xNe_i, show Int.negSucc 0 = -1 from rfl]
    have u1 : isB false undef = false := rfl
    have u2 : isB true undef = false := rfl
    by_cases a1 : longF g out 0 x.right = -1
    · simp only [a1, decide_true, Bool.not_true, isB_t, gd_false, vb_some, u1, u2, xPick_f, bite_f, ff_eq]
      exact step out more h3 (md.keep hx (by simp [a1])) (st3.drop (.cons _ (List.Sublist.refl _)))
    · by_cases a2 : out.getD x.left.toNat 0 = -1
      · simp only [a1, decide_false, decide_true, Bool.not_false, isB_t, isB_f, gd_true, vb_some, q0, ia, lo, vM_eq, xEq_i, show Int.negSucc 0 = -1 from rfl, a2, Bool.not_true, gd_false, u1, u2, xPick_t, tt_eq, bite_t]
        exact turn a1 (.inl a2)
      · by_cases a3 : longF g out 0 x.right < out.getD x.left.toNat 0
        · simp only [a1, decide_false, decide_true, Bool.not_false, isB_t, isB_f, gd_true, vb_some, q0, ia, lo, vM_eq, xEq_i, show Int.negSucc 0 = -1 from rfl, a2, xLt_i, a3, Bool.not_true, gd_false, u1, u2, xPick_t, xPick_f, tt_eq, bite_t]
          exact turn a1 (.inr a3)
        · simp only [a1, decide_false, decide_true, Bool.not_false, isB_t, isB_f, gd_true, vb_some, q0, ia, lo, vM_eq, xEq_i, show Int.negSucc 0 = -1 from rfl, a2, xLt_i, a3, Bool.not_true, gd_false, u1, u2, xPick_t, xPick_f, tt_eq, bite_f]
          exact step out more h3 (md.keep hx (fun c => c.2.elim a2 a3)) (st3.drop (.cons _ (List.Sublist.refl _)))
theorem loop11 {h0 : PH} {g : Gr} {v rv fv cv kv : Value} {b1 b2 c2 : Nat} {Q : Value → PH → Prop} (hn : 9223372036854775808 ≤ n) (r : RdG h0 v g rv fv cv kv) (hg : GIn g) (hgood : goodB g = true) {start : List Int}
    (hk : ∀ (h : PH) (out : List Int), St h0 h [(b2, iv out), (b1, gcs g rv fv cv kv)] → Runs g start out → TabS g out → Q (.slice (some ⟨b2, 0, none⟩) g.names.toNat c2) h) :
    ∀ (m : Nat) (out : List Int) (more : Bool) (h : PH), pot out + 1 < m → (∀ res, FinS g more out res → Runs g start res) → TabS g out → St h0 h [(b2, iv out), (b1, gcs g rv fv cv kv)] →
    Ret (lp m (F11_8 n cl) [.pointer (some ⟨b1, 0, none⟩), .slice (some ⟨b2, 0, none⟩) g.names.toNat c2, .bool more] h) Q := by
  intro m
  induction m with
  | zero => intro out more h hm; omega
  | succ m ih' =>
    intro out more h hm hf ht st
    rw [lp_succ]
    cases more with
    | false =>
      simp only [F11_8, ucons_cons, bite_f]
      exact Ret.of (hk h out st (hf out (by simp [FinS])) ht)
    | true =>
      have l3 : xLd (.pointer (some ⟨b1, 3, none⟩)) h = some rv := xLd_at (st.row (.tail _ (.head _))) rfl
      have nr := RdS.len r.rules
      have hrl := hg.rlen
      simp only [F11_8, ucons_cons, bite_t, F11_7, xFld_p, Nat.zero_add, vb_some, l3, nr, ff_eq, vN_eq]
      refine loop11i (Q := Q) (r10 := lp m (F11_8 n cl)) (out0 := out) hn r hg hgood (fun h' out' more' st' hr' ht' hp' => ?_) g.rules.length 0 n out false h (by omega) (by omega) (MidS.start ht) st
      cases more' with
      | true => exact ih' out' true h' (by have := hp' rfl; omega) (fun res hres => hf res (FinS.next hr' hres)) ht' st'
      | false =>
        cases m with
        | zero => omega
        | succ m =>
          rw [lp_succ]
          simp only [F11_8, ucons_cons, bite_f]
          exact Ret.of (hk h' out' st' (hf out' (FinS.next hr' (by simp [FinS]))) ht')
end
end Go.Am
