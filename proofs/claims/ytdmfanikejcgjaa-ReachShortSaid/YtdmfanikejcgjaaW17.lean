import Derived.Test.YtdmfanikejcgjaaW16
set_option linter.unusedSimpArgs false
set_option linter.unusedVariables false
namespace Go.Am
open Go Go.RowKit Go.Proofs
section
variable {n : Nat} {cl ih : CL} {h : PH}
theorem loop19i {h0 : PH} {g : Gr} {v rv fv cv kv : Value} {b1 b2 c2 : Nat} {r9 : Kt} {Q : Value → PH → Prop} {out0 : List Int} (hn : 9223372036854775808 ≤ n) (r : RdG h0 v g rv fv cv kv) (hg : GIn g) (hgood : goodB g = true)
    (hk : ∀ (h : PH) (out : List Int) (more : Bool), St h0 h [(b2, iv out), (b1, gcs g rv fv cv kv)] → roundS g out0 = (out, more) → TabS g out → (more = true → pot out < pot out0) → Ret (r9 [.pointer (some ⟨b1, 0, none⟩), .slice (some ⟨b2, 0, none⟩) g.names.toNat c2, .bool more] h) Q) :
    ∀ (k i m : Nat) (out : List Int) (more : Bool) (h : PH), i + k = g.rules.length → k < m → MidS g out0 i out more → St h0 h [(b2, iv out), (b1, gcs g rv fv cv kv)] →
    Ret (lp m (F19_17 n cl r9) [.pointer (some ⟨b1, 0, none⟩), .slice (some ⟨b2, 0, none⟩) g.names.toNat c2, .bool more, .int .i64 i] h) Q := by
  have u1 : isB false undef = false := rfl
  have u2 : isB true undef = false := rfl
  intro k
  induction k with
  | zero =>
    intro i m out more h hi hm md st
    obtain ⟨m, rfl⟩ : ∃ q, m = q + 1 := ⟨m - 1, by omega⟩
    rw [lp_succ]
    have l3 : xLd (.pointer (some ⟨b1, 3, none⟩)) h = some rv := xLd_at (st.row (.tail _ (.head _))) rfl
    have c : ¬ ((i : Int) < g.rules.length) := by omega
    simp only [F19_17, ucons_cons, F19_16, xFld_p, Nat.zero_add, vb_some, l3, RdS.len r.rules, xLt_i, c, decide_false, bite_f]
    exact hk h out more st (md.end (by omega)) md.tab md.less
  | succ k ih' =>
    intro i m out more h hi hm md st
    obtain ⟨m, rfl⟩ : ∃ q, m = q + 1 := ⟨m - 1, by omega⟩
    rw [lp_succ]
    have hrl := hg.rlen
    have l3 : xLd (.pointer (some ⟨b1, 3, none⟩)) h = some rv := xLd_at (st.row (.tail _ (.head _))) rfl
    have c : ((i : Int) < g.rules.length) := by omega
    simp only [F19_17, ucons_cons, F19_16, xFld_p, Nat.zero_add, vb_some, l3, RdS.len r.rules, xLt_i, c, decide_true, bite_t, jn_eq, F19_15]
    refine Ret.idx r.rules (by omega) c fun b o cs x hx s hle hE => ?_
    have hx : g.rules[i]? = some x := by simpa using hx
    have hxm := List.mem_of_getElem? hx
    obtain ⟨qv, hE, hq⟩ := hE
    refine Ret.vb (xLdA_at (st.sees s) hE hle) ?_
    refine Ret.salloc st z29 fun h2 b3 st2 => ?_
    refine Ret.sstA st2 (i := 0) rfl rfl (Nat.le_refl _) (by simp only [oneCells, List.all_cons, List.all_nil, hq.one]; rfl) fun h3 st3 => ?_
    have st3 : St h0 h3 [(b3, [.int .i64 x.left, qv, .int .i64 x.dyn]), (b2, iv out), (b1, gcs g rv fv cv kv)] := st3
    obtain ⟨gl, gs, g8⟩ := goodB_rule hgood hxm
    have hnm := isName_iff.1 gl
    have hlen := md.tab.len
    simp only [vN_eq]
    refine loop19s (h0 := h0) hq g8 gs md.tab (fun h3 st3 => ?_) x.right.length 0 n 0 h3 (by omega) (by omega) (.inr ⟨by omega, by omega, rfl⟩) st3
    have q0 : xLd (.pointer (some ⟨b3, 0, none⟩)) h3 = some (.int .i64 x.left) := xLd_at (st3.row (.head _)) rfl
    have hs2 : Sees h3 b2 (iv out) := st3.row (.tail _ (.head _))
    have hx1 : out[x.left.toNat]? = some (out.getD x.left.toNat 0) := by rw [List.getD, List.getElem?_eq_getElem (by omega)]; rfl
    have hlo := getD_lo md.tab (i := x.left.toNat)
    have ia : xIdxS 1 (.slice (some ⟨b2, 0, none⟩) g.names.toNat c2) (.int .i64 x.left) = some (.pointer (some ⟨b2, x.left.toNat, none⟩)) := by
      rw [xIdxS_at hnm.1 (by omega)]; simp
    have lo : xLd (.pointer (some ⟨b2, x.left.toNat, none⟩)) h3 = some (.int .i64 (out.getD x.left.toNat 0)) := xLd_at hs2 (by rw [List.getElem?_map, hx1]; rfl)
    have step : ∀ (out' : List Int) (more' : Bool) (h' : PH), MidS g out0 (i + 1) out' more' → St h0 h' [(b2, iv out'), (b1, gcs g rv fv cv kv)] →
        Ret (F19_14 n cl (lp m (F19_17 n cl r9)) [.pointer (some ⟨b1, 0, none⟩), .slice (some ⟨b2, 0, none⟩) g.names.toNat c2, .bool more', .int .i64 i] h') Q := by
      intro out' more' h' md' st'
      simp only [F19_14, ucons_cons, F19_1, vN_eq, xAdd_i, vb_some, show (((1 : Nat) : Int)) = 1 from rfl, wrap1 (i := i) (by omega)]
      exact ih' (i + 1) m out' more' h' (by omega) (by omega) md' st'
    have hrange := longF_range md.tab (fun s hs => by have := isName_iff.1 hs; omega) x.right 0 (by omega)
    have turn : ∀ (_ : 0 ≤ longF g out 0 x.right) (_ : out.getD x.left.toNat 0 = -1 ∨ longF g out 0 x.right < out.getD x.left.toNat 0),
        Ret (F19_8 n cl (.pointer (some ⟨b3, 0, none⟩)) (.slice (some ⟨b2, 0, none⟩) g.names.toNat c2) (.int .i64 (longF g out 0 x.right)) (F19_14 n cl (lp m (F19_17 n cl r9))) (.pointer (some ⟨b1, 0, none⟩)) (.int .i64 i) h3) Q := by
      intro t1 t2
      simp only [F19_8, xFld_p, Nat.zero_add, vb_some, q0, ia]
      refine Ret.sst1 st3 (i := 1) (b := b2) (o := x.left.toNat) (v := .int .i64 (longF g out 0 x.right)) rfl (by simp; omega) rfl fun h4 st4 => ?_
      have st4 : St h0 h4 [(b3, [.int .i64 x.left, qv, .int .i64 x.dyn]), (b2, iv (out.set x.left.toNat (longF g out 0 x.right))), (b1, gcs g rv fv cv kv)] := by
        have e : iv (out.set x.left.toNat (longF g out 0 x.right)) = (iv out).set x.left.toNat (.int .i64 (longF g out 0 x.right)) := List.map_set
        rw [e]; exact st4
      exact step _ true h4 (md.turn hx (by omega) rfl (by omega) (by omega) t2) (st4.drop (.cons _ (List.Sublist.refl _)))
    have keep : ¬ (longF g out 0 x.right ≠ -1 ∧ (out.getD x.left.toNat 0 = -1 ∨ longF g out 0 x.right < out.getD x.left.toNat 0)) → Ret (F19_14 n cl (lp m (F19_17 n cl r9)) [.pointer (some ⟨b1, 0, none⟩), .slice (some ⟨b2, 0, none⟩) g.names.toNat c2, .bool more, .int .i64 i] h3) Q :=
      fun hc => step out more h3 (md.keep hx hc) (st3.drop (.cons _ (List.Sublist.refl _)))
    simp only [F19_10, ucons_cons, F19_9, vN_eq, xGe_i, vb_some, show (((0 : Nat) : Int)) = 0 from rfl, xFld_p, Nat.zero_add]
    by_cases a1 : 0 ≤ longF g out 0 x.right
    · by_cases a2 : out.getD x.left.toNat 0 < 0
      · have a2' : out.getD x.left.toNat 0 = -1 := by omega
        simp only [a1, a2, decide_true, isB_t, isB_f, gd_true, vb_some, q0, ia, lo, xLt_i, Bool.not_true, gd_false, u1, u2, xPick_t, tt_eq, bite_t]
        exact turn a1 (.inl a2')
      · by_cases a3 : longF g out 0 x.right < out.getD x.left.toNat 0
        · simp only [a1, a2, a3, decide_true, decide_false, isB_t, isB_f, gd_true, vb_some, q0, ia, lo, xLt_i, Bool.not_true, Bool.not_false, gd_false, u1, u2, xPick_t, xPick_f, tt_eq, bite_t]
          exact turn a1 (.inr a3)
        · simp only [a1, a2, a3, decide_true, decide_false, isB_t, isB_f, gd_true, vb_some, q0, ia, lo, xLt_i, Bool.not_true, Bool.not_false, gd_false, u1, u2, xPick_t, xPick_f, tt_eq, bite_f]
          exact keep (fun c => c.2.elim (fun e => by omega) a3)
    · simp only [a1, decide_false, isB_t, isB_f, gd_false, vb_some, u1, u2, xPick_f, ff_eq, bite_f]
      exact keep (fun c => by omega)
theorem loop19 {h0 : PH} {g : Gr} {v rv fv cv kv : Value} {b1 b2 c2 : Nat} {Q : Value → PH → Prop} (hn : 9223372036854775808 ≤ n) (r : RdG h0 v g rv fv cv kv) (hg : GIn g) (hgood : goodB g = true) {start : List Int}
    (hk : ∀ (h : PH) (out : List Int), St h0 h [(b2, iv out), (b1, gcs g rv fv cv kv)] → Runs g start out → TabS g out → Q (.slice (some ⟨b2, 0, none⟩) g.names.toNat c2) h) :
    ∀ (m : Nat) (out : List Int) (more : Bool) (h : PH), pot out + 1 < m → (∀ res, FinS g more out res → Runs g start res) → TabS g out → St h0 h [(b2, iv out), (b1, gcs g rv fv cv kv)] →
    Ret (lp m (F19_18 n cl) [.pointer (some ⟨b1, 0, none⟩), .slice (some ⟨b2, 0, none⟩) g.names.toNat c2, .bool more] h) Q := by
  intro m
  induction m with
  | zero => intro out more h hm; omega
  | succ m ih' =>
    intro out more h hm hf ht st
    rw [lp_succ]
    cases more with
    | false =>
      simp only [F19_18, ucons_cons, bite_f]
      exact Ret.of (hk h out st (hf out (by simp [FinS])) ht)
    | true =>
      have hrl := hg.rlen
      simp only [F19_18, ucons_cons, bite_t, ff_eq, vN_eq]
      refine loop19i (Q := Q) (r9 := lp m (F19_18 n cl)) (out0 := out) hn r hg hgood (fun h' out' more' st' hr' ht' hp' => ?_) g.rules.length 0 n out false h (by omega) (by omega) (MidS.start ht) st
      cases more' with
      | true => exact ih' out' true h' (by have := hp' rfl; omega) (fun res hres => hf res (FinS.next hr' hres)) ht' st'
      | false =>
        cases m with
        | zero => omega
        | succ m =>
          rw [lp_succ]
          simp only [F19_18, ucons_cons, bite_f]
          exact Ret.of (hk h' out' st' (hf out' (FinS.next hr' (by simp [FinS]))) ht')
theorem loop19f {h0 : PH} {g : Gr} {b1 b2 c2 : Nat} {v rv fv cv kv : Value} {Q : Value → PH → Prop} (hN : 1 ≤ g.names ∧ g.names ≤ 40)
    (hk : ∀ h, St h0 h [(b2, iv (List.replicate g.names.toNat (-1))), (b1, gcs g rv fv cv kv)] → Ret (lp n (F19_18 n cl) [.pointer (some ⟨b1, 0, none⟩), .slice (some ⟨b2, 0, none⟩) g.names.toNat c2, .bool true] h) Q) :
    ∀ (k i m : Nat) (h : PH), i + k = g.names.toNat → k < m → St h0 h [(b2, iv (List.replicate i (-1) ++ List.replicate k 0)), (b1, gcs g rv fv cv kv)] →
    Ret (lp m (F19_20 n cl) [.pointer (some ⟨b1, 0, none⟩), .slice (some ⟨b2, 0, none⟩) g.names.toNat c2, .int .i64 i] h) Q := by
  intro k
  induction k with
  | zero =>
    intro i m h hi hm st
    obtain ⟨m, rfl⟩ : ∃ q, m = q + 1 := ⟨m - 1, by omega⟩
    rw [lp_succ]
    have l0 : xLd (.pointer (some ⟨b1, 0, none⟩)) h = some (.int .i64 g.names) := xLd_at (st.row (.tail _ (.head _))) rfl
    have c : ¬ ((i : Int) < g.names) := by omega
    have : i = g.names.toNat := by omega
    simp only [F19_20, ucons_cons, F19_19, xFld_p, Nat.zero_add, vb_some, l0, xLt_i, c, decide_false, bite_f, tt_eq]
    rw [this] at st
    exact hk h (by simpa using st)
  | succ k ih' =>
    intro i m h hi hm st
    obtain ⟨m, rfl⟩ : ∃ q, m = q + 1 := ⟨m - 1, by omega⟩
    rw [lp_succ]
    have l0 : xLd (.pointer (some ⟨b1, 0, none⟩)) h = some (.int .i64 g.names) := xLd_at (st.row (.tail _ (.head _))) rfl
    have c : ((i : Int) < g.names) := by omega
    simp only [F19_20, ucons_cons, F19_19, xFld_p, Nat.zero_add, vb_some, l0, xLt_i, c, decide_true, bite_t, F19_0, vM_eq]
    rw [xIdxS_at (by omega) (by omega)]
    simp only [vb_some, show 0 + (i : Int).toNat * 1 = i from by simp]
    refine Ret.sst1 st (i := 0) (o := i) rfl (by simp) rfl fun h2 st2 => ?_
    simp only [vN_eq, xAdd_i, vb_some, show (((1 : Nat) : Int)) = 1 from rfl, wrap1 (i := i) (by omega)]
    refine ih' (i + 1) m h2 (by omega) (by omega) ?_
    have e : iv (List.replicate (i + 1) (-1) ++ List.replicate k 0) = (iv (List.replicate i (-1) ++ List.replicate (k + 1) 0)).set i (.int .i64 (-1)) := by
      rw [← set_fill]; exact List.map_set
    rw [e]; exact st2
theorem pot_rep : ∀ k : Nat, pot (List.replicate k (-1)) = k * 1000000001
  | 0 => rfl
  | k + 1 => by rw [List.replicate_succ]; simp only [pot, pot_rep k, if_true]; omega
theorem c19 [OkH h] {g : Gr} {v rv fv cv kv : Value} (hn : 9223372036854775808 ≤ n) (r : RdG h v g rv fv cv kv) (hg : GIn g) :
    Ret (F19 n cl v h.fzn) fun v h1 => Kp h.n h.fzn h1 ∧ ShortQ g h h1 v := by
  unfold F19
  rw [r.v]
  refine Ret.sbox (St.start _) (fun h1 b st => ?_)
  have := st.ok
  have lw : xLdA 7 (.pointer (some ⟨b, 0, none⟩)) h1 = some (.agg ⟨gcs g rv fv cv kv⟩) := xLdA_at (st.row (.head _)) rfl (Nat.le_refl _)
  have sees : ∀ b cs, Sees h b cs → Sees h1 b cs := fun b cs s => st.sees s
  have e := c30 (n := n) (cl := cl) (h := h1) hn (r.mono sees) hg
  rw [r.v] at e
  simp only [lw, vb_some, e, xNot_b]
  cases hgood : goodB g with
  | false => simp only [Bool.not_false, bite_t]; exact Ret.of ⟨st.kp, fun _ => rfl, fun h => by rw [hgood] at h; cases h⟩
  | true =>
    obtain ⟨w1, w2, _⟩ := goodB_whole hgood
    have l0 : xLd (.pointer (some ⟨b, 0, none⟩)) h1 = some (.int .i64 g.names) := xLd_at (st.row (.head _)) rfl
    simp only [Bool.not_true, bite_f, F19_21, xFld_p, Nat.zero_add, vb_some, l0]
    refine Ret.smk st zi25 (by omega) (by omega) (by omega) (by omega) fun h2 b2 st2 => ?_
    simp only [vN_eq]
    rw [zrows1] at st2
    have ht : TabS g (List.replicate g.names.toNat (-1)) := ⟨by simp, fun x hx => by have := List.eq_of_mem_replicate hx; omega⟩
    refine loop19f (g := g) (h0 := h.fzn) (v := v) ⟨w1, w2⟩ (fun h3 st3 => ?_) g.names.toNat 0 n h2 (by omega) (by omega) (by
      have e : iv (List.replicate 0 (-1) ++ List.replicate g.names.toNat 0) = List.replicate g.names.toNat (.int .i64 0) := by simp
      rw [e]; exact st2)
    have sf : ∀ b cs, Sees h b cs → Sees h.fzn b cs := fun b cs s => s
    refine loop19 (h0 := h.fzn) (start := List.replicate g.names.toNat (-1)) hn (r.mono sf) hg hgood (fun h4 out st4 hr ht' => ?_) n _ true h3 (by rw [pot_rep]; omega) (fun res hres => hres) ht st3
    exact ⟨st4.kp, fun h => (by rw [hgood] at h; cases h), fun _ => ⟨out, b2, _, hr, ht', rfl, st4.old _ (.head _), st4.mine _ (.head _)⟩⟩
end
end Go.Am
