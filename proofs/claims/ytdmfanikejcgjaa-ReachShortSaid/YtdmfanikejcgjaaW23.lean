import Derived.Test.YtdmfanikejcgjaaW22
set_option linter.unusedSimpArgs false
set_option linter.unusedVariables false
namespace Go.Am
open Go Go.RowKit Go.Proofs
theorem ab_neq2 {b : Bool} : abin Try.prog .neq 4 (Operand.tmp 155) (Operand.tmp 160) (.bool b) (.bool b) = some (.bool false) := by cases b <;> kernel_rfl
section
variable {n : Nat} {cl ih : CL} {h : PH}
theorem idx0 {b N c : Nat} {s : Int} (h0 : 0 ≤ s) (h1 : s < N) : xIdxS 1 (.slice (some ⟨b, 0, none⟩) N c) (.int .i64 s) = some (.pointer (some ⟨b, s.toNat, none⟩)) := by
  rw [xIdxS_at h0 h1]; simp
theorem loop5e {h0 : PH} {g : Gr} {rv fv cv kv : Value} {b1 b2 b4 b5 c2 c4 c5 : Nat} {res : List Int} {M : List Bool} (hN : 1 ≤ g.names ∧ g.names ≤ 40) (ht : TabS g res) (hM : M.length = g.names.toNat)
    (hmet : ∀ a : Nat, a < g.names.toNat → res.getD a 0 ≠ -1 → M[a]? = some true) :
    ∀ (k i m : Nat) (h : PH), i + k = g.names.toNat → k < m → St h0 h [(b2, iv res), (b1, gcs g rv fv cv kv), (b4, bv (prodL res)), (b5, bv M)] →
    Ret (lp m (F5_16 n cl) [.pointer (some ⟨b1, 0, none⟩), .slice (some ⟨b2, 0, none⟩) g.names.toNat c2, .slice (some ⟨b4, 0, none⟩) g.names.toNat c4, .slice (some ⟨b5, 0, none⟩) g.names.toNat c5, .int .i64 i] h) fun u _ => u = .bool true := by
  have un1 : isB false undef = false := rfl
  have un2 : isB true undef = false := rfl
  intro k
  induction k with
  | zero =>
    intro i m h hi hm st
    obtain ⟨m, rfl⟩ : ∃ q, m = q + 1 := ⟨m - 1, by omega⟩
    rw [lp_succ]
    have l0 : xLd (.pointer (some ⟨b1, 0, none⟩)) h = some (.int .i64 g.names) := xLd_at (st.row (.tail _ (.head _))) rfl
    have c : ¬ ((i : Int) < g.names) := by omega
    simp only [F5_16, ucons_cons, F5_15, xFld_p, Nat.zero_add, vb_some, l0, xLt_i, c, decide_false, bite_f, tt_eq]
    exact Ret.of rfl
  | succ k ih' =>
    intro i m h hi hm st
    obtain ⟨m, rfl⟩ : ∃ q, m = q + 1 := ⟨m - 1, by omega⟩
    rw [lp_succ]
    have hlen := ht.len
    have l0 : xLd (.pointer (some ⟨b1, 0, none⟩)) h = some (.int .i64 g.names) := xLd_at (st.row (.tail _ (.head _))) rfl
    have c : ((i : Int) < g.names) := by omega
    have cN : ((i : Int) < (g.names.toNat : Nat)) := by omega
    have hx : res[i]? = some (res.getD i 0) := by rw [List.getD, List.getElem?_eq_getElem (by omega)]; rfl
    have ls : xLd (.pointer (some ⟨b2, i, none⟩)) h = some (.int .i64 (res.getD i 0)) := xLd_at (st.row (.head _)) (by rw [List.getElem?_map, hx]; rfl)
    have lp' : xLd (.pointer (some ⟨b4, i, none⟩)) h = some (.bool !decide (res.getD i 0 = -1)) := xLd_at (st.row (.tail _ (.tail _ (.head _)))) (by rw [List.getElem?_map, List.getElem?_map, hx]; rfl)
    have hge := getD_ge ht i
    have hb : decide (0 ≤ res.getD i 0) = !decide (res.getD i 0 = -1) := by
      by_cases e : res.getD i 0 = -1
      · rw [e]; rfl
      · rw [decide_eq_false e, decide_eq_true (by omega)]; rfl
    have i2 : ∀ b c, xIdxS 1 (.slice (some ⟨b, 0, none⟩) g.names.toNat c) (.int .i64 i) = some (.pointer (some ⟨b, i, none⟩)) := fun b c => by rw [idx0 (by omega) cN]; simp
    have next : Ret (F5_13 n cl (.int .i64 i) (lp m (F5_16 n cl)) (.pointer (some ⟨b1, 0, none⟩)) (.slice (some ⟨b2, 0, none⟩) g.names.toNat c2) (.slice (some ⟨b4, 0, none⟩) g.names.toNat c4) (.slice (some ⟨b5, 0, none⟩) g.names.toNat c5) h) fun u _ => u = .bool true := by
      simp only [F5_13, vN_eq, xAdd_i, vb_some, show (((1 : Nat) : Int)) = 1 from rfl, wrap1 (i := i) (by omega)]
      exact ih' (i + 1) m h (by omega) (by omega) st
    simp only [F5_16, ucons_cons, F5_15, xFld_p, Nat.zero_add, vb_some, l0, xLt_i, c, decide_true, bite_t, F5_14, i2, ls, lp', vN_eq, xGe_i, show (((0 : Nat) : Int)) = 0 from rfl, hb, ab_neq2, isB_f, Bool.not_false, gd_true]
    by_cases e : res.getD i 0 = -1
    · have e' : (!decide (res.getD i 0 = -1)) = false := by rw [decide_eq_true e]; rfl
      simp only [e', isB_t, gd_false, vb_some, xPick_f, ff_eq, bite_f]
      exact next
    · have e' : (!decide (res.getD i 0 = -1)) = true := by rw [decide_eq_false e]; rfl
      have lm : xLd (.pointer (some ⟨b5, i, none⟩)) h = some (.bool true) := xLd_at (st.row (.tail _ (.tail _ (.tail _ (.head _))))) (by rw [List.getElem?_map, hmet i (by omega) e]; rfl)
      simp only [e', isB_t, gd_true, vb_some, i2, lm, xNot_b, Bool.not_true, xPick_t, xPick_f, bite_f]
      exact next
theorem loop5 {h0 : PH} {g : Gr} {v rv fv cv kv : Value} {b1 b2 b4 b5 c2 c4 c5 : Nat} {res : List Int} (hn : 9223372036854775808 ≤ n) (r : RdG h0 v g rv fv cv kv) (hg : GIn g) (hgood : goodB g = true) (hruns : Runs g (none1 g) res) (ht : TabS g res) :
    ∀ (k i m : Nat) (M : List Bool) (h : PH), i + k = g.rules.length → k < m → M.length = g.names.toNat → (∀ (j : Nat) q, j < i → g.rules[j]? = some q → 0 ≤ longF g res 0 q.right → longF g res 0 q.right = res.getD q.left.toNat 0 → M[q.left.toNat]? = some true) →
      St h0 h [(b2, iv res), (b1, gcs g rv fv cv kv), (b4, bv (prodL res)), (b5, bv M)] →
    Ret (lp m (F5_18 n cl) [.pointer (some ⟨b1, 0, none⟩), .slice (some ⟨b2, 0, none⟩) g.names.toNat c2, .slice (some ⟨b4, 0, none⟩) g.names.toNat c4, .slice (some ⟨b5, 0, none⟩) g.names.toNat c5, .int .i64 i] h) fun u _ => u = .bool true := by
  have un1 : isB false undef = false := rfl
  have un2 : isB true undef = false := rfl
  obtain ⟨gw1, gw2, _⟩ := goodB_whole hgood
  intro k
  induction k with
  | zero =>
    intro i m M h hi hm hM hd st
    obtain ⟨m, rfl⟩ : ∃ q, m = q + 1 := ⟨m - 1, by omega⟩
    rw [lp_succ]
    have l3 : xLd (.pointer (some ⟨b1, 3, none⟩)) h = some rv := xLd_at (st.row (.tail _ (.head _))) rfl
    have c : ¬ ((i : Int) < g.rules.length) := by omega
    simp only [F5_18, ucons_cons, F5_17, xFld_p, Nat.zero_add, vb_some, l3, RdS.len r.rules, xLt_i, c, decide_false, bite_f, vN_eq]
    refine loop5e (h0 := h0) ⟨gw1, gw2⟩ ht hM (fun a ha hne => ?_) g.names.toNat 0 n h (by omega) (by omega) st
    obtain ⟨q, hq, hql, he⟩ := hruns.just hgood ha hne
    obtain ⟨j, hj⟩ := List.getElem?_of_mem hq
    have hjl := (List.getElem?_eq_some_iff.1 hj).1
    have hge := getD_ge ht a
    have := hd j q (by omega) hj (by rw [he]; omega) (by rw [hql]; exact he)
    rw [hql] at this; exact this
  | succ k ih' =>
    intro i m M h hi hm hM hd st
    obtain ⟨m, rfl⟩ : ∃ q, m = q + 1 := ⟨m - 1, by omega⟩
    rw [lp_succ]
    have hrl := hg.rlen
    have l3 : xLd (.pointer (some ⟨b1, 3, none⟩)) h = some rv := xLd_at (st.row (.tail _ (.head _))) rfl
    have c : ((i : Int) < g.rules.length) := by omega
    simp only [F5_18, ucons_cons, F5_17, xFld_p, Nat.zero_add, vb_some, l3, RdS.len r.rules, xLt_i, c, decide_true, bite_t, F5_12]
    refine Ret.idx r.rules (by omega) c fun b o cs x hx s hle hE => ?_
    have hx : g.rules[i]? = some x := by simpa using hx
    have hxm := List.mem_of_getElem? hx
    obtain ⟨qv, hE, hq⟩ := hE
    refine Ret.vb (xLdA_at (st.sees s) hE hle) ?_
    refine Ret.salloc st z29 fun h2 b3 st2 => ?_
    refine Ret.sstA st2 (i := 0) rfl rfl (Nat.le_refl _) (by simp only [oneCells, List.all_cons, List.all_nil, hq.one]; rfl) fun h3 st3 => ?_
    have st3 : St h0 h3 [(b3, [.int .i64 x.left, qv, .int .i64 x.dyn]), (b2, iv res), (b1, gcs g rv fv cv kv), (b4, bv (prodL res)), (b5, bv M)] := st3
    obtain ⟨gl, gs, g8⟩ := goodB_rule hgood hxm
    have hnm := isName_iff.1 gl
    have hlen := ht.len
    simp only [vN_eq]
    refine loop5s (h0 := h0) (ex := [(b4, bv (prodL res)), (b5, bv M)]) hq g8 gs ht (fun h3 st3 => ?_) x.right.length 0 n 0 h3 (by omega) (by omega) (.inr ⟨by omega, by omega, rfl⟩) st3
    have q0 : xLd (.pointer (some ⟨b3, 0, none⟩)) h3 = some (.int .i64 x.left) := xLd_at (st3.row (.head _)) rfl
    have hx1 : res[x.left.toNat]? = some (res.getD x.left.toNat 0) := by rw [List.getD, List.getElem?_eq_getElem (by omega)]; rfl
    have hge := getD_ge ht x.left.toNat
    have hfix := hruns.fix x hxm
    have hrange := longF_range ht (fun s hs => by have := isName_iff.1 hs; omega) x.right 0 (by omega)
    have ia : ∀ b c, xIdxS 1 (.slice (some ⟨b, 0, none⟩) g.names.toNat c) (.int .i64 x.left) = some (.pointer (some ⟨b, x.left.toNat, none⟩)) := fun b c => idx0 hnm.1 (by omega)
    have lo : xLd (.pointer (some ⟨b2, x.left.toNat, none⟩)) h3 = some (.int .i64 (res.getD x.left.toNat 0)) := xLd_at (st3.row (.tail _ (.head _))) (by rw [List.getElem?_map, hx1]; rfl)
    have hm0 : M[x.left.toNat]? = some (M[x.left.toNat]'(by omega)) := List.getElem?_eq_getElem (by omega)
    generalize M[x.left.toNat]'(by omega) = old at hm0
    have lm : xLd (.pointer (some ⟨b5, x.left.toNat, none⟩)) h3 = some (.bool old) := xLd_at (st3.row (.tail _ (.tail _ (.tail _ (.tail _ (.head _)))))) (by rw [List.getElem?_map, hm0]; rfl)
    -- the mark, and on
    have mark : ∀ nb : Bool, (old = true → nb = true) → (0 ≤ longF g res 0 x.right → longF g res 0 x.right = res.getD x.left.toNat 0 → nb = true) →
        Ret (Go.Am.hb (xSt1 (.pointer (some ⟨b5, x.left.toNat, none⟩)) (.bool nb) h3) fun _ h => vb (xAri Int.add (.int .i64 i) (vN 1)) fun v165 => lp m (F5_18 n cl) [.pointer (some ⟨b1, 0, none⟩), .slice (some ⟨b2, 0, none⟩) g.names.toNat c2, .slice (some ⟨b4, 0, none⟩) g.names.toNat c4, .slice (some ⟨b5, 0, none⟩) g.names.toNat c5, v165] h) fun u _ => u = .bool true := by
      intro nb hold hnew
      refine Ret.sst1 st3 (i := 4) (b := b5) (o := x.left.toNat) (v := .bool nb) rfl (by simp; omega) rfl fun h4 st4 => ?_
      have hset : bv (M.set x.left.toNat nb) = (bv M).set x.left.toNat (.bool nb) := List.map_set
      have st4 : St h0 h4 [(b3, [.int .i64 x.left, qv, .int .i64 x.dyn]), (b2, iv res), (b1, gcs g rv fv cv kv), (b4, bv (prodL res)), (b5, bv (M.set x.left.toNat nb))] := by rw [hset]; exact st4
      simp only [vN_eq, xAdd_i, vb_some, show (((1 : Nat) : Int)) = 1 from rfl, wrap1 (i := i) (by omega)]
      refine ih' (i + 1) m (M.set x.left.toNat nb) h4 (by omega) (by omega) (by simp [hM]) (fun j q hj hq h1 h2 => ?_) (st4.drop (.cons _ (List.Sublist.refl _)))
      by_cases ej : j = i
      · subst ej
        rw [hx] at hq; cases hq
        rw [List.getElem?_set_self (by omega), hnew h1 h2]
      · have := hd j q (by omega) hq h1 h2
        by_cases el : x.left.toNat = q.left.toNat
        · rw [← el] at this ⊢
          rw [hm0] at this
          rw [List.getElem?_set_self (by omega), hold (Option.some.inj this)]
        · rw [List.getElem?_set_ne el]; exact this
    have rest : Ret (F5_6 n cl (.pointer (some ⟨b3, 0, none⟩)) (.slice (some ⟨b5, 0, none⟩) g.names.toNat c5) (.int .i64 (longF g res 0 x.right)) (.slice (some ⟨b2, 0, none⟩) g.names.toNat c2) (.int .i64 i) (lp m (F5_18 n cl)) (.pointer (some ⟨b1, 0, none⟩)) (.slice (some ⟨b4, 0, none⟩) g.names.toNat c4) h3) fun u _ => u = .bool true := by
      simp only [F5_6, xFld_p, Nat.zero_add, vb_some, q0, ia, lm]
      cases old with
      | true =>
        simp only [isB_f, Bool.not_true, gd_false, vb_some, un1, un2, xPick_t, tt_eq]
        exact mark true (fun _ => rfl) (fun _ _ => rfl)
      | false =>
        simp only [isB_f, Bool.not_false, gd_true, vb_some, vN_eq, xGe_i, show (((0 : Nat) : Int)) = 0 from rfl]
        by_cases a1 : 0 ≤ longF g res 0 x.right
        · simp only [a1, decide_true, isB_t, gd_true, vb_some, q0, ia, lo, xEq_i, xPick_t, xPick_f]
          exact mark _ (fun h => by cases h) (fun _ h => decide_eq_true h)
        · simp only [a1, decide_false, isB_t, gd_false, vb_some, xPick_f, ff_eq]
          exact mark false (fun h => by cases h) (fun h => absurd h a1)
    simp only [F5_8, ucons_cons, F5_7, vN_eq, xGe_i, vb_some, show (((0 : Nat) : Int)) = 0 from rfl, xFld_p, Nat.zero_add]
    by_cases a1 : 0 ≤ longF g res 0 x.right
    · have a2 : ¬ res.getD x.left.toNat 0 < 0 := by
        intro hlt
        exact hfix ⟨by omega, .inl (by omega)⟩
      have a3 : ¬ longF g res 0 x.right < res.getD x.left.toNat 0 := fun hlt => hfix ⟨by omega, .inr hlt⟩
      simp only [a1, a2, a3, decide_true, decide_false, isB_t, isB_f, gd_true, vb_some, q0, ia, lo, xLt_i, Bool.not_true, Bool.not_false, gd_false, un1, un2, xPick_t, xPick_f, bite_f]
      exact rest
    · simp only [a1, decide_false, isB_t, isB_f, gd_false, vb_some, un1, un2, xPick_f, ff_eq, bite_f]
      exact rest
theorem c5 [OkH h] {g : Gr} {v rv fv cv kv : Value} (hn : 9223372036854775808 ≤ n) (r : RdG h v g rv fv cv kv) (hg : GIn g) : Ret (F5 n (CLs n ih) v h.fzn) fun u _ => u = .bool true := by
  have un1 : isB false undef = false := rfl
  have un2 : isB true undef = false := rfl
  unfold F5
  rw [r.v]
  refine Ret.sbox (St.start _) (fun h1 b st => ?_)
  have := st.ok
  have sees : ∀ b cs, Sees h b cs → Sees h1 b cs := fun b cs s => st.sees s
  have lw : xLdA 7 (.pointer (some ⟨b, 0, none⟩)) h1 = some (.agg ⟨gcs g rv fv cv kv⟩) := xLdA_at (st.row (.head _)) rfl (Nat.le_refl _)
  have e12 := c12 (n := n) (cl := CLs n ih) (h := h1) (r.mono sees)
  have e20 := c20 (n := n) (cl := CLs n ih) (h := h1) hn (r.mono sees) hg
  rw [r.v] at e12 e20
  simp only [c10 hn, vb_some, xNot_b, Bool.not_true, isB_f, Bool.not_false, gd_true, lw, e12, e20, xExt_t, List.getElem?_cons_zero, List.getElem?_cons_succ, xPick_f, vN_eq, xNe_i, show (((0 : Nat) : Int)) = 0 from rfl]
  cases fewB g with
  | false => simp only [Bool.not_false, isB_f, Bool.not_true, gd_false, vb_some, un1, un2, xPick_t, tt_eq, bite_t]; exact Ret.of rfl
  | true =>
    by_cases hf : (formE g).2 = 0
    · have hgood : goodB g = true := by unfold goodB; rw [hf]; rfl
      obtain ⟨w1, w2, _⟩ := goodB_whole hgood
      simp only [hf, xNe_i, decide_true, Bool.not_true, isB_f, Bool.not_false, gd_true, vb_some, xPick_f, bite_f, F5_20, lw]
      have e := c11 (n := n) (ih := ih) (h := h1) hn (r.mono sees) hg
      rw [r.v] at e
      refine Ret.fcall e fun v1 k1 q1 p1 w1' => ?_
      obtain ⟨res, b2, c2, hr, ht, rfl, hb2, hm2⟩ := q1.good hgood
      have hz := st.kp.ok.fz
      have st1 := st.push p1 (mine_back hm2 (w1' _) (by show h1.fz ≤ b2; omega)) hb2
      have := st1.ok
      have sees1 : ∀ b cs, Sees h b cs → Sees (h1.back k1) b cs := fun b cs s => st1.sees (show Sees h.fzn b cs from s)
      have lw1 : xLdA 7 (.pointer (some ⟨b, 0, none⟩)) (h1.back k1) = some (.agg ⟨gcs g rv fv cv kv⟩) := xLdA_at (st1.row (.tail _ (.head _))) rfl (Nat.le_refl _)
      have e := c16 (n := n) (ih := ih) (h := h1.back k1) hn (r.mono sees1) hg
      rw [r.v] at e
      simp only [lw1, vb_some]
      refine Ret.fcall e fun v2 k2 q2 p2 w2' => ?_
      obtain ⟨res', b4, c4, hr', ht', rfl, hb4, hm4⟩ := q2.good hgood
      have : res' = res := hr'.det hr
      subst this
      have hz1 := st1.kp.ok.fz
      have st2 := st1.push p2 (mine_back hm4 (w2' _) (by show (h1.back k1).fz ≤ b4; omega)) hb4
      have := st2.ok
      have l0 : xLd (.pointer (some ⟨b, 0, none⟩)) ((h1.back k1).back k2) = some (.int .i64 g.names) := xLd_at (st2.row (.tail _ (.tail _ (.head _)))) rfl
      have hN : ((g.names.toNat : Nat) : Int) = g.names := by omega
      simp only [xLenS_s, vb_some, xFld_p, Nat.zero_add, l0, xNe_i, hN, decide_true, Bool.not_true, isB_f, Bool.not_false, gd_true, xPick_f, bite_f, F5_19]
      refine Ret.smk st2 zi34 (by omega) (by omega) (by omega) (by omega) fun h3 b5 st3 => ?_
      rw [zrows1] at st3
      have st3' : St h.fzn h3 [(b2, iv res'), (b, gcs g rv fv cv kv), (b4, bv (prodL res')), (b5, bv (List.replicate g.names.toNat false))] := by
        have e : bv (List.replicate g.names.toNat false) = List.replicate g.names.toNat (.bool false) := by rw [bv, List.map_replicate]
        rw [e]
        refine st3.perm ?_
        exact (List.Perm.swap _ _ _).trans (((List.Perm.swap _ _ _).cons _).trans (((List.Perm.swap _ _ _).cons _ |>.cons _).trans ((List.Perm.swap _ _ _).trans (((List.Perm.swap _ _ _).cons _)))))
      have sf : ∀ b cs, Sees h b cs → Sees h.fzn b cs := fun b cs s => s
      simp only [vN_eq]
      exact loop5 (h0 := h.fzn) hn (r.mono sf) hg hgood hr ht g.rules.length 0 n _ h3 (by omega) (by have := hg.rlen; omega) (by simp) (fun j q hj => by omega) st3'
    · simp only [hf, xNe_i, decide_false, Bool.not_false, Bool.not_true, isB_f, gd_true, vb_some, xPick_f, bite_t]
      exact Ret.of rfl
end
end Go.Am
