import Derived.Test.YtdmfanikejcgjaaW5
set_option linter.unusedSimpArgs false
set_option linter.unusedVariables false
namespace Go.Am
open Go Go.RowKit Go.Proofs

section
variable {n : Nat} {cl ih : CL} {h : PH}
theorem set_fill {α : Type} {a b : α} {i k : Nat} : (List.replicate i a ++ List.replicate (k + 1) b).set i a = List.replicate (i + 1) a ++ List.replicate k b := by
  rw [List.set_append_right _ _ (by simp)]
  simp only [List.length_replicate, Nat.sub_self, List.replicate_succ, List.set_cons_zero]
  have : ∀ (i : Nat) (l : List α), List.replicate i a ++ a :: l = a :: (List.replicate i a ++ l) := by
    intro i l
    induction i with
    | zero => rfl
    | succ i ih => rw [List.replicate_succ, List.cons_append, ih]; rfl
  rw [this]; rfl
theorem loop11f {h0 : PH} {g : Gr} {b1 b2 c2 N : Nat} {v rv fv cv kv : Value} {Q : Value → PH → Prop} (hN : N ≤ 40)
    (hk : ∀ h, St h0 h [(b2, iv (List.replicate N (-1))), (b1, gcs g rv fv cv kv)] → Ret (lp n (F11_8 n cl) [.pointer (some ⟨b1, 0, none⟩), .slice (some ⟨b2, 0, none⟩) N c2, .bool true] h) Q) :
    ∀ (k i m : Nat) (h : PH), i + k = N → k < m → St h0 h [(b2, iv (List.replicate i (-1) ++ List.replicate k 0)), (b1, gcs g rv fv cv kv)] →
    Ret (lp m (F11_10 n cl) [.pointer (some ⟨b1, 0, none⟩), .slice (some ⟨b2, 0, none⟩) N c2, .int .i64 N, .int .i64 i] h) Q := by
  intro k
  induction k with
  | zero =>
    intro i m h hi hm st
    obtain ⟨m, rfl⟩ : ∃ q, m = q + 1 := ⟨m - 1, by omega⟩
    rw [lp_succ]
    have c : ¬ ((i : Int) < N) := by omega
    have : i = N := by omega
    subst this
    simp only [F11_10, ucons_cons, F11_9, xLt_i, c, decide_false, vb_some, bite_f, tt_eq]
    exact hk h (by simpa using st)
  | succ k ih' =>
    intro i m h hi hm st
    obtain ⟨m, rfl⟩ : ∃ q, m = q + 1 := ⟨m - 1, by omega⟩
    rw [lp_succ]
    have c : ((i : Int) < N) := by omega
    simp only [F11_10, ucons_cons, F11_9, xLt_i, c, decide_true, vb_some, bite_t, F11_0, vM_eq]
    rw [xIdxS_at (by omega) c]
    simp only [vb_some, show 0 + (i : Int).toNat * 1 = i from by simp]
    refine Ret.sst1 st (i := 0) (o := i) rfl (by simp) rfl fun h2 st2 => ?_
    simp only [vN_eq, xAdd_i, vb_some, show (((1 : Nat) : Int)) = 1 from rfl, wrap1 (i := i) (by omega)]
    refine ih' (i + 1) m h2 (by omega) (by omega) ?_
    have e : iv (List.replicate (i + 1) (-1) ++ List.replicate k 0) = (iv (List.replicate i (-1) ++ List.replicate (k + 1) 0)).set i (.int .i64 (-1)) := by
      rw [← set_fill]; exact List.map_set
    rw [e]; exact st2
/-- What a table of lengths comes to. -/
structure ShortQ (g : Gr) (h h1 : PH) (v : Value) : Prop where
  bad : goodB g = false → v = nils
  good : goodB g = true → ∃ res b c, Runs g (List.replicate g.names.toNat (-1)) res ∧ TabS g res ∧ v = .slice (some ⟨b, 0, none⟩) g.names.toNat c ∧ h.n ≤ b ∧ Mine h1 b (iv res)
theorem c11 [OkH h] {g : Gr} {v rv fv cv kv : Value} (hn : 9223372036854775808 ≤ n) (r : RdG h v g rv fv cv kv) (hg : GIn g) :
    Ret (F11 n (CLs n ih) v h.fzn) fun v h1 => Kp h.n h.fzn h1 ∧ ShortQ g h h1 v := by
  unfold F11
  rw [r.v]
  refine Ret.sbox (St.start _) (fun h1 b st => ?_)
  have := st.ok
  have lw : xLdA 7 (.pointer (some ⟨b, 0, none⟩)) h1 = some (.agg ⟨gcs g rv fv cv kv⟩) := xLdA_at (st.row (.head _)) rfl (Nat.le_refl _)
  have sees : ∀ b cs, Sees h b cs → Sees h1 b cs := fun b cs s => st.sees s
  have e := c27 (n := n) (ih := ih) (h := h1) hn (r.mono sees) hg
  rw [r.v] at e
  simp only [lw, vb_some, e, xNot_b]
  cases hgood : goodB g with
  | false => simp only [Bool.not_false, bite_t]; exact Ret.of ⟨st.kp, fun _ => rfl, fun h => by rw [hgood] at h; cases h⟩
  | true =>
    obtain ⟨w1, w2, _⟩ := goodB_whole hgood
    have l0 : xLd (.pointer (some ⟨b, 0, none⟩)) h1 = some (.int .i64 g.names) := xLd_at (st.row (.head _)) rfl
    simp only [Bool.not_true, bite_f, F11_11, xFld_p, Nat.zero_add, vb_some, l0]
    refine Ret.smk st zi25 (by omega) (by omega) (by omega) (by omega) fun h2 b2 st2 => ?_
    simp only [xLenS_s, vb_some, vN_eq]
    rw [zrows1] at st2
    refine loop11f (N := g.names.toNat) (g := g) (h0 := h.fzn) (v := v) (by omega) (fun h3 st3 => ?_) g.names.toNat 0 n h2 (by omega) (by omega) (by
      have e : iv (List.replicate 0 (-1) ++ List.replicate g.names.toNat 0) = List.replicate g.names.toNat (.int .i64 0) := by simp
      rw [e]; exact st2)
    have ht : TabS g (List.replicate g.names.toNat (-1)) := ⟨by simp, fun x hx => by have := List.eq_of_mem_replicate hx; omega⟩
    have hpot : ∀ k, pot (List.replicate k (-1)) = k * 1000000001 := by
      intro k
      induction k with
      | zero => rfl
      | succ k ih => rw [List.replicate_succ]; simp only [pot, ih, if_true]; omega
    have sf : ∀ b cs, Sees h b cs → Sees h.fzn b cs := fun b cs s => s
    refine loop11 (h0 := h.fzn) (start := List.replicate g.names.toNat (-1)) hn (r.mono sf) hg hgood (fun h4 out st4 hr ht' => ?_) n _ true h3 (by rw [hpot]; omega) (fun res hres => hres) ht st3
    refine ⟨st4.kp, fun h => (by rw [hgood] at h; cases h), fun _ => ⟨out, b2, _, hr, ht', rfl, st4.old _ (.head _), st4.mine _ (.head _)⟩⟩

theorem mine_back {h h' : PH} {b : Nat} {cs : List Value} (m : Mine h b cs) (hr : h'.raw b = h.raw b) (hz : h'.fz ≤ b) : Mine h' b cs := by
  obtain ⟨_, m, esz, h2, h3⟩ := m
  exact ⟨hz, m, esz, hr.trans h2, h3⟩
/-! ### Productive -/
abbrev bv (l : List Bool) : List Value := l.map .bool
abbrev prodL (l : List Int) : List Bool := l.map fun x => !decide (x = -1)
theorem take_succ_map {α β : Type} {f : α → β} {l : List α} {i : Nat} {x : α} (h : l[i]? = some x) : (l.take (i + 1)).map f = (l.take i).map f ++ [f x] := by
  rw [List.take_add_one, h, List.map_append]; rfl
theorem loop16 {h0 : PH} {b3 c3 : Nat} {res : List Int} {Q : Value → PH → Prop} (hlen : res.length ≤ 40)
    (hk : ∀ h b, St h0 h [(b, bv (prodL res)), (b3, iv res)] → Q (.slice (some ⟨b, 0, none⟩) res.length openCap) h) :
    ∀ (k i m : Nat) (h : PH) (bw : Nat), i + k = res.length → k < m → 0 < i → St h0 h [(bw, bv (prodL (res.take i))), (b3, iv res)] → Op h bw 1 →
    Ret (lp m (F16_2 n cl) [.slice (some ⟨bw, 0, none⟩) i openCap, .slice (some ⟨b3, 0, none⟩) res.length c3, .int .i64 res.length, .int .i64 i] h) Q := by
  intro k
  induction k with
  | zero =>
    intro i m h bw hi hm _ st op
    obtain ⟨m, rfl⟩ : ∃ q, m = q + 1 := ⟨m - 1, by omega⟩
    rw [lp_succ]
    have c : ¬ ((i : Int) < res.length) := by omega
    have hi' : i = res.length := by omega
    simp only [F16_2, ucons_cons, F16_1, xLt_i, c, decide_false, vb_some, bite_f]
    subst hi'
    rw [List.take_length] at st
    exact Ret.of (hk h bw st)
  | succ k ih' =>
    intro i m h bw hi hm h0i st op
    obtain ⟨m, rfl⟩ : ∃ q, m = q + 1 := ⟨m - 1, by omega⟩
    rw [lp_succ]
    have c : ((i : Int) < res.length) := by omega
    have hlt : i < res.length := by omega
    have hx : res[i]? = some res[i] := List.getElem?_eq_getElem hlt
    have ld : xLd (.pointer (some ⟨b3, i, none⟩)) h = some (.int .i64 res[i]) := xLd_at (st.row (.tail _ (.head _))) (by rw [List.getElem?_map, hx]; rfl)
    simp only [F16_2, ucons_cons, F16_1, xLt_i, c, decide_true, vb_some, bite_t, F16_0]
    rw [xIdxS_at (by omega) c]
    simp only [vb_some, show 0 + (i : Int).toNat * 1 = i from by simp, ld, vM_eq, xNe_i, show Int.negSucc 0 = -1 from rfl]
    refine Ret.sbs st bs34 fun h2 bs st2 ok2 => ?_
    rw [ai34]
    refine Ret.sapp st2 (i := 1) (o := 0) (n := 1) rfl ⟨by simp; omega, .inr ⟨ok2 _ _ (st.row (.head _)).lt op, Nat.le_refl _, by decide, by simp⟩⟩ (by omega) (ptail_at (st2.mine _ (.head _)) rfl) (by omega) rfl (by omega) fun h3 b' st3 op3 _ => ?_
    simp only [vN_eq, xAdd_i, vb_some, show (((1 : Nat) : Int)) = 1 from rfl, wrap1 (i := i) (by omega)]
    refine ih' (i + 1) m h3 b' (by omega) (by omega) (by omega) ?_ op3
    have e : bv (prodL (res.take (i + 1))) = (bv (prodL (res.take i))).drop 0 ++ [.bool !decide (res[i] = -1)] := by
      rw [List.drop_zero, bv, prodL, List.map_map, take_succ_map hx]; simp
    rw [e]
    exact st3.drop (.cons_cons _ (.cons _ (List.Sublist.refl _)))
/-- Which names derive something. -/
structure ProdQ (g : Gr) (h h1 : PH) (v : Value) : Prop where
  bad : goodB g = false → v = nils
  good : goodB g = true → ∃ res b c, Runs g (List.replicate g.names.toNat (-1)) res ∧ TabS g res ∧ v = .slice (some ⟨b, 0, none⟩) g.names.toNat c ∧ h.n ≤ b ∧ Mine h1 b (bv (prodL res))
theorem c16 [OkH h] {g : Gr} {v rv fv cv kv : Value} (hn : 9223372036854775808 ≤ n) (r : RdG h v g rv fv cv kv) (hg : GIn g) :
    Ret (F16 n (CLs n ih) v h.fzn) fun v h1 => Kp h.n h.fzn h1 ∧ ProdQ g h h1 v := by
  unfold F16
  rw [r.v]
  refine Ret.sbox (St.start _) (fun h1 b st => ?_)
  have := st.ok
  have lw : xLdA 7 (.pointer (some ⟨b, 0, none⟩)) h1 = some (.agg ⟨gcs g rv fv cv kv⟩) := xLdA_at (st.row (.head _)) rfl (Nat.le_refl _)
  have sees : ∀ b cs, Sees h b cs → Sees h1 b cs := fun b cs s => st.sees s
  have e := c11 (n := n) (ih := ih) (h := h1) hn (r.mono sees) hg
  rw [r.v] at e
  simp only [lw, vb_some]
  refine Ret.fcall e fun v3 h2 q kp hraw => ?_
  cases hgood : goodB g with
  | false =>
    rw [q.bad hgood]
    simp only [nils, xLenS_s, vb_some, vN_eq]
    obtain ⟨m, hm⟩ : ∃ q, n = q + 1 := ⟨n - 1, by omega⟩
    have e : ∀ b, lp n b = lp (m + 1) b := fun b => by rw [hm]
    rw [e, lp_succ]
    simp only [F16_2, ucons_cons, F16_1, xLt_i, vb_some, show ¬ (((0 : Nat) : Int) < ((0 : Nat) : Int)) from by omega, decide_false, bite_f]
    exact Ret.of ⟨(st.on kp).kp, fun _ => rfl, fun h => by rw [hgood] at h; cases h⟩
  | true =>
    obtain ⟨w1, w2, _⟩ := goodB_whole hgood
    obtain ⟨res, b3, c3, hr, ht, rfl, hb, hm⟩ := q.good hgood
    have hz := st.kp.ok.fz
    have hlen := ht.len
    have st2 : St h.fzn (h1.back h2) [(b3, iv res), (b, gcs g rv fv cv kv)] := st.push kp (mine_back hm (hraw _) (by show h1.fz ≤ b3; omega)) hb
    have st2 := st2.drop (rows' := [(b3, iv res)]) (.cons_cons _ (.cons _ .slnil))
    rw [← hlen]
    simp only [xLenS_s, vb_some, vN_eq]
    obtain ⟨m, hm'⟩ : ∃ q, n = q + 1 := ⟨n - 1, by omega⟩
    have e : ∀ b, lp n b = lp (m + 1) b := fun b => by rw [hm']
    have c : ((((0 : Nat) : Int)) < res.length) := by omega
    have hlt : 0 < res.length := by omega
    have hx : res[0]? = some res[0] := List.getElem?_eq_getElem hlt
    have ld : xLd (.pointer (some ⟨b3, 0, none⟩)) (h1.back h2) = some (.int .i64 res[0]) := xLd_at (st2.row (.head _)) (by rw [List.getElem?_map, hx]; rfl)
    rw [e, lp_succ]
    simp only [F16_2, ucons_cons, F16_1, xLt_i, c, decide_true, vb_some, bite_t, F16_0]
    rw [xIdxS_at (by omega) c]
    simp only [vb_some, show 0 + (((0 : Nat) : Int)).toNat * 1 = 0 from by simp, ld, vM_eq, xNe_i, show Int.negSucc 0 = -1 from rfl]
    refine Ret.sbs st2 bs34 fun h3 bs st3 ok3 => ?_
    rw [ai34]
    refine Ret.sapp0 st3 (n := 1) (ptail_at (st3.mine _ (.head _)) rfl) (by omega) rfl (by omega) fun h4 b' st4 op4 _ => ?_
    simp only [vN_eq, xAdd_i, vb_some, show (((1 : Nat) : Int)) = 1 from rfl, wrap1 (i := 0) (by omega)]
    refine loop16 (h0 := h.fzn) (res := res) (by omega) (fun h5 bw st5 => ⟨st5.kp, fun h => (by rw [hgood] at h; cases h), fun _ => ⟨res, bw, _, hr, ht, by rw [hlen], st5.old _ (.head _), st5.mine _ (.head _)⟩⟩) (res.length - 1) 1 m h4 b' (by omega) (by omega) (by omega) ?_ op4
    have e2 : bv (prodL (res.take 1)) = [.bool !decide (res[0] = -1)] := by
      rw [bv, prodL, List.map_map, take_succ_map hx]; simp
    rw [e2]
    exact st4.drop (.cons_cons _ (.cons _ (List.Sublist.refl _)))
end
end Go.Am
