import Derived.Test.YtdmfanikejcgjaaW6
set_option linter.unusedSimpArgs false
set_option linter.unusedVariables false
namespace Go.Am
open Go Go.RowKit Go.Proofs

section
variable {n : Nat} {cl ih : CL} {h : PH}
/-- How the row of names to be looked at stands. -/
structure Wk (h : PH) (N b o len cap : Nat) (all : List Value) (x : Int) (l : List Int) : Prop where
  gw : Gw h 1 b o len cap all
  eq : all.drop o = iv (x :: l)
  ln : len = l.length + 1
  ob : o ≤ N
  cp : cap = len ∨ cap + o = openCap

theorem Wk.op {h h' : PH} {N b o len cap : Nat} {all : List Value} {x : Int} {l : List Int} (w : Wk h N b o len cap all x l) (hop : Op h b 1 → Op h' b 1) : Wk h' N b o len cap all x l :=
  ⟨⟨w.gw.ln, w.gw.md.elim .inl fun ⟨a, b⟩ => .inr ⟨hop a, b⟩⟩, w.eq, w.ln, w.ob, w.cp⟩

/-- The symbols of a rule. -/
theorem loop14s {h0 : PH} {g : Gr} {v rv fv cv kv : Value} {b1 b2 c2 bx : Nat} {k19 : Kt} {x : Int} {ru : Rl} {qv iiv : Value} {N : Nat} {Q : Value → PH → Prop} (hn : 9223372036854775808 ≤ n) (hg : GIn g) (hgood : goodB g = true) (hru : ru ∈ g.rules) (hq : RdI h0 qv ru.right) (hN : N ≤ 40)
    (hx : isName g.names ru.left = true) (hl : ru.left = x) (D : List Bool → Prop) (hD : ∀ out s, D out → D (out.set s true))
    (hk : ∀ (h : PH) (bw o len cap : Nat) (all : List Value) (out : List Bool) (l : List Int), St h0 h [(bw, all), (b2, bv out), (b1, gcs g rv fv cv kv)] → Wk h N bw o len cap all x l → QOk g N out (x :: l) → D out → (∀ y ∈ ru.right, isName g.names y = true → marked out y) →
      Ret (k19 [.pointer (some ⟨b1, 0, none⟩), .slice (some ⟨b2, 0, none⟩) g.names.toNat c2, .slice (some ⟨bw, o, none⟩) len cap, rv, .int .i64 g.rules.length, iiv] h) Q) :
    ∀ (k j m : Nat) (h : PH) (bw o len cap : Nat) (all : List Value) (out : List Bool) (l : List Int), j + k = ru.right.length → k < m → St h0 h [(bw, all), (b2, bv out), (b1, gcs g rv fv cv kv)] → Wk h N bw o len cap all x l → QOk g N out (x :: l) → D out →
      (∀ (i : Nat) (y : Int), i < j → ru.right[i]? = some y → isName g.names y = true → marked out y) →
    Ret (lp m (F14_6 n cl k19) [.pointer (some ⟨b1, 0, none⟩), .slice (some ⟨b2, 0, none⟩) g.names.toNat c2, .slice (some ⟨bw, o, none⟩) len cap, rv, .int .i64 g.rules.length, iiv, qv, .int .i64 ru.right.length, .int .i64 j] h) Q := by
  intro k
  induction k with
  | zero =>
    intro j m h bw o len cap all out l hj hm st w q d hd
    obtain ⟨m, rfl⟩ : ∃ q, m = q + 1 := ⟨m - 1, by omega⟩
    rw [lp_succ]
    have c : ¬ ((j : Int) < ru.right.length) := by omega
    simp only [F14_6, ucons_cons, F14_5, xLt_i, c, decide_false, vb_some, bite_f]
    exact hk h bw o len cap all out l st w q d (allDone2 hd (by omega))
  | succ k ih' =>
    intro j m h bw o len cap all out l hj hm st w q d hd
    obtain ⟨m, rfl⟩ : ∃ q, m = q + 1 := ⟨m - 1, by omega⟩
    rw [lp_succ]
    obtain ⟨gl, gs, g8⟩ := goodB_rule hgood hru
    obtain ⟨w1, w2, w3, w4, w5, _⟩ := goodB_whole hgood
    have c : ((j : Int) < ru.right.length) := by omega
    have := st.ok
    simp only [F14_6, ucons_cons, F14_5, xLt_i, c, decide_true, vb_some, bite_t, jn_eq, F14_4]
    refine Ret.idx hq (by omega) c fun bq oq csq s hs sq hle hE => ?_
    have hs : ru.right[j]? = some s := by simpa using hs
    refine Ret.vb (xLdE (st.sees sq) hle hE (j := 0) rfl) ?_
    have lw : xLdA 7 (.pointer (some ⟨b1, 0, none⟩)) h = some (.agg ⟨gcs g rv fv cv kv⟩) := xLdA_at (st.row (.tail _ (.tail _ (.head _)))) rfl (Nat.le_refl _)
    have step : ∀ (h' : PH) (bw o len cap : Nat) (all : List Value) (out : List Bool) (l : List Int), St h0 h' [(bw, all), (b2, bv out), (b1, gcs g rv fv cv kv)] → Wk h' N bw o len cap all x l → QOk g N out (x :: l) → D out → (∀ (i : Nat) (y : Int), i < j + 1 → ru.right[i]? = some y → isName g.names y = true → marked out y) →
        Ret (F14_3 n cl (lp m (F14_6 n cl k19)) [.pointer (some ⟨b1, 0, none⟩), .slice (some ⟨b2, 0, none⟩) g.names.toNat c2, .slice (some ⟨bw, o, none⟩) len cap, rv, .int .i64 g.rules.length, iiv, qv, .int .i64 ru.right.length, .int .i64 j] h') Q := by
      intro h' bw o len cap all out l st' w' q' d' hd'
      simp only [F14_3, ucons_cons, F14_1, vN_eq, xAdd_i, vb_some, show (((1 : Nat) : Int)) = 1 from rfl, wrap1 (i := j) (by omega)]
      exact ih' (j + 1) m h' bw o len cap all out l (by omega) (by omega) st' w' q' d' hd'
    simp only [lw, vb_some, c29]
    cases hnm : isName g.names s with
    | false =>
      simp only [isB_t, gd_false, vb_some, xPick_f, ff_eq, bite_f]
      exact step h bw o len cap all out l st w q d (nextDone2 hd hs fun c => by rw [hnm] at c; cases c)
    | true =>
      have hsn := isName_iff.1 hnm
      have hlen := q.len
      have hlt : s.toNat < out.length := by omega
      have ho : out[s.toNat]? = some out[s.toNat] := List.getElem?_eq_getElem hlt
      have hs2 : Sees h b2 (bv out) := st.row (.tail _ (.head _))
      have ia : xIdxS 1 (.slice (some ⟨b2, 0, none⟩) g.names.toNat c2) (.int .i64 s) = some (.pointer (some ⟨b2, s.toNat, none⟩)) := by
        rw [xIdxS_at hsn.1 (by omega)]; simp
      have lo : xLd (.pointer (some ⟨b2, s.toNat, none⟩)) h = some (.bool out[s.toNat]) := xLd_at hs2 (by rw [List.getElem?_map, ho]; rfl)
      simp only [isB_t, gd_true, vb_some, ia, lo, xNot_b, xPick_t]
      cases hm' : out[s.toNat] with
      | true =>
        simp only [Bool.not_true, bite_f]
        exact step h bw o len cap all out l st w q d (nextDone2 hd hs fun _ => by unfold marked; rw [ho, hm'])
      | false =>
        simp only [Bool.not_false, bite_t, F14_2, ia, vb_some, tt_eq]
        refine Ret.sst1' st (i := 1) (o := s.toNat) rfl (by simpa using hlt) rfl fun h2 st2 ok2 => ?_
        refine Ret.sbs st2 bs25 fun h3 bs st3 ok3 => ?_
        have hbw : bw < h.n := (st.row (.head _)).lt
        have hbw2 : bw < h2.n := (st2.row (b := bw) (.head _)).lt
        have w3 : Wk h3 N bw o len cap all x l := w.op fun a => ok3 _ _ hbw2 (ok2 _ _ hbw a)
        have hqb := q.bound
        simp at hqb
        have hwl := w.ln
        rw [ai25]
        have hsz : (2 * (len + 1) + 512) * 8 ≤ 281474976710656 := by
          have h1 : 2 * (len + 1) + 512 ≤ 1000 := by clear hN; omega
          exact Nat.le_trans (Nat.mul_le_mul_right 8 h1) (by decide)
        have hone : oneCells [Value.int .i64 s] = true := rfl
        refine Ret.sapp st3 (i := 1) (n := 1) rfl w3.gw (by omega) (ptail_at (st3.mine (bs, [Value.int .i64 s]) (.head _)) rfl) (by omega) hone hsz fun h4 b' st4 op4 _ => ?_
        have hall : all.drop o ++ [.int .i64 s] = iv (x :: (l ++ [s])) := by rw [w.eq]; simp
        have hr : Reach g s := .step hru (q.sound _ hx (by rw [hl]; exact (q.mem x (.head _)).2)) (List.mem_of_getElem? hs) hnm
        have q' := q.mark hnm hr (by rw [ho, hm'])
        have hset : bv (out.set s.toNat true) = (bv out).set s.toNat (.bool true) := List.map_set
        refine step h4 b' 0 (len + 1) openCap (all.drop o ++ [Value.int .i64 s]) (out.set s.toNat true) (l ++ [s]) ?_ ⟨⟨?_, .inr ⟨op4, Nat.le_refl _, by decide, by rw [Nat.sub_self, Nat.zero_mul]⟩⟩, by rw [List.drop_zero]; exact hall, by simp [hwl], Nat.zero_le _, .inr rfl⟩ q' (hD _ _ d) ?_
        · have st5 : St h0 h4 [(b', all.drop o ++ [.int .i64 s]), (bs, [.int .i64 s]), (b2, (bv out).set s.toNat (.bool true)), (b1, gcs g rv fv cv kv)] := st4
          rw [hset]; exact st5.drop (.cons_cons _ (.cons _ (List.Sublist.refl _)))
        · show (all.drop o ++ [Value.int .i64 s]).length = _
          rw [hall]; simp [hwl]
        · exact nextDone2 (fun i y hi hy hny => marked_set (hd i y hi hy hny)) hs fun _ => marked_set_self hlt
end
end Go.Am
