import Derived.Test.YtdmfanikejcgjaaW7
set_option linter.unusedSimpArgs false
set_option linter.unusedVariables false
namespace Go.Am
open Go Go.RowKit Go.Proofs

section
variable {n : Nat} {cl ih : CL} {h : PH}
def DoneR (g : Gr) (x : Int) (i : Nat) (out : List Bool) : Prop := ∀ (k : Nat) (r : Rl), k < i → g.rules[k]? = some r → r.left = x → ∀ (y : Int), y ∈ r.right → isName g.names y = true → marked out y
theorem DoneR.set {g : Gr} {x : Int} {i : Nat} {out : List Bool} (d : DoneR g x i out) (s : Nat) : DoneR g x i (out.set s true) := by
  intro k r hk hr hl y hy hn
  have := marked_set (s := (s : Int)) (d k r hk hr hl y hy hn)
  simpa using this
/-- The row of names to be looked at, that may be empty. -/
def WkE (h : PH) (N b o len cap : Nat) (all : List Value) : List Int → Prop
  | [] => len = 0
  | x :: l => Wk h N b o len cap all x l
theorem loop14r {h0 : PH} {g : Gr} {v rv fv cv kv : Value} {b1 b2 c2 : Nat} {r6 : Kt} {x : Int} {N : Nat} {Q : Value → PH → Prop} (hn : 9223372036854775808 ≤ n) (r : RdG h0 v g rv fv cv kv) (hg : GIn g) (hgood : goodB g = true) (hN : N ≤ 40)
    (hk : ∀ (h : PH) (bw o len cap : Nat) (all : List Value) (out : List Bool) (l : List Int), St h0 h [(bw, all), (b2, bv out), (b1, gcs g rv fv cv kv)] → WkE h (N + 1) bw o len cap all l → QOk g (N + 1) out l →
      Ret (r6 [.pointer (some ⟨b1, 0, none⟩), .slice (some ⟨b2, 0, none⟩) g.names.toNat c2, .slice (some ⟨bw, o, none⟩) len cap] h) Q) :
    ∀ (k i m : Nat) (h : PH) (bw o len cap : Nat) (all : List Value) (out : List Bool) (l : List Int), i + k = g.rules.length → k < m → St h0 h [(bw, all), (b2, bv out), (b1, gcs g rv fv cv kv)] → Wk h N bw o len cap all x l → QOk g N out (x :: l) → DoneR g x i out →
    Ret (lp m (F14_12 n cl r6) [.pointer (some ⟨b1, 0, none⟩), .slice (some ⟨b2, 0, none⟩) g.names.toNat c2, .slice (some ⟨bw, o, none⟩) len cap, rv, .int .i64 g.rules.length, .int .i64 i] h) Q := by
  intro k
  obtain ⟨gw1, gw2, gw3, gw4, gw5, _⟩ := goodB_whole hgood
  induction k with
  | zero =>
    intro i m h bw o len cap all out l hi hm st w q d
    obtain ⟨m, rfl⟩ : ∃ q, m = q + 1 := ⟨m - 1, by omega⟩
    rw [lp_succ]
    have c : ¬ ((i : Int) < g.rules.length) := by omega
    have hwl := w.ln
    have hob := w.ob
    have hgl := w.gw.ln
    have hqb := q.bound
    have hll : l.length ≤ 40 := by simp at hqb; omega
    simp only [F14_12, ucons_cons, F14_11, xLt_i, c, decide_false, vb_some, bite_f, F14_10, vN_eq, show (((1 : Nat) : Int)) = 1 from rfl]
    have md : (cap = len) ∨ (Op h bw 1 ∧ cap + o = openCap) := by
      rcases w.gw.md with ⟨a, _⟩ | ⟨a, b, c, d⟩
      · exact .inl a
      · exact .inr ⟨a, by rw [Nat.mul_one] at d; omega⟩
    have hcut : 1 ≤ len ∧ len ≤ cap ∧ (cap < 4611686018427387904 ∨ 4611686018427387905 ≤ cap) := by
      rcases md with rfl | ⟨_, e⟩
      · omega
      · unfold openCap at e; omega
    rw [cut1 hcut.1 hcut.2.1 hcut.2.2]
    simp only [vb_some]
    refine hk h bw _ (len - 1) (cap - 1) all out l st ?_ (q.pop (allDone d (by omega)))
    cases l with
    | nil => show len - 1 = 0; simp at hwl; omega
    | cons y l =>
      simp at hwl
      have hne : cap ≠ 1 := by omega
      rw [if_neg hne]
      have hdrop : all.drop (o + 1) = iv (y :: l) := by
        rw [← List.drop_drop, w.eq]; rfl
      refine ⟨⟨by rw [hgl]; omega, ?_⟩, hdrop, by simp; omega, by omega, ?_⟩
      · rcases md with e | ⟨a, e⟩
        · left; simp only [List.length_cons] at hll; omega
        · right; unfold openCap at e ⊢; exact ⟨a, by omega, by omega, by omega⟩
      · rcases md with rfl | ⟨a, e⟩
        · left; rfl
        · right; omega
  | succ k ih' =>
    intro i m h bw o len cap all out l hi hm st w q d
    obtain ⟨m, rfl⟩ : ∃ q, m = q + 1 := ⟨m - 1, by omega⟩
    rw [lp_succ]
    have c : ((i : Int) < g.rules.length) := by omega
    simp only [F14_12, ucons_cons, F14_11, xLt_i, c, decide_true, vb_some, bite_t, jn_eq, F14_9]
    refine Ret.idx r.rules (by omega) c fun b o' cs ru hx s hle hE => ?_
    have hx : g.rules[i]? = some ru := by simpa using hx
    have hxm := List.mem_of_getElem? hx
    obtain ⟨qv, hE, hq⟩ := hE
    obtain ⟨gl, gs, g8⟩ := goodB_rule hgood hxm
    refine Ret.vb (xLdA_at (st.sees s) hE hle) ?_
    refine Ret.salloc' st z29 fun h2 b3 st2 ok2 => ?_
    have hbw : bw < h.n := (st.row (.head _)).lt
    have hbw2 : bw < h2.n := (st2.row (b := bw) (.tail _ (.head _))).lt
    refine Ret.sstA' st2 (i := 0) rfl rfl (Nat.le_refl _) (by simp only [oneCells, List.all_cons, List.all_nil, hq.one]; rfl) fun h3 st3 ok3 => ?_
    have w3 : Wk h3 N bw o len cap all x l := w.op fun a => ok3 _ _ hbw2 (ok2 _ _ hbw a)
    have := st3.ok
    have q0 : xLd (.pointer (some ⟨b3, 0, none⟩)) h3 = some (.int .i64 ru.left) := xLd_at (st3.row (.head _)) rfl
    have q1 : xLd (.pointer (some ⟨b3, 1, none⟩)) h3 = some qv := xLd_at (st3.row (.head _)) rfl
    have hwl := w.ln
    have hl0 : all[o]? = some (.int .i64 x) := by
      have := w.eq
      have h2 : (all.drop o)[0]? = some (.int .i64 x) := by rw [this]; rfl
      rw [List.getElem?_drop] at h2; exact h2
    have lx : xLd (.pointer (some ⟨bw, o, none⟩)) h3 = some (.int .i64 x) := xLd_at (st3.row (.tail _ (.head _))) hl0
    have ia : xIdxS 1 (.slice (some ⟨bw, o, none⟩) len cap) (.int .i64 ((0 : Nat) : Int)) = some (.pointer (some ⟨bw, o, none⟩)) := by
      rw [xIdxS_at (by omega) (by omega)]; simp
    have st3 := st3.drop (rows' := [(bw, all), (b2, bv out), (b1, gcs g rv fv cv kv)]) (.cons _ (List.Sublist.refl _))
    have step : ∀ (h' : PH) (bw o len cap : Nat) (all : List Value) (out : List Bool) (l : List Int), St h0 h' [(bw, all), (b2, bv out), (b1, gcs g rv fv cv kv)] → Wk h' N bw o len cap all x l → QOk g N out (x :: l) → DoneR g x i out → (ru.left = x → ∀ y ∈ ru.right, isName g.names y = true → marked out y) →
        Ret (F14_8 n cl (lp m (F14_12 n cl r6)) [.pointer (some ⟨b1, 0, none⟩), .slice (some ⟨b2, 0, none⟩) g.names.toNat c2, .slice (some ⟨bw, o, none⟩) len cap, rv, .int .i64 g.rules.length, .int .i64 i] h') Q := by
      intro h' bw o len cap all out l st' w' q' d' hd'
      simp only [F14_8, ucons_cons, F14_0, vN_eq, xAdd_i, vb_some, show (((1 : Nat) : Int)) = 1 from rfl, wrap1 (i := i) (by omega)]
      exact ih' (i + 1) m h' bw o len cap all out l (by omega) (by omega) st' w' q' (nextDone d' hx hd')
    simp only [xFld_p, Nat.zero_add, vb_some, vN_eq, ia, q0, lx, xNe_i]
    by_cases hl : ru.left = x
    · simp only [hl, decide_true, Bool.not_true, bite_f, F14_7, xFld_p, Nat.zero_add, vb_some, q1, RdS.len hq, vN_eq]
      exact loop14s (v := v) (bx := 0) hn hg hgood hxm (hq.mono fun _ _ s => s) hN gl hl (DoneR g x i) (fun out s d => d.set s) (fun h' bw o len cap all out l st' w' q' d' hd' => step h' bw o len cap all out l st' w' q' d' fun _ => hd')
        ru.right.length 0 n h3 bw o len cap all out l (by omega) (by omega) st3 w3 q d (by omega)
    · simp only [hl, decide_false, Bool.not_false, bite_t]
      exact step h3 bw o len cap all out l st3 w3 q d fun c => absurd c hl
theorem loop14 {h0 : PH} {g : Gr} {v rv fv cv kv : Value} {b1 b2 c2 : Nat} {Q : Value → PH → Prop} (hn : 9223372036854775808 ≤ n) (r : RdG h0 v g rv fv cv kv) (hg : GIn g) (hgood : goodB g = true)
    (hk : ∀ (h : PH) (out : List Bool) N, St h0 h [(b2, bv out), (b1, gcs g rv fv cv kv)] → QOk g N out [] → Q (.slice (some ⟨b2, 0, none⟩) g.names.toNat c2) h) :
    ∀ (k N m : Nat) (h : PH) (bw o len cap : Nat) (all : List Value) (out : List Bool) (l : List Int), N + k = 41 → k < m → St h0 h [(bw, all), (b2, bv out), (b1, gcs g rv fv cv kv)] → WkE h N bw o len cap all l → QOk g N out l →
    Ret (lp m (F14_15 n cl) [.pointer (some ⟨b1, 0, none⟩), .slice (some ⟨b2, 0, none⟩) g.names.toNat c2, .slice (some ⟨bw, o, none⟩) len cap] h) Q := by
  obtain ⟨gw1, gw2, gw3, gw4, gw5, _⟩ := goodB_whole hgood
  intro k
  induction k with
  | zero => intro N m h bw o len cap all out l hN hm st w q; have := q.bound; omega
  | succ k ih' =>
    intro N m h bw o len cap all out l hN hm st w q
    obtain ⟨m, rfl⟩ : ∃ q, m = q + 1 := ⟨m - 1, by omega⟩
    rw [lp_succ]
    have hqb := q.bound
    cases l with
    | nil =>
      have w : len = 0 := w
      subst w
      simp only [F14_15, ucons_cons, F14_14, xLenS_s, vb_some, vN_eq, xGt_i, show ¬ (((0 : Nat) : Int) < ((0 : Nat) : Int)) from by omega, decide_false, bite_f]
      exact Ret.of (hk h out N (st.drop (.cons _ (List.Sublist.refl _))) q)
    | cons x l =>
      have w : Wk h N bw o len cap all x l := w
      have hwl := w.ln
      have l3 : xLd (.pointer (some ⟨b1, 3, none⟩)) h = some rv := xLd_at (st.row (.tail _ (.tail _ (.head _)))) rfl
      simp only [F14_15, ucons_cons, F14_14, xLenS_s, vb_some, vN_eq, xGt_i, show (((0 : Nat) : Int) < (len : Int)) from by omega, decide_true, bite_t, F14_13, xFld_p, Nat.zero_add, l3, RdS.len r.rules]
      simp at hqb
      exact loop14r hn r hg hgood (by omega) (fun h' bw o len cap all out l st' w' q' => ih' (N + 1) m h' bw o len cap all out l (by omega) (by omega) st' w' q') g.rules.length 0 n h bw o len cap all out l (by omega) (by omega) st w q (fun k _ hk => by omega)
/-- Which names are come to. -/
structure ReachQ (g : Gr) (h h1 : PH) (v : Value) : Prop where
  bad : goodB g = false → v = nils
  good : goodB g = true → ∃ out b c, out.length = g.names.toNat ∧ (∀ s, isName g.names s = true → (marked out s ↔ Reach g s)) ∧ v = .slice (some ⟨b, 0, none⟩) g.names.toNat c ∧ h.n ≤ b ∧ Mine h1 b (bv out)
theorem count_rep : ∀ k : Nat, (List.replicate k false).count true = 0 := by intro k; simp [List.count_replicate]
theorem c14 [OkH h] {g : Gr} {v rv fv cv kv : Value} (hn : 9223372036854775808 ≤ n) (r : RdG h v g rv fv cv kv) (hg : GIn g) :
    Ret (F14 n (CLs n ih) v h.fzn) fun v h1 => Kp h.n h.fzn h1 ∧ ReachQ g h h1 v := by
  unfold F14
  rw [r.v]
  refine Ret.sbox (St.start _) (fun h1 b st => ?_)
  have := st.ok
  have lw : xLdA 7 (.pointer (some ⟨b, 0, none⟩)) h1 = some (.agg ⟨gcs g rv fv cv kv⟩) := xLdA_at (st.row (.head _)) rfl (Nat.le_refl _)
  have sees : ∀ b cs, Sees h b cs → Sees h1 b cs := fun b cs s => st.sees s
  have e := c27 (n := n) (ih := ih) (h := h1) hn (r.mono sees) hg
  rw [r.v] at e
  simp only [lw, vb_some, e, xNot_b]
  cases hgood : goodB g with
  | false => simp only [Bool.not_false, bite_t]; exact Ret.of ⟨st.kp, fun _ => rfl, fun h => by rw [hgood] at h; cases h⟩
  | true =>
    obtain ⟨w1, w2, w3, w4, w5, w6, w7⟩ := goodB_whole hgood
    have hsn := isName_iff.1 w7
    have l0 : xLd (.pointer (some ⟨b, 0, none⟩)) h1 = some (.int .i64 g.names) := xLd_at (st.row (.head _)) rfl
    simp only [Bool.not_true, bite_f, F14_16, xFld_p, Nat.zero_add, vb_some, l0]
    refine Ret.smk st zi34 (by omega) (by omega) (by omega) (by omega) fun h2 b2 st2 => ?_
    rw [zrows1] at st2
    have l2 : xLd (.pointer (some ⟨b, 2, none⟩)) h2 = some (.int .i64 g.start) := xLd_at (st2.row (.tail _ (.head _))) rfl
    simp only [xFld_p, Nat.zero_add, vb_some, l2]
    rw [xIdxS_at hsn.1 (by omega)]
    simp only [vb_some, tt_eq, show 0 + g.start.toNat * 1 = g.start.toNat from by omega]
    refine Ret.sst1 st2 (i := 0) (o := g.start.toNat) rfl (by simp; omega) rfl fun h3 st3 => ?_
    have l3 : xLd (.pointer (some ⟨b, 2, none⟩)) h3 = some (.int .i64 g.start) := xLd_at (st3.row (.tail _ (.head _))) rfl
    simp only [xFld_p, Nat.zero_add, vb_some, l3]
    refine Ret.sbs st3 bs25 fun h4 b4 st4 ok4 => ?_
    have sf : ∀ b cs, Sees h b cs → Sees h.fzn b cs := fun b cs s => s
    have st4' : St h.fzn h4 [(b4, [.int .i64 g.start]), (b2, bv ((List.replicate g.names.toNat false).set g.start.toNat true)), (b, gcs g rv fv cv kv)] := by
      have e : bv ((List.replicate g.names.toNat false).set g.start.toNat true) = (List.replicate g.names.toNat (.bool false)).set g.start.toNat (.bool true) := by
        rw [bv, List.map_set, List.map_replicate]
      rw [e]; exact st4
    have hlt : g.start.toNat < (List.replicate g.names.toNat false).length := by simp; omega
    have hback : ∀ x, isName g.names x = true → marked ((List.replicate g.names.toNat false).set g.start.toNat true) x → x = g.start := by
      intro x hx hm
      have := isName_iff.1 hx
      unfold marked at hm
      by_cases e : g.start.toNat = x.toNat
      · omega
      · rw [List.getElem?_set_ne e, List.getElem?_replicate] at hm
        split at hm <;> simp at hm
    refine loop14 (h0 := h.fzn) hn (r.mono sf) hg hgood (fun h5 out N st5 q5 => ⟨st5.kp, fun h => (by rw [hgood] at h; cases h), fun _ => ⟨out, b2, _, q5.len, fun s hs => ⟨q5.sound s hs, q5.all hgood hs⟩, rfl, st5.old _ (.head _), st5.mine _ (.head _)⟩⟩)
      41 0 n h4 b4 0 1 1 [.int .i64 g.start] _ [g.start] (by omega) (by omega) st4' ⟨⟨rfl, .inl ⟨rfl, by decide⟩⟩, rfl, rfl, Nat.le_refl _, .inl rfl⟩ ⟨by simp, ?_, ?_, ?_, marked_set_self hlt, ?_⟩
    · rw [count_set _ _ (by rw [List.getElem?_replicate, if_pos (by omega)]), count_rep]; rfl
    · intro s hs
      simp at hs; subst hs
      exact ⟨w7, marked_set_self hlt⟩
    · intro s hs hm; rw [hback s hs hm]; exact .start
    · intro s hs hm; left; rw [hback s hs hm]; simp
end
end Go.Am
