import Derived.Test.YtdmfanikejcgjaaW18
set_option linter.unusedSimpArgs false
set_option linter.unusedVariables false
namespace Go.Am
open Go Go.RowKit Go.Proofs

/-! ### the reference's Reachable: round by round -/
/-- What is marked is come to. -/
structure Snd (g : Gr) (out : List Bool) : Prop where
  len : out.length = g.names.toNat
  sound : ∀ s, isName g.names s = true → marked out s → Reach g s
  start : marked out g.start
def ruleDone (g : Gr) (out : List Bool) (r : Rl) : Prop := marked out r.left → ∀ y ∈ r.right, isName g.names y = true → marked out y
theorem count_le_set : ∀ (out : List Bool) (i : Nat), out[i]? = some false → (out.set i true).count true = out.count true + 1 := count_set
structure MidR (g : Gr) (out0 : List Bool) (i : Nat) (out : List Bool) (more : Bool) : Prop where
  snd : Snd g out
  same : more = false → ∀ (k : Nat) r, k < i → g.rules[k]? = some r → ruleDone g out r
  less : more = true → out0.count true < out.count true
  le : out0.count true ≤ out.count true
theorem Snd.mark {g : Gr} {out : List Bool} (q : Snd g out) {s : Int} (hs : isName g.names s = true) (hr : Reach g s) : Snd g (out.set s.toNat true) := by
  refine ⟨by simp [q.len], fun x hx hm => ?_, marked_set q.start⟩
  by_cases e : s.toNat = x.toNat
  · have : x = s := by have := (isName_iff.1 hx).1; have := (isName_iff.1 hs).1; omega
    rw [this]; exact hr
  · unfold marked at hm
    rw [List.getElem?_set_ne e] at hm
    exact q.sound x hx hm
theorem Snd.all {g : Gr} {out : List Bool} (q : Snd g out) (hg : goodB g = true) (hd : ∀ r ∈ g.rules, ruleDone g out r) {s : Int} (hs : isName g.names s = true) (hr : Reach g s) : marked out s := by
  have key : ∀ s, Reach g s → (isName g.names s = true → marked out s) := by
    intro s hr
    induction hr with
    | start => intro _; exact q.start
    | @step r s hr1 hr2 hr3 hr4 ih =>
      intro _
      exact hd r hr1 (ih (goodB_rule hg hr1).1) s hr3 hr4
  exact key s hr hs

section
variable {n : Nat} {cl ih : CL} {h : PH}
theorem loop15s {h0 : PH} {g : Gr} {rv fv cv kv : Value} {b1 b2 b3 c2 i : Nat} {r9 : Kt} {ru : Rl} {qv : Value} {out0 : List Bool} {Q : Value → PH → Prop} (hgood : goodB g = true) (hru : g.rules[i]? = some ru) (hq : RdI h0 qv ru.right) (hi : i < 9223372036854775807)
    (hk : ∀ h out more, St h0 h [(b2, bv out), (b1, gcs g rv fv cv kv)] → MidR g out0 (i + 1) out more → Ret (r9 [.pointer (some ⟨b1, 0, none⟩), .slice (some ⟨b2, 0, none⟩) g.names.toNat c2, .bool more, .int .i64 ((i + 1 : Nat) : Int)] h) Q) :
    ∀ (k j m : Nat) (out : List Bool) (more : Bool) (h : PH), j + k = ru.right.length → k < m → St h0 h [(b3, [.int .i64 ru.left, qv, .int .i64 ru.dyn]), (b2, bv out), (b1, gcs g rv fv cv kv)] → MidR g out0 i out more →
      (more = false → ∀ (l : Nat) (y : Int), l < j → ru.right[l]? = some y → isName g.names y = true → marked out y) →
    Ret (lp m (F15_6 n cl r9) [.pointer (some ⟨b1, 0, none⟩), .slice (some ⟨b2, 0, none⟩) g.names.toNat c2, .bool more, .int .i64 i, .pointer (some ⟨b3, 0, none⟩), .int .i64 j] h) Q := by
  have un1 : isB false undef = false := rfl
  have un2 : isB true undef = false := rfl
  have hrm := List.mem_of_getElem? hru
  obtain ⟨gl, gs, g8⟩ := goodB_rule hgood hrm
  have hnl := isName_iff.1 gl
  -- the end of the rule
  have fin : ∀ (out : List Bool) (more : Bool) (h : PH), St h0 h [(b3, [.int .i64 ru.left, qv, .int .i64 ru.dyn]), (b2, bv out), (b1, gcs g rv fv cv kv)] → MidR g out0 i out more → (more = false → ruleDone g out ru) →
      Ret (F15_4 n cl (.int .i64 i) r9 (.pointer (some ⟨b1, 0, none⟩)) (.slice (some ⟨b2, 0, none⟩) g.names.toNat c2) (.bool more) h) Q := by
    intro out more h st md hd
    simp only [F15_4, vN_eq, xAdd_i, vb_some, show (((1 : Nat) : Int)) = 1 from rfl, wrap1 (i := i) hi]
    refine hk h out more (st.drop (.cons _ (List.Sublist.refl _))) ⟨md.snd, fun hm k r hk hr => ?_, md.less, md.le⟩
    by_cases e : k = i
    · subst e; rw [hru] at hr; cases hr; exact hd hm
    · exact md.same hm k r (by omega) hr
  intro k
  induction k with
  | zero =>
    intro j m out more h hj hm st md hd
    obtain ⟨m, rfl⟩ : ∃ q, m = q + 1 := ⟨m - 1, by omega⟩
    rw [lp_succ]
    have q1 : xLd (.pointer (some ⟨b3, 1, none⟩)) h = some qv := xLd_at (st.row (.head _)) rfl
    have c : ¬ ((j : Int) < ru.right.length) := by omega
    simp only [F15_6, ucons_cons, F15_5, xFld_p, Nat.zero_add, vb_some, q1, RdS.len hq, xLt_i, c, decide_false, isB_t, gd_false, xPick_f, ff_eq, bite_f]
    exact fin out more h st md (fun hm _ => allDone2 (hd hm) (by omega))
  | succ k ih' =>
    intro j m out more h hj hm st md hd
    obtain ⟨m, rfl⟩ : ∃ q, m = q + 1 := ⟨m - 1, by omega⟩
    rw [lp_succ]
    have q0 : xLd (.pointer (some ⟨b3, 0, none⟩)) h = some (.int .i64 ru.left) := xLd_at (st.row (.head _)) rfl
    have q1 : xLd (.pointer (some ⟨b3, 1, none⟩)) h = some qv := xLd_at (st.row (.head _)) rfl
    have c : ((j : Int) < ru.right.length) := by omega
    have hlen := md.snd.len
    have hs2 : Sees h b2 (bv out) := st.row (.tail _ (.head _))
    have at2 : ∀ s : Int, 0 ≤ s ∧ s < g.names → xIdxS 1 (.slice (some ⟨b2, 0, none⟩) g.names.toNat c2) (.int .i64 s) = some (.pointer (some ⟨b2, s.toNat, none⟩)) ∧ ∃ x, out[s.toNat]? = some x ∧ xLd (.pointer (some ⟨b2, s.toNat, none⟩)) h = some (.bool x) := by
      intro s hs
      have ho : out[s.toNat]? = some (out[s.toNat]'(by omega)) := List.getElem?_eq_getElem (by omega)
      exact ⟨by rw [xIdxS_at hs.1 (by omega)]; simp, _, ho, xLd_at hs2 (by rw [List.getElem?_map, ho]; rfl)⟩
    obtain ⟨ial, xl, hxl, lol⟩ := at2 _ hnl
    simp only [F15_6, ucons_cons, F15_5, xFld_p, Nat.zero_add, vb_some, q1, RdS.len hq, xLt_i, c, decide_true, isB_t, gd_true, q0, ial, lol, xPick_t]
    cases xl with
    | false =>
      simp only [bite_f]
      exact fin out more h st md (fun _ hm => by unfold marked at hm; rw [hxl] at hm; cases hm)
    | true =>
      have next : ∀ (out : List Bool) (more : Bool) (h : PH), St h0 h [(b3, [.int .i64 ru.left, qv, .int .i64 ru.dyn]), (b2, bv out), (b1, gcs g rv fv cv kv)] → MidR g out0 i out more → (more = false → ∀ (l : Nat) (y : Int), l < j + 1 → ru.right[l]? = some y → isName g.names y = true → marked out y) →
          Ret (F15_2 n cl (lp m (F15_6 n cl r9)) [.pointer (some ⟨b1, 0, none⟩), .slice (some ⟨b2, 0, none⟩) g.names.toNat c2, .bool more, .int .i64 i, .pointer (some ⟨b3, 0, none⟩), .int .i64 j] h) Q := by
        intro out more h st md hd
        simp only [F15_2, ucons_cons, F15_0, vN_eq, xAdd_i, vb_some, show (((1 : Nat) : Int)) = 1 from rfl, wrap1 (i := j) (by omega)]
        exact ih' (j + 1) m out more h (by omega) (by omega) st md hd
      simp only [bite_t, jn_eq, F15_3, xFld_p, Nat.zero_add, vb_some, q1]
      refine Ret.idx hq (by omega) c fun b o cs s hsx sq hle hE => ?_
      have hsx : ru.right[j]? = some s := by simpa using hsx
      have ls : xLd (.pointer (some ⟨b, o, none⟩)) h = some (.int .i64 s) := xLdE (st.sees sq) hle hE (j := 0) rfl
      simp only [ls, vb_some, vN_eq, xGe_i, show (((0 : Nat) : Int)) = 0 from rfl]
      rcases sym_neg (gs s (List.mem_of_getElem? hsx)) with ⟨c1, c2'⟩ | ⟨c1, c2'⟩
      · have c1' : ¬ 0 ≤ s := by omega
        simp only [c1', decide_false, isB_t, gd_false, vb_some, xPick_f, ff_eq, bite_f]
        exact next out more h st md (fun hm => nextDone2 (hd hm) hsx fun c => by rw [c2'] at c; cases c)
      · have hnm := isName_iff.1 c2'
        have c1' : 0 ≤ s := by omega
        obtain ⟨ia, xs, hxs, lo⟩ := at2 _ hnm
        simp only [c1', decide_true, isB_t, gd_true, vb_some, xFld_p, Nat.zero_add, q1]
        refine Ret.idx hq (by omega) c fun b4 o4 cs4 s4 hs4 sq4 hle4 hE4 => ?_
        have e4 : s4 = s := by
          have hs4 : ru.right[j]? = some s4 := by simpa using hs4
          rw [hsx] at hs4; exact (Option.some.inj hs4).symm
        have ls4 : xLd (.pointer (some ⟨b4, o4, none⟩)) h = some (.int .i64 s4) := xLdE (st.sees sq4) hle4 hE4 (j := 0) rfl
        rw [e4] at ls4
        simp only [ls4, vb_some, ia, lo, xNot_b, xPick_t]
        cases xs with
        | true =>
          simp only [Bool.not_true, bite_f]
          exact next out more h st md (fun hm => nextDone2 (hd hm) hsx fun _ => hxs)
        | false =>
          simp only [Bool.not_false, bite_t, F15_1, xFld_p, Nat.zero_add, vb_some, q1]
          refine Ret.idx hq (by omega) c fun b5 o5 cs5 s5 hs5 sq5 hle5 hE5 => ?_
          have e5 : s5 = s := by
            have hs5 : ru.right[j]? = some s5 := by simpa using hs5
            rw [hsx] at hs5; exact (Option.some.inj hs5).symm
          have ls5 : xLd (.pointer (some ⟨b5, o5, none⟩)) h = some (.int .i64 s5) := xLdE (st.sees sq5) hle5 hE5 (j := 0) rfl
          rw [e5] at ls5
          simp only [ls5, vb_some, ia, tt_eq]
          refine Ret.sst1 st (i := 1) (o := s.toNat) rfl (by simp; omega) rfl fun h2 st2 => ?_
          have hset : bv (out.set s.toNat true) = (bv out).set s.toNat (.bool true) := List.map_set
          have st2' : St h0 h2 [(b3, [.int .i64 ru.left, qv, .int .i64 ru.dyn]), (b2, bv (out.set s.toNat true)), (b1, gcs g rv fv cv kv)] := by rw [hset]; exact st2
          have hr : Reach g s := .step hrm (md.snd.sound _ gl hxl) (List.mem_of_getElem? hsx) c2'
          have hcnt := count_set out s.toNat hxs
          exact next (out.set s.toNat true) true h2 st2' ⟨md.snd.mark c2' hr, fun h => (by cases h), fun _ => by have := md.le; omega, by have := md.le; omega⟩ (fun h => by cases h)
theorem loop15r {h0 : PH} {g : Gr} {v rv fv cv kv : Value} {b1 b2 c2 : Nat} {r6 : Kt} {out0 : List Bool} {Q : Value → PH → Prop} (hn : 9223372036854775808 ≤ n) (r : RdG h0 v g rv fv cv kv) (hg : GIn g) (hgood : goodB g = true)
    (hk : ∀ h out more, St h0 h [(b2, bv out), (b1, gcs g rv fv cv kv)] → Snd g out → (more = false → ∀ r ∈ g.rules, ruleDone g out r) → (more = true → out0.count true < out.count true) → Ret (r6 [.pointer (some ⟨b1, 0, none⟩), .slice (some ⟨b2, 0, none⟩) g.names.toNat c2, .bool more] h) Q) :
    ∀ (k i m : Nat) (out : List Bool) (more : Bool) (h : PH), i + k = g.rules.length → k < m → St h0 h [(b2, bv out), (b1, gcs g rv fv cv kv)] → MidR g out0 i out more →
    Ret (lp m (F15_9 n cl r6) [.pointer (some ⟨b1, 0, none⟩), .slice (some ⟨b2, 0, none⟩) g.names.toNat c2, .bool more, .int .i64 i] h) Q := by
  intro k
  induction k with
  | zero =>
    intro i m out more h hi hm st md
    obtain ⟨m, rfl⟩ : ∃ q, m = q + 1 := ⟨m - 1, by omega⟩
    rw [lp_succ]
    have l3 : xLd (.pointer (some ⟨b1, 3, none⟩)) h = some rv := xLd_at (st.row (.tail _ (.head _))) rfl
    have c : ¬ ((i : Int) < g.rules.length) := by omega
    simp only [F15_9, ucons_cons, F15_8, xFld_p, Nat.zero_add, vb_some, l3, RdS.len r.rules, xLt_i, c, decide_false, bite_f]
    refine hk h out more st md.snd (fun hm r hr => ?_) md.less
    obtain ⟨k, hk⟩ := List.getElem?_of_mem hr
    have := (List.getElem?_eq_some_iff.1 hk).1
    exact md.same hm k r (by omega) hk
  | succ k ih' =>
    intro i m out more h hi hm st md
    obtain ⟨m, rfl⟩ : ∃ q, m = q + 1 := ⟨m - 1, by omega⟩
    rw [lp_succ]
    have hrl := hg.rlen
    have l3 : xLd (.pointer (some ⟨b1, 3, none⟩)) h = some rv := xLd_at (st.row (.tail _ (.head _))) rfl
    have c : ((i : Int) < g.rules.length) := by omega
    simp only [F15_9, ucons_cons, F15_8, xFld_p, Nat.zero_add, vb_some, l3, RdS.len r.rules, xLt_i, c, decide_true, bite_t, F15_7]
    refine Ret.idx r.rules (by omega) c fun b o cs x hx s hle hE => ?_
    have hx : g.rules[i]? = some x := by simpa using hx
    have hxm := List.mem_of_getElem? hx
    obtain ⟨qv, hE, hq⟩ := hE
    refine Ret.vb (xLdA_at (st.sees s) hE hle) ?_
    refine Ret.salloc st z29 fun h2 b3 st2 => ?_
    refine Ret.sstA st2 (i := 0) rfl rfl (Nat.le_refl _) (by simp only [oneCells, List.all_cons, List.all_nil, hq.one]; rfl) fun h3 st3 => ?_
    have st3 : St h0 h3 [(b3, [.int .i64 x.left, qv, .int .i64 x.dyn]), (b2, bv out), (b1, gcs g rv fv cv kv)] := st3
    have g8 := (goodB_rule hgood hxm).2.2
    simp only [vN_eq]
    exact loop15s (h0 := h0) (out0 := out0) hgood hx hq (by omega) (fun h' out' more' st' md' => ih' (i + 1) m out' more' h' (by omega) (by omega) st' md') x.right.length 0 n out more h3 (by omega) (by omega) st3 md (fun _ l y hl => by omega)
theorem loop15 {h0 : PH} {g : Gr} {v rv fv cv kv : Value} {b1 b2 c2 : Nat} {Q : Value → PH → Prop} (hn : 9223372036854775808 ≤ n) (r : RdG h0 v g rv fv cv kv) (hg : GIn g) (hgood : goodB g = true)
    (hk : ∀ h out, St h0 h [(b2, bv out), (b1, gcs g rv fv cv kv)] → Snd g out → (∀ r ∈ g.rules, ruleDone g out r) → Q (.slice (some ⟨b2, 0, none⟩) g.names.toNat c2) h) :
    ∀ (k m : Nat) (out : List Bool) (h : PH), g.names.toNat ≤ out.count true + k → k + 1 < m → St h0 h [(b2, bv out), (b1, gcs g rv fv cv kv)] → Snd g out →
    Ret (lp m (F15_10 n cl) [.pointer (some ⟨b1, 0, none⟩), .slice (some ⟨b2, 0, none⟩) g.names.toNat c2, .bool true] h) Q := by
  intro k
  induction k with
  | zero =>
    intro m out h hc hm st sn
    obtain ⟨m, rfl⟩ : ∃ q, m = q + 2 := ⟨m - 2, by omega⟩
    rw [lp_succ]
    have hrl := hg.rlen
    simp only [F15_10, ucons_cons, bite_t, ff_eq, vN_eq]
    refine loop15r (h0 := h0) (out0 := out) hn r hg hgood (fun h' out' more' st' sn' hd hl => ?_) g.rules.length 0 n out false h (by omega) (by omega) st ⟨sn, fun _ k r hk => by omega, fun h => (by cases h), Nat.le_refl _⟩
    have hb : out'.count true ≤ g.names.toNat := by rw [← sn'.len]; exact List.count_le_length
    cases more' with
    | true => have := hl rfl; omega
    | false =>
      rw [lp_succ]
      simp only [F15_10, ucons_cons, bite_f]
      exact Ret.of (hk h' out' st' sn' (hd rfl))
  | succ k ih' =>
    intro m out h hc hm st sn
    obtain ⟨m, rfl⟩ : ∃ q, m = q + 2 := ⟨m - 2, by omega⟩
    rw [lp_succ]
    have hrl := hg.rlen
    simp only [F15_10, ucons_cons, bite_t, ff_eq, vN_eq]
    refine loop15r (h0 := h0) (out0 := out) hn r hg hgood (fun h' out' more' st' sn' hd hl => ?_) g.rules.length 0 n out false h (by omega) (by omega) st ⟨sn, fun _ k r hk => by omega, fun h => (by cases h), Nat.le_refl _⟩
    cases more' with
    | true => exact ih' (m + 1) out' h' (by have := hl rfl; omega) (by omega) st' sn'
    | false =>
      rw [lp_succ]
      simp only [F15_10, ucons_cons, bite_f]
      exact Ret.of (hk h' out' st' sn' (hd rfl))
end
end Go.Am
