import Derived.Test.YtjomodhbneicmaaZW
import Derived.Test.YtjomodhbneicmaaZF
import Derived.Test.YtjomodhbneicmaaZX
set_option linter.unusedSimpArgs false
set_option linter.unusedVariables false
namespace Go.Am
open Go Go.RowKit Go.Proofs
theorem gd_some {b : Bool} {v : Value} : gd b (some v) = some (if b = true then v else undef) := by cases b <;> rfl
@[simp] theorem xExt_t {i : Nat} {vs : List Value} : xExt i (.tuple ⟨vs⟩) = vs[i]? := by simp [xExt]
@[simp] theorem xConvI_i {k k' : IntKind} {x : Int} : xConvI k (.int k' x) = some (.int k (k.wrap x)) := by simp only [xConvI, mkI_eq, wr_eq]
theorem RdS.at {α : Type} {E : α → List Value → Prop} {h : PH} {v : Value} {l : List α} {k : IntKind} {i : Int} (r : RdS E 1 h v l) (h1 : 0 ≤ i) (h2 : i < l.length) :
    ∃ p u x, l[i.toNat]? = some x ∧ xIdxS 1 v (.int k i) = some p ∧ xLd p h = some u ∧ E x [u] := by
  rcases r with ⟨rfl, _⟩ | ⟨b, o, c, cs, rfl, s, he⟩
  · simp at h2; omega
  · have hlt : i.toNat < l.length := by omega
    have hx := List.getElem?_eq_getElem hlt
    obtain ⟨q1, q2⟩ := he _ _ hx
    have hc := List.getElem?_eq_getElem (l := cs) (i := o + i.toNat * 1) (by omega)
    refine ⟨_, _, _, hx, xIdxS_at h1 h2, xLd_at s hc, ?_⟩
    rw [List.drop_eq_getElem_cons (by omega), List.take_succ_cons, List.take_zero] at q2
    exact q2
/-- The value is the automaton (N, A). -/
structure RdD (h : PH) (nv av : Value) (N : List (List Int)) (A : List Int) : Prop where
  next : RdS (fun l es => ∃ rv, es = [rv] ∧ RdI h rv l) 1 h nv N
  acc : RdI h av A
theorem RdD.mono {h h' : PH} {nv av : Value} {N : List (List Int)} {A : List Int} (hs : ∀ b cs, Sees h b cs → Sees h' b cs) (r : RdD h nv av N A) : RdD h' nv av N A :=
  ⟨RdS.mono hs (fun _ _ _ ⟨rv, e1, e2⟩ => ⟨rv, e1, e2.mono hs⟩) r.next, r.acc.mono hs⟩
theorem RdI.at' {h : PH} {v : Value} {l : List Int} {k : IntKind} {i : Int} (r : RdI h v l) (h1 : 0 ≤ i) (h2 : i < l.length) : ∃ p x, l[i.toNat]? = some x ∧ xIdxS 1 v (.int k i) = some p ∧ xLd p h = some (.int .i64 x) := by
  obtain ⟨p, u, x, e1, e2, e3, e4⟩ := RdS.at (k := k) r h1 h2
  have e4 : [u] = [.int .i64 x] := e4
  cases e4
  exact ⟨p, x, e1, e2, e3⟩
theorem RdD.row {h : PH} {nv av : Value} {N : List (List Int)} {A : List Int} {k : IntKind} {i : Int} (r : RdD h nv av N A) (h1 : 0 ≤ i) (h2 : i < N.length) : ∃ p rv l, N[i.toNat]? = some l ∧ xIdxS 1 nv (.int k i) = some p ∧ xLd p h = some rv ∧ RdI h rv l := by
  obtain ⟨p, u, x, e1, e2, e3, rv, e4, e5⟩ := RdS.at (k := k) r.next h1 h2
  cases e4
  exact ⟨p, _, x, e1, e2, e3, e5⟩
/-- Is it a state? -/
def isS (N : List (List Int)) (A : List Int) (s : Int) : Bool := decide (0 ≤ s ∧ s < N.length ∧ s < A.length)
/-- Where a byte leads. -/
def stepS (N : List (List Int)) (A : List Int) (s c : Int) : Int :=
  if isS N A s = true then match N[s.toNat]? with
    | some l => match l[c.toNat]? with
      | some t => if isS N A t = true then t else -1
      | none => -1
    | none => -1
  else -1
def accS (N : List (List Int)) (A : List Int) (s : Int) : Int := if isS N A s = true then max (-1) (A[s.toNat]?.getD 0) else -1
section
variable {n : Nat} {cl : CL} {h : PH} {nv av : Value} {N : List (List Int)} {A : List Int}
theorem c46 [OkH h] {s : Int} (r : RdD h nv av N A) : pcall (F46 n cl (.agg ⟨[nv, av]⟩) (.int .i64 s) h.fzn) = some (.bool (isS N A s)) := by
  refine pcall_of ?_ rfl
  unfold F46
  refine Ret.sbox (St.start _) (fun h b st => ?_)
  have l0 : xLd (.pointer (some ⟨b, 0, none⟩)) h = some nv := xLd_at (st.row (.head _)) rfl
  have l1 : xLd (.pointer (some ⟨b, 1, none⟩)) h = some av := xLd_at (st.row (.head _)) rfl
  have n0 := r.next.len
  have n1 := r.acc.len
  by_cases c1 : 0 ≤ s <;> by_cases c2 : s < N.length <;> by_cases c3 : s < A.length <;> simp [c1, c2, c3, l0, l1, n0, n1] <;> exact Ret.of (by simp [isS, c1, c2, c3])
theorem c47 [OkH h] {s c : Int} (r : RdD h nv av N A) (hc : 0 ≤ c ∧ c < 256) : pcall (F47 n cl (.agg ⟨[nv, av]⟩) (.int .i64 s) (.int .u8 c) h.fzn) = some (.int .i64 (stepS N A s c)) := by
  refine pcall_of ?_ rfl
  unfold F47
  refine Ret.sbox (St.start _) (fun h' b st => ?_)
  have := st.ok
  have r' : RdD h' nv av N A := r.mono fun b cs e => st.sees e.fzn
  have l0 : xLd (.pointer (some ⟨b, 0, none⟩)) h' = some nv := xLd_at (st.row (.head _)) rfl
  have la : xLdA 2 (.pointer (some ⟨b, 0, none⟩)) h' = some (.agg ⟨[nv, av]⟩) := xLdA_at (st.row (.head _)) rfl (Nat.le_refl _)
  have hw : IntKind.i64.wrap c = c := wrap_in (by omega) (by omega)
  cases e1 : isS N A s with
  | false => simp [la, c46 r', e1]; exact Ret.of (by simp [stepS, e1])
  | true =>
    have e2 := e1
    simp only [isS, decide_eq_true_eq] at e2
    obtain ⟨p, rv, l, q1, q2, q3, q4⟩ := r'.row (k := .i64) e2.1 e2.2.1
    have n1 := q4.len
    by_cases c1 : l.length ≤ c
    · have hn : l[c.toNat]? = none := List.getElem?_eq_none (by omega)
      simp [la, l0, c46 r', e1, q2, q3, n1, hw, c1]
      exact Ret.of (by simp [stepS, e1, q1, hn])
    · obtain ⟨p2, t, t1, t2, t3⟩ := RdI.at' (k := .u8) q4 hc.1 (by omega)
      cases e3 : isS N A t <;> simp [F47_0, la, l0, c46 r', e1, e3, q2, q3, n1, hw, c1, t2, t3] <;> exact Ret.of (by simp [stepS, e1, e3, q1, t1])
end
end Go.Am

set_option linter.unusedSimpArgs false
set_option linter.unusedVariables false
namespace Go.Am
open Go Go.RowKit Go.Proofs
theorem max48 {x : Int} : (if plainV.plainVs [(vM 0), (.int .i64 x)] then prun Try.prog (Builtin.max_ #[3, 3] 3 ⟨[(vM 0), (.int .i64 x)]⟩) else none) = some (.int .i64 (if (-1 : Int) < x then x else -1)) := by kernel_rfl
/-- The state's rule, and what is below nought as -1. -/
def acS (N : List (List Int)) (A : List Int) (s : Int) : Int := if isS N A s = true then (let x := A[s.toNat]?.getD 0; if (-1 : Int) < x then x else -1) else -1
section
variable {n : Nat} {cl : CL} {h : PH} {nv av : Value} {N : List (List Int)} {A : List Int}
theorem c48 [OkH h] {s : Int} (r : RdD h nv av N A) : pcall (F48 n cl (.agg ⟨[nv, av]⟩) (.int .i64 s) h.fzn) = some (.int .i64 (acS N A s)) := by
  refine pcall_of ?_ rfl
  unfold F48
  refine Ret.sbox (St.start _) (fun h' b st => ?_)
  have := st.ok
  have r' : RdD h' nv av N A := r.mono fun b cs e => st.sees e.fzn
  have l1 : xLd (.pointer (some ⟨b, 1, none⟩)) h' = some av := xLd_at (st.row (.head _)) rfl
  have la : xLdA 2 (.pointer (some ⟨b, 0, none⟩)) h' = some (.agg ⟨[nv, av]⟩) := xLdA_at (st.row (.head _)) rfl (Nat.le_refl _)
  cases e1 : isS N A s with
  | false => simp [la, c46 r', e1]; exact Ret.of (by simp [acS, e1])
  | true =>
    have e2 := e1
    simp only [isS, decide_eq_true_eq] at e2
    obtain ⟨p, x, q1, q2, q3⟩ := RdI.at' (k := .i64) r'.acc e2.1 e2.2.2
    simp only [la, c46 r', e1, F48_0, xFld_p, vb_some, bite_f, xNot_b, Bool.not_true, l1, Nat.zero_add, q2, q3, max48]
    exact Ret.of (by simp [acS, e1, q1])
theorem c49 [OkH h] {s c : Int} (r : RdD h nv av N A) (hc : 0 ≤ c ∧ c < 256) (hs : s < 9223372036854775808) : pcall (F49 n cl (.agg ⟨[nv, av]⟩) (.int .i64 s) (.int .u8 c) h.fzn) = some (.int .i64 (stepS N A s c)) := by
  refine pcall_of ?_ rfl
  unfold F49
  refine Ret.sbox (St.start _) (fun h' b st => ?_)
  have := st.ok
  have r' : RdD h' nv av N A := r.mono fun b cs e => st.sees e.fzn
  have l0 : xLd (.pointer (some ⟨b, 0, none⟩)) h' = some nv := xLd_at (st.row (.head _)) rfl
  have l1 : xLd (.pointer (some ⟨b, 1, none⟩)) h' = some av := xLd_at (st.row (.head _)) rfl
  have hw : IntKind.i64.wrap c = c := wrap_in (by omega) (by omega)
  have n0 := r'.next.len
  have n1 := r'.acc.len
  by_cases c1 : s < 0
  · simp [c1]
    exact Ret.of (by simp [stepS, isS, show ¬ 0 ≤ s by omega])
  by_cases c2 : (N.length : Int) ≤ s
  · simp [c1, c2, l0, n0]
    exact Ret.of (by simp [stepS, isS, show ¬ s < N.length by omega])
  by_cases c3 : (A.length : Int) ≤ s
  · simp [c1, c2, c3, l0, l1, n0, n1]
    exact Ret.of (by simp [stepS, isS, show ¬ s < A.length by omega])
  have e1 : isS N A s = true := by simp [isS]; omega
  obtain ⟨p, rv, l, q1, q2, q3, q4⟩ := r'.row (k := .i64) (i := s) (by omega) (by omega)
  have n2 := q4.len
  by_cases c4 : (l.length : Int) ≤ c
  · have hn : l[c.toNat]? = none := List.getElem?_eq_none (by omega)
    simp [c1, c2, c3, c4, l0, l1, n0, n1, q2, q3, n2, hw]
    exact Ret.of (by simp [stepS, e1, q1, hn])
  obtain ⟨p2, t, t1, t2, t3⟩ := RdI.at' (k := .u8) q4 hc.1 (by omega)
  by_cases c5 : t < 0
  · simp [F49_0, c1, c2, c3, c4, c5, l0, l1, n0, n1, q2, q3, n2, hw, t2, t3]
    exact Ret.of (by simp [stepS, e1, q1, t1, isS, show ¬ 0 ≤ t by omega])
  by_cases c6 : (N.length : Int) ≤ t
  · simp [F49_0, c1, c2, c3, c4, c5, c6, l0, l1, n0, n1, q2, q3, n2, hw, t2, t3]
    exact Ret.of (by simp [stepS, e1, q1, t1, isS, show ¬ t < N.length by omega])
  by_cases c7 : (A.length : Int) ≤ t
  · simp [F49_0, c1, c2, c3, c4, c5, c6, c7, l0, l1, n0, n1, q2, q3, n2, hw, t2, t3]
    exact Ret.of (by simp [stepS, e1, q1, t1, isS, show ¬ t < A.length by omega])
  have e3 : isS N A t = true := by simp [isS]; omega
  simp [F49_0, c1, c2, c3, c4, c5, c6, c7, l0, l1, n0, n1, q2, q3, n2, hw, t2, t3]
  exact Ret.of (by simp [stepS, e1, q1, t1, e3])
end
end Go.Am

set_option linter.unusedSimpArgs false
set_option linter.unusedVariables false
namespace Go.Am
open Go Go.RowKit Go.Proofs
abbrev RdB (h : PH) (v : Value) (l : List Int) : Prop := RdS (fun (x : Int) es => es = [.int .u8 x]) 1 h v l
theorem RdB.at' {h : PH} {v : Value} {l : List Int} {k : IntKind} {i : Int} (r : RdB h v l) (h1 : 0 ≤ i) (h2 : i < l.length) : ∃ p x, l[i.toNat]? = some x ∧ xIdxS 1 v (.int k i) = some p ∧ xLd p h = some (.int .u8 x) := by
  obtain ⟨p, u, x, e1, e2, e3, e4⟩ := RdS.at (k := k) r h1 h2
  have e4 : [u] = [.int .u8 x] := e4
  cases e4
  exact ⟨p, x, e1, e2, e3⟩
theorem RdB.mono {h h' : PH} {v : Value} {l : List Int} (hs : ∀ b cs, Sees h b cs → Sees h' b cs) (r : RdB h v l) : RdB h' v l := RdS.mono hs (fun _ _ _ e => e) r
def runS (N : List (List Int)) (A : List Int) : List Int → Int → Int
  | [], s => s
  | c :: cs, s => if stepS N A s c = -1 then -1 else runS N A cs (stepS N A s c)
def resS (N : List (List Int)) (A : List Int) (t : Int) : Value := if t = -1 then .tuple ⟨[.int .i64 (-1), .bool false]⟩ else .tuple ⟨[.int .i64 (acS N A t), .bool true]⟩
theorem stepS_is {N : List (List Int)} {A : List Int} {s c : Int} (h : stepS N A s c ≠ -1) : isS N A (stepS N A s c) = true := by
  unfold stepS at h ⊢
  split at h
  · rename_i e
    rw [if_pos e]
    split at h
    · rename_i l hl
      split at h
      · rename_i t ht
        split at h
        · rename_i e2; simp only [hl, ht, e2, if_true]
        · exact absurd rfl h
      · exact absurd rfl h
    · exact absurd rfl h
  · exact absurd rfl h
section
variable {n : Nat} {cl : CL} {h : PH} {nv av bv : Value} {N : List (List Int)} {A bs : List Int} {b : Nat}
theorem loop20 [OkH h] (r : RdD h nv av N A) (rb : RdB h bv bs) (hb : ∀ x ∈ bs, (0 : Int) ≤ x ∧ x < 256) (hl : bs.length < 1000000) (hp : Sees h b [nv, av]) : ∀ (m i : Nat) (s : Int), bs.length - i < m → i ≤ bs.length → isS N A s = true →
    Ret (lp m (F20_4 n cl) [.pointer (some ⟨b, 0, none⟩), .int .i64 s, bv, .int .i64 bs.length, .int .i64 i] h) (fun u _ => u = resS N A (runS N A (bs.drop i) s)) := by
  intro m
  induction m with
  | zero => intro i s h1; omega
  | succ m ih =>
    intro i s h1 h2 hs
    rw [lp_succ]
    generalize lp m (F20_4 n cl) = L at ih ⊢
    have la : xLdA 2 (.pointer (some ⟨b, 0, none⟩)) h = some (.agg ⟨[nv, av]⟩) := xLdA_at hp rfl (Nat.le_refl _)
    unfold F20_4 F20_3
    simp only [ucons_cons]
    by_cases c1 : i < bs.length
    · have c1' : (i : Int) < bs.length := by omega
      obtain ⟨p, x, q1, q2, q3⟩ := RdB.at' (k := .i64) (i := i) rb (by omega) c1'
      have hx := hb x (List.mem_of_getElem? q1)
      have hd : bs.drop i = x :: bs.drop (i + 1) := by
        rw [List.drop_eq_getElem_cons c1]
        congr 1
        have : bs[i]? = some x := by simpa using q1
        rw [List.getElem?_eq_getElem c1] at this
        cases this; rfl
      have hw : IntKind.i64.wrap ((i : Int) + 1) = ((i + 1 : Nat) : Int) := by rw [wrap_in (by omega) (by omega)]; omega
      rw [hd]
      by_cases c2 : stepS N A s x = -1
      · simp [F20_1, c1, q2, q3, la, c47 r hx, c2]
        exact Ret.of (by simp [runS, c2, resS])
      · have := ih (i + 1) (stepS N A s x) (by omega) (by omega) (stepS_is c2)
        simp [F20_1, F20_0, c1, q2, q3, la, c47 r hx, c2, hw]
        simpa [runS, c2] using this
    · have hd : bs.drop i = [] := List.drop_eq_nil_of_le (by omega)
      have c1' : ¬ (i : Int) < bs.length := by omega
      simp [F20_2, c1, la, c48 r, hd]
      refine Ret.of ?_
      have : s ≠ -1 := by rintro rfl; simp [isS] at hs
      simp [runS, resS, this]
theorem c20 [OkH h] (r : RdD h nv av N A) (rb : RdB h bv bs) (hb : ∀ x ∈ bs, (0 : Int) ≤ x ∧ x < 256) (hl : bs.length < n) (hn : n < 1000000) : pcall (F20 n cl (.agg ⟨[nv, av]⟩) bv h.fzn) = some (if isS N A 0 = true then resS N A (runS N A bs 0) else .tuple ⟨[.int .i64 (-1), .bool false]⟩) := by
  refine pcall_of ?_ (by split <;> (try unfold resS) <;> (try split) <;> rfl)
  unfold F20
  refine Ret.sbox (St.start _) (fun h' b st => ?_)
  have := st.ok
  have r' : RdD h' nv av N A := r.mono fun b cs e => st.sees e.fzn
  have rb' : RdB h' bv bs := rb.mono fun b cs e => st.sees e.fzn
  have hp := st.row (.head _)
  have la : xLdA 2 (.pointer (some ⟨b, 0, none⟩)) h' = some (.agg ⟨[nv, av]⟩) := xLdA_at hp rfl (Nat.le_refl _)
  have n0 := rb'.len
  cases e1 : isS N A 0 with
  | false => simp [la, c46 r', e1]; exact Ret.of rfl
  | true =>
    have := loop20 (n := n) (cl := cl) r' rb' hb (by omega) hp n 0 0 (by omega) (by omega) e1
    simp [la, c46 r', e1, F20_5, n0]
    simpa using this
theorem acS_neg {s x : Int} (hs : isS N A s = true) (hx : A[s.toNat]? = some x) : acS N A s = if x < 0 then -1 else x := by
  unfold acS
  rw [if_pos hs, hx]
  simp only [Option.getD_some]
  split <;> split <;> omega
theorem loop21 [OkH h] (r : RdD h nv av N A) (rb : RdB h bv bs) (hb : ∀ x ∈ bs, (0 : Int) ≤ x ∧ x < 256) (hl : bs.length < 1000000) (hN : N.length < 9223372036854775808) (hp : Sees h b [nv, av]) : ∀ (m i : Nat) (s : Int), bs.length - i < m → i ≤ bs.length → isS N A s = true →
    Ret (lp m (F21_5 n cl) [bv, .pointer (some ⟨b, 0, none⟩), .int .i64 s, .int .i64 i] h) (fun u _ => u = resS N A (runS N A (bs.drop i) s)) := by
  intro m
  induction m with
  | zero => intro i s h1; omega
  | succ m ih =>
    intro i s h1 h2 hs
    rw [lp_succ]
    generalize lp m (F21_5 n cl) = L at ih ⊢
    have la : xLdA 2 (.pointer (some ⟨b, 0, none⟩)) h = some (.agg ⟨[nv, av]⟩) := xLdA_at hp rfl (Nat.le_refl _)
    have l1 : xLd (.pointer (some ⟨b, 1, none⟩)) h = some av := xLd_at hp rfl
    have nb := rb.len
    have hs2 := hs
    simp only [isS, decide_eq_true_eq] at hs2
    unfold F21_5 F21_4
    simp only [ucons_cons]
    by_cases c1 : i < bs.length
    · have c1' : (i : Int) < bs.length := by omega
      obtain ⟨p, x, q1, q2, q3⟩ := RdB.at' (k := .i64) (i := i) rb (by omega) c1'
      have hx := hb x (List.mem_of_getElem? q1)
      have hd : bs.drop i = x :: bs.drop (i + 1) := by
        rw [List.drop_eq_getElem_cons c1]
        congr 1
        have : bs[i]? = some x := by simpa using q1
        rw [List.getElem?_eq_getElem c1] at this
        cases this; rfl
      have hw : IntKind.i64.wrap ((i : Int) + 1) = ((i + 1 : Nat) : Int) := by rw [wrap_in (by omega) (by omega)]; omega
      have c9 := c49 (n := n) (cl := cl) (s := s) r hx (by omega)
      rw [hd]
      by_cases c2 : stepS N A s x = -1
      · simp [F21_1, c1, nb, q2, q3, la, c9, c2]
        exact Ret.of (by simp [runS, c2, resS])
      · have := ih (i + 1) (stepS N A s x) (by omega) (by omega) (stepS_is c2)
        have c3 : ¬ stepS N A s x < 0 := by
          have := stepS_is c2
          simp only [isS, decide_eq_true_eq] at this; omega
        simp [F21_1, F21_0, c1, nb, q2, q3, la, c9, c3, hw]
        simpa [runS, c2] using this
    · have hd : bs.drop i = [] := List.drop_eq_nil_of_le (by omega)
      have c1' : ¬ (i : Int) < bs.length := by omega
      obtain ⟨p, x, q1, q2, q3⟩ := RdI.at' (k := .i64) r.acc hs2.1 hs2.2.2
      have ha := acS_neg hs q1
      have : s ≠ -1 := by omega
      by_cases c4 : x < 0
      · simp [F21_3, c1, nb, l1, q2, q3, c4, hd]
        exact Ret.of (by simp [runS, resS, this, ha, c4])
      · simp [F21_3, F21_2, c1, nb, l1, q2, q3, c4, hd]
        exact Ret.of (by simp [runS, resS, this, ha, c4])
theorem c21 [OkH h] (r : RdD h nv av N A) (rb : RdB h bv bs) (hb : ∀ x ∈ bs, (0 : Int) ≤ x ∧ x < 256) (hl : bs.length < n) (hn : n < 1000000) (hN : N.length < 9223372036854775808) : pcall (F21 n cl (.agg ⟨[nv, av]⟩) bv h.fzn) = some (if isS N A 0 = true then resS N A (runS N A bs 0) else .tuple ⟨[.int .i64 (-1), .bool false]⟩) := by
  refine pcall_of ?_ (by split <;> (try unfold resS) <;> (try split) <;> rfl)
  unfold F21
  refine Ret.sbox (St.start _) (fun h' b st => ?_)
  have := st.ok
  have r' : RdD h' nv av N A := r.mono fun b cs e => st.sees e.fzn
  have rb' : RdB h' bv bs := rb.mono fun b cs e => st.sees e.fzn
  have hp := st.row (.head _)
  have l0 : xLd (.pointer (some ⟨b, 0, none⟩)) h' = some nv := xLd_at hp rfl
  have l1 : xLd (.pointer (some ⟨b, 1, none⟩)) h' = some av := xLd_at hp rfl
  have n0 := r'.next.len
  have n1 := r'.acc.len
  by_cases c1 : N.length = 0
  · simp [l0, n0, c1, isS]; exact Ret.of rfl
  by_cases c2 : A.length = 0
  · simp [l0, l1, n0, n1, c1, c2, isS]; exact Ret.of rfl
  have e1 : isS N A 0 = true := by simp [isS]; omega
  have := loop21 (n := n) (cl := cl) r' rb' hb (by omega) hN hp n 0 0 (by omega) (by omega) e1
  simp [l0, l1, n0, n1, c1, c2, e1]
  simpa using this
end
end Go.Am

set_option linter.unusedVariables false
namespace Go.Am
open Go Go.RowKit Go.Proofs
theorem alive_run : isT (F13 3000 (CLV 3000 30) h00) = true := by kernel_rfl
/-- What is told of a function without arguments, once and for all. -/
noncomputable def toldCL (f : FuncId) (v : Value) : CL := fun g xs h => sw g f (u0 xs (some (v, h))) none
theorem toldCL_ok {P : Program} {f : FuncId} {v : Value} (he : enterable P f = true) (hv : plainV v = true) (hc : ACall P f [] [] (fun u _ => u = v)) : OkCL P (toldCL f v) := by
  intro g xs h v' h' hx
  unfold toldCL at hx
  rcases sw_ok hx with ⟨rfl, hx1⟩ | hx1
  · obtain ⟨rfl, hx2⟩ := u0_ok hx1
    cases hx2
    refine ⟨⟨he, ?_⟩, Inv.refl _⟩
    intro B w0 ρ rargs w hr hv2
    cases hv2
    refine (hc w.heap.size w (fun _ => none) [] w (rel0 w) .nil).mono ?_
    rintro e w' ⟨u, u', k, ρ', rfl, rfl, hl, hr', hvr⟩
    exact ⟨_, u', h.abs, ρ, rfl, ⟨rfl, rfl⟩, ρ.le_refl, hr.thaw hr', by rw [hvr.plain_eq hv]; exact VR.plain hv⟩
  · cases hx1
theorem alive_told : OkCL Try.prog (toldCL 13 (.bool true)) := by
  obtain ⟨k, hk⟩ := isT_ok alive_run
  have := S13 (CLV_ok _ _) hk
  refine toldCL_ok this.1.1 rfl ?_
  have hc := this.1.2
  have h0 : h00.abs = [] := rfl
  rw [h0] at hc
  exact hc.mono fun u k hq => hq.1
end Go.Am

set_option linter.unusedSimpArgs false
set_option linter.unusedVariables false
namespace Go.Am
open Go Go.RowKit Go.Proofs
theorem eqB {x : Bool} : abin Try.prog .eql 4 (Operand.tmp 47) (Operand.tmp 48) (.bool x) (.bool x) = some (.bool true) := by cases x <;> kernel_rfl
theorem told13 {h : PH} : pcall (toldCL 13 (.bool true) 13 [] h.fzn) = some (.bool true) := by
  refine pcall_of ⟨_, h.fzn, rfl, rfl⟩ rfl
section
variable {h : PH} {nv av bv : Value} {N : List (List Int)} {A bs : List Int}
theorem c5 [OkH h] (r : RdD h nv av N A) (rb : RdB h bv bs) (hb : ∀ x ∈ bs, (0 : Int) ≤ x ∧ x < 256) (hN : N.length < 9223372036854775808) : Ret (F5 3000 (toldCL 13 (.bool true)) (.agg ⟨[nv, av]⟩) bv h.fzn) (fun u _ => u = .bool true) := by
  unfold F5
  refine Ret.sbox (St.start _) (fun h' b st => ?_)
  have := st.ok
  have r' : RdD h' nv av N A := r.mono fun b cs e => st.sees e.fzn
  have rb' : RdB h' bv bs := rb.mono fun b cs e => st.sees e.fzn
  have hp := st.row (.head _)
  have la : xLdA 2 (.pointer (some ⟨b, 0, none⟩)) h' = some (.agg ⟨[nv, av]⟩) := xLdA_at hp rfl (Nat.le_refl _)
  have l0 : xLd (.pointer (some ⟨b, 0, none⟩)) h' = some nv := xLd_at hp rfl
  have l1 : xLd (.pointer (some ⟨b, 1, none⟩)) h' = some av := xLd_at hp rfl
  have n0 := r'.next.len
  have n1 := r'.acc.len
  have n2 := rb'.len
  by_cases c1 : (60 : Int) < bs.length
  · simp [told13, n2, c1]; exact Ret.of rfl
  by_cases c2 : (20 : Int) < N.length
  · simp [told13, n2, n0, l0, c1, c2]; exact Ret.of rfl
  by_cases c3 : (20 : Int) < A.length
  · simp [told13, n2, n0, n1, l0, l1, c1, c2, c3]; exact Ret.of rfl
  have a1 := c20 (n := 3000) (cl := toldCL 13 (.bool true)) r' rb' hb (by omega) (by omega)
  have a2 := c21 (n := 3000) (cl := toldCL 13 (.bool true)) r' rb' hb (by omega) (by omega) hN
  simp [told13, n2, n0, n1, l0, l1, c1, c2, c3, F5_0, la, a1, a2]
  by_cases e1 : isS N A 0 = true
  · by_cases e2 : runS N A bs 0 = -1
    · simp [e1, e2, resS, eqB]; exact Ret.of rfl
    · simp [e1, e2, resS, eqB]; exact Ret.of rfl
  · simp [e1, eqB]; exact Ret.of rfl
end
end Go.Am

set_option linter.unusedSimpArgs false
set_option linter.unusedVariables false
namespace Go.Am
open Go Go.RowKit Go.Proofs Go.ChangeShapes Go.WideShapes
theorem o28 : Opens Try.prog 28 (rI .i64).sl (GLen inR) := opens_slice Try.underlying28 (by kernel_rfl) (by decide) (opens_i64 Try.underlying3)
theorem o27 : Opens Try.prog 27 (rI .i64).sl.sl (GLen (GLen inR)) := opens_slice Try.underlying27 (by kernel_rfl) (by decide) o28
theorem o30 : Opens Try.prog 30 ((rI .i64).sl.sl.pr (rI .i64).sl) (fun x => GLen (GLen inR) x.1 ∧ GLen inR x.2) := opens_struct2 Try.underlying30 (by rfl) (by kernel_rfl) (by kernel_rfl) o27 o28
theorem o39 : Opens Try.prog 39 (rI .u8).sl (GLen fun z => (Lit.int .u8 z).wf = true) := opens_slice Try.underlying39 (by kernel_rfl) (by decide) (opens_int Try.underlying5)
theorem wf8 {z : Int} (h : (Lit.int .u8 z).wf = true) : 0 ≤ z ∧ z < 256 := by
  simp [Lit.wf, IntKind.min, IntKind.max, IntKind.signed, IntKind.bits] at h
  omega
set_option maxRecDepth 100000 in
theorem lawDR {H : Type} {enc : TypeId × Value → H} {w : World} {r : _root_.Go.Reach} {b0 : Nat} {v0 v1 : Value} {d0 d1 : DataW H} {p0 p1 : List MemPlace} (hv0 : Value.okWide Try.prog w r b0 30 v0) (hv1 : Value.okWide Try.prog w r b0 39 v1)
    (ht0 : DataW.Trod enc Try.prog w 0 (fun _ => true) true 30 v0 d0 p0) (ht1 : DataW.Trod enc Try.prog w 0 (fun _ => true) true 39 v1 d1 p1) :
    Calls Try.prog 5 #[v0, v1] w fun e w' => e = .returned (.bool true) ∧ Below w.heap.size w w' := by
  obtain ⟨⟨cs⟩, rfl, hsz⟩ := okWide_struct Try.underlying30 hv0
  obtain ⟨a1, l1, c1, rfl⟩ := okWide_slice Try.underlying39 hv1
  have C30 : Try.prog.cellsOf 30 = 2 := by kernel_rfl
  obtain ⟨f0, ht0⟩ := ht0
  obtain ⟨f1, ht1⟩ := ht1
  have hl0 : cs.length = 2 := hsz.trans C30
  obtain ⟨ρ, ext, es, es', x, x', m, le, hve, hve', hE, hE', hG, hG'⟩ := opens_pair o30 o39 (Im.start w) hl0 rfl ht0 ht1
  obtain ⟨e1, e2, rfl, ⟨nv, rfl, hn⟩, av, rfl, ha⟩ := hE
  obtain ⟨bv, rfl, hb⟩ := hE'
  obtain ⟨h, ok, hhn, hz, hr⟩ := PH.of_list ([.dead] ++ ext)
  have hw := vl_ph hr
  have rD : RdD h nv av x.1 x.2 := ⟨(hn.mono hw).toS, (ha.mono hw).toS⟩
  have rB : RdB h bv x' := (hb.mono hw).toS
  obtain ⟨u, k, hk, hu⟩ := c5 (h := h) rD rB (fun z hz => wf8 (hG'.2 z hz)) hG.1.1
  subst hu
  have hA := (S5 alive_told hk).1.2
  rw [PH.fzn_list hhn hr m.fro] at hA
  obtain ⟨u1, hu1, hv1'⟩ := VR.of1 hve'
  cases hu1
  exact calls_rel m.rel (.cons (.agg hve) (.cons hv1' .nil)) rfl hA
end Go.Am
