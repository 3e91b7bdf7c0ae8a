import Derived.Test.YtdmfanikejcgjaaW2
import Derived.Test.YtdmfanikejcgjaaY1
set_option linter.unusedSimpArgs false
set_option linter.unusedVariables false
namespace Go.Am
open Go Go.RowKit Go.Proofs

def isName (nm s : Int) : Bool := decide (0 ≤ s ∧ s < nm)
def isKind (kn s : Int) : Bool := decide (s < 0 ∧ -1 - s < kn)
def isSym (nm kn s : Int) : Bool := isKind kn s || isName nm s
def badClass (c : Int) : Bool := decide (c < 0 ∨ 100 < c)

theorem gd_some {b : Bool} {v : Value} : gd b (some v) = some (if b = true then v else undef) := by cases b <;> rfl
@[simp] theorem xExt_t {i : Nat} {vs : List Value} : xExt i (.tuple ⟨vs⟩) = vs[i]? := by simp [xExt]

section
variable {n : Nat} {cl ih : CL} {h : PH}
theorem c29 [OkH h] {nm s : Int} {cs : List Value} : pcall (F29 n cl (.agg ⟨.int .i64 nm :: cs⟩) (.int .i64 s) h.fzn) = some (.bool (isName nm s)) := by
  refine pcall_of ?_ rfl
  unfold F29
  refine Ret.sbox (St.start _) (fun h b st => ?_)
  have l0 := xLd_at (st.row (.head _)) (o := 0) rfl
  by_cases c : 0 ≤ s <;> simp [c, l0] <;> exact Ret.of (by simp [isName, c])
theorem c51 [OkH h] {nm kn s : Int} {cs : List Value} (hs : inR s) : pcall (F51 n cl (.agg ⟨.int .i64 nm :: .int .i64 kn :: cs⟩) (.int .i64 s) h.fzn) = some (.tuple ⟨[.int .i64 (-1 - s), .bool (isKind kn s)]⟩) := by
  have hw : IntKind.i64.wrap (-1 - s) = -1 - s := wrap_in (by have := hs.2; omega) (by have := hs.1; omega)
  refine pcall_of ?_ rfl
  unfold F51
  refine Ret.sbox (St.start _) (fun h b st => ?_)
  have l0 := xLd_at (st.row (.head _)) (o := 1) rfl
  by_cases c : s < 0 <;> simp [c, l0, hw] <;> exact Ret.of (by simp [isKind, c])

/-- The cells of a grammar. -/
abbrev gcs (g : Gr) (rv fv cv kv : Value) : List Value := [.int .i64 g.names, .int .i64 g.kinds, .int .i64 g.start, rv, fv, cv, kv]
theorem c46 [OkH h] {g : Gr} {rv fv cv kv : Value} {s : Int} (hs : inR s) : pcall (F46 n cl (.agg ⟨gcs g rv fv cv kv⟩) (.int .i64 s) h.fzn) = some (.bool (isSym g.names g.kinds s)) := by
  refine pcall_of ?_ rfl
  unfold F46
  refine Ret.sbox (St.start _) (fun h b st => ?_)
  have := st.ok
  have l0 : xLdA 7 (.pointer (some ⟨b, 0, none⟩)) h = some (.agg ⟨gcs g rv fv cv kv⟩) := xLdA_at (st.row (.head _)) rfl (Nat.le_refl _)
  cases c : isKind g.kinds s <;> simp [l0, c51 hs, c29, c] <;> exact Ret.of (by simp [isSym, c])

theorem plain_any {l : List Int} {p : Int → Bool} : (match l.findIdx? p with | some i => (i : Int) | none => -1) ≥ 0 ↔ l.any p = true := by
  cases hq : l.findIdx? p with
  | none =>
    rw [List.findIdx?_eq_none_iff] at hq
    simp
    intro x hx; simpa using hq x hx
  | some i =>
    obtain ⟨h1, h2, _⟩ := List.findIdx?_eq_some_iff_getElem.1 hq
    simp
    exact ⟨l[i], List.getElem_mem h1, h2⟩
/-- The first place, if there is one. -/
def idxF {α : Type} (p : α → Bool) (l : List α) : Int := match l.findIdx? p with | some i => (i : Int) | none => -1
theorem idxF_any {α : Type} {p : α → Bool} {l : List α} : (0 ≤ idxF p l) ↔ l.any p = true := by
  unfold idxF
  cases hq : l.findIdx? p with
  | none =>
    rw [List.findIdx?_eq_none_iff] at hq
    simp only [List.any_eq_true]
    constructor
    · intro h; exact absurd h (by decide)
    · rintro ⟨x, hx, hp⟩; rw [hq x hx] at hp; cases hp
  | some i =>
    obtain ⟨h1, h2, _⟩ := List.findIdx?_eq_some_iff_getElem.1 hq
    simp only [List.any_eq_true]
    exact ⟨fun _ => ⟨l[i], List.getElem_mem h1, h2⟩, fun _ => by omega⟩
theorem findIdx_none {α : Type} {p : α → Bool} {l : List α} {i : Nat} (hi : l.length ≤ i) (h : ∀ k x, k < i → l[k]? = some x → p x = false) : idxF p l = -1 := by
  have : l.findIdx? p = none := by
    rw [List.findIdx?_eq_none_iff]
    intro x hx
    obtain ⟨k, hk⟩ := List.getElem?_of_mem hx
    have := (List.getElem?_eq_some_iff.1 hk).1
    simpa using h k x (by omega) hk
  unfold idxF; rw [this]
theorem findIdx_some {α : Type} {p : α → Bool} {l : List α} {i : Nat} {x : α} (hx : l[i]? = some x) (hp : p x = true) (h : ∀ k x, k < i → l[k]? = some x → p x = false) : idxF p l = i := by
  have : l.findIdx? p = some i := by
    have hlt := (List.getElem?_eq_some_iff.1 hx).1
    rw [List.findIdx?_eq_some_iff_getElem]
    refine ⟨hlt, ?_, fun j hj => ?_⟩
    · have := (List.getElem?_eq_some_iff.1 hx).2; rw [this]; exact hp
    · have := h j l[j] hj (List.getElem?_eq_getElem _); simp [this]
  unfold idxF; rw [this]
theorem nextNo {α : Type} {p : α → Bool} {l : List α} {i : Nat} {x : α} (h : ∀ k x, k < i → l[k]? = some x → p x = false) (hx : l[i]? = some x) (hp : p x = false) : ∀ k x, k < i + 1 → l[k]? = some x → p x = false := by
  intro k y hk hy
  by_cases hki : k = i
  · subst hki; rw [hx] at hy; cases hy; exact hp
  · exact h k y (by omega) hy
theorem wrap1 {i : Nat} (h : i < 9223372036854775807) : IntKind.i64.wrap ((i : Int) + 1) = ((i + 1 : Nat) : Int) := by rw [wrap_in (by omega) (by omega)]; omega

/-- What a function that is handed over answers. -/
def Asks {α : Type} (cl : CL) (f : Value) (h0 : PH) (enc : α → Value) (p : α → Bool) (l : List α) : Prop := ∀ x ∈ l, ∀ h, St h0 h [] → Ret (xCall cl f [enc x] h) fun v h' => v = .bool (p x) ∧ Kp h.n h h'

theorem St.on {h0 h h' : PH} {rows : List (Nat × List Value)} (s : St h0 h rows) (k : Kp h.n h h') : St h0 h' rows := by
  have hlt : ∀ p ∈ rows, p.1 < h.n := fun p hp => (s.mine p hp).sees.lt
  have hle := s.kp.le
  exact ⟨⟨k.ok, Nat.le_trans s.kp.le k.le, k.fz.trans s.kp.fz, fun c hc => (k.raw c (by omega)).trans (s.kp.raw c hc), fun c s' hc o => k.op c s' (by have := s.kp.le; omega) (s.kp.op c s' hc o)⟩, fun p hp => (s.mine p hp).of_raw (k.raw _ (hlt p hp)) k.fz, s.old, s.nd⟩

theorem loop50 {f v : Value} {l : List Int} {p : Int → Bool} {h0 : PH} (r : RdI h0 v l) (hl : l.length < 9223372036854775808) (ha : Asks cl f h0 (.int .i64) p l) : ∀ (k i m : Nat) (h : PH), i + k = l.length → k < m → St h0 h [] → (∀ j x, j < i → l[j]? = some x → p x = false) →
    Ret (lp m (F50_3 n cl) [v, f, .int .i64 l.length, .int .i64 i] h) fun u _ => u = .int .i64 (idxF p l) := by
  intro k
  induction k with
  | zero =>
    intro i m h hi hm st hno
    obtain ⟨m, rfl⟩ : ∃ q, m = q + 1 := ⟨m - 1, by omega⟩
    rw [lp_succ]
    have c : ¬ ((i : Int) < l.length) := by omega
    simp [F50_3, F50_2, c]
    exact Ret.of (by rw [findIdx_none (by omega) hno])
  | succ k ih =>
    intro i m h hi hm st hno
    obtain ⟨m, rfl⟩ : ∃ q, m = q + 1 := ⟨m - 1, by omega⟩
    rw [lp_succ]
    have c : ((i : Int) < l.length) := by omega
    simp only [F50_3, ucons_cons, F50_2, xLt_i, c, decide_true, vb_some, bite_t, F50_1]
    refine Ret.idx r (by omega) c fun b o cs x hx s hle hE => ?_
    have hx : l[i]? = some x := by simpa using hx
    refine Ret.vb (xLdE (st.sees s) hle hE (j := 0) rfl) ?_
    refine Ret.hb (ha x (List.mem_of_getElem? hx) h st) ?_
    rintro _ h' ⟨rfl, kp⟩
    cases hp : p x with
    | true =>
      simp only [bite_t]
      exact Ret.of (by rw [findIdx_some hx hp hno])
    | false =>
      simp only [bite_f, F50_0, vN_eq, xAdd_i, vb_some]
      rw [show ((1 : Nat) : Int) = 1 from rfl, wrap1 (by omega)]
      exact ih (i + 1) m h' (by omega) (by omega) (st.on kp) (nextNo hno hx hp)

theorem c44 [OkH h] {f v : Value} {l : List Int} {p : Int → Bool} (hn : 9223372036854775808 ≤ n) (r : RdI h v l) (hl : l.length < 9223372036854775808) (ha : ∀ h1, OkH h1 → (∀ b cs, Sees h b cs → Sees h1 b cs) → Asks cl f h1 (.int .i64) p l) : pcall (F44 n cl v f h.fzn) = some (.bool (l.any p)) := by
  refine pcall_of ?_ rfl
  unfold F44
  have e : pcall (F50 n cl v f h.fzn.fzn) = some (.int .i64 (idxF p l)) := by
    refine pcall_of ?_ rfl
    unfold F50
    refine Ret.vb (RdS.len r) ?_
    exact loop50 (h0 := h.fzn.fzn) (r.mono fun _ _ s => s) hl (ha _ inferInstance fun _ _ s => s) l.length 0 n _ (by omega) (by omega) (St.start _) (by omega)
  rw [e]
  simp
  exact Ret.of (congrArg Value.bool (Bool.eq_iff_iff.2 (by rw [decide_eq_true_eq]; exact idxF_any)))

/-! ### the same, of rows of three -/
abbrev v3 (x : Int × Int × Int) : Value := .agg ⟨[.int .i64 x.1, .int .i64 x.2.1, .int .i64 x.2.2]⟩
theorem loop47 {f v : Value} {l : List (Int × Int × Int)} {p : Int × Int × Int → Bool} {h0 : PH} (r : RdS int3E 3 h0 v l) (hl : l.length < 9223372036854775808) (ha : Asks cl f h0 v3 p l) : ∀ (k i m : Nat) (h : PH), i + k = l.length → k < m → St h0 h [] → (∀ j x, j < i → l[j]? = some x → p x = false) →
    Ret (lp m (F47_3 n cl) [v, f, .int .i64 l.length, .int .i64 i] h) fun u _ => u = .int .i64 (idxF p l) := by
  intro k
  induction k with
  | zero =>
    intro i m h hi hm st hno
    obtain ⟨m, rfl⟩ : ∃ q, m = q + 1 := ⟨m - 1, by omega⟩
    rw [lp_succ]
    have c : ¬ ((i : Int) < l.length) := by omega
    simp [F47_3, F47_2, c]
    exact Ret.of (by rw [findIdx_none (by omega) hno])
  | succ k ih =>
    intro i m h hi hm st hno
    obtain ⟨m, rfl⟩ : ∃ q, m = q + 1 := ⟨m - 1, by omega⟩
    rw [lp_succ]
    have c : ((i : Int) < l.length) := by omega
    simp only [F47_3, ucons_cons, F47_2, xLt_i, c, decide_true, vb_some, bite_t, F47_1]
    refine Ret.idx r (by omega) c fun b o cs x hx s hle hE => ?_
    have hx : l[i]? = some x := by simpa using hx
    refine Ret.vb (xLdA_at (st.sees s) hE hle) ?_
    refine Ret.hb (ha x (List.mem_of_getElem? hx) h st) ?_
    rintro _ h' ⟨rfl, kp⟩
    cases hp : p x with
    | true =>
      simp only [bite_t]
      exact Ret.of (by rw [findIdx_some hx hp hno])
    | false =>
      simp only [bite_f, F47_0, vN_eq, xAdd_i, vb_some]
      rw [show ((1 : Nat) : Int) = 1 from rfl, wrap1 (by omega)]
      exact ih (i + 1) m h' (by omega) (by omega) (st.on kp) (nextNo hno hx hp)
theorem c39 [OkH h] {f v : Value} {l : List (Int × Int × Int)} {p : Int × Int × Int → Bool} (hn : 9223372036854775808 ≤ n) (r : RdS int3E 3 h v l) (hl : l.length < 9223372036854775808) (ha : ∀ h1, OkH h1 → (∀ b cs, Sees h b cs → Sees h1 b cs) → Asks cl f h1 v3 p l) : pcall (F39 n cl v f h.fzn) = some (.bool (l.any p)) := by
  refine pcall_of ?_ rfl
  unfold F39
  have e : pcall (F47 n cl v f h.fzn.fzn) = some (.int .i64 (idxF p l)) := by
    refine pcall_of ?_ rfl
    unfold F47
    refine Ret.vb (RdS.len r) ?_
    exact loop47 (h0 := h.fzn.fzn) (r.mono (fun _ _ s => s) fun _ _ _ e => e) hl (ha _ inferInstance fun _ _ s => s) l.length 0 n _ (by omega) (by omega) (St.start _) (by omega)
  rw [e]
  simp
  exact Ret.of (congrArg Value.bool (Bool.eq_iff_iff.2 (by rw [decide_eq_true_eq]; exact idxF_any)))

/-! ### why a grammar can't be -/
theorem cl49 {a : Value} {h : PH} : xCall (CLs n ih) (.func (.func 49) ⟨[]⟩ ⟨[]⟩) [a] h = F49 n ih a h := rfl
theorem cl45 {a b : Value} {h : PH} : xCall (CLs n ih) (.func (.func 45) ⟨[]⟩ ⟨[b]⟩) [a] h = F45 n ih a b h := rfl
theorem cl40 {a b : Value} {h : PH} : xCall (CLs n ih) (.func (.func 40) ⟨[]⟩ ⟨[b]⟩) [a] h = F40 n ih a b h := rfl

theorem asks49 {h0 : PH} {l : List Int} : Asks (CLs n ih) (.func (.func 49) ⟨[]⟩ ⟨[]⟩) h0 (.int .i64) badClass l := by
  intro x hx h st
  rw [cl49]
  unfold F49
  have := st.ok
  by_cases c : x < 0 <;> simp [c] <;> exact Ret.of ⟨by simp [badClass, c], Kp.refl _ _⟩
def classesB (l : List Int) (k : Int) : Bool := decide ((l.length : Int) ≤ k) && !l.any badClass
theorem c43 [OkH h] {v : Value} {l : List Int} {k : Int} (hn : 9223372036854775808 ≤ n) (r : RdI h v l) (hl : l.length < 9223372036854775808) : pcall (F43 n (CLs n ih) v (.int .i64 k) h.fzn) = some (.bool (classesB l k)) := by
  refine pcall_of ?_ rfl
  unfold F43
  refine Ret.vb (RdS.len r) ?_
  have e : pcall (F44 n (CLs n ih) v (fnV 49 [] []) h.fzn.fzn) = some (.bool (l.any badClass)) := c44 (h := h.fzn) hn (r.mono fun _ _ s => s) hl fun h1 _ _ => asks49
  by_cases c : (l.length : Int) ≤ k <;> simp [c, e] <;> exact Ret.of (by simp [classesB, c])

def wholeE (g : Gr) : Int :=
  if g.names < 1 ∨ 40 < g.names ∨ g.kinds < 0 ∨ 40 < g.kinds ∨ 60 < g.rules.length ∨ 200 < g.forbid.length then 3
  else if !isName g.names g.start then 6
  else if !classesB g.rclass g.rules.length || !classesB g.kclass g.kinds then 1 else 0
theorem c37 [OkH h] {g : Gr} {v rv fv cv kv : Value} (hn : 9223372036854775808 ≤ n) (r : RdG h v g rv fv cv kv) (hg : GIn g) : pcall (F37 n (CLs n ih) v h.fzn) = some (.int .i64 (wholeE g)) := by
  refine pcall_of ?_ rfl
  unfold F37
  rw [r.v]
  refine Ret.sbox (St.start _) (fun h1 b st => ?_)
  have := st.ok
  have ld : ∀ (o : Nat) (u : Value), (gcs g rv fv cv kv)[o]? = some u → xLd (.pointer (some ⟨b, o, none⟩)) h1 = some u := fun o u e => xLd_at (st.row (.head _)) e
  have l0 := ld 0 _ rfl
  have l1 := ld 1 _ rfl
  have l2 := ld 2 _ rfl
  have l3 := ld 3 _ rfl
  have l4 := ld 4 _ rfl
  have l5 := ld 5 _ rfl
  have l6 := ld 6 _ rfl
  have lw : xLdA 7 (.pointer (some ⟨b, 0, none⟩)) h1 = some (.agg ⟨gcs g rv fv cv kv⟩) := xLdA_at (st.row (.head _)) rfl (Nat.le_refl _)
  have sees : ∀ b cs, Sees h b cs → Sees h1 b cs := fun b cs s => st.sees s
  have e1 := c43 (n := n) (ih := ih) (h := h1) (k := g.rules.length) hn (r.rclass.mono sees) hg.clen
  have e2 := c43 (n := n) (ih := ih) (h := h1) (k := g.kinds) hn (r.kclass.mono sees) hg.klen
  have n3 := RdS.len r.rules
  have n4 := RdS.len r.forbid
  by_cases a1 : g.names < 1
  · simp [l0, a1]; exact Ret.of (by simp [wholeE, a1])
  by_cases a2 : 40 < g.names
  · simp [l0, a1, a2]; exact Ret.of (by simp [wholeE, a1, a2])
  by_cases a3 : g.kinds < 0
  · simp [l0, l1, a1, a2, a3]; exact Ret.of (by simp [wholeE, a1, a2, a3])
  by_cases a4 : 40 < g.kinds
  · simp [l0, l1, a1, a2, a3, a4]; exact Ret.of (by simp [wholeE, a1, a2, a3, a4])
  by_cases a5 : 60 < g.rules.length
  · have a5' : (60 : Int) < g.rules.length := by omega
    simp [l0, l1, l3, n3, a1, a2, a3, a4, a5']; exact Ret.of (by simp [wholeE, a1, a2, a3, a4, a5])
  by_cases a6 : 200 < g.forbid.length
  · have a5' : ¬ (60 : Int) < g.rules.length := by omega
    have a6' : (200 : Int) < g.forbid.length := by omega
    simp [l0, l1, l3, l4, n3, n4, a1, a2, a3, a4, a5', a6']; exact Ret.of (by simp [wholeE, a1, a2, a3, a4, a5, a6])
  have a5' : ¬ (60 : Int) < g.rules.length := by omega
  have a6' : ¬ (200 : Int) < g.forbid.length := by omega
  simp only [xFld_p, Nat.zero_add, vb_some, l0, l1, l3, l4, n3, n4, xLt_i, xGt_i, vN_eq, a1, a2, a3, a4, a5', a6', decide_false, isB_f, Bool.not_false, gd_true, xPick_f, bite_f, F37_1, lw, l2, c29,
    show (((1 : Nat) : Int)) = 1 from rfl, show (((40 : Nat) : Int)) = 40 from rfl, show (((60 : Nat) : Int)) = 60 from rfl, show (((200 : Nat) : Int)) = 200 from rfl, show (((0 : Nat) : Int)) = 0 from rfl]
  cases a7 : isName g.names g.start with
  | false => simp; exact Ret.of (by simp [wholeE, a1, a2, a3, a4, a5, a6, a7])
  | true =>
    simp only [xNot_b, Bool.not_true, vb_some, bite_f, F37_0, xFld_p, Nat.zero_add, l5, l3, n3, l6, l1]
    rw [e1]
    cases a8 : classesB g.rclass g.rules.length with
    | false => simp; exact Ret.of (by simp [wholeE, a1, a2, a3, a4, a5, a6, a7, a8])
    | true =>
      cases a9 : classesB g.kclass g.kinds
      · rw [a9] at e2; simp [e2, l6, l1]; exact Ret.of (by simp [wholeE, a1, a2, a3, a4, a5, a6, a7, a8, a9])
      · rw [a9] at e2; simp [e2, l6, l1]; exact Ret.of (by simp [wholeE, a1, a2, a3, a4, a5, a6, a7, a8, a9])

def ruleEr (g : Gr) (r : Rl) : Int :=
  if !isName g.names r.left || r.right.any (fun s => !isSym g.names g.kinds s) then 6 else if 8 < r.right.length then 3 else if r.dyn < -1000 ∨ 1000 < r.dyn then 1 else 0
theorem asks45 {h0 : PH} {g : Gr} {rv fv cv kv : Value} {b : Nat} {l : List Int} (hs : ∀ s ∈ l, inR s) (sb : Sees h0 b (gcs g rv fv cv kv)) : Asks (CLs n ih) (.func (.func 45) ⟨[]⟩ ⟨[.pointer (some ⟨b, 0, none⟩)]⟩) h0 (.int .i64) (fun s => !isSym g.names g.kinds s) l := by
  intro x hx h st
  rw [cl45]
  unfold F45
  have := st.ok
  have lw : xLdA 7 (.pointer (some ⟨b, 0, none⟩)) h = some (.agg ⟨gcs g rv fv cv kv⟩) := xLdA_at (st.sees sb) rfl (Nat.le_refl _)
  simp [lw, c46 (hs x hx)]
  exact Ret.of ⟨by simp, Kp.refl _ _⟩
theorem c38 [OkH h] {g : Gr} {rv fv cv kv : Value} {r : Rl} {qv : Value} (hn : 9223372036854775808 ≤ n) (hq : RdI h qv r.right) (hl : r.right.length < 9223372036854775808) (hs : ∀ s ∈ r.right, inR s) :
    pcall (F38 n (CLs n ih) (.agg ⟨gcs g rv fv cv kv⟩) (.agg ⟨[.int .i64 r.left, qv, .int .i64 r.dyn]⟩) h.fzn) = some (.int .i64 (ruleEr g r)) := by
  refine pcall_of ?_ rfl
  unfold F38
  refine Ret.sbox (St.start _) (fun h1 b1 st => ?_)
  refine Ret.sbox st (fun h2 b2 st => ?_)
  have := st.ok
  have lw : xLdA 7 (.pointer (some ⟨b1, 0, none⟩)) h2 = some (.agg ⟨gcs g rv fv cv kv⟩) := xLdA_at (st.row (.tail _ (.head _))) rfl (Nat.le_refl _)
  have q0 : xLd (.pointer (some ⟨b2, 0, none⟩)) h2 = some (.int .i64 r.left) := xLd_at (st.row (.head _)) rfl
  have q1 : xLd (.pointer (some ⟨b2, 1, none⟩)) h2 = some qv := xLd_at (st.row (.head _)) rfl
  have q2 : xLd (.pointer (some ⟨b2, 2, none⟩)) h2 = some (.int .i64 r.dyn) := xLd_at (st.row (.head _)) rfl
  have n1 := RdS.len hq
  have e : pcall (F44 n (CLs n ih) qv (.func (.func 45) ⟨[]⟩ ⟨[.pointer (some ⟨b1, 0, none⟩)]⟩) h2.fzn) = some (.bool (r.right.any fun s => !isSym g.names g.kinds s)) :=
    c44 hn (hq.mono fun _ _ s => st.sees s) hl fun h3 _ hs3 => asks45 (g := g) (rv := rv) (fv := fv) (cv := cv) (kv := kv) hs (hs3 _ _ (st.row (.tail _ (.head _))))
  cases a1 : isName g.names r.left with
  | false => simp [lw, q0, c29, a1]; exact Ret.of (by simp [ruleEr, a1])
  | true =>
    cases a2 : r.right.any fun s => !isSym g.names g.kinds s with
    | true => rw [a2] at e; simp [lw, q0, c29, a1, q1, e]; exact Ret.of (by simp only [ruleEr, a1, a2]; rfl)
    | false =>
      rw [a2] at e
      simp [lw, q0, c29, a1, q1, e, F38_1, n1]
      by_cases a3 : 8 < r.right.length
      · have a3' : (8 : Int) < r.right.length := by omega
        simp [a3']; exact Ret.of (by simp only [ruleEr, a1, a2]; simp [a3])
      · have a3' : ¬ (8 : Int) < r.right.length := by omega
        simp [a3', F38_0, q2]
        by_cases a4 : r.dyn < -1000
        · simp [a4]; exact Ret.of (by simp only [ruleEr, a1, a2]; simp [a3, a4])
        · have a4' : -1000 ≤ r.dyn := by omega
          by_cases a5 : 1000 < r.dyn
          · simp [a4, a4', a5, q2]; exact Ret.of (by simp only [ruleEr, a1, a2]; simp [a3, a4, a5])
          · simp [a4, a4', a5, q2]; exact Ret.of (by simp only [ruleEr, a1, a2]; simp [a3, a4, a5])

def forbidB (g : Gr) (f : Int × Int × Int) : Bool :=
  if f.1 < 0 ∨ g.rules.length ≤ f.1 ∨ f.2.2 < 0 ∨ g.rules.length ≤ f.2.2 then false
  else match g.rules[f.1.toNat]?, g.rules[f.2.2.toNat]? with
    | some a, some b => decide (0 ≤ f.2.1 ∧ f.2.1 < a.right.length ∧ a.right[f.2.1.toNat]? = some b.left)
    | _, _ => false
@[simp] theorem xIdxA_at {m sz b o j : Nat} {k : IntKind} (h : j < m) : xIdxA m sz (.pointer (some ⟨b, o, none⟩)) (.int k j) = some (.pointer (some ⟨b, o + j * sz, none⟩)) := by
  show grd (Nat.blt j m) (addrK b (o + j * sz)) = _
  have : Nat.blt j m = true := Nat.ble_eq_true_of_le h
  rw [this, addrK_eq]; rfl
@[simp] theorem ia0 {b o : Nat} : xIdxA 3 1 (.pointer (some ⟨b, o, none⟩)) (.int .i64 0) = some (.pointer (some ⟨b, o, none⟩)) := xIdxA_at (j := 0) (by omega)
@[simp] theorem ia1 {b o : Nat} : xIdxA 3 1 (.pointer (some ⟨b, o, none⟩)) (.int .i64 1) = some (.pointer (some ⟨b, o + 1, none⟩)) := xIdxA_at (j := 1) (by omega)
@[simp] theorem ia2 {b o : Nat} : xIdxA 3 1 (.pointer (some ⟨b, o, none⟩)) (.int .i64 2) = some (.pointer (some ⟨b, o + 2, none⟩)) := xIdxA_at (j := 2) (by omega)
theorem c41 [OkH h] {g : Gr} {v rv fv cv kv : Value} {f : Int × Int × Int} (r : RdG h v g rv fv cv kv) : pcall (F41 n cl v (v3 f) h.fzn) = some (.bool (forbidB g f)) := by
  obtain ⟨x, y, z⟩ := f
  refine pcall_of ?_ rfl
  unfold F41
  rw [r.v]
  refine Ret.sbox (St.start _) (fun h1 b1 st => ?_)
  refine Ret.sbox st (fun h2 b2 st => ?_)
  have l3 : xLd (.pointer (some ⟨b1, 3, none⟩)) h2 = some rv := xLd_at (st.row (.tail _ (.head _))) rfl
  have q0 : xLd (.pointer (some ⟨b2, 0, none⟩)) h2 = some (.int .i64 x) := xLd_at (st.row (.head _)) rfl
  have q1 : xLd (.pointer (some ⟨b2, 1, none⟩)) h2 = some (.int .i64 y) := xLd_at (st.row (.head _)) rfl
  have q2 : xLd (.pointer (some ⟨b2, 2, none⟩)) h2 = some (.int .i64 z) := xLd_at (st.row (.head _)) rfl
  have nr := RdS.len r.rules
  simp only [ia0, ia1, ia2, vb_some, q0, q2, xFld_p, Nat.zero_add, l3, nr, vN_eq, xLt_i, xGe_i, show (((0 : Nat) : Int)) = 0 from rfl, show (((1 : Nat) : Int)) = 1 from rfl, show (((2 : Nat) : Int)) = 2 from rfl]
  by_cases a1 : x < 0
  · simp [a1, q0, q2, l3, nr]; exact Ret.of (by simp [forbidB, a1])
  by_cases a2 : (g.rules.length : Int) ≤ x
  · simp [a1, a2, q0, q2, l3, nr]; exact Ret.of (by simp [forbidB, a1, a2])
  by_cases a3 : z < 0
  · simp [a1, a2, a3, q0, q2, l3, nr]; exact Ret.of (by simp [forbidB, a1, a2, a3])
  by_cases a4 : (g.rules.length : Int) ≤ z
  · simp [a1, a2, a3, a4, q0, q2, l3, nr]; exact Ret.of (by simp [forbidB, a1, a2, a3, a4])
  simp only [a1, a2, a3, a4, decide_false, isB_f, Bool.not_false, gd_true, vb_some, xPick_f, bite_f, F41_0, xFld_p, Nat.zero_add, l3, ia0, ia1, ia2, q0, q1, q2, nr, vN_eq, xLt_i, xGe_i, show (((0 : Nat) : Int)) = 0 from rfl, show (((1 : Nat) : Int)) = 1 from rfl, show (((2 : Nat) : Int)) = 2 from rfl]
  refine Ret.idx r.rules (by omega) (by omega) fun b o cs ra hra s hle hE => ?_
  obtain ⟨qv, hE, hq⟩ := hE
  have ld1 : xLd (.pointer (some ⟨b, o + 1, none⟩)) h2 = some qv := xLdE (st.sees (show Sees h.fzn b cs from s)) hle hE rfl
  have nq := RdS.len hq
  simp only [xFld_p, vb_some, ld1, vN_eq, xGe_i, show (((0 : Nat) : Int)) = 0 from rfl]
  obtain ⟨rb, hrb⟩ : ∃ rb, g.rules[z.toNat]? = some rb := ⟨g.rules[z.toNat]'(by omega), List.getElem?_eq_getElem _⟩
  have spec : forbidB g (x, y, z) = decide (0 ≤ y ∧ y < ra.right.length ∧ ra.right[y.toNat]? = some rb.left) := by
    simp [forbidB, a1, a2, a3, a4, hra, hrb]
  by_cases a5 : 0 ≤ y
  · by_cases a6 : y < ra.right.length
    · simp only [a5, a6, decide_true, isB_t, gd_true, vb_some, q1, nq, xLt_i, xPick_t]
      refine Ret.idx hq a5 a6 fun b' o' cs' yv hy s' hle' hE' => ?_
      have ly : xLd (.pointer (some ⟨b', o', none⟩)) h2 = some (.int .i64 yv) := xLdE (st.sees (show Sees h.fzn b' cs' from s')) hle' hE' (j := 0) rfl
      simp only [vb_some, ly, l3, q2]
      refine Ret.idx r.rules (by omega) (by omega) fun b3 o3 cs3 rb' hrb' s3 hle3 hE3 => ?_
      obtain ⟨qv3, hE3, hq3⟩ := hE3
      have : rb' = rb := by rw [hrb] at hrb'; cases hrb'; rfl
      subst this
      have lz : xLd (.pointer (some ⟨b3, o3 + 0, none⟩)) h2 = some (.int .i64 rb'.left) := xLdE (st.sees (show Sees h.fzn b3 cs3 from s3)) hle3 hE3 rfl
      simp only [xFld_p, vb_some, lz, xEq_i, xPick_t]
      exact Ret.of (by rw [spec, hy]; simp [a5, a6])
    · simp [a5, a6, q1, nq]; exact Ret.of (by rw [spec]; simp [a5, a6])
  · simp [a5]; exact Ret.of (by rw [spec]; simp [a5])
theorem asks40 {h0 : PH} {g : Gr} {v rv fv cv kv : Value} {b : Nat} {l : List (Int × Int × Int)} (r : RdG h0 v g rv fv cv kv) (sb : Sees h0 b (gcs g rv fv cv kv)) : Asks (CLs n ih) (.func (.func 40) ⟨[]⟩ ⟨[.pointer (some ⟨b, 0, none⟩)]⟩) h0 v3 (fun f => !forbidB g f) l := by
  intro x hx h st
  rw [cl40]
  unfold F40
  refine Ret.box (k := st.ok) (fun h1 k1 hn m => ?_)
  have st1 := st.push k1 m (Nat.le_refl _)
  have := st1.ok
  have lw : xLdA 7 (.pointer (some ⟨b, 0, none⟩)) h1 = some (.agg ⟨gcs g rv fv cv kv⟩) := xLdA_at (st1.sees sb) rfl (Nat.le_refl _)
  have lx : xLdA 3 (.pointer (some ⟨h.n, 0, none⟩)) h1 = some (v3 x) := xLdA_at (st1.row (.head _)) rfl (Nat.le_refl _)
  have e := c41 (n := n) (cl := ih) (h := h1) (f := x) (r.mono fun _ _ s => st1.sees s)
  rw [r.v] at e
  simp [lw, lx, e]
  exact Ret.of ⟨by simp, k1⟩
def formE (g : Gr) : Int × Int :=
  if wholeE g ≠ 0 then (-1, wholeE g)
  else match g.rules.findIdx? (fun r => decide (ruleEr g r ≠ 0)) with
    | some i => ((i : Int), ((g.rules[i]?).map (ruleEr g)).getD 0)
    | none => if g.forbid.any (fun f => !forbidB g f) then (-1, 6) else (-1, 0)
theorem z29 : zcells Try.prog 29 = some [.int .i64 0, nils, .int .i64 0] := by kernel_rfl
theorem loop33 {h0 : PH} {g : Gr} {v rv fv cv kv : Value} {b1 : Nat} (hn : 9223372036854775808 ≤ n) (r : RdG h0 v g rv fv cv kv) (hg : GIn g) : ∀ (k i m : Nat) (h : PH), i + k = g.rules.length → k < m → St h0 h [(b1, gcs g rv fv cv kv)] → (∀ j x, j < i → g.rules[j]? = some x → decide (ruleEr g x ≠ 0) = false) → wholeE g = 0 →
    Ret (lp m (F33_4 n (CLs n ih)) [.pointer (some ⟨b1, 0, none⟩), rv, .int .i64 g.rules.length, .int .i64 i] h) fun u _ => u = .tuple ⟨[.int .i64 (formE g).1, .int .i64 (formE g).2]⟩ := by
  intro k
  induction k with
  | zero =>
    intro i m h hi hm st hno hw
    obtain ⟨m, rfl⟩ : ∃ q, m = q + 1 := ⟨m - 1, by omega⟩
    rw [lp_succ]
    have := st.ok
    have c : ¬ ((i : Int) < g.rules.length) := by omega
    have l4 : xLd (.pointer (some ⟨b1, 4, none⟩)) h = some fv := xLd_at (st.row (.head _)) rfl
    have e : pcall (F39 n (CLs n ih) fv (.func (.func 40) ⟨[]⟩ ⟨[.pointer (some ⟨b1, 0, none⟩)]⟩) h.fzn) = some (.bool (g.forbid.any fun f => !forbidB g f)) :=
      c39 hn (RdS.mono (fun _ _ s => st.sees s) (fun _ _ _ e => e) r.forbid) hg.flen fun h3 _ hs3 => asks40 (r.mono fun _ _ s => hs3 _ _ (st.sees s)) (hs3 _ _ (st.row (.head _)))
    have hf := findIdx_none (p := fun r => decide (ruleEr g r ≠ 0)) (l := g.rules) (i := i) (by omega) hno
    have hf : g.rules.findIdx? (fun r => decide (ruleEr g r ≠ 0)) = none := by
      unfold idxF at hf
      split at hf
      · rename_i j _; omega
      · assumption
    have spec : formE g = if g.forbid.any (fun f => !forbidB g f) then (-1, 6) else (-1, 0) := by
      unfold formE; rw [if_neg (by simp [hw]), hf]
    simp only [F33_4, ucons_cons, F33_3, xLt_i, c, decide_false, vb_some, bite_f, F33_2, xFld_p, Nat.zero_add, l4, e]
    rw [spec]
    cases g.forbid.any fun f => !forbidB g f <;> simp <;> exact Ret.of rfl
  | succ k ih' =>
    intro i m h hi hm st hno hw
    obtain ⟨m, rfl⟩ : ∃ q, m = q + 1 := ⟨m - 1, by omega⟩
    rw [lp_succ]
    have c : ((i : Int) < g.rules.length) := by omega
    have hrl := hg.rlen
    simp only [F33_4, ucons_cons, F33_3, xLt_i, c, decide_true, vb_some, bite_t, F33_1]
    refine Ret.idx r.rules (by omega) c fun b o cs x hx s hle hE => ?_
    have hx : g.rules[i]? = some x := by simpa using hx
    have hxm := List.mem_of_getElem? hx
    obtain ⟨qv, hE, hq⟩ := hE
    refine Ret.vb (xLdA_at (st.sees s) hE hle) ?_
    refine Ret.salloc st z29 fun h2 b2 st2 => ?_
    refine Ret.sstA st2 (i := 0) rfl rfl (Nat.le_refl _) (by simp only [oneCells, List.all_cons, List.all_nil, hq.one]; rfl) fun h3 st3 => ?_
    have := st3.ok
    have lw : xLdA 7 (.pointer (some ⟨b1, 0, none⟩)) h3 = some (.agg ⟨gcs g rv fv cv kv⟩) := xLdA_at (st3.row (.tail _ (.head _))) rfl (Nat.le_refl _)
    have lr : xLdA 3 (.pointer (some ⟨b2, 0, none⟩)) h3 = some (.agg ⟨[.int .i64 x.left, qv, .int .i64 x.dyn]⟩) := xLdA_at (st3.row (.head _)) rfl (Nat.le_refl _)
    have e := c38 (n := n) (ih := ih) (h := h3) (g := g) (rv := rv) (fv := fv) (cv := cv) (kv := kv) (r := x) hn (hq.mono fun _ _ s => st3.sees s) (hg.rl x hxm) (hg.right x hxm)
    simp only [lw, lr, vb_some, e, xNe_i, vN_eq, show (((0 : Nat) : Int)) = 0 from rfl]
    by_cases c2 : ruleEr g x = 0
    · simp only [c2, decide_true, Bool.not_true, bite_f, F33_0, vN_eq, xAdd_i, vb_some]
      rw [show ((1 : Nat) : Int) = 1 from rfl, wrap1 (by omega)]
      exact ih' (i + 1) m h3 (by omega) (by omega) (st3.drop (.cons _ (List.Sublist.refl _))) (nextNo hno hx (by simp [c2])) hw
    · simp only [c2, decide_false, Bool.not_false, bite_t]
      have hf := findIdx_some (p := fun r => decide (ruleEr g r ≠ 0)) hx (by simp [c2]) hno
      have hf : g.rules.findIdx? (fun r => decide (ruleEr g r ≠ 0)) = some i := by
        unfold idxF at hf
        split at hf
        · rename_i j hj; rw [hj]; congr 1; omega
        · omega
      exact Ret.of (by unfold formE; rw [if_neg (by simp [hw]), hf]; simp [hx])
theorem c33 [OkH h] {g : Gr} {v rv fv cv kv : Value} (hn : 9223372036854775808 ≤ n) (r : RdG h v g rv fv cv kv) (hg : GIn g) : pcall (F33 n (CLs n ih) v h.fzn) = some (.tuple ⟨[.int .i64 (formE g).1, .int .i64 (formE g).2]⟩) := by
  refine pcall_of ?_ rfl
  unfold F33
  rw [r.v]
  refine Ret.sbox (St.start _) (fun h1 b st => ?_)
  have := st.ok
  have lw : xLdA 7 (.pointer (some ⟨b, 0, none⟩)) h1 = some (.agg ⟨gcs g rv fv cv kv⟩) := xLdA_at (st.row (.head _)) rfl (Nat.le_refl _)
  have l3 : xLd (.pointer (some ⟨b, 3, none⟩)) h1 = some rv := xLd_at (st.row (.head _)) rfl
  have nr := RdS.len r.rules
  have sees : ∀ b cs, Sees h b cs → Sees h1 b cs := fun b cs s => st.sees s
  have e := c37 (n := n) (ih := ih) (h := h1) hn (r.mono sees) hg
  rw [r.v] at e
  simp only [lw, vb_some, e, xNe_i, vN_eq, show (((0 : Nat) : Int)) = 0 from rfl]
  by_cases c : wholeE g = 0
  · simp only [c, decide_true, Bool.not_true, bite_f, F33_5, xFld_p, Nat.zero_add, l3, nr, vb_some, vN_eq]
    have hrl := hg.rlen
    have sf : ∀ b cs, Sees h b cs → Sees h.fzn b cs := fun b cs s => s
    exact loop33 hn (h0 := h.fzn) (r.mono sf) hg g.rules.length 0 n h1 (by omega) (by omega) st (by omega) c
  · simp only [c, decide_false, Bool.not_false, bite_t]
    exact Ret.of (by simp [formE, c])
def goodB (g : Gr) : Bool := decide ((formE g).2 = 0)
theorem c27 [OkH h] {g : Gr} {v rv fv cv kv : Value} (hn : 9223372036854775808 ≤ n) (r : RdG h v g rv fv cv kv) (hg : GIn g) : pcall (F27 n (CLs n ih) v h.fzn) = some (.bool (goodB g)) := by
  refine pcall_of ?_ rfl
  unfold F27
  rw [r.v]
  refine Ret.sbox (St.start _) (fun h1 b st => ?_)
  have := st.ok
  have lw : xLdA 7 (.pointer (some ⟨b, 0, none⟩)) h1 = some (.agg ⟨gcs g rv fv cv kv⟩) := xLdA_at (st.row (.head _)) rfl (Nat.le_refl _)
  have sees : ∀ b cs, Sees h b cs → Sees h1 b cs := fun b cs s => st.sees s
  have e := c33 (n := n) (ih := ih) (h := h1) hn (r.mono sees) hg
  rw [r.v] at e
  simp [lw, e]
  exact Ret.of (by simp [goodB])
end
end Go.Am
