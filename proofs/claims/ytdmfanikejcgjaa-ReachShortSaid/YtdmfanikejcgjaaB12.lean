import Derived.Test.YtdmfanikejcgjaaB11
set_option linter.unusedSimpArgs false
set_option linter.unusedVariables false
namespace Go.Am
open Go Go.RowKit

/-- A piece of code, on the plain machine. -/
def AWp (P : Program) (c : Code) (Q : Exit → Tm → Heap → Prop) (t : Tm) (h : Heap) : Prop :=
  ∀ (B : Nat) (w0 : World) (ρ : RMap) (ts : List Value) (w : World), Rel B w0 ρ h w → TRs ρ t ts → c.wp P (fun e a w' => Sim B w0 ρ (Q e) a w') ⟨⟨ts⟩, []⟩ w

def aresult1 (P : Program) (t : Tm) (h : Heap) : ResultVar → Option Value
  | .tmp i => tget t i
  | .cell a T => match tget t a with
    | some x => aload P T x h
    | none => none

def aresultL (P : Program) (t : Tm) (h : Heap) : List ResultVar → Option (List Value)
  | [] => some []
  | r :: rs => match aresult1 P t h r, aresultL P t h rs with
    | some v, some vs => some (v :: vs)
    | _, _ => none

def aresults (P : Program) (fn : Func) (t : Tm) (h : Heap) : Option Value :=
  match aresultL P t h fn.results.toList with
  | some [v] => some v
  | some vs => some (.tuple ⟨vs⟩)
  | none => none

/-- What a body must end in. -/
def ABody (P : Program) (fn : Func) (R : Value → Heap → Prop) (e : Exit) (t : Tm) (h : Heap) : Prop :=
  match e with
  | .normal | .ret => ∃ v, aresults P fn t h = some v ∧ R v h
  | _ => False

theorem least_ex {p : Nat → Prop} : ∀ (n : Nat), p n → ∃ m, p m ∧ ∀ k, k < m → ¬ p k := by
  intro n
  induction n using Nat.strongRecOn with
  | _ n ih =>
    intro hn
    by_cases hk : ∃ k, k < n ∧ p k
    · obtain ⟨k, h1, h2⟩ := hk; exact ih k h1 h2
    · exact ⟨n, hn, fun k h1 h2 => hk ⟨k, h1, h2⟩⟩

noncomputable def least (p : Nat → Prop) : Nat := Classical.epsilon fun m => p m ∧ ∀ k, k < m → ¬ p k
theorem least_spec {p : Nat → Prop} (h : ∃ n, p n) : p (least p) ∧ ∀ k, k < least p → ¬ p k := by
  obtain ⟨n, hn⟩ := h
  exact Classical.epsilon_spec (least_ex n hn)
theorem least_le {p : Nat → Prop} {n : Nat} (h : p n) : least p ≤ n := by
  have := (least_spec ⟨n, h⟩).2 n
  rcases Nat.lt_or_ge n (least p) with h1 | h1
  · exact absurd h (this h1)
  · exact h1

section
variable {P : Program} {Q : Exit → Tm → Heap → Prop} {t : Tm} {h : Heap}

theorem AWp.mono {c : Code} {Q' : Exit → Tm → Heap → Prop} (hc : AWp P c Q t h) (hq : ∀ e t h, Q e t h → Q' e t h) : AWp P c Q' t h :=
  fun B w0 ρ ts w hr ht => wp_mono (hc B w0 ρ ts w hr ht) fun e a w' hs => hs.mono (hq e)

theorem AWp.skip (hq : Q .normal t h) : AWp P .skip Q t h := fun B w0 ρ ts w hr ht => wp_skip ⟨t, h, ρ, ts, hq, ρ.le_refl, hr, rfl, ht⟩
theorem AWp.exit {id : Nat} (hq : Q (.exit id) t h) : AWp P (.exit id) Q t h := fun B w0 ρ ts w hr ht => wp_exit ⟨t, h, ρ, ts, hq, ρ.le_refl, hr, rfl, ht⟩
theorem AWp.ret (hq : Q .ret t h) : AWp P .ret Q t h := fun B w0 ρ ts w hr ht => wp_ret ⟨t, h, ρ, ts, hq, ρ.le_refl, hr, rfl, ht⟩

/-- Behind a first piece. -/
def thenQ (P : Program) (b : Code) (Q : Exit → Tm → Heap → Prop) (e : Exit) (t : Tm) (h : Heap) : Prop :=
  match e with
  | .normal => AWp P b Q t h
  | e => Q e t h

theorem AWp.seq {a b : Code} (ha : AWp P a (thenQ P b Q) t h) : AWp P (.seq a b) Q t h := by
  intro B w0 ρ ts w hr ht
  refine wp_seq (wp_mono (ha B w0 ρ ts w hr ht) ?_)
  rintro e a' w' ⟨t', h', ρ', ts', hq, hl, hr', rfl, ht'⟩
  cases e with
  | normal =>
    simp only [Exit.then]
    exact wp_mono (hq B w0 ρ' ts' w' hr' ht') fun e a w hs => hs.up hl
  | _ => exact ⟨t', h', ρ', ts', hq, hl, hr', rfl, ht'⟩

theorem AWp.cond {c : Operand} {x y : Code} {b : Bool} (hc : ev t c = some (.bool b)) (hb : AWp P (if b then x else y) Q t h) : AWp P (.cond c x y) Q t h := by
  intro B w0 ρ ts w hr ht
  have := ev_ok ht hc
  generalize hv : tev ts c = v at this
  cases this
  exact wp_cond (t := b) hv (by have := hb B w0 ρ ts w hr ht; cases b <;> exact this)

/-- Within a block. -/
def blockQ (id : Nat) (Q : Exit → Tm → Heap → Prop) (e : Exit) (t : Tm) (h : Heap) : Prop :=
  match e with
  | .exit id' => if id' = id then Q .normal t h else Q (.exit id') t h
  | e => Q e t h

theorem AWp.block {id : Nat} {c : Code} (hc : AWp P c (blockQ id Q) t h) : AWp P (.block id c) Q t h := by
  intro B w0 ρ ts w hr ht
  refine wp_block (wp_mono (hc B w0 ρ ts w hr ht) ?_)
  rintro e a' w' hs
  cases e with
  | exit id' =>
    simp only [Exit.inBlock, blockQ] at hs ⊢
    split
    · rename_i hid; exact hs.mono fun t h hq => by simpa only [blockQ, if_pos hid] using hq
    · rename_i hid; exact hs.mono fun t h hq => by simpa only [blockQ, if_neg hid] using hq
  | _ => exact hs

/-- A round of a loop. -/
def roundQ (I : Nat → Tm → Heap → Prop) (n : Nat) (Q : Exit → Tm → Heap → Prop) (e : Exit) (t : Tm) (h : Heap) : Prop :=
  match e with
  | .normal => ∃ m, m < n ∧ I m t h
  | e => Q e t h

theorem AWp.loop {c : Code} (I : Nat → Tm → Heap → Prop) (n : Nat) (h0 : I n t h) (hround : ∀ n t h, I n t h → AWp P c (roundQ I n Q) t h) : AWp P (.loop c) Q t h := by
  intro B w0 ρ ts w hr ht
  let J : Act → World → Nat → Prop := fun a w n => Sim B w0 ρ (I n) a w
  refine wp_loop (fun a w => ∃ n, J a w n) (fun a w => least (J a w)) ⟨n, t, h, ρ, ts, h0, ρ.le_refl, hr, rfl, ht⟩ ?_
  rintro a w1 hJ
  obtain ⟨t', h', ρ', ts', hI, hl, hr', rfl, ht'⟩ := (least_spec hJ).1
  refine wp_mono (hround _ t' h' hI B w0 ρ' ts' w1 hr' ht') ?_
  rintro e a' w' hs
  have hs := hs.up hl
  cases e with
  | normal =>
    simp only [Exit.then]
    obtain ⟨t2, h2, ρ2, ts2, ⟨m, hm, hIm⟩, hl2, hr2, rfl, ht2⟩ := hs
    have hJ2 : J ⟨⟨ts2⟩, []⟩ w' m := ⟨t2, h2, ρ2, ts2, hIm, hl2, hr2, rfl, ht2⟩
    exact ⟨⟨m, hJ2⟩, Nat.lt_of_le_of_lt (least_le hJ2) hm⟩
  | _ => exact hs

theorem AWp.region {id : Nat} {ops : Array Oper} (hl : AOps P ops (Q .normal) ops.toList t h) : AWp P (.region id ops false) Q t h := by
  intro B w0 ρ ts w hr ht
  refine wp_mono (wp_region_list (AOps.sound ops ops.toList hl hr ht)) ?_
  rintro e a w ⟨rfl, hs⟩
  exact hs

/-- A result of the true frame. -/
def resF (ts : List Value) (r : ResultVar) : Sem Value := match r with
  | .tmp i => pure ((Array.mk ts).getD i undef)
  | .cell a T => do loadVar T (← asAddr ((Array.mk ts).getD a undef))

theorem results_resF (fn : Func) (ts : List Value) : results fn ⟨ts⟩ = (do let vs ← fn.results.mapM (resF ts); pure (if h : vs.size = 1 then vs[0] else .tuple vs)) := by
  unfold results
  congr 1

theorem aresult1_ok {B : Nat} {w0 : World} {ρ : RMap} {w : World} {ts : List Value} (hr : Rel B w0 ρ h w) (ht : TRs ρ t ts) {r : ResultVar} {v : Value} (hv : aresult1 P t h r = some v) :
    ∃ v', VR ρ v v' ∧ (resF ts r).run P w = .ok v' w := by
  cases r with
  | tmp i =>
    simp only [aresult1] at hv
    obtain ⟨v', h1, h2⟩ := ht.tget hv
    exact ⟨v', h2, by simp [resF, getD_toArray, List.getD_eq_getElem?_getD, h1]⟩
  | cell a T =>
    simp only [aresult1] at hv
    split at hv
    rotate_left
    · cases hv
    rename_i x hx0
    obtain ⟨x', h0, hx⟩ := ht.tget hx0
    obtain ⟨v', h1, h2⟩ := aload_ok hr hv hx
    refine ⟨v', h1, ?_⟩
    have hp : ∃ q, x' = .pointer (some q) := by
      unfold aload at hv
      split at hv
      · cases hx
        exact ⟨_, rfl⟩
      · cases hv
    obtain ⟨q, rfl⟩ := hp
    simp only [resF, getD_toArray, List.getD_eq_getElem?_getD, h0, Option.getD_some, asAddr, Sem.run_bind, Sem.run_pure, Result.andThen_ok]
    simpa [Instr.loadAt, Instr.sureAddr] using h2

theorem aresultL_ok {B : Nat} {w0 : World} {ρ : RMap} {w : World} {ts : List Value} (hr : Rel B w0 ρ h w) (ht : TRs ρ t ts) : ∀ {rs : List ResultVar} {vs : List Value}, aresultL P t h rs = some vs →
    ∃ us, VRs ρ vs us ∧ (rs.mapM (resF ts)).run P w = .ok us w := by
  intro rs
  induction rs with
  | nil => intro vs hv; simp [aresultL] at hv; subst hv; exact ⟨[], .nil, rfl⟩
  | cons r rs ih =>
    intro vs hv
    simp only [aresultL] at hv
    split at hv
    · rename_i v vs' h1 h2
      simp at hv; subst hv
      obtain ⟨u, h3, h4⟩ := aresult1_ok hr ht h1
      obtain ⟨us, h5, h6⟩ := ih h2
      refine ⟨u :: us, .cons h3 h5, ?_⟩
      simp only [List.mapM_cons, Sem.run_bind]
      rw [h4]
      simp only [Result.andThen_ok]
      rw [h6]
      simp only [Result.andThen_ok, Sem.run_pure]
    · cases hv

theorem aresults_ok {B : Nat} {w0 : World} {ρ : RMap} {w : World} {ts : List Value} (hr : Rel B w0 ρ h w) (ht : TRs ρ t ts) {fn : Func} {v : Value} (hv : aresults P fn t h = some v) :
    ∃ v', VR ρ v v' ∧ (results fn ⟨ts⟩).run P w = .ok v' w := by
  unfold aresults at hv
  have go : ∀ {vs : List Value}, aresultL P t h fn.results.toList = some vs → ∃ us, VRs ρ vs us ∧ (results fn ⟨ts⟩).run P w = .ok (if hh : us.length = 1 then us[0] else .tuple ⟨us⟩) w := by
    intro vs hvs
    obtain ⟨us, h1, h2⟩ := aresultL_ok hr ht hvs
    refine ⟨us, h1, ?_⟩
    simp only [results_resF, Array.mapM_eq_mapM_toList, Sem.run_bind, Sem.run_map]
    rw [h2]
    simp only [Result.andThen_ok, Sem.run_pure]
    rfl
  split at hv
  · rename_i v0 hvs
    simp at hv; subst hv
    obtain ⟨us, h1, h2⟩ := go hvs
    cases h1 with
    | cons h3 h4 => cases h4; exact ⟨_, h3, by rw [h2]; rfl⟩
  · rename_i vs hne hvs
    simp at hv; subst hv
    obtain ⟨us, h1, h2⟩ := go hvs
    refine ⟨.tuple ⟨us⟩, .tuple h1, ?_⟩
    rw [h2, dif_neg]
    intro hh
    rw [← h1.length] at hh
    match vs, hh with
    | [a], _ => exact hne a rfl
  · cases hv

/-- A call, by its body. -/
theorem ACall.of {f : FuncId} {fn : Func} {c : Code} {args : List Value} {R : Value → Heap → Prop} (hf : P.funcs[f]? = some fn) (hb : fn.body = some c)
    (hw : AWp P c (ABody P fn R) (args.map some ++ List.replicate (fn.ntmps - args.length) none) h) : ACall P f args h R := by
  intro B w0 ρ rargs w hr ha
  refine calls_of_wp hf hb ?_
  have ht : TRs ρ (args.map some ++ List.replicate (fn.ntmps - args.length) none) (rargs ++ List.replicate (fn.ntmps - rargs.length) undef) := by
    rw [ha.length]; exact TRs.of ha _ _ (by simp)
  have htm : (Array.mk rargs) ++ Array.replicate (fn.ntmps - (Array.mk rargs).size) undef = ⟨rargs ++ List.replicate (fn.ntmps - rargs.length) undef⟩ := by
    apply Array.ext'; simp
  rw [htm]
  refine wp_mono (hw B w0 ρ _ w hr ht) ?_
  rintro e a w' ⟨t', h', ρ', ts', hq, hl, hr', rfl, ht'⟩
  have fin : (∃ v, aresults P fn t' h' = some v ∧ R v h') → (Act.mk ⟨ts'⟩ []).defers = [] ∧ ∃ v, (results fn (Act.mk ⟨ts'⟩ []).tmps).run P w' = .ok v w' ∧ ∃ v1 v2 h2 ρ2, (Ending.returned v) = .returned v2 ∧ R v1 h2 ∧ ρ.le ρ2 ∧ Rel B w0 ρ2 h2 w' ∧ VR ρ2 v1 v2 := by
    rintro ⟨v, h1, h2⟩
    obtain ⟨v', h3, h4⟩ := aresults_ok hr' ht' h1
    exact ⟨rfl, v', h4, v, v', h', ρ', rfl, h2, hl, hr', h3⟩
  cases e with
  | normal => exact fin hq
  | ret => exact fin hq
  | _ => exact hq.elim

/-- Temporaries may be forgotten. -/
theorem AWp.weak {c : Code} {t' : Tm} (hl : t'.length = t.length) (hs : ∀ (i : Nat) v, t'[i]? = some (some v) → t[i]? = some (some v)) (hc : AWp P c Q t' h) : AWp P c Q t h :=
  fun B w0 ρ ts w hr ht => hc B w0 ρ ts w hr (ht.weak hl hs)
end
end Go.Am
