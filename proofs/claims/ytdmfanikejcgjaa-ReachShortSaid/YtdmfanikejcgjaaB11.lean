import Derived.Test.YtdmfanikejcgjaaB10
set_option linter.unusedSimpArgs false
set_option linter.unusedVariables false
namespace Go.Am
open Go Go.RowKit

def aput (t : Tm) (dst : Option Tmp) (v : Value) : Tm :=
  match dst with
  | some d => t.set d (some v)
  | none => t

def ayielded (ops : Array Oper) (t : Tm) (j : Nat) : Option Bool :=
  match ops[j]? with
  | some o => match o.dst with
    | some d => match tget t d with
      | some (.bool b) => some b
      | _ => none
    | none => none
  | none => none

/-- Is it told what the guard asks? -/
def gok (ops : Array Oper) (o : Oper) (t : Tm) : Bool :=
  match o.guard with
  | none => true
  | some (j, _) => match ops[j]? with
    | some o' => match o'.dst with
      | some d => (tget t d).isSome
      | none => true
    | none => true

/-- May this function be entered? -/
def enterable (P : Program) (f : FuncId) : Bool :=
  match P.funcs[f]? with
  | some fn => fn.body.isSome && !(fn.name == "runtime.NumGoroutine")
  | none => false

/-- The call that an operation is: the function, and its arguments. -/
def acallee (P : Program) (o : Oper) (t : Tm) : Option (FuncId × List Value) :=
  match o.op with
  | .call ⟨.value f, args, _⟩ => match ev t f, evs t args.toList with
    | some (.func (.func g) ⟨first⟩ ⟨captured⟩), some as => if enterable P g then some (g, first ++ as ++ captured) else none
    | _, _ => none
  | _ => none

/-- What a call comes to. -/
def ACall (P : Program) (f : FuncId) (args : List Value) (h : Heap) (R : Value → Heap → Prop) : Prop :=
  ∀ (B : Nat) (w0 : World) (ρ : RMap) (rargs : List Value) (w : World), Rel B w0 ρ h w → VRs ρ args rargs →
    Calls P f ⟨rargs⟩ w fun e w' => ∃ v v' h' ρ', e = .returned v' ∧ R v h' ∧ ρ.le ρ' ∧ Rel B w0 ρ' h' w' ∧ VR ρ' v v'

theorem ACall.mono {P : Program} {f : FuncId} {args : List Value} {h : Heap} {R R' : Value → Heap → Prop} (hc : ACall P f args h R) (hR : ∀ v h', R v h' → R' v h') : ACall P f args h R' :=
  fun B w0 ρ rargs w hr hv => (hc B w0 ρ rargs w hr hv).mono fun e w' ⟨v, v', h', ρ', h1, h2, h3⟩ => ⟨v, v', h', ρ', h1, hR _ _ h2, h3⟩

/-- One operation. -/
def AOp (P : Program) (ops : Array Oper) (o : Oper) (K : Tm → Heap → Prop) (t : Tm) (h : Heap) : Prop :=
  gok ops o t = true ∧ if Region.wanted o (ayielded ops t) then
    (∃ v, apure P o t = some v ∧ K (aput t o.dst v) h) ∨ (∃ v, aread P o t h = some v ∧ K (aput t o.dst v) h) ∨ (∃ v h', aeff P o t h = some (v, h') ∧ K (aput t o.dst v) h') ∨
    (∃ f args R, acallee P o t = some (f, args) ∧ ACall P f args h R ∧ ∀ v h', R v h' → K (aput t o.dst v) h')
  else K (aput t o.dst undef) h

/-- Operations, one behind the other. -/
def AOps (P : Program) (ops : Array Oper) (K : Tm → Heap → Prop) : List Oper → Tm → Heap → Prop
  | [] => K
  | o :: rest => AOp P ops o (AOps P ops K rest)

/-- The true frame and world that stand for the plain ones. -/
def Sim (B : Nat) (w0 : World) (ρ : RMap) (K : Tm → Heap → Prop) (a : Act) (w : World) : Prop :=
  ∃ (t : Tm) (h : Heap) (ρ' : RMap) (ts : List Value), K t h ∧ ρ.le ρ' ∧ Rel B w0 ρ' h w ∧ a = ⟨⟨ts⟩, []⟩ ∧ TRs ρ' t ts

section
variable {P : Program} {B : Nat} {w0 : World}

theorem Sim.up {ρ ρ' : RMap} {K : Tm → Heap → Prop} {a : Act} {w : World} (hl : ρ.le ρ') (h : Sim B w0 ρ' K a w) : Sim B w0 ρ K a w := by
  obtain ⟨t, h, ρ2, ts, h1, h2, h3, h4, h5⟩ := h
  exact ⟨t, h, ρ2, ts, h1, RMap.le_trans hl h2, h3, h4, h5⟩

theorem Sim.mono {ρ : RMap} {K K' : Tm → Heap → Prop} {a : Act} {w : World} (hK : ∀ t h, K t h → K' t h) (h : Sim B w0 ρ K a w) : Sim B w0 ρ K' a w := by
  obtain ⟨t, h, ρ2, ts, h1, h2⟩ := h
  exact ⟨t, h, ρ2, ts, hK _ _ h1, h2⟩

theorem wanted_eq {ρ : RMap} {t : Tm} {ts : List Value} (ht : TRs ρ t ts) (ops : Array Oper) (o : Oper) (hg : gok ops o t = true) : Region.wanted o (yielded ops (Act.mk ⟨ts⟩ []).tmps) = Region.wanted o (ayielded ops t) := by
  unfold Region.wanted
  unfold gok at hg
  cases hgd : o.guard with
  | none => rfl
  | some g =>
    obtain ⟨j, want⟩ := g
    have : yielded ops (Act.mk ⟨ts⟩ []).tmps j = ayielded ops t j := by
      unfold yielded ayielded
      rw [hgd] at hg
      dsimp only at hg
      cases ho : ops[j]? with
      | none => rfl
      | some o' =>
        rw [ho] at hg
        dsimp only at hg
        cases hd : o'.dst with
        | none => simp [hd]
        | some d =>
          rw [hd] at hg
          simp only [Option.bind_some, hd, List.getElem?_toArray]
          obtain ⟨v, hq⟩ := Option.isSome_iff_exists.1 hg
          obtain ⟨v', h1, h2⟩ := ht.tget hq
          rw [h1, hq]
          cases h2 <;> rfl
    simp only [this]

theorem aput_ok {ρ : RMap} {t : Tm} {ts : List Value} (ht : TRs ρ t ts) {v v' : Value} (hv : VR ρ v v') (dst : Option Tmp) : ∃ ts', (Act.mk ⟨ts⟩ []).put dst v' = ⟨⟨ts'⟩, []⟩ ∧ TRs ρ (aput t dst v) ts' := by
  cases dst with
  | none => exact ⟨ts, rfl, ht⟩
  | some d =>
    refine ⟨ts.set d v', ?_, ht.set hv d⟩
    simp only [Act.put]
    congr 1
    apply Array.ext'; simp

/-- The true run of operations follows the plain one. -/
theorem AOps.sound (ops : Array Oper) (l : List Oper) {K : Tm → Heap → Prop} : ∀ {t : Tm} {h : Heap}, AOps P ops K l t h → ∀ {ρ : RMap} {ts : List Value} {w : World}, Rel B w0 ρ h w → TRs ρ t ts →
    wpList P ops (fun e a w => e = .normal ∧ Sim B w0 ρ K a w) l ⟨⟨ts⟩, []⟩ w := by
  induction l with
  | nil =>
    intro t h hK ρ ts w hr ht
    exact ⟨rfl, t, h, ρ, ts, hK, ρ.le_refl, hr, rfl, ht⟩
  | cons o rest ih =>
    intro t h hK ρ ts w hr ht
    simp only [AOps, AOp] at hK
    obtain ⟨hg, hK⟩ := hK
    unfold wpList
    rw [wanted_eq ht _ _ hg]
    have up : ∀ {ρ' : RMap} (hl : ρ.le ρ') {a : Act} {w : World}, wpList P ops (fun e a w => e = .normal ∧ Sim B w0 ρ' K a w) rest a w → wpList P ops (fun e a w => e = .normal ∧ Sim B w0 ρ K a w) rest a w := by
      intro ρ' hl a w hw
      have mono : ∀ (l : List Oper) (a : Act) (w : World), wpList P ops (fun e a w => e = .normal ∧ Sim B w0 ρ' K a w) l a w → wpList P ops (fun e a w => e = .normal ∧ Sim B w0 ρ K a w) l a w := by
        intro l
        induction l with
        | nil => intro a w h; exact ⟨h.1, h.2.up hl⟩
        | cons o l ih =>
          intro a w h
          unfold wpList at h ⊢
          split at h
          · rename_i hw
            rw [if_pos hw]
            rcases h with h | ⟨h1, a2, w2, h2, _⟩
            · left
              unfold Oper.wp at h ⊢
              revert h
              generalize (execOp a.eval o).run P w = r
              intro h
              cases r with
              | ok n w' =>
                cases n with
                | value v => simp only [Oper.upon] at h ⊢; exact ih _ _ h
                | skip => simp only [Oper.upon] at h ⊢; exact ih _ _ h
                | defer d => simp only [Oper.upon] at h ⊢; exact ih _ _ h
                | row r as => simp only [Oper.upon] at h ⊢; exact Rows.mono h fun v w'' he => ih _ _ he
                | enter f as =>
                  simp only [Oper.upon] at h ⊢
                  refine Calls.mono h ?_
                  rintro (v | c | _) w'' he
                  · exact ih _ _ he
                  · exact absurd he.1 (by simp)
                  · obtain ⟨_, _, h2, _⟩ := he; cases h2
                | _ => simp only [Oper.upon] at h
              | halt x w' =>
                cases x <;> simp only [Oper.upon] at h ⊢ <;> first | exact h | exact absurd h.1 (by simp)
            · cases h2
          · rename_i hw
            rw [if_neg hw]
            exact ih _ _ h
      exact mono rest a w hw
    split at hK
    · rename_i hw
      rw [if_pos hw]
      left
      rcases hK with ⟨v, h1, h2⟩ | ⟨v, h1, h2⟩ | ⟨v, h', h1, h2⟩ | ⟨f, args, R, h1, h2, h3⟩
      · obtain ⟨v', h3, h4⟩ := apure_ok h1 ht
        unfold Oper.wp
        have h4' := h4 w
        simp only [tev] at h4'
        rw [h4']
        simp only [Oper.upon]
        obtain ⟨ts', h5, h6⟩ := aput_ok ht h3 o.dst
        rw [h5]
        exact ih h2 hr h6
      · obtain ⟨v', h3, h4⟩ := aread_ok hr h1 ht
        unfold Oper.wp
        simp only [tev] at h4
        rw [h4]
        simp only [Oper.upon]
        obtain ⟨ts', h5, h6⟩ := aput_ok ht h3 o.dst
        rw [h5]
        exact ih h2 hr h6
      · obtain ⟨ρ', w', n, h3, h4, h5, h6⟩ := aeff_ok hr h1 ht
        unfold Oper.wp
        simp only [tev] at h4
        rw [h4]
        cases n <;> simp only [NR] at h5
        · simp only [Oper.upon]
          obtain ⟨ts', h7, h8⟩ := aput_ok (ht.mono h3) h5 o.dst
          rw [h7]
          exact up h3 (ih h2 h6 h8)
        · subst h5
          simp only [Oper.upon]
          obtain ⟨ts', h7, h8⟩ := aput_ok (ht.mono h3) VR.undef o.dst
          rw [h7]
          exact up h3 (ih h2 h6 h8)
      · unfold acallee at h1
        split at h1
        rotate_left
        · cases h1
        rename_i fo as ats hop
        split at h1
        rotate_left
        · cases h1
        rename_i g first captured as' hf has
        split at h1 <;> simp at h1
        rename_i hen
        obtain ⟨hg, ha⟩ := h1
        subst hg
        have ha : first ++ as' ++ captured = args := by simpa using ha
        subst ha
        have hfv := ev_ok ht hf
        have hav := evs_ok ht has
        generalize hfr : tev ts fo = fr at hfv
        cases hfv with
        | @func _ _ ys _ vs hfst hcap =>
          have hen' := hen
          unfold enterable at hen'
          split at hen'
          rotate_left
          · cases hen'
          rename_i fn hfn
          simp only [Bool.and_eq_true] at hen'
          obtain ⟨hbody, hname⟩ := hen'
          have hb2 : fn.body.isNone = false := by cases hq : fn.body <;> simp_all
          have hrun : (execOp (tev ts) o).run P w = .ok (.enter g ⟨ys ++ as.toList.map (tev ts) ++ vs⟩) w := by
            have e : as.map (tev ts) = ⟨as.toList.map (tev ts)⟩ := by apply Array.ext'; simp
            have e2 : ∀ (a b c : List Value), (Array.mk a ++ Array.mk b) ++ Array.mk c = Array.mk (a ++ b ++ c) := by
              intro a b c; apply Array.ext'; simp
            simp only [execOp, hop, resolve, Sem.run_bind, Sem.run_pure, Result.andThen_ok, hfr, Deferred.ofValue, invoke, callFunc, run_program, hfn, e, e2]
            rw [if_neg (by simpa using hname), if_neg (by simp [hb2])]
            rfl
          unfold Oper.wp
          simp only [tev] at hrun
          rw [hrun]
          simp only [Oper.upon]
          refine (h2 B w0 ρ _ w hr ((hfst.append hav).append hcap)).mono ?_
          rintro e w' ⟨v, v', h', ρ', rfl, h4, h5, h6, h7⟩
          obtain ⟨ts', h8, h9⟩ := aput_ok (ht.mono h5) h7 o.dst
          simp only
          rw [h8]
          exact up h5 (ih (h3 _ _ h4) h6 h9)
    · rename_i hw
      rw [if_neg hw]
      obtain ⟨ts', h5, h6⟩ := aput_ok ht VR.undef o.dst
      rw [h5]
      exact ih hK hr h6
end
end Go.Am
