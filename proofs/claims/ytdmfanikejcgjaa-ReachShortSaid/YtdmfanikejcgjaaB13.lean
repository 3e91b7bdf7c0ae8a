import Derived.Test.YtdmfanikejcgjaaB12
set_option linter.unusedSimpArgs false
set_option linter.unusedVariables false
namespace Go.Am
open Go Go.RowKit

def intT (P : Program) (T : TypeId) : Bool :=
  match P.underlying T with
  | some (.int _) => true
  | _ => false

/-- 0: asks its operands alone; 1: reads memory; 2: makes a new object; 3: writes; 4: calls, or anything. -/
def cls (P : Program) : Op → Nat
  | .move _ | .assign _ | .pick .. | .build .. | .nilCheck _ | .binOp .. | .unOp .. | .makeFunc .. | .slice .. | .fieldAddr .. | .field .. | .indexAddr .. | .index .. | .extract .. => 0
  | .call ⟨.builtin .cap, _, _⟩ | .call ⟨.builtin .min, _, _⟩ | .call ⟨.builtin .max, _, _⟩ => 0
  | .load .. | .lookup .. | .call ⟨.builtin .len, _, _⟩ => 1
  | .box .. | .alloc _ | .buildSlice .. | .makeSlice .. | .makeMap .. => 2
  | .convert s _ _ => if intT P s then 0 else 3
  | .store .. | .mapUpdate .. | .insert .. | .call ⟨.builtin _, _, _⟩ => 3
  | _ => 4

def agree (t t' : Tm) (xs : List Operand) : Prop := ∀ i : Nat, Operand.tmp i ∈ xs → t[i]? = t'[i]?

section
variable {P : Program} {t t' : Tm} {h : Heap}

theorem ev_congr {x : Operand} (ha : agree t t' [x]) : ev t x = ev t' x := by
  cases x with
  | tmp i => simp only [ev, tget]; rw [ha i (by simp)]
  | _ => rfl

theorem evs_congr {xs : List Operand} (ha : agree t t' xs) : evs t xs = evs t' xs := by
  induction xs with
  | nil => rfl
  | cons x xs ih =>
    simp only [evs]
    rw [ev_congr (t := t) (t' := t') (fun i hi => ha i (by simp at hi; simp [hi])), ih fun i hi => ha i (by simp [hi])]

theorem evp_congr {xs : List (Nat × Operand)} (ha : agree t t' (xs.map (·.2))) : evp t xs = evp t' xs := by
  induction xs with
  | nil => rfl
  | cons x xs ih =>
    obtain ⟨n, x⟩ := x
    simp only [evp]
    rw [ev_congr (t := t) (t' := t') (fun i hi => ha i (by simp at hi; simp [hi])), ih fun i hi => ha i (by simp at hi ⊢; exact .inr hi)]

theorem evo_congr {x : Option Operand} (ha : agree t t' x.toList) : evo t x = evo t' x := by
  cases x with
  | none => rfl
  | some x => simp only [evo]; rw [ev_congr (t := t) (t' := t') (fun i hi => ha i (by simpa using hi))]

theorem agree.sub {xs ys : List Operand} (ha : agree t t' ys) (hs : ∀ x ∈ xs, x ∈ ys) : agree t t' xs := fun i hi => ha i (hs _ hi)

theorem apure_congr {o : Oper} (ha : agree t t' o.op.operands.toList) : apure P o t = apure P o t' := by
  obtain ⟨dst, op, ty, pos, aft, grd⟩ := o
  dsimp only at ha
  have e1 : ∀ {x : Operand}, x ∈ op.operands.toList → ev t x = ev t' x := fun hx => ev_congr (ha.sub (by simpa using hx))
  unfold apure
  dsimp only
  cases op with
  | move x => exact e1 (by simp [Op.operands])
  | assign x => exact e1 (by simp [Op.operands])
  | pick c a b => dsimp only; rw [e1 (x := c) (by simp [Op.operands]), e1 (x := a) (by simp [Op.operands]), e1 (x := b) (by simp [Op.operands])]
  | build T ps => dsimp only; rw [evp_congr (ha.sub (by simp [Op.operands]))]
  | nilCheck x => dsimp only; rw [e1 (x := x) (by simp [Op.operands])]
  | binOp op T x y yt => dsimp only; rw [e1 (x := x) (by simp [Op.operands]), e1 (x := y) (by simp [Op.operands])]
  | unOp op T x => dsimp only; rw [e1 (x := x) (by simp [Op.operands])]
  | convert s d x => dsimp only; rw [e1 (x := x) (by simp [Op.operands])]
  | makeFunc fn f c => dsimp only; rw [evs_congr (xs := f.toList) (ha.sub (by simp [Op.operands]; intro x hx; exact .inl hx)), evs_congr (xs := c.toList) (ha.sub (by simp [Op.operands]; intro x hx; exact .inr hx))]
  | slice T x l hh m =>
    dsimp only
    rw [e1 (x := x) (by simp [Op.operands]), evo_congr (x := l) (ha.sub (by simp [Op.operands]; intro z hz; simp [hz])), evo_congr (x := hh) (ha.sub (by simp [Op.operands]; intro z hz; simp [hz])), evo_congr (x := m) (ha.sub (by simp [Op.operands]; intro z hz; simp [hz]))]
  | fieldAddr S x f => dsimp only; rw [e1 (x := x) (by simp [Op.operands])]
  | field S x f => dsimp only; rw [e1 (x := x) (by simp [Op.operands])]
  | indexAddr T x i => dsimp only; rw [e1 (x := x) (by simp [Op.operands]), e1 (x := i) (by simp [Op.operands])]
  | index T x i => dsimp only; rw [e1 (x := x) (by simp [Op.operands]), e1 (x := i) (by simp [Op.operands])]
  | extract x i => dsimp only; rw [e1 (x := x) (by simp [Op.operands])]
  | call c =>
    obtain ⟨callee, args, ats⟩ := c
    have ea : evs t args.toList = evs t' args.toList := evs_congr (ha.sub (by intro x hx; simp only [Op.operands, Call.operands, Array.toList_append, List.mem_append]; exact .inr hx))
    cases callee with
    | builtin b => cases b <;> first | rfl | (dsimp only; rw [ea])
    | _ => rfl
  | _ => rfl

theorem aread_congr {o : Oper} (ha : agree t t' o.op.operands.toList) : aread P o t h = aread P o t' h := by
  obtain ⟨dst, op, ty, pos, aft, grd⟩ := o
  dsimp only at ha
  have e1 : ∀ {x : Operand}, x ∈ op.operands.toList → ev t x = ev t' x := fun hx => ev_congr (ha.sub (by simpa using hx))
  unfold aread
  dsimp only
  cases op with
  | load T x => dsimp only; rw [e1 (x := x) (by simp [Op.operands])]
  | lookup T x k ok => dsimp only; rw [e1 (x := x) (by simp [Op.operands]), e1 (x := k) (by simp [Op.operands])]
  | convert s d x => dsimp only; rw [e1 (x := x) (by simp [Op.operands])]
  | call c =>
    obtain ⟨callee, args, ats⟩ := c
    have ea : evs t args.toList = evs t' args.toList := evs_congr (ha.sub (by intro x hx; simp only [Op.operands, Call.operands, Array.toList_append, List.mem_append]; exact .inr hx))
    cases callee with
    | builtin b => cases b <;> first | rfl | (dsimp only; rw [ea])
    | _ => rfl
  | _ => rfl

theorem aeff_congr {o : Oper} (ha : agree t t' o.op.operands.toList) : aeff P o t h = aeff P o t' h := by
  obtain ⟨dst, op, ty, pos, aft, grd⟩ := o
  dsimp only at ha
  have e1 : ∀ {x : Operand}, x ∈ op.operands.toList → ev t x = ev t' x := fun hx => ev_congr (ha.sub (by simpa using hx))
  unfold aeff
  dsimp only
  cases op with
  | box T x => dsimp only; rw [e1 (x := x) (by simp [Op.operands])]
  | buildSlice T n ps => dsimp only; rw [evp_congr (ha.sub (by simp [Op.operands]))]
  | makeSlice T l c => dsimp only; rw [e1 (x := l) (by simp [Op.operands]), e1 (x := c) (by simp [Op.operands])]
  | makeMap T r => dsimp only; rw [evo_congr (ha.sub (by simp [Op.operands]))]
  | store T a x => dsimp only; rw [e1 (x := a) (by simp [Op.operands]), e1 (x := x) (by simp [Op.operands])]
  | mapUpdate T m k x => dsimp only; rw [e1 (x := m) (by simp [Op.operands]), e1 (x := k) (by simp [Op.operands]), e1 (x := x) (by simp [Op.operands])]
  | insert T m k x => dsimp only; rw [e1 (x := m) (by simp [Op.operands]), e1 (x := k) (by simp [Op.operands]), e1 (x := x) (by simp [Op.operands])]
  | convert s d x => dsimp only; rw [e1 (x := x) (by simp [Op.operands])]
  | call c =>
    obtain ⟨callee, args, ats⟩ := c
    have ea : evs t args.toList = evs t' args.toList := evs_congr (ha.sub (by intro x hx; simp only [Op.operands, Call.operands, Array.toList_append, List.mem_append]; exact .inr hx))
    cases callee with
    | builtin b => cases b <;> first | rfl | (dsimp only; rw [ea])
    | _ => rfl
  | _ => rfl

theorem acallee_congr {o : Oper} (ha : agree t t' o.op.operands.toList) : acallee P o t = acallee P o t' := by
  obtain ⟨dst, op, ty, pos, aft, grd⟩ := o
  dsimp only at ha
  unfold acallee
  dsimp only
  cases op with
  | call c =>
    obtain ⟨callee, args, ats⟩ := c
    have ea : evs t args.toList = evs t' args.toList := evs_congr (ha.sub (by intro x hx; simp only [Op.operands, Call.operands, Array.toList_append, List.mem_append]; exact .inr hx))
    cases callee with
    | value f => dsimp only; rw [ea, ev_congr (ha.sub (by simp [Op.operands, Call.operands]))]
    | _ => rfl
  | _ => rfl

/-- An operation of class 0 is told by its operands alone. -/
theorem only_pure {o : Oper} (hc : cls P o.op = 0) : aread P o t h = none ∧ aeff P o t h = none ∧ acallee P o t = none := by
  obtain ⟨dst, op, ty, pos, aft, grd⟩ := o
  dsimp only at hc
  unfold aread aeff acallee
  dsimp only
  cases op with
  | convert s d x =>
    have hi : intT P s = true := by
      simp only [cls] at hc
      split at hc
      · assumption
      · cases hc
    unfold intT at hi
    split at hi
    · rename_i k hu
      refine ⟨?_, ?_, rfl⟩
      · dsimp only
        split
        · unfold abytesStr; rw [hu]
        · rfl
      · dsimp only
        split
        · unfold astrBytes; rw [hu]
        · rfl
    · cases hi
  | call c =>
    obtain ⟨callee, args, ats⟩ := c
    cases callee with
    | builtin b => cases b <;> first | (exact ⟨rfl, rfl, rfl⟩) | ((simp [cls] at hc))
    | _ => (simp [cls] at hc)
  | _ => first | (exact ⟨rfl, rfl, rfl⟩) | ((simp [cls] at hc))

theorem only_read {o : Oper} (hc : cls P o.op = 1) : aeff P o t h = none ∧ acallee P o t = none := by
  obtain ⟨dst, op, ty, pos, aft, grd⟩ := o
  dsimp only at hc
  unfold aeff acallee
  dsimp only
  cases op with
  | call c =>
    obtain ⟨callee, args, ats⟩ := c
    cases callee with
    | builtin b => cases b <;> first | (exact ⟨rfl, rfl⟩) | ((simp [cls] at hc))
    | _ => (simp [cls] at hc)
  | convert s d x => simp only [cls] at hc; split at hc <;> cases hc
  | _ => first | (exact ⟨rfl, rfl⟩) | ((simp [cls] at hc))

/-- An operation of class 2 makes a new object, and nothing else. -/
theorem only_new {o : Oper} (hc : cls P o.op = 2) : apure P o t = none ∧ aread P o t h = none ∧ acallee P o t = none ∧ ∀ v h', aeff P o t h = some (v, h') → ∃ l, h' = h ++ l := by
  obtain ⟨dst, op, ty, pos, aft, grd⟩ := o
  dsimp only at hc
  have hbox : ∀ {v u : Value} {h' : Heap}, abox v h = some (u, h') → ∃ l, h' = h ++ l := by
    intro v u h' hb; simp [abox] at hb; exact ⟨_, hb.2.symm⟩
  have key : ∀ v h', aeff P ⟨dst, op, ty, pos, aft, grd⟩ t h = some (v, h') → ∃ l, h' = h ++ l := by
    intro v h' hb
    unfold aeff at hb
    dsimp only at hb
    cases op with
    | box T x => dsimp only at hb; split at hb; exact hbox hb; cases hb
    | alloc T =>
      dsimp only [aalloc] at hb
      split at hb
      · split at hb
        · split at hb
          · exact hbox hb
          · cases hb
        · cases hb
      · cases hb
    | buildSlice T n ps =>
      dsimp only [abuildSlice] at hb
      repeat' (first | (cases hb; done) | (split at hb))
      all_goals first | (cases hb; done) | (simp at hb; exact ⟨_, hb.2.symm⟩)
    | makeSlice T l c =>
      dsimp only [amakeSlice] at hb
      repeat' (first | (cases hb; done) | (split at hb))
      all_goals first | (cases hb; done) | (simp at hb; exact ⟨_, hb.2.symm⟩)
    | makeMap T r =>
      dsimp only [amakeMap] at hb
      repeat' (first | (cases hb; done) | (split at hb))
      all_goals first | (cases hb; done) | (simp at hb; exact ⟨_, hb.2.symm⟩)
    | call c =>
      obtain ⟨callee, args, ats⟩ := c
      cases callee with
      | builtin b => cases b <;> (simp [cls] at hc)
      | _ => (simp [cls] at hc)
    | convert s d x => simp only [cls] at hc; split at hc <;> cases hc
    | _ => (simp [cls] at hc)
  refine ⟨?_, ?_, ?_, key⟩ <;>
  · first | unfold apure | unfold aread | unfold acallee
    dsimp only
    cases op with
    | call c =>
      obtain ⟨callee, args, ats⟩ := c
      cases callee with
      | builtin b => cases b <;> first | rfl | ((simp [cls] at hc))
      | _ => (simp [cls] at hc)
    | convert s d x => simp only [cls] at hc; split at hc <;> cases hc
    | _ => first | rfl | ((simp [cls] at hc))

theorem alookup_push {T : TypeId} {x k v : Value} {ok : Bool} {l : Heap} (hv : alookup P T x k ok h = some v) : alookup P T x k ok (h ++ l) = some v := by
  unfold alookup at hv ⊢
  split at hv
  rotate_left
  · cases hv
  rename_i kt et hu
  simp only [hu]
  dsimp only at hv ⊢
  cases x with
  | map r =>
    cases r with
    | none => exact hv
    | some b =>
      dsimp only at hv ⊢
      cases hb : h[b]? with
      | none => rw [hb] at hv; simp at hv
      | some o =>
        have hlt := (List.getElem?_eq_some_iff.1 hb).1
        rw [List.getElem?_append_left hlt]
        exact hv
  | _ => simp at hv

theorem no_call {o : Oper} (hc : cls P o.op ≠ 4) : acallee P o t = none := by
  obtain ⟨dst, op, ty, pos, aft, grd⟩ := o
  dsimp only at hc
  unfold acallee
  dsimp only
  cases op with
  | call c =>
    obtain ⟨callee, args, ats⟩ := c
    cases callee with
    | builtin b => cases b <;> first | rfl | ((simp [cls] at hc))
    | _ => (simp [cls] at hc)
  | _ => first | rfl | ((simp [cls] at hc))

theorem aread_push {o : Oper} {v : Value} {l : Heap} (hc : cls P o.op = 1) (hv : aread P o t h = some v) : aread P o t (h ++ l) = some v := by
  obtain ⟨dst, op, ty, pos, aft, grd⟩ := o
  dsimp only at hc
  unfold aread at hv ⊢
  dsimp only at hv ⊢
  cases op with
  | load T x =>
    dsimp only at hv ⊢
    cases hx : ev t x with
    | none => rw [hx] at hv; cases hv
    | some u =>
      rw [hx] at hv
      dsimp only at hv ⊢
      unfold aload at hv ⊢
      split at hv
      · rename_i b o
        try dsimp only
        cases hb : h[b]? with
        | none => rw [hb] at hv; simp at hv
        | some o =>
          have hlt := (List.getElem?_eq_some_iff.1 hb).1
          rw [List.getElem?_append_left hlt]
          exact hv
      · cases hv
  | lookup T x k ok =>
    dsimp only at hv ⊢
    cases hx : ev t x with
    | none => rw [hx] at hv; cases hv
    | some u =>
      cases hk : ev t k with
      | none => rw [hx, hk] at hv; cases hv
      | some q => rw [hx, hk] at hv; exact alookup_push hv
  | call c =>
    obtain ⟨callee, args, ats⟩ := c
    cases callee with
    | builtin b =>
      cases b <;> first | ((simp [cls] at hc); done) | skip
      dsimp only at hv ⊢
      cases hx : evs t args.toList with
      | none => rw [hx] at hv; cases hv
      | some vs =>
        rw [hx] at hv
        dsimp only at hv ⊢
        unfold amapLen at hv ⊢
        generalize ats[0]? = T0 at hv ⊢
        cases T0 with
        | none => simp at hv
        | some T =>
          cases vs with
          | nil => simp at hv
          | cons x xs =>
            cases xs with
            | cons y ys => simp at hv
            | nil =>
              cases x with
              | map r =>
                cases r with
                | none => simp at hv
                | some b =>
                  dsimp only at hv ⊢
                  cases hb : h[b]? with
                  | none => rw [hb] at hv; split at hv <;> simp_all
                  | some o =>
                    have hlt := (List.getElem?_eq_some_iff.1 hb).1
                    rw [List.getElem?_append_left hlt]
                    rw [hb] at hv ⊢
                    exact hv
              | _ => simp at hv
    | _ => (simp [cls] at hc)
  | convert s d x => simp only [cls] at hc; split at hc <;> cases hc
  | _ => (simp [cls] at hc)
end
end Go.Am
