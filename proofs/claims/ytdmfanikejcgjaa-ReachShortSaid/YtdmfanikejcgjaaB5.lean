import Derived.Test.YtdmfanikejcgjaaB4
set_option linter.unusedSimpArgs false
set_option linter.unusedVariables false
namespace Go.Am
open Go Go.RowKit

/-- What the tables alone tell, if it is a plain value. -/
def prun (P : Program) (s : Sem Value) : Option Value :=
  match pureRun P s with
  | some v => if plainV v then some v else none
  | none => none

theorem prun_ok {P : Program} {ρ : RMap} {s : Sem Value} {v : Value} (h : prun P s = some v) : VR ρ v v ∧ ∀ w, s.run P w = .ok v w := by
  unfold prun at h
  split at h
  · rename_i v' hv
    split at h <;> simp at h
    subst h
    exact ⟨VR.plain ‹_›, fun w => pureRun_ok hv w⟩
  · cases h

/-- '==' and '!=' against nil. -/
def anil (P : Program) (T : TypeId) (a b : Value) : Option Bool :=
  match P.underlying T, a, b with
  | some (.pointer _), .pointer none, .pointer (some _) => some false
  | some (.pointer _), .pointer (some _), .pointer none => some false
  | some (.slice _), .slice none _ _, .slice (some _) _ _ => some false
  | some (.slice _), .slice (some _) _ _, .slice none _ _ => some false
  | some (.map _ _), .map none, .map (some _) => some false
  | some (.map _ _), .map (some _), .map none => some false
  | some (.func _ _ _), .nilFunc, .func _ _ _ => some false
  | some (.func _ _ _), .func _ _ _, .nilFunc => some false
  | _, _, _ => none

def abin (P : Program) (op : BinOp) (T : TypeId) (x y : Operand) (a b : Value) : Option Value :=
  if plainV a && plainV b then prun P (do eqGuard op T x y a b; binOp op T a b)
  else match op with
    | .eql => (anil P T a b).map .bool
    | .neq => (anil P T a b).map fun e => .bool !e
    | _ => none

def intV : Value → Option Int
  | .int _ i => some i
  | _ => none

def boundN (v : Option Value) (dflt y : Nat) : Option Nat :=
  match v with
  | none => some dflt
  | some v => match v with
    | .int _ i => if 0 ≤ i ∧ i ≤ y then some i.toNat else none
    | _ => none

/-- A cut of a slice: from lo to hi, of capacity mx. -/
def acut (P : Program) (T : TypeId) (x : Value) (lo hi mx : Option Value) : Option Value :=
  match P.underlying T, x with
  | some (.slice e), .slice a n c =>
    match P.info? e with
    | none => none
    | some inf =>
      match boundN mx c c with
      | none => none
      | some m =>
        if mx.isSome && decide (4611686018427387904 ≤ c) && (decide (n < m) || decide (4611686018427387904 ≤ m)) then none else
        if mx.isSome && hi.isNone then none else
        match boundN hi n m with
        | none => none
        | some h =>
          if decide (4611686018427387904 ≤ c) && decide (n < h) then none else
          match boundN lo 0 h with
          | none => none
          | some l =>
            if decide (4611686018427387904 ≤ m) && decide (m - l < 4611686018427387904) then none else
            match a with
            | none => some (.slice none (h - l) (m - l))
            | some ⟨b, o, none⟩ => some (.slice (some ⟨b, if m = l then o else o + l * inf.size, none⟩) (h - l) (m - l))
            | some ⟨_, _, some _⟩ => none
  | some (.array n e), .pointer (some ⟨b, o, none⟩) =>
    match P.info? e with
    | none => none
    | some inf =>
      if mx.isSome then none else
      match boundN hi n n with
      | none => none
      | some h => match boundN lo 0 h with
        | none => none
        | some l => if 4611686018427387904 ≤ n then none else some (.slice (some ⟨b, if n = l then o else o + l * inf.size, none⟩) (h - l) (n - l))
  | some .string, .string s =>
    if mx.isSome then none else
    match boundN hi s.size s.size with
    | none => none
    | some h => match boundN lo 0 h with
      | none => none
      | some l => some (.string (s.extract l h))
  | _, _ => none

def evo (t : Tm) : Option Operand → Option (Option Value)
  | none => some none
  | some x => match ev t x with
    | some v => some (some v)
    | none => none

def evp (t : Tm) : List (Nat × Operand) → Option (List (Nat × Value))
  | [] => some []
  | (i, x) :: xs => match ev t x, evp t xs with
    | some v, some vs => some ((i, v) :: vs)
    | _, _ => none

def afieldAddr (P : Program) (S : TypeId) (x : Value) (f : Nat) : Option Value :=
  match P.underlying S, x with
  | some (.struct fs), .pointer (some ⟨b, o, none⟩) => match fs[f]? with
    | some fd => match P.info? fd.type with
      | some i => if i.size = 0 then none else some (.pointer (some ⟨b, o + fd.offset, none⟩))
      | none => none
    | none => none
  | _, _ => none

def afield (P : Program) (S : TypeId) (x : Value) (f : Nat) : Option Value :=
  match P.underlying S, x with
  | some (.struct fs), .agg ⟨cs⟩ => match fs[f]? with
    | some fd => apart P fd.type cs fd.offset
    | none => none
  | _, _ => none

def aindexAddr (P : Program) (T : TypeId) (x ix : Value) : Option Value :=
  match P.underlying T, x, ix with
  | some (.slice e), .slice (some ⟨b, o, none⟩) n _, .int _ i => match P.info? e with
    | some inf => if 0 ≤ i ∧ i < n then some (.pointer (some ⟨b, o + i.toNat * inf.size, none⟩)) else none
    | none => none
  | some (.array n e), .pointer (some ⟨b, o, none⟩), .int _ i => match P.info? e with
    | some inf => if 0 ≤ i ∧ i < n then some (.pointer (some ⟨b, o + i.toNat * inf.size, none⟩)) else none
    | none => none
  | _, _, _ => none

def aindex (P : Program) (T : TypeId) (x ix : Value) : Option Value :=
  match P.underlying T, x, ix with
  | some (.array n e), .agg ⟨cs⟩, .int _ i => match P.info? e with
    | some inf => if 0 ≤ i ∧ i < n then apart P e cs (i.toNat * inf.size) else none
    | none => none
  | some .string, .string s, .int _ i => if 0 ≤ i then match s[i.toNat]? with
      | some b => some (.int .u8 b.toNat)
      | none => none
    else none
  | _, _, _ => none

def alen (P : Program) (ats : Array TypeId) (vs : List Value) : Option Value :=
  match ats[0]?, vs with
  | some T, [x] => match P.underlying T, x with
    | some .string, .string s => some (.int .i64 s.size)
    | some (.array n _), _ => some (.int .i64 n)
    | some (.slice _), .slice _ n _ => some (.int .i64 n)
    | some (.map _ _), .map none => some (.int .i64 0)
    | _, _ => none
  | _, _ => none

def acap (P : Program) (ats : Array TypeId) (vs : List Value) : Option Value :=
  match ats[0]?, vs with
  | some T, [x] => match P.underlying T, x with
    | some (.array n _), _ => some (.int .i64 n)
    | some (.slice _), .slice _ _ c => if c < 4611686018427387904 then some (.int .i64 c) else none
    | _, _ => none
  | _, _ => none

/-- An operation that asks its operands alone. -/
def apure (P : Program) (o : Oper) (t : Tm) : Option Value :=
  match o.op with
  | .move x => ev t x
  | .assign x => ev t x
  | .pick c a b => match ev t c with
    | some (.bool true) => ev t a
    | some (.bool false) => ev t b
    | _ => none
  | .build T parts => match evp t parts.toList with
    | some ps => abuild P T ps
    | none => none
  | .nilCheck x => match ev t x with
    | some (.pointer (some a)) => some (.pointer (some a))
    | some (.func (.func f) a b) => some (.func (.func f) a b)
    | _ => none
  | .binOp op T x y _ => match ev t x, ev t y with
    | some a, some b => abin P op T x y a b
    | _, _ => none
  | .unOp op _ x => match ev t x with
    | some a => if plainV a then prun P (Op.unary op a) else none
    | none => none
  | .convert s d x => match ev t x with
    | some a => if plainV a then prun P (convert s d a) else none
    | none => none
  | .makeFunc fn first captured => match evs t first.toList, evs t captured.toList with
    | some f, some c => some (.func fn ⟨f⟩ ⟨c⟩)
    | _, _ => none
  | .slice T x lo hi mx => match ev t x, evo t lo, evo t hi, evo t mx with
    | some v, some l, some h, some m => acut P T v l h m
    | _, _, _, _ => none
  | .fieldAddr S x f => match ev t x with
    | some v => afieldAddr P S v f
    | none => none
  | .field S x f => match ev t x with
    | some v => afield P S v f
    | none => none
  | .indexAddr T x ix => match ev t x, ev t ix with
    | some v, some i => aindexAddr P T v i
    | _, _ => none
  | .index T x ix => match ev t x, ev t ix with
    | some v, some i => aindex P T v i
    | _, _ => none
  | .extract x i => match ev t x with
    | some (.tuple ⟨vs⟩) => vs[i]?
    | _ => none
  | .call ⟨.builtin .len, args, ats⟩ => match evs t args.toList with
    | some vs => alen P ats vs
    | none => none
  | .call ⟨.builtin .cap, args, ats⟩ => match evs t args.toList with
    | some vs => acap P ats vs
    | none => none
  | .call ⟨.builtin .min, args, ats⟩ => match evs t args.toList with
    | some vs => if plainV.plainVs vs then prun P (Builtin.min_ ats o.type ⟨vs⟩) else none
    | none => none
  | .call ⟨.builtin .max, args, ats⟩ => match evs t args.toList with
    | some vs => if plainV.plainVs vs then prun P (Builtin.max_ ats o.type ⟨vs⟩) else none
    | none => none
  | _ => none

section
variable {P : Program} {ρ : RMap} {t : Tm} {ts : List Value}

def OptR (ρ : RMap) (a b : Option Value) : Prop := match a, b with
  | none, none => True
  | some a, some b => VR ρ a b
  | _, _ => False

theorem evp_ok (h : TRs ρ t ts) {xs : List (Nat × Operand)} {vs : List (Nat × Value)} (he : evp t xs = some vs) : PRs ρ vs (xs.map fun p => (p.1, tev ts p.2)) := by
  induction xs generalizing vs with
  | nil => simp [evp] at he; subst he; exact .nil
  | cons x xs ih =>
    obtain ⟨i, x⟩ := x
    simp only [evp] at he
    split at he
    · rename_i v vs' h1 h2
      simp at he; subst he
      exact .cons (ev_ok h h1) (ih h2)
    · cases he

theorem evo_ok (h : TRs ρ t ts) {x : Option Operand} {v : Option Value} (he : evo t x = some v) : OptR ρ v (x.map (tev ts)) := by
  cases x with
  | none => simp [evo] at he; subst he; trivial
  | some x =>
    simp only [evo] at he
    split at he
    · simp at he; subst he; exact ev_ok h ‹_›
    · cases he

theorem eqGuard_nil {op : BinOp} {T : TypeId} {x y : Operand} {a b : Value} (h : (∀ p q, ¬ (a = .agg p ∧ b = .agg q)) ∧ ¬ (a = .nilIface ∧ b = .nilIface)) (w : World) : (eqGuard op T x y a b).run P w = .ok () w := by
  have key : ∀ op', (op' = .eql ∨ op' = .neq) → (eqGuard op' T x y a b).run P w = .ok () w := by
    intro op' ho
    have : (eqGuard op' T x y a b) = (eqGuard .eql T x y a b) := by rcases ho with rfl | rfl <;> rfl
    rw [this]
    unfold eqGuard
    simp only [Bool.not_true, Bool.false_eq_true, if_false]
    split
    · exact (h.2 ⟨rfl, rfl⟩).elim
    · exact (h.1 _ _ ⟨rfl, rfl⟩).elim
    · rfl
  cases op <;> first | rfl | exact key _ (.inl rfl) | exact key _ (.inr rfl)

theorem equal_succ (T : TypeId) (a b : Value) : Op.equal T a b = Op.equalIn (9999 + 1) T a b := rfl

theorem anil_ok {T : TypeId} {a b a' b' : Value} {e : Bool} (h : anil P T a b = some e) (ha : VR ρ a a') (hb : VR ρ b b') (w : World) :
    (Op.equal T a' b').run P w = .ok e w ∧ ((∀ p q, ¬ (a' = .agg p ∧ b' = .agg q)) ∧ ¬ (a' = .nilIface ∧ b' = .nilIface)) ∧ ∀ op x y, (op = .eql ∨ op = .neq) → (do eqGuard op T x y a' b'; binOp op T a' b').run P w = .ok (.bool (if op = .eql then e else !e)) w := by
  have key : (Op.equal T a' b').run P w = .ok e w ∧ ((∀ p q, ¬ (a' = .agg p ∧ b' = .agg q)) ∧ ¬ (a' = .nilIface ∧ b' = .nilIface)) ∧ (∀ k n, a' ≠ .int k n) ∧ (∀ s, a' ≠ .string s) ∧ (∀ k n, a' ≠ .float k n) ∧ (∀ k m n, a' ≠ .complex k m n) := by
    unfold anil at h
    split at h <;> simp at h <;> subst h <;> cases ha <;> cases hb <;>
      (refine ⟨?_, ⟨by simp, by simp⟩, by simp, by simp, by simp, by simp⟩; rw [equal_succ, Op.equalIn]; simp [run_underlying' (by assumption)])
  obtain ⟨k1, k2, k3, k4, k5, k6⟩ := key
  refine ⟨k1, k2, fun op x y hop => ?_⟩
  simp only [Sem.run_bind, eqGuard_nil k2, Result.andThen_ok]
  rcases hop with rfl | rfl
  · have : binOp .eql T a' b' = (do pure (.bool (← Op.equal T a' b'))) := by
      cases a' <;> cases b' <;> first | rfl | (exact (k3 _ _ rfl).elim) | (exact (k4 _ rfl).elim) | (exact (k5 _ _ rfl).elim) | (exact (k6 _ _ _ rfl).elim)
    rw [this]; simp [k1]
  · have : binOp .neq T a' b' = (do pure (.bool (!(← Op.equal T a' b')))) := by
      cases a' <;> cases b' <;> first | rfl | (exact (k3 _ _ rfl).elim) | (exact (k4 _ rfl).elim) | (exact (k5 _ _ rfl).elim) | (exact (k6 _ _ _ rfl).elim)
    rw [this]; simp [k1]

theorem abin_ok {op : BinOp} {T : TypeId} {x y : Operand} {a b a' b' v : Value} (h : abin P op T x y a b = some v) (ha : VR ρ a a') (hb : VR ρ b b') :
    ∃ v', VR ρ v v' ∧ ∀ w, (do eqGuard op T x y a' b'; binOp op T a' b').run P w = .ok v' w := by
  unfold abin at h
  split at h
  · rename_i hp
    simp only [Bool.and_eq_true] at hp
    obtain rfl := ha.plain_eq hp.1
    obtain rfl := hb.plain_eq hp.2
    obtain ⟨h1, h2⟩ := prun_ok (ρ := ρ) h
    exact ⟨v, h1, h2⟩
  · split at h
    · simp only [Option.map_eq_some_iff] at h
      obtain ⟨e, h, rfl⟩ := h
      exact ⟨_, .bool _, fun w => by simpa using (anil_ok h ha hb w).2.2 .eql x y (.inl rfl)⟩
    · simp only [Option.map_eq_some_iff] at h
      obtain ⟨e, h, rfl⟩ := h
      exact ⟨_, .bool _, fun w => by simpa using (anil_ok h ha hb w).2.2 .neq x y (.inr rfl)⟩
    · cases h

theorem sliceBound_ok {v v' : Value} (hv : VR ρ v v') {d y n : Nat} (h : boundN (some v) d y = some n) (code : BoundsCode) (w : World) : (Instr.sliceBound v' y code).run P w = .ok n w ∧ n ≤ y := by
  simp only [boundN] at h
  split at h
  · rename_i k i
    cases hv
    split at h <;> simp at h
    subst h
    rename_i hb
    refine ⟨?_, by omega⟩
    simp only [Instr.sliceBound, asIntOf, Sem.run_bind, Sem.run_pure, Result.andThen_ok]
    rw [if_pos hb]
    rfl
  · cases h

theorem sliceBounds_ok {lo hi mx : Option Value} {lo' hi' mx' : Option Value} {cap len m h l : Nat} {isS : Bool}
    (h1 : OptR ρ lo lo') (h2 : OptR ρ hi hi') (h3 : OptR ρ mx mx')
    (e3 : boundN mx cap cap = some m) (hmh : (mx.isSome && hi.isNone) = false) (e2 : boundN hi len m = some h) (e1 : boundN lo 0 h = some l) (w : World) :
    (Instr.sliceBounds isS len cap lo' hi' mx').run P w = .ok (l, h, m) w ∧ l ≤ h := by
  have hl : l ≤ h := by
    cases lo with
    | none => simp [boundN] at e1; omega
    | some a => cases lo' with
      | none => simp [OptR] at h1
      | some b => exact (sliceBound_ok (P := P) h1 e1 .index w).2
  refine ⟨?_, hl⟩
  have s3 : ∀ code, (match mx' with | some v => Instr.sliceBound v cap code | none => pure cap).run P w = .ok m w := by
    intro code
    cases mx with
    | none => cases mx' with
      | none => simp [boundN] at e3; subst e3; rfl
      | some b => simp [OptR] at h3
    | some a => cases mx' with
      | none => simp [OptR] at h3
      | some b => exact (sliceBound_ok h3 e3 code w).1
  have s1 : ∀ code, (match lo' with | some v => Instr.sliceBound v h code | none => pure 0).run P w = .ok l w := by
    intro code
    cases lo with
    | none => cases lo' with
      | none => simp [boundN] at e1; subst e1; rfl
      | some b => simp [OptR] at h1
    | some a => cases lo' with
      | none => simp [OptR] at h1
      | some b => exact (sliceBound_ok h1 e1 code w).1
  have s2 : ∀ c1 c2, (match hi', mx' with | some v, some _ => Instr.sliceBound v m c1 | some v, none => Instr.sliceBound v m c2 | none, none => pure len | none, some _ => stuck "Slice: max without high").run P w = .ok h w := by
    intro c1 c2
    cases hi with
    | none => cases hi' with
      | none =>
        cases mx with
        | some a => simp at hmh
        | none => cases mx' with
          | none => simp [boundN] at e2; subst e2; rfl
          | some b => simp [OptR] at h3
      | some b => simp [OptR] at h2
    | some a => cases hi' with
      | none => simp [OptR] at h2
      | some b => cases mx' <;> exact (sliceBound_ok h2 e2 _ w).1
  clear h1 h2 h3 e1 e2 e3 hmh
  cases mx' <;> cases hi' <;> cases lo' <;> simp only [Sem.run_pure, Result.ok.injEq, and_true, run_stuck, reduceCtorEq, forall_const] at s1 s2 s3 <;>
    simp only [Instr.sliceBounds, Sem.run_bind, Sem.run_pure, Result.andThen_ok, s1, s2, s3]
  all_goals exact (s2 .index .index).elim
end
end Go.Am
