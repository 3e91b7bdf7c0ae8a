import Derived.Test.YtdmfanikejcgjaaX1
set_option linter.unusedSimpArgs false
set_option linter.unusedVariables false
namespace Go.Am
open Go Go.RowKit

/-! ### what is known of a program's types -/
def scal (P : Program) (T : TypeId) : Bool :=
  match P.underlying T with
  | some (.struct _) | some (.array _ _) | none => false
  | _ => true
def aggSz (P : Program) (T : TypeId) : Option Nat :=
  match P.underlying T, P.info? T with
  | some (.struct _), some i => some i.size
  | some (.array _ _), some i => some i.size
  | _, _ => none
def fieldOff (P : Program) (S : TypeId) (f : Nat) : Option Nat :=
  match P.underlying S with
  | some (.struct fs) => match fs[f]? with
    | some fd => match P.info? fd.type with
      | some i => if i.size = 0 then none else some fd.offset
      | none => none
    | none => none
  | _ => none
def sliceSz (P : Program) (T : TypeId) : Option Nat :=
  match P.underlying T with
  | some (.slice e) => (P.info? e).map (·.size)
  | _ => none
def arrSz (P : Program) (T : TypeId) : Option (Nat × Nat) :=
  match P.underlying T with
  | some (.array n e) => (P.info? e).map fun i => (n, i.size)
  | _ => none
def strT (P : Program) (T : TypeId) : Bool :=
  match P.underlying T with
  | some .string => true
  | _ => false

section
variable {P : Program} {h : Heap}
theorem apart_scal {T : TypeId} (hs : scal P T = true) (cs : List Value) (off : Nat) : apart P T cs off = cs[off]? := by
  unfold scal at hs
  unfold apart
  split <;> simp_all
theorem apart_agg {T : TypeId} {n : Nat} (hs : aggSz P T = some n) (cs : List Value) (off : Nat) (hle : off + n ≤ cs.length) : apart P T cs off = some (.agg ⟨(cs.drop off).take n⟩) := by
  unfold aggSz at hs
  unfold apart
  split at hs <;> simp_all
theorem fieldAddr_of {S : TypeId} {f n : Nat} (hs : fieldOff P S f = some n) (b o : Nat) : afieldAddr P S (.pointer (some ⟨b, o, none⟩)) f = some (.pointer (some ⟨b, o + n, none⟩)) := by
  unfold fieldOff at hs
  unfold afieldAddr
  split at hs
  · rename_i fs hu
    split at hs
    · rename_i fd hf
      split at hs
      · rename_i i hi
        split at hs <;> simp at hs
        subst hs
        simp [hu, hf, hi, *]
      · cases hs
    · cases hs
  · cases hs
theorem indexAddr_of {T : TypeId} {sz : Nat} (hs : sliceSz P T = some sz) {b o n c : Nat} {k : IntKind} {i : Int} (h0 : 0 ≤ i) (h1 : i < n) :
    aindexAddr P T (.slice (some ⟨b, o, none⟩) n c) (.int k i) = some (.pointer (some ⟨b, o + i.toNat * sz, none⟩)) := by
  unfold sliceSz at hs
  unfold aindexAddr
  split at hs
  · rename_i e hu
    simp only [Option.map_eq_some_iff] at hs
    obtain ⟨inf, hi, rfl⟩ := hs
    simp [hu, hi, h0, h1]
  · cases hs
theorem arrAddr_of {T : TypeId} {n sz : Nat} (hs : arrSz P T = some (n, sz)) {b o : Nat} {k : IntKind} {i : Int} (h0 : 0 ≤ i) (h1 : i < n) :
    aindexAddr P T (.pointer (some ⟨b, o, none⟩)) (.int k i) = some (.pointer (some ⟨b, o + i.toNat * sz, none⟩)) := by
  unfold arrSz at hs
  unfold aindexAddr
  split at hs
  · rename_i n e hu
    simp only [Option.map_eq_some_iff, Prod.mk.injEq] at hs
    obtain ⟨inf, hi, rfl, rfl⟩ := hs
    simp [hu, hi, h0, h1]
  · cases hs
end

/-! ### whole numbers -/
def kb (a b : IntKind) : Bool := match a, b with
  | .i64, .i64 => true
  | a, b => decide (a = b)
theorem kb_ok {a b : IntKind} (h : kb a b = true) : a = b := by
  unfold kb at h
  split at h
  · rfl
  · simpa using h
def mkI (k : IntKind) (x : Int) : Option Value := match x with
  | .ofNat n => seqN n fun n => some (.int k (.ofNat n))
  | .negSucc n => seqN n fun n => some (.int k (.negSucc n))
theorem mkI_eq (k : IntKind) (x : Int) : mkI k x = some (.int k x) := by cases x <;> simp [mkI, seqN_eq]
def wr (k : IntKind) (x : Int) : Int := match k with
  | .i64 => match x with
    | .ofNat n => match Nat.ble n 9223372036854775807 with
      | true => .ofNat n
      | false => IntKind.i64.wrap (.ofNat n)
    | .negSucc n => match Nat.ble n 9223372036854775807 with
      | true => .negSucc n
      | false => IntKind.i64.wrap (.negSucc n)
  | k => k.wrap x
theorem wrap_in {x : Int} (h0 : -9223372036854775808 ≤ x) (h1 : x < 9223372036854775808) : IntKind.i64.wrap x = x := by
  simp only [IntKind.wrap, IntKind.signed, IntKind.bits]
  simp
  omega
theorem wr_eq (k : IntKind) (x : Int) : wr k x = k.wrap x := by
  unfold wr
  split
  · split
    · split
      · rename_i n hn
        have := Nat.le_of_ble_eq_true hn
        exact (wrap_in (by simp only [Int.ofNat_eq_natCast]; omega) (by simp only [Int.ofNat_eq_natCast]; omega)).symm
      · rfl
    · split
      · rename_i n hn
        have := Nat.le_of_ble_eq_true hn
        exact (wrap_in (by rw [Int.negSucc_eq]; omega) (by rw [Int.negSucc_eq]; omega)).symm
      · rfl
  · rfl
def ilt (x y : Int) : Bool := match x with
  | .ofNat m => match y with
    | .ofNat n => Nat.blt m n
    | .negSucc _ => false
  | .negSucc m => match y with
    | .ofNat _ => true
    | .negSucc n => Nat.blt n m
def ieq (x y : Int) : Bool := match x with
  | .ofNat m => match y with
    | .ofNat n => Nat.beq m n
    | .negSucc _ => false
  | .negSucc m => match y with
    | .ofNat _ => false
    | .negSucc n => Nat.beq m n
theorem blt_eq (m n : Nat) : Nat.blt m n = decide (m < n) := by
  rw [Bool.eq_iff_iff, decide_eq_true_iff]; exact ⟨fun h => Nat.le_of_ble_eq_true h, fun h => Nat.ble_eq_true_of_le h⟩
theorem beq_eq (m n : Nat) : Nat.beq m n = decide (m = n) := by
  rw [Bool.eq_iff_iff, decide_eq_true_iff]; exact ⟨Nat.eq_of_beq_eq_true, fun h => by subst h; exact Nat.beq_refl m⟩
theorem ilt_eq (x y : Int) : ilt x y = decide (x < y) := by
  cases x <;> cases y <;> simp only [ilt, blt_eq] <;> rw [Bool.eq_iff_iff] <;> (try simp [Int.negSucc_eq]) <;> (try omega)
theorem ieq_eq (x y : Int) : ieq x y = decide (x = y) := by
  cases x <;> cases y <;> simp only [ieq, beq_eq] <;> rw [Bool.eq_iff_iff] <;> (try simp [Int.negSucc_eq]) <;> (try omega)
def ile (x y : Int) : Bool := match ilt y x with
  | true => false
  | false => true
def ine (x y : Int) : Bool := match ieq y x with
  | true => false
  | false => true
theorem ile_eq (x y : Int) : ile x y = decide (x ≤ y) := by
  unfold ile; rw [ilt_eq]; by_cases h : y < x <;> simp [h] <;> omega
theorem ine_eq (x y : Int) : ine x y = !decide (x = y) := by
  unfold ine; rw [ieq_eq]; by_cases h : y = x
  · simp [h]
  · have : ¬ x = y := fun e => h e.symm
    simp [h, this]
def boolV (b : Bool) : Option Value := match b with
  | true => some (.bool true)
  | false => some (.bool false)
theorem boolV_eq (b : Bool) : boolV b = some (.bool b) := by cases b <;> rfl

def vInt (v : Value) : Option (IntKind × Int) := match v with
  | .int k x => some (k, x)
  | _ => none
theorem vInt_ok {v : Value} {k : IntKind} {x : Int} (h : vInt v = some (k, x)) : v = .int k x := by
  unfold vInt at h
  split at h <;> cases h
  rfl
noncomputable def two {α : Type} (a b : Value) (K : IntKind → Int → Int → Option α) : Option α :=
  Option.rec (motive := fun _ => Option α) none (fun p => Prod.rec (motive := fun _ => Option α) (fun k x =>
    Option.rec (motive := fun _ => Option α) none (fun q => Prod.rec (motive := fun _ => Option α) (fun k' y => Bool.rec (motive := fun _ => Option α) none (K k x y) (kb k k')) q) (vInt b)) p) (vInt a)
theorem two_ok {α : Type} {a b : Value} {K : IntKind → Int → Int → Option α} {r : α} (h : two a b K = some r) : ∃ k x y, a = .int k x ∧ b = .int k y ∧ K k x y = some r := by
  unfold two at h
  cases h1 : vInt a with
  | none => rw [h1] at h; cases h
  | some p =>
    cases h2 : vInt b with
    | none => rw [h1, h2] at h; cases h
    | some q =>
      obtain ⟨k, x⟩ := p
      obtain ⟨k', y⟩ := q
      rw [h1, h2] at h
      replace h : Bool.rec (motive := fun _ => Option α) none (K k x y) (kb k k') = some r := h
      cases h3 : kb k k' with
      | false => rw [h3] at h; cases h
      | true =>
        rw [h3] at h
        have := kb_ok h3
        subst this
        exact ⟨_, _, _, vInt_ok h1, vInt_ok h2, h⟩
theorem two_i {α : Type} {k : IntKind} {x y : Int} {K : IntKind → Int → Int → Option α} : two (.int k x) (.int k y) K = K k x y := by
  have : kb k k = true := by cases k <;> rfl
  show Bool.rec (motive := fun _ => Option α) none (K k x y) (kb k k) = _
  rw [this]
noncomputable def xAri (f : Int → Int → Int) (a b : Value) : Option Value := two a b fun k x y => mkI k (wr k (f x y))
noncomputable def xCmp (f : Int → Int → Bool) (a b : Value) : Option Value := two a b fun _ x y => some (.bool (f x y))
def xMinMax (f : Int → Int → Bool) (a b : Value) : Option Value := match a with
  | .int k x => match b with
    | .int k' y => match kb k k' with
      | true => match f x y with
        | true => some (.int k x)
        | false => some (.int k y)
      | false => none
    | _ => none
  | _ => none
noncomputable def xNot (a : Value) : Option Value := Option.rec (motive := fun _ => Option Value) none (fun b => Bool.rec (motive := fun _ => Option Value) (some (.bool true)) (some (.bool false)) b) (isTF a)
noncomputable def xPick (c a b : Value) : Option Value := Option.rec (motive := fun _ => Option Value) none (fun c => Bool.rec (motive := fun _ => Option Value) (some b) (some a) c) (isTF c)
theorem isTF_ok {v : Value} {b : Bool} (h : isTF v = some b) : v = .bool b := by
  unfold isTF at h
  split at h <;> cases h
  rfl
theorem xNot_ok {a v : Value} (h : xNot a = some v) : ∃ b, a = .bool b ∧ v = .bool !b := by
  unfold xNot at h
  cases h1 : isTF a with
  | none => rw [h1] at h; cases h
  | some b => rw [h1] at h; exact ⟨b, isTF_ok h1, by cases b <;> (cases h; rfl)⟩
theorem xPick_ok {c a b v : Value} (h : xPick c a b = some v) : (c = .bool true ∧ v = a) ∨ (c = .bool false ∧ v = b) := by
  unfold xPick at h
  cases h1 : isTF c with
  | none => rw [h1] at h; cases h
  | some d =>
    rw [h1] at h
    cases d with
    | true => cases h; exact .inl ⟨isTF_ok h1, rfl⟩
    | false => cases h; exact .inr ⟨isTF_ok h1, rfl⟩
theorem xAri_ok {f : Int → Int → Int} {a b v : Value} (h : xAri f a b = some v) : ∃ k x y, a = .int k x ∧ b = .int k y ∧ v = .int k (k.wrap (f x y)) := by
  obtain ⟨k, x, y, rfl, rfl, h2⟩ := two_ok h
  rw [mkI_eq, wr_eq] at h2
  cases h2
  exact ⟨_, _, _, rfl, rfl, rfl⟩
theorem xCmp_ok {f : Int → Int → Bool} {a b v : Value} (h : xCmp f a b = some v) : ∃ k x y, a = .int k x ∧ b = .int k y ∧ v = .bool (f x y) := by
  obtain ⟨k, x, y, rfl, rfl, h2⟩ := two_ok h
  cases h2
  exact ⟨_, _, _, rfl, rfl, rfl⟩
theorem xMinMax_ok {f : Int → Int → Bool} {a b v : Value} (h : xMinMax f a b = some v) : ∃ k x y, a = .int k x ∧ b = .int k y ∧ v = .int k (if f x y then x else y) := by
  unfold xMinMax at h
  split at h <;> try (cases h; done)
  split at h <;> try (cases h; done)
  split at h <;> try (cases h; done)
  rename_i hk
  cases kb_ok hk
  split at h <;> (cases h; exact ⟨_, _, _, rfl, rfl, by simp [*]⟩)

theorem prun_of {P : Program} {s : Sem Value} {v : Value} (h : pureRun P s = some v) (hp : plainV v = true) : prun P s = some v := by simp [prun, h, hp]
theorem abin_of {P : Program} {op : BinOp} {T : TypeId} {x y : Operand} {a b v : Value} (ha : plainV a = true) (hb : plainV b = true) (hv : pureRun P (do eqGuard op T x y a b; binOp op T a b) = some v) (hp : plainV v = true) : abin P op T x y a b = some v := by
  simp [abin, ha, hb, prun_of hv hp]

/-- Two whole numbers. -/
noncomputable def ibin (op : BinOp) : Option (Value → Value → Option Value) := match op with
  | .add => some (xAri Int.add)
  | .sub => some (xAri Int.sub)
  | .mul => some (xAri Int.mul)
  | .lss => some (xCmp ilt)
  | .leq => some (xCmp ile)
  | .gtr => some (xCmp fun x y => ilt y x)
  | .geq => some (xCmp fun x y => ile y x)
  | .eql => some (xCmp ieq)
  | .neq => some (xCmp ine)
  | _ => none

theorem ibin_ok {P : Program} {op : BinOp} {T : TypeId} {x y : Operand} {a b v : Value} {f : Value → Value → Option Value} (hf : ibin op = some f) (h : f a b = some v) : abin P op T x y a b = some v := by
  cases op <;> simp only [ibin, Option.some.injEq] at hf <;> first | (cases hf; done) | subst hf
  all_goals first
    | (obtain ⟨k, m, n, rfl, rfl, rfl⟩ := xAri_ok h; exact abin_of rfl rfl (by cases k <;> rfl) rfl)
    | (obtain ⟨k, m, n, rfl, rfl, rfl⟩ := xCmp_ok h; simp only [ilt_eq, ile_eq, ieq_eq, ine_eq]; exact abin_of rfl rfl (by cases k <;> rfl) rfl)

end Go.Am
