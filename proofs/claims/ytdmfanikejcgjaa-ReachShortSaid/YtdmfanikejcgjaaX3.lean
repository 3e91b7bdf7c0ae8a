import Derived.Test.YtdmfanikejcgjaaX2
set_option linter.unusedSimpArgs false
set_option linter.unusedVariables false
namespace Go.Am
open Go Go.RowKit

/-! ### addresses -/
def addrK (b o : Nat) : Option Value := seqN o fun o => some (.pointer (some ⟨b, o, none⟩))
theorem addrK_eq (b o : Nat) : addrK b o = some (.pointer (some ⟨b, o, none⟩)) := by simp [addrK, seqN_eq]
/-- Where a pointer points. -/
def vPtr (v : Value) : Option (Nat × Nat) := match v with
  | .pointer (some ⟨b, o, none⟩) => some (b, o)
  | _ => none
theorem vPtr_ok {v : Value} {b o : Nat} (h : vPtr v = some (b, o)) : v = .pointer (some ⟨b, o, none⟩) := by
  unfold vPtr at h
  split at h <;> cases h
  rfl
/-- Where a slice lies, and its length. -/
def vSl (v : Value) : Option (Nat × Nat × Nat) := match v with
  | .slice (some ⟨b, o, none⟩) n _ => some (b, o, n)
  | _ => none
theorem vSl_ok {v : Value} {b o n : Nat} (h : vSl v = some (b, o, n)) : ∃ c, v = .slice (some ⟨b, o, none⟩) n c := by
  unfold vSl at h
  split at h <;> cases h
  exact ⟨_, rfl⟩
/-- A whole number that is none below 0. -/
def vNat (v : Value) : Option Nat := match v with
  | .int _ (.ofNat j) => some j
  | _ => none
theorem vNat_ok {v : Value} {j : Nat} (h : vNat v = some j) : ∃ k, v = .int k (.ofNat j) := by
  unfold vNat at h
  split at h <;> cases h
  exact ⟨_, rfl⟩
noncomputable def ob {α β : Type} (o : Option α) (K : α → Option β) : Option β := Option.rec (motive := fun _ => Option β) none K o
theorem ob_ok {α β : Type} {o : Option α} {K : α → Option β} {r : β} (h : ob o K = some r) : ∃ a, o = some a ∧ K a = some r := by
  cases o with
  | none => cases h
  | some a => exact ⟨a, rfl, h⟩
noncomputable def ob2 {α β γ : Type} (o : Option (α × β)) (K : α → β → Option γ) : Option γ := Option.rec (motive := fun _ => Option γ) none (fun p => Prod.rec (motive := fun _ => Option γ) K p) o
theorem ob2_ok {α β γ : Type} {o : Option (α × β)} {K : α → β → Option γ} {r : γ} (h : ob2 o K = some r) : ∃ a b, o = some (a, b) ∧ K a b = some r := by
  cases o with
  | none => cases h
  | some a => exact ⟨a.1, a.2, rfl, h⟩
noncomputable def ob3 {α β γ δ : Type} (o : Option (α × β × γ)) (K : α → β → γ → Option δ) : Option δ := Option.rec (motive := fun _ => Option δ) none (fun p => Prod.rec (motive := fun _ => Option δ) (fun a q => Prod.rec (motive := fun _ => Option δ) (K a) q) p) o
theorem ob3_ok {α β γ δ : Type} {o : Option (α × β × γ)} {K : α → β → γ → Option δ} {r : δ} (h : ob3 o K = some r) : ∃ a b c, o = some (a, b, c) ∧ K a b c = some r := by
  cases o with
  | none => cases h
  | some a => exact ⟨a.1, a.2.1, a.2.2, rfl, h⟩
noncomputable def grd {α : Type} (b : Bool) (o : Option α) : Option α := Bool.rec (motive := fun _ => Option α) none o b
theorem grd_ok {α : Type} {b : Bool} {o : Option α} {r : α} (h : grd b o = some r) : b = true ∧ o = some r := by
  cases b with
  | false => cases h
  | true => exact ⟨rfl, h⟩
noncomputable def xFld (n : Nat) (x : Value) : Option Value := ob2 (vPtr x) fun b o => addrK b (Nat.add o n)
noncomputable def xIdxS (sz : Nat) (x i : Value) : Option Value := ob3 (vSl x) fun b o n => ob (vNat i) fun j => grd (Nat.blt j n) (addrK b (Nat.add o (Nat.mul j sz)))
noncomputable def xIdxA (n sz : Nat) (x i : Value) : Option Value := ob2 (vPtr x) fun b o => ob (vNat i) fun j => grd (Nat.blt j n) (addrK b (Nat.add o (Nat.mul j sz)))

theorem xFld_ok {P : Program} {S : TypeId} {f n : Nat} (hs : fieldOff P S f = some n) {x v : Value} (h : xFld n x = some v) : afieldAddr P S x f = some v := by
  obtain ⟨b, o, h1, h2⟩ := ob2_ok h
  clear h
  cases vPtr_ok h1
  rw [addrK_eq] at h2; cases h2
  exact fieldAddr_of hs _ _
theorem xIdxS_ok {P : Program} {T : TypeId} {sz : Nat} (hs : sliceSz P T = some sz) {x i v : Value} (h : xIdxS sz x i = some v) : aindexAddr P T x i = some v := by
  obtain ⟨b, o, n, h1, h2⟩ := ob3_ok h
  obtain ⟨j, h3, h4⟩ := ob_ok h2
  obtain ⟨hlt, h5⟩ := grd_ok h4
  clear h h2 h4
  obtain ⟨c, rfl⟩ := vSl_ok h1
  obtain ⟨k, rfl⟩ := vNat_ok h3
  rw [addrK_eq] at h5; cases h5
  rw [blt_eq] at hlt
  exact indexAddr_of hs (by simp) (by simpa using hlt)
theorem xIdxA_ok {P : Program} {T : TypeId} {n sz : Nat} (hs : arrSz P T = some (n, sz)) {x i v : Value} (h : xIdxA n sz x i = some v) : aindexAddr P T x i = some v := by
  obtain ⟨b, o, h1, h2⟩ := ob2_ok h
  obtain ⟨j, h3, h4⟩ := ob_ok h2
  obtain ⟨hlt, h5⟩ := grd_ok h4
  clear h h2 h4
  cases vPtr_ok h1
  obtain ⟨k, rfl⟩ := vNat_ok h3
  rw [addrK_eq] at h5; cases h5
  rw [blt_eq] at hlt
  exact arrAddr_of hs (by simp) (by simpa using hlt)

/-! ### reading -/
/-- The cells of a row. -/
def rowC (o : AObj) : Option (List Value) := match o with
  | .row _ _ cs => some cs
  | _ => none
noncomputable def PH.cells (h : PH) (b : Nat) : Option (List Value) := ob (h.raw b) rowC
theorem PH.cells_ok {h : PH} {b : Nat} {cs : List Value} (hc : h.cells b = some cs) : ∃ m esz, h.abs[b]? = some (.row m esz cs) := by
  obtain ⟨o, h1, h2⟩ := ob_ok hc
  unfold rowC at h2
  split at h2 <;> cases h2
  obtain ⟨m', hg⟩ := PH.raw_row h1
  exact ⟨m', _, hg⟩
noncomputable def xLd (x : Value) (h : PH) : Option Value := ob2 (vPtr x) fun b o => ob (h.cells b) fun cs => nth cs o
noncomputable def tkN (n : Nat) : List Value → (List Value → Option Value) → Option Value :=
  Nat.rec (motive := fun _ => List Value → (List Value → Option Value) → Option Value) (fun _ K => K [])
    (fun _ ih l K => List.rec (motive := fun _ => Option Value) none (fun x xs _ => ih xs fun ys => K (x :: ys)) l) n
theorem tkN_ok {K : List Value → Option Value} {v : Value} {n : Nat} {l : List Value} (h : tkN n l K = some v) : n ≤ l.length ∧ K (l.take n) = some v := by
  induction n generalizing l K with
  | zero => exact ⟨Nat.zero_le _, by rw [List.take_zero]; exact h⟩
  | succ n ih =>
    cases l with
    | nil => cases h
    | cons x xs =>
      have h : tkN n xs (fun ys => K (x :: ys)) = some v := h
      obtain ⟨h1, h2⟩ := ih h
      exact ⟨by simpa using h1, by simpa using h2⟩
noncomputable def xLdA (n : Nat) (x : Value) (h : PH) : Option Value := ob2 (vPtr x) fun b o => ob (h.cells b) fun cs => tkN n (cs.drop o) fun ys => some (.agg ⟨ys⟩)

theorem xLd_ok {P : Program} {T : TypeId} (hs : scal P T = true) {x v : Value} {h : PH} (hl : xLd x h = some v) : aload P T x h.abs = some v := by
  obtain ⟨b, o, h1, h2⟩ := ob2_ok hl
  obtain ⟨cs, h3, h4⟩ := ob_ok h2
  clear hl h2
  cases vPtr_ok h1
  obtain ⟨m, esz, hg⟩ := PH.cells_ok h3
  rw [nth_eq] at h4
  simp only [aload, hg, apart_scal hs, h4]
theorem xLdA_ok {P : Program} {T : TypeId} {n : Nat} (hs : aggSz P T = some n) {x v : Value} {h : PH} (hn : 0 < n) (hl : xLdA n x h = some v) : aload P T x h.abs = some v := by
  obtain ⟨b, o, h1, h2⟩ := ob2_ok hl
  obtain ⟨cs, h3, h4⟩ := ob_ok h2
  clear hl h2
  cases vPtr_ok h1
  obtain ⟨m, esz, hg⟩ := PH.cells_ok h3
  obtain ⟨h5, h6⟩ := tkN_ok h4
  simp only [aload, hg]
  rw [apart_agg hs cs _ (by simp at h5; omega)]
  exact h6

/-! ### writing -/
def mro (m : Mode) : Bool := match m with
  | .ro => true
  | _ => false
theorem mro_ok {m : Mode} (h : mro m = false) : m ≠ .ro := by rintro rfl; simp [mro] at h
noncomputable def stK {α : Type} (cs : List Value) : Nat → Value → (List Value → Option α) → Option α :=
  List.rec (motive := fun _ => Nat → Value → (List Value → Option α) → Option α) (fun _ _ _ => none)
    (fun x xs ih i v K => Nat.rec (motive := fun _ => Option α) (K (v :: xs)) (fun j _ => ih j v fun ys => K (x :: ys)) i) cs
theorem stK_ok {α : Type} {K : List Value → Option α} {r : α} {cs : List Value} {i : Nat} {v : Value} (h : stK cs i v K = some r) : i < cs.length ∧ K (cs.set i v) = some r := by
  induction cs generalizing i K with
  | nil => cases h
  | cons x xs ih =>
    cases i with
    | zero => exact ⟨by simp, h⟩
    | succ i =>
      have h : stK xs i v (fun ys => K (x :: ys)) = some r := h
      obtain ⟨h1, h2⟩ := ih h
      exact ⟨by simpa using h1, h2⟩
noncomputable def stsK {α : Type} : List Value → Nat → List Value → (List Value → Option α) → Option α
  | cs, _, [], K => K cs
  | cs, i, v :: vs, K => stK cs i v fun cs => stsK cs (.succ i) vs K
theorem stsK_ok {α : Type} {K : List Value → Option α} {r : α} {vs cs : List Value} {i : Nat} (h : stsK cs i vs K = some r) : (vs ≠ [] → i + vs.length ≤ cs.length) ∧ K (setsL cs i vs) = some r := by
  induction vs generalizing cs i with
  | nil => exact ⟨fun h => absurd rfl h, h⟩
  | cons v vs ih =>
    simp only [stsK] at h
    obtain ⟨h1, h2⟩ := stK_ok h
    obtain ⟨h3, h4⟩ := ih h2
    refine ⟨fun _ => ?_, h4⟩
    by_cases hv : vs = []
    · subst hv; simp; omega
    · have := h3 hv; simp at this ⊢; omega
noncomputable def xSt1 (x v : Value) (h : PH) : R := match x with
  | .pointer (some ⟨b, o, none⟩) => match v.oneCell' with
    | true => match h.get b with
      | some (.row m esz cs) => match mro m with
        | false => stK cs o v fun cs => match h.set b (.row m esz cs) with
          | some h' => some (undef, h')
          | none => none
        | true => none
      | _ => none
    | false => none
  | _ => none
noncomputable def xStA (sz : Nat) (x v : Value) (h : PH) : R := match x with
  | .pointer (some ⟨b, o, none⟩) => match v with
    | .agg ⟨vs⟩ => match Nat.beq vs.length sz with
      | true => match oneCells vs with
        | true => match h.get b with
          | some (.row m esz cs) => match mro m with
            | false => stsK cs o vs fun cs => match h.set b (.row m esz cs) with
              | some h' => some (undef, h')
              | none => none
            | true => none
          | _ => none
        | false => none
      | false => none
    | _ => none
  | _ => none
def infoSz (P : Program) (T : TypeId) : Option Nat := (P.info? T).map (·.size)

theorem oneCells_one {v : Value} (h : v.oneCell' = true) : cellsL v = [v] := by cases v <;> simp_all [Value.oneCell', cellsL]

theorem xSt1_ok {P : Program} {T : TypeId} (hs : infoSz P T = some 1) {x v u : Value} {h h' : PH} (hx : xSt1 x v h = some (u, h')) : u = undef ∧ astore P T x v h.abs = some h'.abs := by
  unfold xSt1 at hx
  split at hx <;> try (cases hx; done)
  split at hx <;> try (cases hx; done)
  split at hx <;> try (cases hx; done)
  split at hx <;> try (cases hx; done)
  rename_i b o _ h1 _ m esz cs hg _ hm
  obtain ⟨h2, h3⟩ := stK_ok hx
  split at h3 <;> try (cases h3; done)
  rename_i h'' hset
  cases h3
  refine ⟨rfl, ?_⟩
  unfold infoSz at hs
  cases hi : P.info? T with
  | none => simp [hi] at hs
  | some i =>
    simp only [hi, Option.map_some, Option.some.injEq] at hs
    simp only [astore, hi, oneCells_one h1, PH.get_abs hg, hs, PH.set_abs hset]
    simp [oneCells, h1, mro_ok hm, setsL]
    omega

theorem xStA_ok {P : Program} {T : TypeId} {sz : Nat} (hs : infoSz P T = some sz) (hz : 0 < sz) {x v u : Value} {h h' : PH} (hx : xStA sz x v h = some (u, h')) : u = undef ∧ astore P T x v h.abs = some h'.abs := by
  unfold xStA at hx
  split at hx <;> try (cases hx; done)
  split at hx <;> try (cases hx; done)
  split at hx <;> try (cases hx; done)
  split at hx <;> try (cases hx; done)
  split at hx <;> try (cases hx; done)
  split at hx <;> try (cases hx; done)
  rename_i b o _ vs _ hl _ h1 _ m esz cs hg _ hm
  obtain ⟨h2, h3⟩ := stsK_ok hx
  split at h3 <;> try (cases h3; done)
  rename_i h'' hset
  cases h3
  refine ⟨rfl, ?_⟩
  have hl := Nat.eq_of_beq_eq_true hl
  unfold infoSz at hs
  cases hi : P.info? T with
  | none => simp [hi] at hs
  | some i =>
    simp only [hi, Option.map_some, Option.some.injEq] at hs
    have hne : vs ≠ [] := by rintro rfl; simp at hl; omega
    simp only [astore, hi, cellsL, PH.get_abs hg, hs, PH.set_abs hset, hl, h1]
    have := h2 hne
    simp [mro_ok hm]
    omega

/-! ### new objects -/
def pnew (b : Nat) : Value := .pointer (some ⟨b, 0, none⟩)
noncomputable def xNewP (cs : List Value) (h : PH) : R := match h.push (.row .own 1 cs) with
  | some h' => some (.pointer (some ⟨h.n, 0, none⟩), h')
  | none => none
noncomputable def xBox (v : Value) (h : PH) : R := xNewP (cellsL v) h
def zcells (P : Program) (T : TypeId) : Option (List Value) := match P.info? T with
  | some i => match i.zero with
    | some z => if plainV z then some (cellsL z) else none
    | none => none
  | none => none
noncomputable def xAlloc (zs : Option (List Value)) (h : PH) : R := match zs with
  | some cs => xNewP cs h
  | none => none
theorem xNewP_ok {cs : List Value} {h h' : PH} {v : Value} (hx : xNewP cs h = some (v, h')) : v = .pointer (some ⟨h.abs.length, 0, none⟩) ∧ h'.abs = h.abs ++ [.row .own 1 cs] := by
  unfold xNewP at hx
  split at hx <;> try (cases hx; done)
  rename_i hp
  cases hx
  exact ⟨by rw [PH.length], PH.push_abs hp⟩
theorem xBox_ok {v u : Value} {h h' : PH} (hx : xBox v h = some (u, h')) : abox v h.abs = some (u, h'.abs) := by
  obtain ⟨h1, h2⟩ := xNewP_ok hx
  simp [abox, h1, h2]
theorem xAlloc_ok {P : Program} {T : TypeId} {u : Value} {h h' : PH} (hx : xAlloc (zcells P T) h = some (u, h')) : aalloc P T h.abs = some (u, h'.abs) := by
  unfold xAlloc at hx
  split at hx <;> try (cases hx; done)
  rename_i cs hz
  unfold zcells at hz
  split at hz <;> try (cases hz; done)
  split at hz <;> try (cases hz; done)
  split at hz <;> try (cases hz; done)
  rename_i i hi _ z hzz hp
  cases hz
  obtain ⟨h1, h2⟩ := xNewP_ok hx
  simp [aalloc, hi, hzz, hp, abox, h1, h2]

/-- A slice type's element: cells, bytes, the cells of a zero. -/
def zinfo (P : Program) (T : TypeId) : Option (Nat × Nat × List Value) := match P.underlying T with
  | some (.slice e) => match P.info? e with
    | some i => match i.zero with
      | some z => if plainV z && decide ((cellsL z).length = i.size) then some (i.size, i.bytes, cellsL z) else none
      | none => none
    | none => none
  | _ => none
def zrows (z : List Value) : Nat → List Value
  | 0 => []
  | .succ n => z ++ zrows z n
theorem zrows_length (z : List Value) (n : Nat) : (zrows z n).length = n * z.length := by
  induction n with
  | zero => simp [zrows]
  | succ n ih => simp [zrows, ih, Nat.succ_mul]; omega
theorem zrows_get (z : List Value) (n i : Nat) (hi : i < n * z.length) : (zrows z n)[i]? = z[i % z.length]? := by
  induction n generalizing i with
  | zero => simp at hi
  | succ n ih =>
    simp only [zrows]
    by_cases h : i < z.length
    · rw [List.getElem?_append_left h, Nat.mod_eq_of_lt h]
    · rw [List.getElem?_append_right (by omega), ih _ (by rw [Nat.succ_mul] at hi; omega)]
      rw [Nat.mod_eq_sub_mod (a := i) (b := z.length) (by omega)]
theorem zrows_eq (z : List Value) (n : Nat) : zrow z (n * z.length) = zrows z n := by
  apply List.ext_getElem?
  intro i
  by_cases hi : i < n * z.length
  · rw [zrows_get z n i hi]
    have hz : 0 < z.length := by
      rcases Nat.eq_zero_or_pos z.length with h | h
      · rw [h] at hi; simp at hi
      · exact h
    simp [zrow, List.getElem?_range hi, List.getD_eq_getElem?_getD, List.getElem?_eq_getElem (Nat.mod_lt i hz)]
  · rw [List.getElem?_eq_none (by simp [zrow]; omega), List.getElem?_eq_none (by rw [zrows_length]; omega)]
noncomputable def xMk (zi : Option (Nat × Nat × List Value)) (l c : Value) (h : PH) : R := match zi with
  | some (sz, bt, z) => match l with
    | .int _ (.ofNat l) => match c with
      | .int _ (.ofNat c) => match Nat.ble l c with
        | true => match Nat.ble c 4611686018427387903 with
          | true => match Nat.ble (Nat.mul bt c) 281474976710656 with
            | true => match h.push (.row .own sz (zrows z c)) with
              | some h' => some (.slice (some ⟨h.n, 0, none⟩) l c, h')
              | none => none
            | false => none
          | false => none
        | false => none
      | _ => none
    | _ => none
  | none => none
theorem xMk_ok {P : Program} {T : TypeId} {l c u : Value} {h h' : PH} (hx : xMk (zinfo P T) l c h = some (u, h')) : amakeSlice P T l c h.abs = some (u, h'.abs) := by
  unfold xMk at hx
  split at hx <;> try (cases hx; done)
  rename_i sz bt z hz
  split at hx <;> try (cases hx; done)
  split at hx <;> try (cases hx; done)
  split at hx <;> try (cases hx; done)
  split at hx <;> try (cases hx; done)
  split at hx <;> try (cases hx; done)
  split at hx <;> try (cases hx; done)
  rename_i k l k' c _ h1 _ h2 _ h3 _ h'' hp
  cases hx
  unfold zinfo at hz
  split at hz <;> try (cases hz; done)
  split at hz <;> try (cases hz; done)
  split at hz <;> try (cases hz; done)
  split at hz <;> try (cases hz; done)
  rename_i e hu _ i hi _ zz hzz hc
  cases hz
  simp only [Bool.and_eq_true, decide_eq_true_eq] at hc
  have h1 := Nat.le_of_ble_eq_true h1
  have h2 := Nat.le_of_ble_eq_true h2
  have h3 : i.bytes * c ≤ 281474976710656 := Nat.le_of_ble_eq_true h3
  have h3' : (i.bytes : Int) * (c : Int) ≤ 281474976710656 := by
    rw [← Int.natCast_mul]; omega
  unfold amakeSlice
  simp only [hu, hi, hzz, hc.1, hc.2, Int.ofNat_eq_natCast, Int.toNat_natCast, PH.push_abs hp, PH.length]
  rw [← zrows_eq, hc.2]
  simp [h1, h3']
  omega
end Go.Am
