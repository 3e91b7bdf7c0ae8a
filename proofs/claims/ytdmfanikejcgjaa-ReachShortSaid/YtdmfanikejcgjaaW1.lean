import Derived.Test.YtdmfanikejcgjaaX9
set_option linter.unusedSimpArgs false
set_option linter.unusedVariables false
namespace Go.Am
open Go Go.RowKit

/-! ### memory that may always be laid on -/
def Full : Br → Nat → Prop
  | .leaf, n => n = 0
  | .node _ l r, n => ∃ a b, n = a + b + 1 ∧ (a = b ∨ a = b + 1) ∧ Full l a ∧ Full r b

theorem Full.upd {o : AObj} : ∀ {br : Br} {n j : Nat}, Full br n → 1 ≤ j → j ≤ n + 1 → ∃ br', br.upd1 j o = some br' ∧ Full br' (max n j) := by
  intro br
  induction br with
  | leaf =>
    intro n j hf h1 h2
    cases hf
    have hj : j = 1 := by omega
    subst hj
    exact ⟨.node o .leaf .leaf, rfl, 0, 0, rfl, .inl rfl, rfl, rfl⟩
  | node x l r ihl ihr =>
    intro n j hf h1 h2
    obtain ⟨a, b, rfl, hab, hl, hr⟩ := hf
    rw [Br.upd1_node]
    by_cases hj : j = 1
    · rw [if_pos hj]
      exact ⟨_, rfl, a, b, by omega, hab, hl, hr⟩
    · rw [if_neg hj]
      by_cases he : j % 2 = 0
      · rw [if_pos he]
        obtain ⟨l', hl', hf'⟩ := ihl hl (j := j / 2) (by omega) (by omega)
        rw [hl']
        exact ⟨_, rfl, max a (j / 2), b, by omega, by omega, hf', hr⟩
      · rw [if_neg he]
        obtain ⟨r', hr', hf'⟩ := ihr hr (j := j / 2) (by omega) (by omega)
        rw [hr']
        exact ⟨_, rfl, a, max b (j / 2), by omega, by omega, hl, hf'⟩

class OkH (h : PH) : Prop where
  fz : h.fz ≤ h.n
  full : Full h.br h.n

theorem PH.raw_lt {h : PH} {b : Nat} (hb : b < h.n) : h.raw b = h.br.get b := by
  unfold PH.raw
  have : Nat.blt b h.n = true := Nat.ble_eq_true_of_le hb
  rw [this]
theorem PH.raw_ge {h : PH} {b : Nat} (hb : ¬ b < h.n) : h.raw b = none := by
  unfold PH.raw
  cases hq : Nat.blt b h.n with
  | true => exact absurd (Nat.le_of_ble_eq_true hq) hb
  | false => rfl

theorem push_ex (h : PH) [k : OkH h] (o : AObj) : ∃ h', h.push o = some h' ∧ OkH h' ∧ h'.n = h.n + 1 ∧ h'.fz = h.fz ∧ ∀ b, h'.raw b = if b = h.n then some o else h.raw b := by
  obtain ⟨br, hu, hf⟩ := k.full.upd (o := o) (j := h.n + 1) (by omega) (by omega)
  have hu : h.br.upd h.n o = some br := hu
  have hfz := k.fz
  have hp : h.push o = some ⟨h.n + 1, h.fz, br⟩ := by
    unfold PH.push
    have : Nat.ble h.fz h.n = true := Nat.ble_eq_true_of_le hfz
    rw [this, hu]
    show (seqN (.succ h.n) fun n => seqN h.fz fun z => some (PH.mk n z br)) = _
    rw [seqN_eq, seqN_eq]
  refine ⟨_, hp, ⟨by show h.fz ≤ h.n + 1; omega, ?_⟩, rfl, rfl, fun b => ?_⟩
  · have : max h.n (h.n + 1) = h.n + 1 := by omega
    rw [this] at hf
    exact hf
  · have hg := Br.upd_get hu b
    by_cases hb : b < h.n + 1
    · rw [PH.raw_lt (h := ⟨h.n + 1, h.fz, br⟩) hb]
      show br.get b = _
      rw [hg]
      split
      · rfl
      · rw [PH.raw_lt (by omega)]
    · rw [PH.raw_ge (h := ⟨h.n + 1, h.fz, br⟩) hb, if_neg (by omega), PH.raw_ge (by omega)]

theorem set_ex (h : PH) [k : OkH h] {b : Nat} (hb : b < h.n) (hz : h.fz ≤ b) (o : AObj) : ∃ h', h.set b o = some h' ∧ OkH h' ∧ h'.n = h.n ∧ h'.fz = h.fz ∧ ∀ c, h'.raw c = if c = b then some o else h.raw c := by
  obtain ⟨br, hu, hf⟩ := k.full.upd (o := o) (j := b + 1) (by omega) (by omega)
  have hu : h.br.upd b o = some br := hu
  have hp : h.set b o = some ⟨h.n, h.fz, br⟩ := by
    unfold PH.set
    have h1 : Nat.blt b h.n = true := Nat.ble_eq_true_of_le hb
    have h2 : Nat.ble h.fz b = true := Nat.ble_eq_true_of_le hz
    rw [h1, h2, hu]
    show (seqN h.n fun n => seqN h.fz fun z => some (PH.mk n z br)) = _
    rw [seqN_eq, seqN_eq]
  refine ⟨_, hp, ⟨k.fz, ?_⟩, rfl, rfl, fun c => ?_⟩
  · have : max h.n (b + 1) = h.n := by omega
    rw [this] at hf
    exact hf
  · have hg := Br.upd_get hu c
    by_cases hc : c < h.n
    · rw [PH.raw_lt (h := ⟨h.n, h.fz, br⟩) hc]
      show br.get c = _
      rw [hg]
      split
      · rfl
      · rw [PH.raw_lt hc]
    · rw [PH.raw_ge (h := ⟨h.n, h.fz, br⟩) hc, if_neg (by omega), PH.raw_ge hc]

/-- A row of one's own, to which may be written. -/
def Mine (h : PH) (b : Nat) (cs : List Value) : Prop := h.fz ≤ b ∧ ∃ m esz, h.raw b = some (.row m esz cs) ∧ mro m = false
/-- A row that is read. -/
def Sees (h : PH) (b : Nat) (cs : List Value) : Prop := h.cells b = some cs
theorem Mine.sees {h : PH} {b : Nat} {cs : List Value} (m : Mine h b cs) : Sees h b cs := by
  obtain ⟨_, m, esz, hr, _⟩ := m
  unfold Sees PH.cells
  rw [hr]; rfl
theorem Sees.lt {h : PH} {b : Nat} {cs : List Value} (s : Sees h b cs) : b < h.n := by
  unfold Sees PH.cells at s
  obtain ⟨o, h1, _⟩ := ob_ok s
  exact (PH.raw_ok h1).1
theorem Sees.of_raw {h h' : PH} {b : Nat} {cs : List Value} (s : Sees h b cs) (hr : h'.raw b = h.raw b) : Sees h' b cs := by
  unfold Sees PH.cells at s ⊢
  rw [hr]; exact s
theorem Mine.of_raw {h h' : PH} {b : Nat} {cs : List Value} (s : Mine h b cs) (hr : h'.raw b = h.raw b) (hz : h'.fz = h.fz) : Mine h' b cs := by
  obtain ⟨h1, m, esz, h2, h3⟩ := s
  exact ⟨by rw [hz]; exact h1, m, esz, hr.trans h2, h3⟩

/-- A row that stands open, if it is one. -/
def Op (h : PH) (b s : Nat) : Prop := ∀ m e cs, h.raw b = some (.row m e cs) → m = .opn ∧ e = s
abbrev OpK (h h' : PH) : Prop := ∀ c s, c < h.n → Op h c s → Op h' c s
theorem Op.of_raw {h h' : PH} {b s : Nat} (o : Op h b s) (hr : h'.raw b = h.raw b) : Op h' b s := fun m e cs hq => o m e cs (hr ▸ hq)
theorem opK_of {h h' : PH} (hr : ∀ c, c < h.n → h'.raw c = h.raw c) : OpK h h' := fun c s hc o => o.of_raw (hr c hc)
theorem opK_set {h h' : PH} {b esz : Nat} {m : Mode} {cs cs' : List Value} (h1 : h.raw b = some (.row m esz cs)) (hr : ∀ c, h'.raw c = if c = b then some (.row m esz cs') else h.raw c) : OpK h h' := by
  intro c s hc o m' e' cs2 hq
  rw [hr] at hq
  split at hq
  · rename_i e; subst e; cases hq; exact o _ _ _ h1
  · exact o _ _ _ hq
/-- What lies ahead of N is as it was. -/
structure Kp (N : Nat) (h h' : PH) : Prop where
  ok : OkH h'
  le : h.n ≤ h'.n
  fz : h'.fz = h.fz
  raw : ∀ b, b < N → h'.raw b = h.raw b
  op : OpK h h'
theorem Kp.refl (N : Nat) (h : PH) [k : OkH h] : Kp N h h := ⟨k, Nat.le_refl _, rfl, fun _ _ => rfl, fun _ _ _ o => o⟩
theorem Kp.trans {N : Nat} {h h1 h2 : PH} (a : Kp N h h1) (b : Kp N h1 h2) : Kp N h h2 := ⟨b.ok, Nat.le_trans a.le b.le, b.fz.trans a.fz, fun i hi => (b.raw i hi).trans (a.raw i hi), fun c s hc o => b.op c s (Nat.lt_of_lt_of_le hc a.le) (a.op c s hc o)⟩
theorem Kp.sees {N : Nat} {h h' : PH} (k : Kp N h h') {b : Nat} {cs : List Value} (s : Sees h b cs) (hb : b < N) : Sees h' b cs := s.of_raw (k.raw b hb)

/-! ### a run, and what it comes to -/
def Ret (r : R) (Q : Value → PH → Prop) : Prop := ∃ v h, r = some (v, h) ∧ Q v h
theorem Ret.mono {r : R} {Q Q' : Value → PH → Prop} (a : Ret r Q) (hq : ∀ v h, Q v h → Q' v h) : Ret r Q' := let ⟨v, h, e, q⟩ := a; ⟨v, h, e, hq v h q⟩
theorem Ret.of {v : Value} {h : PH} {Q : Value → PH → Prop} (q : Q v h) : Ret (some (v, h)) Q := ⟨v, h, rfl, q⟩
section
variable {Q : Value → PH → Prop} {h : PH} {K : Value → R} {K2 : Value → PH → R}
theorem Ret.vb {o : Option Value} {v : Value} (e : o = some v) (k : Ret (K v) Q) : Ret (vb o K) Q := by rw [e]; exact k
theorem Ret.hb {r : R} {Q1 : Value → PH → Prop} (a : Ret r Q1) (k : ∀ v h', Q1 v h' → Ret (K2 v h') Q) : Ret (hb r K2) Q := by
  obtain ⟨v, h', rfl, q⟩ := a
  exact k v h' q
theorem Ret.bite {v : Value} {x y : R} {b : Bool} (e : v = .bool b) (t : b = true → Ret x Q) (f : b = false → Ret y Q) : Ret (bite v x y) Q := by
  subst e
  cases b with
  | true => exact t rfl
  | false => exact f rfl

/-- A new object. -/
theorem Ret.new [k : OkH h] {o : AObj} {F : PH → R} (e : ∀ h', h.push o = some h' → F h' = F h') (hk : ∀ h', Kp h.n h h' → h'.n = h.n + 1 → h'.raw h.n = some o → Ret (F h') Q) : Ret (match h.push o with | some h' => F h' | none => none) Q := by
  obtain ⟨h', hp, ok, hn, hz, hr⟩ := push_ex h o
  rw [hp]
  refine hk h' ⟨ok, by omega, hz, fun b hb => ?_, opK_of fun b hb => ?_⟩ hn ?_
  · rw [hr, if_neg (by omega)]
  · rw [hr, if_neg (by omega)]
  · rw [hr, if_pos rfl]

theorem mine_own {h : PH} {b esz : Nat} {cs : List Value} (hr : h.raw b = some (.row .own esz cs)) (hz : h.fz ≤ b) : Mine h b cs := ⟨hz, _, _, hr, rfl⟩
theorem mine_opn {h : PH} {b esz : Nat} {cs : List Value} (hr : h.raw b = some (.row .opn esz cs)) (hz : h.fz ≤ b) : Mine h b cs := ⟨hz, _, _, hr, rfl⟩

theorem Ret.newP [k : OkH h] {cs : List Value} (hk : ∀ h', Kp h.n h h' → h'.n = h.n + 1 → Mine h' h.n cs → Ret (K2 (.pointer (some ⟨h.n, 0, none⟩)) h') Q) : Ret (Go.Am.hb (xNewP cs h) K2) Q := by
  obtain ⟨h', hp, ok, hn, hz, hr⟩ := push_ex h (.row .own 1 cs)
  have e : xNewP cs h = some (.pointer (some ⟨h.n, 0, none⟩), h') := by unfold xNewP; rw [hp]
  rw [e]
  refine hk h' ⟨ok, by omega, hz, fun b hb => ?_, opK_of fun b hb => ?_⟩ hn (mine_own (by rw [hr, if_pos rfl]) (by have := k.fz; omega))
  · rw [hr, if_neg (by omega)]
  · rw [hr, if_neg (by omega)]
theorem Ret.box [k : OkH h] {v : Value} (hk : ∀ h', Kp h.n h h' → h'.n = h.n + 1 → Mine h' h.n (cellsL v) → Ret (K2 (.pointer (some ⟨h.n, 0, none⟩)) h') Q) : Ret (Go.Am.hb (xBox v h) K2) Q := Ret.newP hk
theorem Ret.alloc [k : OkH h] {zs : Option (List Value)} {cs : List Value} (e : zs = some cs) (hk : ∀ h', Kp h.n h h' → h'.n = h.n + 1 → Mine h' h.n cs → Ret (K2 (.pointer (some ⟨h.n, 0, none⟩)) h') Q) : Ret (Go.Am.hb (xAlloc zs h) K2) Q := by
  subst e; exact Ret.newP hk
theorem Ret.mk [k : OkH h] {zi : Option (Nat × Nat × List Value)} {sz bt : Nat} {z : List Value} {kk kk' : IntKind} {l c : Int} (e : zi = some (sz, bt, z)) (h0 : 0 ≤ l) (h1 : l ≤ c) (h2 : c ≤ 4611686018427387903) (h3 : (bt : Int) * c ≤ 281474976710656)
    (hk : ∀ h', Kp h.n h h' → h'.n = h.n + 1 → Mine h' h.n (zrows z c.toNat) → Ret (K2 (.slice (some ⟨h.n, 0, none⟩) l.toNat c.toNat) h') Q) : Ret (Go.Am.hb (xMk zi (.int kk l) (.int kk' c) h) K2) Q := by
  obtain ⟨a, rfl⟩ : ∃ a : Nat, l = .ofNat a := ⟨l.toNat, by simp; omega⟩
  obtain ⟨d, rfl⟩ : ∃ a : Nat, c = .ofNat a := ⟨c.toNat, by simp; omega⟩
  subst e
  obtain ⟨h', hp, ok, hn, hz, hr⟩ := push_ex h (.row .own sz (zrows z d))
  have b1 : Nat.ble a d = true := Nat.ble_eq_true_of_le (by simp at h1; omega)
  have b2 : Nat.ble d 4611686018427387903 = true := Nat.ble_eq_true_of_le (by simp at h2; omega)
  have b3 : Nat.ble (Nat.mul bt d) 281474976710656 = true := Nat.ble_eq_true_of_le (by
    have : ((bt * d : Nat) : Int) ≤ 281474976710656 := by rw [Int.natCast_mul]; exact h3
    show bt * d ≤ _
    omega)
  have e : xMk (some (sz, bt, z)) (.int kk (.ofNat a)) (.int kk' (.ofNat d)) h = some (.slice (some ⟨h.n, 0, none⟩) a d, h') := by
    simp only [xMk, b1, b2, b3, hp]
  rw [e]
  refine hk h' ⟨ok, by omega, hz, fun b hb => ?_, opK_of fun b hb => ?_⟩ hn (mine_own (by rw [hr, if_pos rfl]; rfl) (by have := k.fz; omega))
  · rw [hr, if_neg (by omega)]
  · rw [hr, if_neg (by omega)]

/-- Something is read. -/
theorem xLd_at {b o : Nat} {cs : List Value} {v : Value} (s : Sees h b cs) (e : cs[o]? = some v) : xLd (.pointer (some ⟨b, o, none⟩)) h = some v := by
  show ob (h.cells b) (fun cs => nth cs o) = _
  rw [s]
  exact (nth_eq cs o).trans e
theorem tkN_eq {K : List Value → Option Value} : ∀ {n : Nat} {l : List Value}, n ≤ l.length → tkN n l K = K (l.take n) := by
  intro n
  induction n generalizing K with
  | zero => intro l _; rw [List.take_zero]; rfl
  | succ n ih =>
    intro l hl
    cases l with
    | nil => simp at hl
    | cons x xs =>
      show tkN n xs (fun ys => K (x :: ys)) = _
      rw [ih (by simpa using hl)]
      rfl
theorem xLdA_at {b o n : Nat} {cs ys : List Value} (s : Sees h b cs) (e : (cs.drop o).take n = ys) (hl : o + n ≤ cs.length) : xLdA n (.pointer (some ⟨b, o, none⟩)) h = some (.agg ⟨ys⟩) := by
  show ob (h.cells b) (fun cs => tkN n (cs.drop o) fun ys => some (.agg ⟨ys⟩)) = _
  rw [s]
  show tkN n (cs.drop o) _ = _
  rw [tkN_eq (by simp; omega), e]
@[simp] theorem xFld_p {n b o : Nat} : xFld n (.pointer (some ⟨b, o, none⟩)) = some (.pointer (some ⟨b, o + n, none⟩)) := addrK_eq _ _
theorem xIdxS_at {sz b o n c : Nat} {k : IntKind} {i : Int} (h0 : 0 ≤ i) (h1 : i < n) : xIdxS sz (.slice (some ⟨b, o, none⟩) n c) (.int k i) = some (.pointer (some ⟨b, o + i.toNat * sz, none⟩)) := by
  obtain ⟨j, rfl⟩ : ∃ j : Nat, i = .ofNat j := ⟨i.toNat, by simp; omega⟩
  show grd (Nat.blt j n) (addrK b (o + j * sz)) = _
  have : Nat.blt j n = true := Nat.ble_eq_true_of_le (by simp at h1; omega)
  rw [this, addrK_eq]
  rfl
@[simp] theorem xLenS_s {a : Option Addr} {n c : Nat} : xLenS (.slice a n c) = some (.int .i64 n) := by simp [xLenS, seqN_eq]

theorem stK_eq {α : Type} {K : List Value → Option α} {cs : List Value} {v : Value} : ∀ {i : Nat}, i < cs.length → stK cs i v K = K (cs.set i v) := by
  induction cs generalizing K with
  | nil => intro i hi; simp at hi
  | cons x xs ih =>
    intro i hi
    cases i with
    | zero => rfl
    | succ i =>
      show stK xs i v (fun ys => K (x :: ys)) = _
      rw [ih (by simpa using hi)]
      rfl
theorem stsK_eq {α : Type} {K : List Value → Option α} : ∀ {vs cs : List Value} {i : Nat}, i + vs.length ≤ cs.length → stsK cs i vs K = K (setsL cs i vs) := by
  intro vs
  induction vs with
  | nil => intro cs i _; rfl
  | cons v vs ih =>
    intro cs i hl
    simp at hl
    show stK cs i v (fun cs => stsK cs (i + 1) vs K) = _
    rw [stK_eq (by omega), ih (by simp; omega)]
    rfl
/-- Something is written. -/
theorem Ret.st1 [k : OkH h] {b o : Nat} {cs : List Value} {v : Value} (s : Mine h b cs) (ho : o < cs.length) (hv : v.oneCell' = true) (hk : ∀ h', Kp b h h' → h'.n = h.n → (∀ c, c ≠ b → h'.raw c = h.raw c) → Mine h' b (cs.set o v) → Ret (K2 undef h') Q) :
    Ret (Go.Am.hb (xSt1 (.pointer (some ⟨b, o, none⟩)) v h) K2) Q := by
  have hlt := s.sees.lt
  obtain ⟨hz, m, esz, hr, hm⟩ := s
  obtain ⟨h', hp, ok, hn, hfz, hr'⟩ := set_ex h hlt hz (.row m esz (cs.set o v))
  have hg : h.get b = some (.row m esz cs) := by
    unfold PH.get
    rw [hr]
    have : Nat.blt b h.fz = false := by
      cases hq : Nat.blt b h.fz with
      | false => rfl
      | true => have : b < h.fz := Nat.le_of_ble_eq_true hq; omega
    rw [this]
  have e : xSt1 (.pointer (some ⟨b, o, none⟩)) v h = some (undef, h') := by
    simp only [xSt1, hv, hg, hm]
    rw [stK_eq ho]
    simp only [hp]
  rw [e]
  refine hk h' ⟨ok, by omega, hfz, fun c hc => ?_, opK_set hr hr'⟩ hn (fun c hc => ?_) ⟨by rw [hfz]; exact hz, m, esz, by rw [hr', if_pos rfl], hm⟩
  · rw [hr', if_neg (by omega)]
  · rw [hr', if_neg hc]
theorem Ret.stA [k : OkH h] {b o sz : Nat} {cs vs : List Value} (s : Mine h b cs) (hs : vs.length = sz) (ho : o + sz ≤ cs.length) (hv : oneCells vs = true) (hk : ∀ h', Kp b h h' → h'.n = h.n → (∀ c, c ≠ b → h'.raw c = h.raw c) → Mine h' b (setsL cs o vs) → Ret (K2 undef h') Q) :
    Ret (Go.Am.hb (xStA sz (.pointer (some ⟨b, o, none⟩)) (.agg ⟨vs⟩) h) K2) Q := by
  have hlt := s.sees.lt
  obtain ⟨hz, m, esz, hr, hm⟩ := s
  obtain ⟨h', hp, ok, hn, hfz, hr'⟩ := set_ex h hlt hz (.row m esz (setsL cs o vs))
  have hg : h.get b = some (.row m esz cs) := by
    unfold PH.get
    rw [hr]
    have : Nat.blt b h.fz = false := by
      cases hq : Nat.blt b h.fz with
      | false => rfl
      | true => have : b < h.fz := Nat.le_of_ble_eq_true hq; omega
    rw [this]
  have hb : Nat.beq vs.length sz = true := by rw [hs]; exact Nat.beq_refl sz
  have e : xStA sz (.pointer (some ⟨b, o, none⟩)) (.agg ⟨vs⟩) h = some (undef, h') := by
    simp only [xStA, hb, hv, hg, hm]
    rw [stsK_eq (by omega)]
    simp only [hp]
  rw [e]
  refine hk h' ⟨ok, by omega, hfz, fun c hc => ?_, opK_set hr hr'⟩ hn (fun c hc => ?_) ⟨by rw [hfz]; exact hz, m, esz, by rw [hr', if_pos rfl], hm⟩
  · rw [hr', if_neg (by omega)]
  · rw [hr', if_neg hc]

/-! ### calls -/
instance okFzn [k : OkH h] : OkH h.fzn := ⟨Nat.le_refl _, k.full⟩
theorem raw_fzn (b : Nat) : h.fzn.raw b = h.raw b := rfl
theorem Sees.fzn {b : Nat} {cs : List Value} (s : Sees h b cs) : Sees h.fzn b cs := s
theorem pcall_of {r : R} {v : Value} (hr : Ret r fun u _ => u = v) (hp : plainV v = true) : pcall r = some v := by
  obtain ⟨u, h', rfl, rfl⟩ := hr
  exact pcall_some hp
/-- A call that writes nothing that was there. -/
theorem Ret.fcall [k : OkH h] {r : R} {Q1 : Value → PH → Prop} (a : Ret r fun v h1 => Kp h.n h.fzn h1 ∧ Q1 v h1) (hk : ∀ v h1, Q1 v h1 → Kp h.n h (h.back h1) → (∀ b, (h.back h1).raw b = h1.raw b) → Ret (K2 v (h.back h1)) Q) : Ret (Go.Am.hb (fcall h r) K2) Q := by
  obtain ⟨v, h1, rfl, kp, q⟩ := a
  have e : Go.Am.fcall h (some (v, h1)) = some (v, h.back h1) := by
    show Bool.rec (motive := fun _ => R) none (some (v, h.back h1)) (Nat.ble h.fz h.n) = _
    rw [Nat.ble_eq_true_of_le k.fz]
  rw [e]
  have hle : h.n ≤ h1.n := kp.le
  refine hk v h1 q ⟨⟨by show h.fz ≤ h1.n; have := k.fz; omega, kp.ok.full⟩, hle, rfl, fun b hb => kp.raw b hb, fun c s hc o => kp.op c s hc o⟩ fun b => rfl
end
end Go.Am
