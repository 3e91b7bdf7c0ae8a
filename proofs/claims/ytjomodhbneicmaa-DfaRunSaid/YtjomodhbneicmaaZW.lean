import Derived.Test.YtjomodhbneicmaaZX
import Derived.Deep.Slices
set_option linter.unusedSimpArgs false
set_option linter.unusedVariables false
namespace Go.Am
open Go Go.RowKit

/-! ### memory that may always be laid on -/
def Full : Br → Nat → Prop
  | .leaf, n => n = 0
  | .node _ l r, n => ∃ a b, n = a + b + 1 ∧ (a = b ∨ a = b + 1) ∧ Full l a ∧ Full r b

theorem Full.upd {o : PObj} : ∀ {br : Br} {n j : Nat}, Full br n → 1 ≤ j → j ≤ n + 1 → ∃ br', br.upd1 j o = some br' ∧ Full br' (max n j) := by
  intro br
  induction br with
  | leaf =>
    intro n j hf h1 h2
    cases hf
    have hj : j = 1 := by omega
    subst hj
    exact ⟨.node o .leaf .leaf, rfl, 0, 0, rfl, .inl rfl, rfl, rfl⟩
  | node x l r ihl ihr =>
    intro n j hf h1 h2
    obtain ⟨a, b, rfl, hab, hl, hr⟩ := hf
    rw [Br.upd1_node]
    by_cases hj : j = 1
    · rw [if_pos hj]
      exact ⟨_, rfl, a, b, by omega, hab, hl, hr⟩
    · rw [if_neg hj]
      by_cases he : j % 2 = 0
      · rw [if_pos he]
        obtain ⟨l', hl', hf'⟩ := ihl hl (j := j / 2) (by omega) (by omega)
        rw [hl']
        exact ⟨_, rfl, max a (j / 2), b, by omega, by omega, hf', hr⟩
      · rw [if_neg he]
        obtain ⟨r', hr', hf'⟩ := ihr hr (j := j / 2) (by omega) (by omega)
        rw [hr']
        exact ⟨_, rfl, a, max b (j / 2), by omega, by omega, hl, hf'⟩

class OkH (h : PH) : Prop where
  fz : h.fz ≤ h.n
  full : Full h.br h.n

theorem PH.raw_lt {h : PH} {b : Nat} (hb : b < h.n) : h.raw b = h.br.get b := by
  unfold PH.raw
  have : Nat.blt b h.n = true := Nat.ble_eq_true_of_le hb
  rw [this]
theorem PH.raw_ge {h : PH} {b : Nat} (hb : ¬ b < h.n) : h.raw b = none := by
  unfold PH.raw
  cases hq : Nat.blt b h.n with
  | true => exact absurd (Nat.le_of_ble_eq_true hq) hb
  | false => rfl

theorem push_ex (h : PH) [k : OkH h] (o : AObj) : ∃ h', h.push o = some h' ∧ OkH h' ∧ h'.n = h.n + 1 ∧ h'.fz = h.fz ∧ ∀ b, h'.raw b = if b = h.n then some o else h.raw b := by
  obtain ⟨br, hu, hf⟩ := k.full.upd (o := .base o) (j := h.n + 1) (by omega) (by omega)
  have hu : h.br.upd h.n o = some br := hu
  have hfz := k.fz
  have hp : h.push o = some ⟨h.n + 1, h.fz, br⟩ := by
    unfold PH.push
    have : Nat.ble h.fz h.n = true := Nat.ble_eq_true_of_le hfz
    rw [this, hu]
    show (seqN (.succ h.n) fun n => seqN h.fz fun z => some (PH.mk n z br)) = _
    rw [seqN_eq, seqN_eq]
  refine ⟨_, hp, ⟨by show h.fz ≤ h.n + 1; omega, ?_⟩, rfl, rfl, fun b => ?_⟩
  · have : max h.n (h.n + 1) = h.n + 1 := by omega
    rw [this] at hf
    exact hf
  · have hg := Br.upd_get hu b
    by_cases hb : b < h.n + 1
    · rw [PH.raw_lt (h := ⟨h.n + 1, h.fz, br⟩) hb]
      show br.get b = _
      rw [hg]
      split
      · rfl
      · rw [PH.raw_lt (by omega)]
    · rw [PH.raw_ge (h := ⟨h.n + 1, h.fz, br⟩) hb, if_neg (by omega), PH.raw_ge (by omega)]

theorem set_ex (h : PH) [k : OkH h] {b : Nat} (hb : b < h.n) (hz : h.fz ≤ b) (o : AObj) : ∃ h', h.set b o = some h' ∧ OkH h' ∧ h'.n = h.n ∧ h'.fz = h.fz ∧ ∀ c, h'.raw c = if c = b then some o else h.raw c := by
  obtain ⟨br, hu, hf⟩ := k.full.upd (o := .base o) (j := b + 1) (by omega) (by omega)
  have hu : h.br.upd b o = some br := hu
  have hp : h.set b o = some ⟨h.n, h.fz, br⟩ := by
    unfold PH.set
    have h1 : Nat.blt b h.n = true := Nat.ble_eq_true_of_le hb
    have h2 : Nat.ble h.fz b = true := Nat.ble_eq_true_of_le hz
    rw [h1, h2, hu]
    show (seqN h.n fun n => seqN h.fz fun z => some (PH.mk n z br)) = _
    rw [seqN_eq, seqN_eq]
  refine ⟨_, hp, ⟨k.fz, ?_⟩, rfl, rfl, fun c => ?_⟩
  · have : max h.n (b + 1) = h.n := by omega
    rw [this] at hf
    exact hf
  · have hg := Br.upd_get hu c
    by_cases hc : c < h.n
    · rw [PH.raw_lt (h := ⟨h.n, h.fz, br⟩) hc]
      show br.get c = _
      rw [hg]
      split
      · rfl
      · rw [PH.raw_lt hc]
    · rw [PH.raw_ge (h := ⟨h.n, h.fz, br⟩) hc, if_neg (by omega), PH.raw_ge hc]

/-- A row of one's own, to which may be written. -/
def Mine (h : PH) (b : Nat) (cs : List Value) : Prop := h.fz ≤ b ∧ ∃ m esz, h.raw b = some (.row m esz cs) ∧ mro m = false
/-- A row that is read. -/
def Sees (h : PH) (b : Nat) (cs : List Value) : Prop := h.cells b = some cs
theorem Mine.sees {h : PH} {b : Nat} {cs : List Value} (m : Mine h b cs) : Sees h b cs := by
  obtain ⟨_, m, esz, hr, _⟩ := m
  unfold Sees PH.cells
  rw [hr]; rfl
theorem Sees.lt {h : PH} {b : Nat} {cs : List Value} (s : Sees h b cs) : b < h.n := by
  unfold Sees PH.cells at s
  obtain ⟨o, h1, _⟩ := ob_ok s
  exact (PH.raw_ok h1).1
theorem Sees.of_raw {h h' : PH} {b : Nat} {cs : List Value} (s : Sees h b cs) (hr : h'.raw b = h.raw b) : Sees h' b cs := by
  unfold Sees PH.cells at s ⊢
  rw [hr]; exact s
theorem Mine.of_raw {h h' : PH} {b : Nat} {cs : List Value} (s : Mine h b cs) (hr : h'.raw b = h.raw b) (hz : h'.fz = h.fz) : Mine h' b cs := by
  obtain ⟨h1, m, esz, h2, h3⟩ := s
  exact ⟨by rw [hz]; exact h1, m, esz, hr.trans h2, h3⟩

/-- A row that stands open, if it is one. -/
def Op (h : PH) (b s : Nat) : Prop := ∀ m e cs, h.raw b = some (.row m e cs) → m = .opn ∧ e = s
abbrev OpK (h h' : PH) : Prop := ∀ c s, c < h.n → Op h c s → Op h' c s
theorem Op.of_raw {h h' : PH} {b s : Nat} (o : Op h b s) (hr : h'.raw b = h.raw b) : Op h' b s := fun m e cs hq => o m e cs (hr ▸ hq)
theorem opK_of {h h' : PH} (hr : ∀ c, c < h.n → h'.raw c = h.raw c) : OpK h h' := fun c s hc o => o.of_raw (hr c hc)
theorem opK_set {h h' : PH} {b esz : Nat} {m : Mode} {cs cs' : List Value} (h1 : h.raw b = some (.row m esz cs)) (hr : ∀ c, h'.raw c = if c = b then some (.row m esz cs') else h.raw c) : OpK h h' := by
  intro c s hc o m' e' cs2 hq
  rw [hr] at hq
  split at hq
  · rename_i e; subst e; cases hq; exact o _ _ _ h1
  · exact o _ _ _ hq
/-- What lies ahead of N is as it was. -/
structure Kp (N : Nat) (h h' : PH) : Prop where
  ok : OkH h'
  le : h.n ≤ h'.n
  fz : h'.fz = h.fz
  raw : ∀ b, b < N → h'.raw b = h.raw b
  op : OpK h h'
theorem Kp.refl (N : Nat) (h : PH) [k : OkH h] : Kp N h h := ⟨k, Nat.le_refl _, rfl, fun _ _ => rfl, fun _ _ _ o => o⟩
theorem Kp.trans {N : Nat} {h h1 h2 : PH} (a : Kp N h h1) (b : Kp N h1 h2) : Kp N h h2 := ⟨b.ok, Nat.le_trans a.le b.le, b.fz.trans a.fz, fun i hi => (b.raw i hi).trans (a.raw i hi), fun c s hc o => b.op c s (Nat.lt_of_lt_of_le hc a.le) (a.op c s hc o)⟩
theorem Kp.sees {N : Nat} {h h' : PH} (k : Kp N h h') {b : Nat} {cs : List Value} (s : Sees h b cs) (hb : b < N) : Sees h' b cs := s.of_raw (k.raw b hb)

/-! ### a run, and what it comes to -/
def Ret (r : R) (Q : Value → PH → Prop) : Prop := ∃ v h, r = some (v, h) ∧ Q v h
theorem Ret.mono {r : R} {Q Q' : Value → PH → Prop} (a : Ret r Q) (hq : ∀ v h, Q v h → Q' v h) : Ret r Q' := let ⟨v, h, e, q⟩ := a; ⟨v, h, e, hq v h q⟩
theorem Ret.of {v : Value} {h : PH} {Q : Value → PH → Prop} (q : Q v h) : Ret (some (v, h)) Q := ⟨v, h, rfl, q⟩
section
variable {Q : Value → PH → Prop} {h : PH} {K : Value → R} {K2 : Value → PH → R}
theorem Ret.vb {o : Option Value} {v : Value} (e : o = some v) (k : Ret (K v) Q) : Ret (vb o K) Q := by rw [e]; exact k
theorem Ret.hb {r : R} {Q1 : Value → PH → Prop} (a : Ret r Q1) (k : ∀ v h', Q1 v h' → Ret (K2 v h') Q) : Ret (hb r K2) Q := by
  obtain ⟨v, h', rfl, q⟩ := a
  exact k v h' q
theorem Ret.bite {v : Value} {x y : R} {b : Bool} (e : v = .bool b) (t : b = true → Ret x Q) (f : b = false → Ret y Q) : Ret (bite v x y) Q := by
  subst e
  cases b with
  | true => exact t rfl
  | false => exact f rfl

/-- A new object. -/
theorem Ret.new [k : OkH h] {o : AObj} {F : PH → R} (e : ∀ h', h.push o = some h' → F h' = F h') (hk : ∀ h', Kp h.n h h' → h'.n = h.n + 1 → h'.raw h.n = some o → Ret (F h') Q) : Ret (match h.push o with | some h' => F h' | none => none) Q := by
  obtain ⟨h', hp, ok, hn, hz, hr⟩ := push_ex h o
  rw [hp]
  refine hk h' ⟨ok, by omega, hz, fun b hb => ?_, opK_of fun b hb => ?_⟩ hn ?_
  · rw [hr, if_neg (by omega)]
  · rw [hr, if_neg (by omega)]
  · rw [hr, if_pos rfl]

theorem mine_own {h : PH} {b esz : Nat} {cs : List Value} (hr : h.raw b = some (.row .own esz cs)) (hz : h.fz ≤ b) : Mine h b cs := ⟨hz, _, _, hr, rfl⟩
theorem mine_opn {h : PH} {b esz : Nat} {cs : List Value} (hr : h.raw b = some (.row .opn esz cs)) (hz : h.fz ≤ b) : Mine h b cs := ⟨hz, _, _, hr, rfl⟩

theorem Ret.newP [k : OkH h] {cs : List Value} (hk : ∀ h', Kp h.n h h' → h'.n = h.n + 1 → Mine h' h.n cs → Ret (K2 (.pointer (some ⟨h.n, 0, none⟩)) h') Q) : Ret (Go.Am.hb (xNewP cs h) K2) Q := by
  obtain ⟨h', hp, ok, hn, hz, hr⟩ := push_ex h (.row .own 1 cs)
  have e : xNewP cs h = some (.pointer (some ⟨h.n, 0, none⟩), h') := by unfold xNewP; rw [hp]
  rw [e]
  refine hk h' ⟨ok, by omega, hz, fun b hb => ?_, opK_of fun b hb => ?_⟩ hn (mine_own (by rw [hr, if_pos rfl]) (by have := k.fz; omega))
  · rw [hr, if_neg (by omega)]
  · rw [hr, if_neg (by omega)]
theorem Ret.box [k : OkH h] {v : Value} (hk : ∀ h', Kp h.n h h' → h'.n = h.n + 1 → Mine h' h.n (cellsL v) → Ret (K2 (.pointer (some ⟨h.n, 0, none⟩)) h') Q) : Ret (Go.Am.hb (xBox v h) K2) Q := Ret.newP hk
theorem Ret.alloc [k : OkH h] {zs : Option (List Value)} {cs : List Value} (e : zs = some cs) (hk : ∀ h', Kp h.n h h' → h'.n = h.n + 1 → Mine h' h.n cs → Ret (K2 (.pointer (some ⟨h.n, 0, none⟩)) h') Q) : Ret (Go.Am.hb (xAlloc zs h) K2) Q := by
  subst e; exact Ret.newP hk
theorem Ret.mk [k : OkH h] {zi : Option (Nat × Nat × List Value)} {sz bt : Nat} {z : List Value} {kk kk' : IntKind} {l c : Int} (e : zi = some (sz, bt, z)) (h0 : 0 ≤ l) (h1 : l ≤ c) (h2 : c ≤ 4611686018427387903) (h3 : (bt : Int) * c ≤ 281474976710656)
    (hk : ∀ h', Kp h.n h h' → h'.n = h.n + 1 → Mine h' h.n (zrows z c.toNat) → Ret (K2 (.slice (some ⟨h.n, 0, none⟩) l.toNat c.toNat) h') Q) : Ret (Go.Am.hb (xMk zi (.int kk l) (.int kk' c) h) K2) Q := by
  obtain ⟨a, rfl⟩ : ∃ a : Nat, l = .ofNat a := ⟨l.toNat, by simp; omega⟩
  obtain ⟨d, rfl⟩ : ∃ a : Nat, c = .ofNat a := ⟨c.toNat, by simp; omega⟩
  subst e
  obtain ⟨h', hp, ok, hn, hz, hr⟩ := push_ex h (.row .own sz (zrows z d))
  have b1 : Nat.ble a d = true := Nat.ble_eq_true_of_le (by simp at h1; omega)
  have b2 : Nat.ble d 4611686018427387903 = true := Nat.ble_eq_true_of_le (by simp at h2; omega)
  have b3 : Nat.ble (Nat.mul bt d) 281474976710656 = true := Nat.ble_eq_true_of_le (by
    have : ((bt * d : Nat) : Int) ≤ 281474976710656 := by rw [Int.natCast_mul]; exact h3
    show bt * d ≤ _
    omega)
  have e : xMk (some (sz, bt, z)) (.int kk (.ofNat a)) (.int kk' (.ofNat d)) h = some (.slice (some ⟨h.n, 0, none⟩) a d, h') := by
    simp only [xMk, b1, b2, b3, hp]
  rw [e]
  refine hk h' ⟨ok, by omega, hz, fun b hb => ?_, opK_of fun b hb => ?_⟩ hn (mine_own (by rw [hr, if_pos rfl]; rfl) (by have := k.fz; omega))
  · rw [hr, if_neg (by omega)]
  · rw [hr, if_neg (by omega)]

/-- Something is read. -/
theorem xLd_at {b o : Nat} {cs : List Value} {v : Value} (s : Sees h b cs) (e : cs[o]? = some v) : xLd (.pointer (some ⟨b, o, none⟩)) h = some v := by
  show ob (h.cells b) (fun cs => nth cs o) = _
  rw [s]
  exact (nth_eq cs o).trans e
theorem tkN_eq {K : List Value → Option Value} : ∀ {n : Nat} {l : List Value}, n ≤ l.length → tkN n l K = K (l.take n) := by
  intro n
  induction n generalizing K with
  | zero => intro l _; rw [List.take_zero]; rfl
  | succ n ih =>
    intro l hl
    cases l with
    | nil => simp at hl
    | cons x xs =>
      show tkN n xs (fun ys => K (x :: ys)) = _
      rw [ih (by simpa using hl)]
      rfl
theorem xLdA_at {b o n : Nat} {cs ys : List Value} (s : Sees h b cs) (e : (cs.drop o).take n = ys) (hl : o + n ≤ cs.length) : xLdA n (.pointer (some ⟨b, o, none⟩)) h = some (.agg ⟨ys⟩) := by
  show ob (h.cells b) (fun cs => tkN n (cs.drop o) fun ys => some (.agg ⟨ys⟩)) = _
  rw [s]
  show tkN n (cs.drop o) _ = _
  rw [tkN_eq (by simp; omega), e]
@[simp] theorem xFld_p {n b o : Nat} : xFld n (.pointer (some ⟨b, o, none⟩)) = some (.pointer (some ⟨b, o + n, none⟩)) := addrK_eq _ _
theorem xIdxS_at {sz b o n c : Nat} {k : IntKind} {i : Int} (h0 : 0 ≤ i) (h1 : i < n) : xIdxS sz (.slice (some ⟨b, o, none⟩) n c) (.int k i) = some (.pointer (some ⟨b, o + i.toNat * sz, none⟩)) := by
  obtain ⟨j, rfl⟩ : ∃ j : Nat, i = .ofNat j := ⟨i.toNat, by simp; omega⟩
  show grd (Nat.blt j n) (addrK b (o + j * sz)) = _
  have : Nat.blt j n = true := Nat.ble_eq_true_of_le (by simp at h1; omega)
  rw [this, addrK_eq]
  rfl
@[simp] theorem xLenS_s {a : Option Addr} {n c : Nat} : xLenS (.slice a n c) = some (.int .i64 n) := by simp [xLenS, seqN_eq]

theorem stK_eq {α : Type} {K : List Value → Option α} {cs : List Value} {v : Value} : ∀ {i : Nat}, i < cs.length → stK cs i v K = K (cs.set i v) := by
  induction cs generalizing K with
  | nil => intro i hi; simp at hi
  | cons x xs ih =>
    intro i hi
    cases i with
    | zero => rfl
    | succ i =>
      show stK xs i v (fun ys => K (x :: ys)) = _
      rw [ih (by simpa using hi)]
      rfl
theorem stsK_eq {α : Type} {K : List Value → Option α} : ∀ {vs cs : List Value} {i : Nat}, i + vs.length ≤ cs.length → stsK cs i vs K = K (setsL cs i vs) := by
  intro vs
  induction vs with
  | nil => intro cs i _; rfl
  | cons v vs ih =>
    intro cs i hl
    simp at hl
    show stK cs i v (fun cs => stsK cs (i + 1) vs K) = _
    rw [stK_eq (by omega), ih (by simp; omega)]
    rfl
/-- Something is written. -/
theorem Ret.st1 [k : OkH h] {b o : Nat} {cs : List Value} {v : Value} (s : Mine h b cs) (ho : o < cs.length) (hv : v.oneCell' = true) (hk : ∀ h', Kp b h h' → h'.n = h.n → (∀ c, c ≠ b → h'.raw c = h.raw c) → Mine h' b (cs.set o v) → Ret (K2 undef h') Q) :
    Ret (Go.Am.hb (xSt1 (.pointer (some ⟨b, o, none⟩)) v h) K2) Q := by
  have hlt := s.sees.lt
  obtain ⟨hz, m, esz, hr, hm⟩ := s
  obtain ⟨h', hp, ok, hn, hfz, hr'⟩ := set_ex h hlt hz (.row m esz (cs.set o v))
  have hg : h.get b = some (.row m esz cs) := by
    unfold PH.get
    rw [hr]
    have : Nat.blt b h.fz = false := by
      cases hq : Nat.blt b h.fz with
      | false => rfl
      | true => have : b < h.fz := Nat.le_of_ble_eq_true hq; omega
    rw [this]
  have e : xSt1 (.pointer (some ⟨b, o, none⟩)) v h = some (undef, h') := by
    simp only [xSt1, hv, hg, hm]
    rw [stK_eq ho]
    simp only [hp]
  rw [e]
  refine hk h' ⟨ok, by omega, hfz, fun c hc => ?_, opK_set hr hr'⟩ hn (fun c hc => ?_) ⟨by rw [hfz]; exact hz, m, esz, by rw [hr', if_pos rfl], hm⟩
  · rw [hr', if_neg (by omega)]
  · rw [hr', if_neg hc]
theorem Ret.stA [k : OkH h] {b o sz : Nat} {cs vs : List Value} (s : Mine h b cs) (hs : vs.length = sz) (ho : o + sz ≤ cs.length) (hv : oneCells vs = true) (hk : ∀ h', Kp b h h' → h'.n = h.n → (∀ c, c ≠ b → h'.raw c = h.raw c) → Mine h' b (setsL cs o vs) → Ret (K2 undef h') Q) :
    Ret (Go.Am.hb (xStA sz (.pointer (some ⟨b, o, none⟩)) (.agg ⟨vs⟩) h) K2) Q := by
  have hlt := s.sees.lt
  obtain ⟨hz, m, esz, hr, hm⟩ := s
  obtain ⟨h', hp, ok, hn, hfz, hr'⟩ := set_ex h hlt hz (.row m esz (setsL cs o vs))
  have hg : h.get b = some (.row m esz cs) := by
    unfold PH.get
    rw [hr]
    have : Nat.blt b h.fz = false := by
      cases hq : Nat.blt b h.fz with
      | false => rfl
      | true => have : b < h.fz := Nat.le_of_ble_eq_true hq; omega
    rw [this]
  have hb : Nat.beq vs.length sz = true := by rw [hs]; exact Nat.beq_refl sz
  have e : xStA sz (.pointer (some ⟨b, o, none⟩)) (.agg ⟨vs⟩) h = some (undef, h') := by
    simp only [xStA, hb, hv, hg, hm]
    rw [stsK_eq (by omega)]
    simp only [hp]
  rw [e]
  refine hk h' ⟨ok, by omega, hfz, fun c hc => ?_, opK_set hr hr'⟩ hn (fun c hc => ?_) ⟨by rw [hfz]; exact hz, m, esz, by rw [hr', if_pos rfl], hm⟩
  · rw [hr', if_neg (by omega)]
  · rw [hr', if_neg hc]

/-! ### calls -/
instance okFzn [k : OkH h] : OkH h.fzn := ⟨Nat.le_refl _, k.full⟩
theorem raw_fzn (b : Nat) : h.fzn.raw b = h.raw b := rfl
theorem Sees.fzn {b : Nat} {cs : List Value} (s : Sees h b cs) : Sees h.fzn b cs := s
theorem pcall_of {r : R} {v : Value} (hr : Ret r fun u _ => u = v) (hp : plainV v = true) : pcall r = some v := by
  obtain ⟨u, h', rfl, rfl⟩ := hr
  exact pcall_some hp
/-- A call that writes nothing that was there. -/
theorem Ret.fcall [k : OkH h] {r : R} {Q1 : Value → PH → Prop} (a : Ret r fun v h1 => Kp h.n h.fzn h1 ∧ Q1 v h1) (hk : ∀ v h1, Q1 v h1 → Kp h.n h (h.back h1) → (∀ b, (h.back h1).raw b = h1.raw b) → Ret (K2 v (h.back h1)) Q) : Ret (Go.Am.hb (fcall h r) K2) Q := by
  obtain ⟨v, h1, rfl, kp, q⟩ := a
  have e : Go.Am.fcall h (some (v, h1)) = some (v, h.back h1) := by
    show Bool.rec (motive := fun _ => R) none (some (v, h.back h1)) (Nat.ble h.fz h.n) = _
    rw [Nat.ble_eq_true_of_le k.fz]
  rw [e]
  have hle : h.n ≤ h1.n := kp.le
  refine hk v h1 q ⟨⟨by show h.fz ≤ h1.n; have := k.fz; omega, kp.ok.full⟩, hle, rfl, fun b hb => kp.raw b hb, fun c s hc o => kp.op c s hc o⟩ fun b => rfl
end
end Go.Am

set_option linter.unusedSimpArgs false
set_option linter.unusedVariables false
namespace Go.Am
open Go Go.RowKit

/-! ### what is told of memory within a function: it began in h0; these rows are its own -/
structure St (h0 h : PH) (rows : List (Nat × List Value)) : Prop where
  kp : Kp h0.n h0 h
  mine : ∀ p ∈ rows, Mine h p.1 p.2
  old : ∀ p ∈ rows, h0.n ≤ p.1
  nd : rows.Pairwise fun p q => p.1 ≠ q.1

theorem St.start (h : PH) [OkH h] : St h h [] := ⟨Kp.refl _ _, (fun _ h => by cases h), (fun _ h => by cases h), List.Pairwise.nil⟩

section
variable {Q : Value → PH → Prop} {h0 h : PH} {rows : List (Nat × List Value)} {K : Value → R} {K2 : Value → PH → R}

theorem St.ok (s : St h0 h rows) : OkH h := s.kp.ok
theorem St.sees (s : St h0 h rows) {b : Nat} {cs : List Value} (e : Sees h0 b cs) : Sees h b cs := s.kp.sees e e.lt
theorem St.row (s : St h0 h rows) {b : Nat} {cs : List Value} (e : (b, cs) ∈ rows) : Sees h b cs := (s.mine _ e).sees

/-- A new row. -/
theorem St.push (s : St h0 h rows) {h' : PH} {b : Nat} {cs : List Value} (k : Kp h.n h h') (m : Mine h' b cs) (hb : h.n ≤ b) : St h0 h' ((b, cs) :: rows) := by
  have hlt : ∀ p ∈ rows, p.1 < h.n := fun p hp => (s.mine p hp).sees.lt
  have hle := s.kp.le
  refine ⟨⟨k.ok, Nat.le_trans s.kp.le k.le, k.fz.trans s.kp.fz, fun c hc => (k.raw c (by omega)).trans (s.kp.raw c hc), fun c s' hc o => k.op c s' (by have := s.kp.le; omega) (s.kp.op c s' hc o)⟩, ?_, ?_, ?_⟩
  · intro p hp
    rcases List.mem_cons.1 hp with rfl | hp
    · exact m
    · exact (s.mine p hp).of_raw (k.raw _ (hlt p hp)) k.fz
  · intro p hp
    rcases List.mem_cons.1 hp with rfl | hp
    · show h0.n ≤ b; omega
    · exact s.old p hp
  · refine .cons (fun p hp e => ?_) s.nd
    have := hlt p hp
    have e : b = p.1 := e
    omega
/-- A row is written. -/
theorem St.put (s : St h0 h rows) {h' : PH} {i b : Nat} {cs cs' : List Value} (hi : rows[i]? = some (b, cs)) (k : Kp b h h') (hr : ∀ c, c ≠ b → h'.raw c = h.raw c) (m : Mine h' b cs') : St h0 h' (rows.set i (b, cs')) := by
  have hmem := List.mem_of_getElem? hi
  have hlt := (List.getElem?_eq_some_iff.1 hi).1
  have hold := s.old _ hmem
  have hne : ∀ (j : Nat) p, rows[j]? = some p → j ≠ i → p.1 ≠ b := by
    intro j p hj hji e
    have hjlt := (List.getElem?_eq_some_iff.1 hj).1
    have hp : rows[j] = p := (List.getElem?_eq_some_iff.1 hj).2
    have hq : rows[i] = (b, cs) := (List.getElem?_eq_some_iff.1 hi).2
    have pw := List.pairwise_iff_getElem.1 s.nd
    rcases Nat.lt_or_gt_of_ne hji with h1 | h1
    · have := pw j i hjlt hlt h1; rw [hp, hq] at this; exact this e
    · have := pw i j hlt hjlt h1; rw [hp, hq] at this; exact this e.symm
  have at' : ∀ p ∈ rows.set i (b, cs'), p = (b, cs') ∨ ∃ j, j ≠ i ∧ rows[j]? = some p := by
    intro p hp
    obtain ⟨j, hj⟩ := List.getElem?_of_mem hp
    by_cases e : i = j
    · subst e
      rw [List.getElem?_set_self hlt] at hj
      cases hj; exact .inl rfl
    · rw [List.getElem?_set_ne e] at hj
      exact .inr ⟨j, fun c => e c.symm, hj⟩
  refine ⟨⟨k.ok, Nat.le_trans s.kp.le k.le, k.fz.trans s.kp.fz, fun c hc => (k.raw c (by omega)).trans (s.kp.raw c hc), fun c s' hc o => k.op c s' (by have := s.kp.le; omega) (s.kp.op c s' hc o)⟩, ?_, ?_, ?_⟩
  · intro p hp
    rcases at' p hp with rfl | ⟨j, hj, hp⟩
    · exact m
    · exact (s.mine p (List.mem_of_getElem? hp)).of_raw (hr _ (hne j p hp hj)) k.fz
  · intro p hp
    rcases at' p hp with rfl | ⟨j, hj, hp⟩
    · exact hold
    · exact s.old p (List.mem_of_getElem? hp)
  · have e : (rows.set i (b, cs')).map (·.1) = rows.map (·.1) := by
      apply List.ext_getElem?
      intro j
      rw [List.getElem?_map, List.getElem?_map, List.getElem?_set]
      by_cases e : i = j
      · subst e
        rw [if_pos rfl, if_pos hlt, hi]; rfl
      · rw [if_neg e]
    have pw : (rows.map (·.1)).Pairwise (· ≠ ·) := List.pairwise_map.2 s.nd
    rw [← e] at pw
    exact List.pairwise_map.1 pw
theorem St.drop (s : St h0 h rows) {rows' : List (Nat × List Value)} (hs : rows'.Sublist rows) : St h0 h rows' :=
  ⟨s.kp, fun p hp => s.mine p (hs.subset hp), fun p hp => s.old p (hs.subset hp), s.nd.sublist hs⟩

/-! ### operations, told of the rows -/
theorem Ret.sbox (s : St h0 h rows) {v : Value} (hk : ∀ h b, St h0 h ((b, cellsL v) :: rows) → Ret (K2 (.pointer (some ⟨b, 0, none⟩)) h) Q) : Ret (Go.Am.hb (xBox v h) K2) Q := by
  have := s.ok
  exact Ret.box fun h' k hn m => hk h' _ (s.push k m (Nat.le_refl _))
theorem Ret.salloc (s : St h0 h rows) {zs : Option (List Value)} {cs : List Value} (e : zs = some cs) (hk : ∀ h b, St h0 h ((b, cs) :: rows) → Ret (K2 (.pointer (some ⟨b, 0, none⟩)) h) Q) : Ret (Go.Am.hb (xAlloc zs h) K2) Q := by
  have := s.ok
  exact Ret.alloc e fun h' k hn m => hk h' _ (s.push k m (Nat.le_refl _))
theorem Ret.smk (s : St h0 h rows) {zi : Option (Nat × Nat × List Value)} {sz bt : Nat} {z : List Value} {kk kk' : IntKind} {l c : Int} (e : zi = some (sz, bt, z)) (h0' : 0 ≤ l) (h1 : l ≤ c) (h2 : c ≤ 4611686018427387903) (h3 : (bt : Int) * c ≤ 281474976710656)
    (hk : ∀ h b, St h0 h ((b, zrows z c.toNat) :: rows) → Ret (K2 (.slice (some ⟨b, 0, none⟩) l.toNat c.toNat) h) Q) : Ret (Go.Am.hb (xMk zi (.int kk l) (.int kk' c) h) K2) Q := by
  have := s.ok
  exact Ret.mk e h0' h1 h2 h3 fun h' k hn m => hk h' _ (s.push k m (Nat.le_refl _))
theorem Ret.sst1 (s : St h0 h rows) {i b o : Nat} {cs : List Value} {v : Value} (hi : rows[i]? = some (b, cs)) (ho : o < cs.length) (hv : v.oneCell' = true) (hk : ∀ h, St h0 h (rows.set i (b, cs.set o v)) → Ret (K2 undef h) Q) :
    Ret (Go.Am.hb (xSt1 (.pointer (some ⟨b, o, none⟩)) v h) K2) Q := by
  have := s.ok
  exact Ret.st1 (s.mine _ (List.mem_of_getElem? hi)) ho hv fun h' k hn hr m => hk h' (s.put hi k hr m)
theorem Ret.sstA (s : St h0 h rows) {i b o sz : Nat} {cs vs : List Value} (hi : rows[i]? = some (b, cs)) (hs : vs.length = sz) (ho : o + sz ≤ cs.length) (hv : oneCells vs = true) (hk : ∀ h, St h0 h (rows.set i (b, setsL cs o vs)) → Ret (K2 undef h) Q) :
    Ret (Go.Am.hb (xStA sz (.pointer (some ⟨b, o, none⟩)) (.agg ⟨vs⟩) h) K2) Q := by
  have := s.ok
  exact Ret.stA (s.mine _ (List.mem_of_getElem? hi)) hs ho hv fun h' k hn hr m => hk h' (s.put hi k hr m)

/-! ### rows that are read -/
/-- The slice v reads as l; an element's cells are told by E. -/
def RdS {α : Type} (E : α → List Value → Prop) (sz : Nat) (h : PH) (v : Value) (l : List α) : Prop :=
  (l = [] ∧ ∃ a c, v = .slice a 0 c) ∨ ∃ b o c cs, v = .slice (some ⟨b, o, none⟩) l.length c ∧ Sees h b cs ∧ ∀ (i : Nat) x, l[i]? = some x → o + i * sz + sz ≤ cs.length ∧ E x ((cs.drop (o + i * sz)).take sz)
theorem RdS.len {α : Type} {E : α → List Value → Prop} {sz : Nat} {v : Value} {l : List α} (r : RdS E sz h v l) : xLenS v = some (.int .i64 l.length) := by
  rcases r with ⟨rfl, a, c, rfl⟩ | ⟨b, o, c, cs, rfl, _⟩ <;> simp
theorem RdS.one {α : Type} {E : α → List Value → Prop} {sz : Nat} {v : Value} {l : List α} (r : RdS E sz h v l) : v.oneCell' = true := by
  rcases r with ⟨rfl, a, c, rfl⟩ | ⟨b, o, c, cs, rfl, _⟩ <;> rfl
theorem RdS.mono {α : Type} {E E' : α → List Value → Prop} {sz : Nat} {h' : PH} {v : Value} {l : List α} (hs : ∀ b cs, Sees h b cs → Sees h' b cs) (hE : ∀ x ∈ l, ∀ es, E x es → E' x es) (r : RdS E sz h v l) : RdS E' sz h' v l := by
  rcases r with h1 | ⟨b, o, c, cs, h1, h2, h3⟩
  · exact .inl h1
  · exact .inr ⟨b, o, c, cs, h1, hs _ _ h2, fun i x hx => ⟨(h3 i x hx).1, hE x (List.mem_of_getElem? hx) _ (h3 i x hx).2⟩⟩
theorem Ret.idx {α : Type} {E : α → List Value → Prop} {sz : Nat} {v : Value} {l : List α} {k : IntKind} {i : Int} (r : RdS E sz h v l) (h1 : 0 ≤ i) (h2 : i < l.length)
    (hk : ∀ b o cs x, l[i.toNat]? = some x → Sees h b cs → o + sz ≤ cs.length → E x ((cs.drop o).take sz) → Ret (K (.pointer (some ⟨b, o, none⟩))) Q) : Ret (Go.Am.vb (xIdxS sz v (.int k i)) K) Q := by
  rcases r with ⟨rfl, _⟩ | ⟨b, o, c, cs, rfl, s, he⟩
  · simp at h2; omega
  · have hlt : i.toNat < l.length := by omega
    have := he _ _ (List.getElem?_eq_getElem hlt)
    exact Ret.vb (xIdxS_at h1 h2) (hk b _ cs _ (List.getElem?_eq_getElem hlt) s this.1 this.2)
theorem xLdE {b o sz : Nat} {cs es : List Value} {v : Value} (s : Sees h b cs) (hl : o + sz ≤ cs.length) (he : (cs.drop o).take sz = es) {j : Nat} (hj : es[j]? = some v) : xLd (.pointer (some ⟨b, o + j, none⟩)) h = some v := by
  refine xLd_at s ?_
  subst he
  have hlt := (List.getElem?_eq_some_iff.1 hj).1
  rw [List.getElem?_take] at hj
  split at hj
  · rw [List.getElem?_drop] at hj; exact hj
  · cases hj
end

def intE (x : Int) (es : List Value) : Prop := es = [.int .i64 x]
def int3E (x : Int × Int × Int) (es : List Value) : Prop := es = [.int .i64 x.1, .int .i64 x.2.1, .int .i64 x.2.2]
abbrev RdI (h : PH) (v : Value) (l : List Int) : Prop := RdS intE 1 h v l
def inR (x : Int) : Prop := -9223372036854775808 ≤ x ∧ x < 9223372036854775808

/-- A row of one's own, of one cell each, read. -/
theorem RdS.ofRow {α : Type} {e : α → Value} {h : PH} {b c : Nat} {l : List α} (s : Sees h b (l.map e)) : RdS (fun x es => es = [e x]) 1 h (.slice (some ⟨b, 0, none⟩) l.length c) l := by
  refine .inr ⟨b, 0, c, _, rfl, s, fun i x hx => ?_⟩
  have hlt := (List.getElem?_eq_some_iff.1 hx).1
  refine ⟨by simp; omega, ?_⟩
  rw [Nat.zero_add, Nat.mul_one, List.drop_eq_getElem_cons (by simpa using hlt), List.take_succ_cons, List.take_zero, List.getElem_map]
  rw [(List.getElem?_eq_some_iff.1 hx).2]

structure Rl where
  left : Int
  right : List Int
  dyn : Int
structure Gr where
  names : Int
  kinds : Int
  start : Int
  rules : List Rl
  forbid : List (Int × Int × Int)
  rclass : List Int
  kclass : List Int
def ruleE (h : PH) (r : Rl) (es : List Value) : Prop := ∃ rv, es = [.int .i64 r.left, rv, .int .i64 r.dyn] ∧ RdI h rv r.right
/-- The value v is the grammar g. -/
structure RdG (h : PH) (v : Value) (g : Gr) (rv fv cv kv : Value) : Prop where
  v : v = .agg ⟨[.int .i64 g.names, .int .i64 g.kinds, .int .i64 g.start, rv, fv, cv, kv]⟩
  rules : RdS (ruleE h) 3 h rv g.rules
  forbid : RdS int3E 3 h fv g.forbid
  rclass : RdI h cv g.rclass
  kclass : RdI h kv g.kclass
/-- The numbers of a grammar are numbers of the machine, its rows no longer than may be. -/
structure GIn (g : Gr) : Prop where
  names : inR g.names
  kinds : inR g.kinds
  start : inR g.start
  rlen : g.rules.length < 9223372036854775808
  flen : g.forbid.length < 9223372036854775808
  clen : g.rclass.length < 9223372036854775808
  klen : g.kclass.length < 9223372036854775808
  left : ∀ r ∈ g.rules, inR r.left
  dyn : ∀ r ∈ g.rules, inR r.dyn
  right : ∀ r ∈ g.rules, ∀ s ∈ r.right, inR s
  rl : ∀ r ∈ g.rules, r.right.length < 9223372036854775808
  fin : ∀ f ∈ g.forbid, inR f.1 ∧ inR f.2.1 ∧ inR f.2.2
theorem RdI.mono {h h' : PH} {v : Value} {l : List Int} (hs : ∀ b cs, Sees h b cs → Sees h' b cs) (r : RdI h v l) : RdI h' v l := RdS.mono hs (fun _ _ _ e => e) r
theorem RdG.mono {h h' : PH} {v rv fv cv kv : Value} {g : Gr} (hs : ∀ b cs, Sees h b cs → Sees h' b cs) (r : RdG h v g rv fv cv kv) : RdG h' v g rv fv cv kv :=
  ⟨r.v, RdS.mono hs (fun _ _ _ ⟨q, e1, e2⟩ => ⟨q, e1, e2.mono hs⟩) r.rules, RdS.mono hs (fun _ _ _ e => e) r.forbid, r.rclass.mono hs, r.kclass.mono hs⟩
end Go.Am

set_option linter.unusedSimpArgs false
set_option linter.unusedVariables false
namespace Go.Am
open Go Go.RowKit Go.ChangeShapes Go.WideShapes

/-! ### what is seen of memory -/
abbrev Vw := Nat → Option (List Value)
def Vw.le (V W : Vw) : Prop := ∀ b cs, V b = some cs → W b = some cs
theorem Vw.le.refl (V : Vw) : Vw.le V V := fun _ _ h => h
theorem Vw.le.trans {V W X : Vw} (a : Vw.le V W) (b : Vw.le W X) : Vw.le V X := fun c cs h => b c cs (a c cs h)

/-- How data of a kind stands in cells. -/
structure Rdr (α : Type) where
  sz : Nat
  E : Vw → α → List Value → Prop
  mono : ∀ {V W : Vw} {x : α} {es : List Value}, Vw.le V W → E V x es → E W x es
  len : ∀ {V : Vw} {x : α} {es : List Value}, E V x es → es.length = sz
  one : ∀ {V : Vw} {x : α} {es : List Value}, E V x es → oneCells es = true
def RdV {α : Type} (R : Rdr α) (V : Vw) (v : Value) (l : List α) : Prop :=
  (l = [] ∧ ∃ a c, v = .slice a 0 c) ∨ ∃ b o c cs, v = .slice (some ⟨b, o, none⟩) l.length c ∧ V b = some cs ∧ ∀ (i : Nat) x, l[i]? = some x → o + i * R.sz + R.sz ≤ cs.length ∧ R.E V x ((cs.drop (o + i * R.sz)).take R.sz)
theorem RdV.mono {α : Type} {R : Rdr α} {V W : Vw} {v : Value} {l : List α} (hs : Vw.le V W) (r : RdV R V v l) : RdV R W v l := by
  rcases r with h1 | ⟨b, o, c, cs, h1, h2, h3⟩
  · exact .inl h1
  · exact .inr ⟨b, o, c, cs, h1, hs _ _ h2, fun i x hx => ⟨(h3 i x hx).1, R.mono hs (h3 i x hx).2⟩⟩
theorem RdV.one {α : Type} {R : Rdr α} {V : Vw} {v : Value} {l : List α} (r : RdV R V v l) : v.oneCell' = true := by
  rcases r with ⟨rfl, a, c, rfl⟩ | ⟨b, o, c, cs, rfl, _⟩ <;> rfl
/-- The reading of before. -/
theorem RdV.toS {α : Type} {R : Rdr α} {h : PH} {v : Value} {l : List α} (r : RdV R h.cells v l) : RdS (R.E h.cells) R.sz h v l := r
/-- Numbers, of a kind; bools; texts. -/
def rI (k : IntKind) : Rdr Int := ⟨1, fun _ x es => es = [.int k x], fun _ h => h, fun h => by rw [h]; rfl, fun h => by rw [h]; rfl⟩
def rB : Rdr Bool := ⟨1, fun _ x es => es = [.bool x], fun _ h => h, fun h => by rw [h]; rfl, fun h => by rw [h]; rfl⟩
/-- A slice. -/
def Rdr.sl {α : Type} (R : Rdr α) : Rdr (List α) := ⟨1, fun V l es => ∃ v, es = [v] ∧ RdV R V v l, fun hs ⟨v, h1, h2⟩ => ⟨v, h1, h2.mono hs⟩, fun ⟨v, h1, _⟩ => by rw [h1]; rfl,
  fun ⟨v, h1, h2⟩ => by rw [h1]; simp only [oneCells, List.all_cons, List.all_nil, h2.one]; rfl⟩
/-- Two side by side. -/
def Rdr.pr {α β : Type} (R : Rdr α) (S : Rdr β) : Rdr (α × β) := ⟨R.sz + S.sz, fun V x es => ∃ e1 e2, es = e1 ++ e2 ∧ R.E V x.1 e1 ∧ S.E V x.2 e2,
  fun hs ⟨e1, e2, h, h1, h2⟩ => ⟨e1, e2, h, R.mono hs h1, S.mono hs h2⟩, fun ⟨e1, e2, h, h1, h2⟩ => by rw [h, List.length_append, R.len h1, S.len h2],
  fun ⟨e1, e2, h, h1, h2⟩ => by
    have a := R.one h1; have b := S.one h2
    unfold oneCells at a b ⊢
    rw [h, List.all_append, a, b]; rfl⟩
/-- So many of one kind. -/
def Rdr.arr {α : Type} (R : Rdr α) (n : Nat) : Rdr (List α) := ⟨n * R.sz, fun V l es => l.length = n ∧ es.length = n * R.sz ∧ ∀ (i : Nat) x, l[i]? = some x → R.E V x ((es.drop (i * R.sz)).take R.sz),
  fun hs ⟨h1, h2, h3⟩ => ⟨h1, h2, fun i x hx => R.mono hs (h3 i x hx)⟩, fun ⟨_, h2, _⟩ => h2,
  fun {V} {l} {es} ⟨h1, h2, h3⟩ => by
    have key : ∀ k, k ≤ n → oneCells (es.take (k * R.sz)) = true := by
      intro k
      induction k with
      | zero => intro _; simp [oneCells]
      | succ k ih =>
        intro hk
        have hx := List.getElem?_eq_getElem (l := l) (i := k) (by omega)
        have a := ih (by omega)
        have b := R.one (h3 k _ hx)
        have e : es.take ((k + 1) * R.sz) = es.take (k * R.sz) ++ (es.drop (k * R.sz)).take R.sz := by
          rw [Nat.add_mul, Nat.one_mul, List.take_add]
        unfold oneCells at a b ⊢
        rw [e, List.all_append, a, b]; rfl
    have := key n (Nat.le_refl _)
    rwa [← h2, List.take_length] at this⟩
/-- Told by another kind. -/
def Rdr.of {α β : Type} (R : Rdr α) (f : β → α) : Rdr β := ⟨R.sz, fun V x es => R.E V (f x) es, fun hs h => R.mono hs h, fun h => R.len h, fun h => R.one h⟩

/-! ### memory that is as told -/
theorem PH.of_fun (f : Nat → AObj) : ∀ n : Nat, ∃ h : PH, OkH h ∧ h.n = n ∧ h.fz = 0 ∧ ∀ b, h.raw b = if b < n then some (f b) else none
  | 0 => ⟨⟨0, 0, .leaf⟩, ⟨Nat.le_refl _, rfl⟩, rfl, rfl, fun b => by rw [PH.raw_ge (by show ¬ b < 0; omega), if_neg (by omega)]⟩
  | n + 1 => by
    obtain ⟨h, k, hn, hz, hr⟩ := PH.of_fun f n
    obtain ⟨h', _, ok, hn', hz', hr'⟩ := push_ex h (f n)
    refine ⟨h', ok, by omega, hz'.trans hz, fun b => ?_⟩
    rw [hr', hn, hr]
    by_cases e : b = n
    · subst e; rw [if_pos rfl, if_pos (by omega)]
    · rw [if_neg e]
      by_cases hb : b < n
      · rw [if_pos hb, if_pos (by omega)]
      · rw [if_neg hb, if_neg (by omega)]
theorem PH.of_list (l : List AObj) : ∃ h : PH, OkH h ∧ h.n = l.length ∧ h.fz = 0 ∧ ∀ b, h.raw b = l[b]? := by
  obtain ⟨h, k, hn, hz, hr⟩ := PH.of_fun (fun b => (l[b]?).getD .dead) l.length
  refine ⟨h, k, hn, hz, fun b => ?_⟩
  rw [hr]
  split
  · rename_i e; rw [List.getElem?_eq_getElem e]; rfl
  · rename_i e; rw [List.getElem?_eq_none (by omega)]
theorem PH.fzn_list {h : PH} {l : List AObj} (hn : h.n = l.length) (hr : ∀ b, h.raw b = l[b]?) (hf : ∀ o ∈ l, freeze o = o) : h.fzn.abs = l := by
  apply List.ext_getElem?
  intro i
  show ((List.range h.n).map fun i => frz (Nat.blt i h.n) ((h.br.get i).getD .dead))[i]? = l[i]?
  rw [List.getElem?_map]
  by_cases hi : i < h.n
  · have hl : l[i]? = some l[i] := List.getElem?_eq_getElem (by omega)
    have hb : Nat.blt i h.n = true := Nat.ble_eq_true_of_le hi
    have hg : h.br.get i = some l[i] := by rw [← PH.raw_lt hi, hr, hl]
    rw [List.getElem?_range hi, hl]
    simp only [Option.map_some, hb, hg, Option.getD_some, frz]
    rw [hf _ (List.getElem_mem _)]
  · rw [List.getElem?_eq_none (by simp; omega), List.getElem?_eq_none (by omega)]; rfl
/-- A call over memory that is read, told of the true world. -/
theorem calls_rel {P : Program} {f : FuncId} {args rargs : List Value} {v : Value} {h : Heap} {ρ : RMap} {Q : Heap → Prop} {w : World} (hr : Rel w.heap.size w ρ h w) (hp : VRs ρ args rargs) (hv : plainV v = true) (hc : ACall P f args h (fun u k => u = v ∧ Q k)) :
    Calls P f ⟨rargs⟩ w fun e w' => e = .returned v ∧ Below w.heap.size w w' := by
  refine (hc w.heap.size w ρ rargs w hr hp).mono ?_
  rintro e w' ⟨u, v', h', ρ', rfl, ⟨rfl, _⟩, _, hr, hvr⟩
  exact ⟨by rw [hvr.plain_eq hv], hr.below⟩

/-! ### an argument's image -/
def upR (ρ : RMap) (n : Nat) (L : RLoc) : RMap := fun b => if b = n then some L else ρ b
structure Im (w : World) (ρ : RMap) (l : Heap) : Prop where
  rel : Rel w.heap.size w ρ l w
  fro : ∀ o ∈ l, freeze o = o
  zero : ρ 0 = some ⟨0, 0, 0⟩
/-- There is a dead object at the beginning. -/
theorem Im.start (w : World) : Im w (upR (fun _ => none) 0 ⟨0, 0, 0⟩) [.dead] := by
  refine ⟨⟨Below.refl _ _, Nat.le_refl _, ?_, ?_, ?_, ?_, ?_⟩, by simp [freeze], rfl⟩
  · intro b L hb; unfold upR at hb; split at hb
    · rename_i e; subst e; simp
    · cases hb
  · intro b L o hb ho hd
    have := List.mem_of_getElem? ho
    simp at this; exact absurd this hd
  · intro b o ho hn hd
    have hm := List.mem_of_getElem? ho
    simp at hm; exact absurd hm hd
  · intro b ho
    have hm := List.mem_of_getElem? ho
    simp at hm
  · intro b b' o o' L L' _ ho _ hw
    have hm := List.mem_of_getElem? ho
    simp at hm; subst hm
    simp [AObj.owned] at hw
/-- What is seen of a memory of frozen rows. -/
def vl (l : Heap) : Vw := fun b => match l[b]? with
  | some (.row .ro _ cs) => some cs
  | _ => none
theorem vl_app (l ext : Heap) : Vw.le (vl l) (vl (l ++ ext)) := by
  intro b cs h
  unfold vl at h ⊢
  cases hq : l[b]? with
  | none => rw [hq] at h; cases h
  | some o =>
    rw [hq] at h
    rw [List.getElem?_append_left (List.getElem?_eq_some_iff.1 hq).1, hq]
    exact h
theorem vl_ph {h : PH} {l : Heap} (hr : ∀ b, h.raw b = l[b]?) : Vw.le (vl l) h.cells := by
  intro b cs hb
  unfold vl at hb
  unfold PH.cells
  rw [hr]
  split at hb <;> cases hb
  rename_i e
  rw [e]; rfl
theorem cell_lt {w : World} {a : Addr} {v : Value} (h : w.cell? a = some v) : a.block < w.heap.size ∧ a.spot = none := by
  unfold World.cell? at h
  split at h
  · rename_i e
    refine ⟨(Array.getElem?_eq_some_iff.1 e).1, ?_⟩
    split at h
    · cases h
    · rename_i hs; simpa using hs
  · cases h
theorem add_eq {a : Addr} (h : a.spot = none) (n : Nat) : a.add n = ⟨a.block, a.off + n, none⟩ := by
  unfold Addr.add
  split
  · rename_i e; subst e; cases a; simp_all
  · rfl
section
variable {w : World} {ρ : RMap} {l : Heap}
theorem upR_le (m : Im w ρ l) (L : RLoc) : ρ.le (upR ρ l.length L) := by
  intro b L' hb
  have := m.rel.fin b L' hb
  unfold upR
  rw [if_neg (by omega)]; exact hb
theorem Im.pos (m : Im w ρ l) : 0 < l.length := m.rel.fin _ _ m.zero
theorem Im.row (m : Im w ρ l) (esz blk off cap : Nat) (cs : List Value) (hblk : blk < w.heap.size) (hc : ∀ (i : Nat) v, cs[i]? = some v → ∃ v', w.cell? ⟨blk, off + i, none⟩ = some v' ∧ VR ρ v v') : Im w (upR ρ l.length ⟨blk, off, cap⟩) (l ++ [.row .ro esz cs]) := by
  have hle := upR_le m ⟨blk, off, cap⟩
  have hpos := m.pos
  have self : upR ρ l.length ⟨blk, off, cap⟩ l.length = some ⟨blk, off, cap⟩ := by unfold upR; rw [if_pos rfl]
  have cases' : ∀ (b : Nat) o, (l ++ [.row .ro esz cs])[b]? = some o → (l[b]? = some o ∧ b < l.length) ∨ (b = l.length ∧ o = .row .ro esz cs) := by
    intro b o ho
    by_cases hb : b < l.length
    · left; rw [List.getElem?_append_left hb] at ho; exact ⟨ho, hb⟩
    · right
      have := (List.getElem?_eq_some_iff.1 ho).1
      simp at this
      have e : b = l.length := by omega
      subst e
      simp at ho
      exact ⟨rfl, ho.symm⟩
  refine ⟨⟨m.rel.below, m.rel.base, ?_, ?_, ?_, ?_, ?_⟩, ?_, ?_⟩
  · intro b L hb; unfold upR at hb; split at hb
    · rename_i e; subst e; simp
    · have := m.rel.fin b L hb; simp; omega
  · intro b L o hb ho hd
    rcases cases' b o ho with ⟨h1, h2⟩ | ⟨rfl, rfl⟩
    · unfold upR at hb; rw [if_neg (by omega)] at hb; exact m.rel.lt b L o hb h1 hd
    · rw [self] at hb; cases hb; exact hblk
  · intro b o ho hn hd
    rcases cases' b o ho with ⟨h1, h2⟩ | ⟨rfl, rfl⟩
    · obtain ⟨L, hL, hO⟩ := m.rel.obj' b o h1 hn hd
      exact ⟨L, hle _ _ hL, hO.mono hle⟩
    · exact ⟨_, self, hblk, fun i v hv => let ⟨v', h1, h2⟩ := hc i v hv; ⟨v', h1, h2.mono hle⟩⟩
  · intro b ho
    rcases cases' b _ ho with ⟨h1, h2⟩ | ⟨_, h2⟩
    · unfold upR; rw [if_neg (by omega)]; exact m.rel.void b h1
    · cases h2
  · intro b b' o o' L L' hne h1 h2 hw1 hw2 hL hL'
    rcases cases' b o h1 with ⟨h1, hb⟩ | ⟨rfl, rfl⟩
    · rcases cases' b' o' h2 with ⟨h2, hb'⟩ | ⟨rfl, rfl⟩
      · unfold upR at hL hL'
        rw [if_neg (by omega)] at hL hL'
        exact m.rel.sep b b' o o' L L' hne h1 h2 hw1 hw2 hL hL'
      · simp [AObj.owned] at hw2
    · simp [AObj.owned] at hw1
  · intro o ho
    rcases List.mem_append.1 ho with h | h
    · exact m.fro o h
    · simp at h; subst h; rfl
  · exact hle _ _ m.zero
end
/-- Data of the type T that came in has an image. -/
def Opens (P : Program) {α : Type} (T : TypeId) (R : Rdr α) (G : α → Prop) : Prop :=
  ∀ {H : Type} {enc : TypeId × Value → H} {w : World} {ρ : RMap} {l : Heap} {fuel : Nat} {cs : List Value} {y : DataW H × List MemPlace}, Im w ρ l → cs.length = R.sz → DataW.trod enc P w 0 (fun _ => true) true fuel T cs = some y →
    ∃ (ρ' : RMap) (ext : Heap) (es : List Value) (x : α), Im w ρ' (l ++ ext) ∧ ρ.le ρ' ∧ VRs ρ' es cs ∧ R.E (vl (l ++ ext)) x es ∧ G x
/-- Of data no deeper than so. -/
def OpensN (P : Program) {α : Type} (N : Nat) (T : TypeId) (R : Rdr α) (G : α → Prop) : Prop :=
  ∀ {H : Type} {enc : TypeId × Value → H} {w : World} {ρ : RMap} {l : Heap} {fuel : Nat} {cs : List Value} {y : DataW H × List MemPlace}, fuel < N → Im w ρ l → cs.length = R.sz → DataW.trod enc P w 0 (fun _ => true) true fuel T cs = some y →
    ∃ (ρ' : RMap) (ext : Heap) (es : List Value) (x : α), Im w ρ' (l ++ ext) ∧ ρ.le ρ' ∧ VRs ρ' es cs ∧ R.E (vl (l ++ ext)) x es ∧ G x
section
variable {P : Program} {T e : TypeId}
theorem OpensN.of {α : Type} {R : Rdr α} {G : α → Prop} (h : ∀ N, OpensN P N T R G) : Opens P T R G := fun m hl ht => h _ (Nat.lt_succ_self _) m hl ht
theorem Opens.n {α : Type} {R : Rdr α} {G : α → Prop} (h : Opens P T R G) (N : Nat) : OpensN P N T R G := fun _ m hl ht => h m hl ht
theorem one_of {cs : List Value} (h : cs.length = 1) : ∃ c, cs = [c] := by
  match cs, h with
  | [c], _ => exact ⟨c, rfl⟩
end
end Go.Am

set_option linter.unusedSimpArgs false
set_option linter.unusedVariables false
namespace Go.Am
open Go Go.RowKit Go.ChangeShapes Go.WideShapes
section
variable {P : Program} {T e : TypeId} {w : World} {ρ : RMap} {l : Heap}
theorem wf64 {z : Int} (h : (Lit.int .i64 z).wf = true) : inR z := by
  simp [Lit.wf, IntKind.min, IntKind.max, IntKind.signed, IntKind.bits] at h
  unfold inR; omega
theorem opens_int {k : IntKind} (hu : P.underlying T = some (.int k)) : Opens P T (rI k) fun z => (Lit.int k z).wf = true := by
  intro H enc w ρ l fuel cs y m hl ht
  obtain ⟨c, rfl⟩ := one_of hl
  obtain ⟨a, e, _, wf⟩ := DataW.trod_int hu ht
  cases e
  exact ⟨ρ, [], [.int k a], a, by rw [List.append_nil]; exact m, RMap.le_refl _, .cons (.int _ _) .nil, rfl, wf⟩
theorem Opens.weak {α : Type} {R : Rdr α} {G G' : α → Prop} (h : Opens P T R G) (hg : ∀ x, G x → G' x) : Opens P T R G' := by
  intro H enc w ρ l fuel cs y m hl ht
  obtain ⟨ρ', ext, es, x, h1, h2, h3, h4, h5⟩ := h m hl ht
  exact ⟨ρ', ext, es, x, h1, h2, h3, h4, hg _ h5⟩
theorem opens_i64 (hu : P.underlying T = some (.int .i64)) : Opens P T (rI .i64) inR := Opens.weak (opens_int hu) fun _ h => wf64 h
theorem opens_bool (hu : P.underlying T = some .bool) : Opens P T rB fun _ => True := by
  intro H enc w ρ l fuel cs y m hl ht
  obtain ⟨c, rfl⟩ := one_of hl
  obtain ⟨a, e, _⟩ := DataW.trod_bool hu ht
  cases e
  exact ⟨ρ, [], [.bool a], a, by rw [List.append_nil]; exact m, RMap.le_refl _, .cons (.bool _) .nil, rfl, trivial⟩
theorem drop_app_n {cs : List Value} {k i s : Nat} {new : List Value} (hl : cs.length = k * s) (hi : i < k) : ((cs ++ new).drop (i * s)).take s = (cs.drop (i * s)).take s := by
  have : i * s + s ≤ k * s := by rw [← Nat.succ_mul]; exact Nat.mul_le_mul_right _ hi
  rw [List.drop_append_of_le_length (by omega), List.take_append_of_le_length (by simp; omega)]
theorem Im.rowsK {α : Type} {R : Rdr α} {G : α → Prop} (op : Opens P e R G) {H : Type} {enc : TypeId × Value → H} (m : Im w ρ l) {a : Addr} {len n : Nat} (hs : a.spot = none)
    (hcell : ∀ i, i < len → ∃ cs', w.cells? 0 (a.add (i * R.sz)) R.sz = some cs' ∧ ∃ y, DataW.trod enc P w 0 (fun _ => true) true n e cs' = some y) :
    ∀ k, k ≤ len → ∃ (ρ' : RMap) (ext : Heap) (xs : List α) (cs : List Value), Im w ρ' (l ++ ext) ∧ ρ.le ρ' ∧ xs.length = k ∧ cs.length = k * R.sz ∧ (∀ (i : Nat) v, cs[i]? = some v → ∃ v', w.cell? ⟨a.block, a.off + i, none⟩ = some v' ∧ VR ρ' v v') ∧ (∀ (i : Nat) r, xs[i]? = some r → R.E (vl (l ++ ext)) r ((cs.drop (i * R.sz)).take R.sz)) ∧ ∀ r ∈ xs, G r
  | 0, _ => ⟨ρ, [], [], [], by rw [List.append_nil]; exact m, RMap.le_refl _, rfl, by simp, by simp, by simp, by simp⟩
  | k + 1, hk => by
    obtain ⟨ρ1, ext, xs, cs, m1, le1, h1, h2, h3, h4, h5⟩ := Im.rowsK op m hs hcell k (by omega)
    obtain ⟨cs', hc, y, ht⟩ := hcell k (by omega)
    obtain ⟨_, hlen, hat⟩ := World.cells?_some hc
    obtain ⟨ρ2, ext2, es, x, m2, le2, hv, hE, hG⟩ := op m1 hlen ht
    have hlen' : es.length = R.sz := hv.length.trans hlen
    have hbase : ∀ j, j < R.sz → w.cell? ⟨a.block, a.off + (k * R.sz + j), none⟩ = cs'[j]? := by
      intro j hj
      have := hat j (by omega)
      rw [add_eq hs, add_eq rfl] at this
      rw [← this]
      show w.cell? ⟨a.block, a.off + (k * R.sz + j), none⟩ = w.cell? ⟨a.block, a.off + k * R.sz + j, none⟩
      rw [Nat.add_assoc]
    refine ⟨ρ2, ext ++ ext2, xs ++ [x], cs ++ es, by rw [← List.append_assoc]; exact m2, RMap.le_trans le1 le2, by simp [h1], by rw [List.length_append, h2, hlen', Nat.succ_mul], ?_, ?_, ?_⟩
    · intro i v hi
      by_cases hlt : i < cs.length
      · rw [List.getElem?_append_left hlt] at hi
        obtain ⟨v', e1, e2⟩ := h3 i v hi
        exact ⟨v', e1, e2.mono le2⟩
      · rw [List.getElem?_append_right (by omega)] at hi
        have hij : i - cs.length < R.sz := by rw [← hlen']; exact (List.getElem?_eq_some_iff.1 hi).1
        obtain ⟨v', e1, e2⟩ := hv.get hi
        refine ⟨v', ?_, e2⟩
        have e : i = k * R.sz + (i - cs.length) := by omega
        rw [e, hbase _ hij]
        exact e1
    · intro i r hi
      by_cases hlt : i < k
      · rw [List.getElem?_append_left (by omega)] at hi
        rw [drop_app_n h2 hlt, ← List.append_assoc]
        exact R.mono (vl_app _ _) (h4 i r hi)
      · have hik : i = k := by
          have := (List.getElem?_eq_some_iff.1 hi).1; simp at this; omega
        subst hik
        rw [List.getElem?_append_right (by omega), h1] at hi
        simp at hi; subst hi
        rw [← h2, List.drop_left, ← List.append_assoc, List.take_of_length_le (by omega)]
        exact hE
    · intro r hr
      rcases List.mem_append.1 hr with h | h
      · exact h5 r h
      · simp at h; subst h; exact hG
abbrev GLen {α : Type} (G : α → Prop) (xs : List α) : Prop := xs.length < 9223372036854775808 ∧ ∀ x ∈ xs, G x
theorem opens_slice {α : Type} {R : Rdr α} {G : α → Prop} (hu : P.underlying T = some (.slice e)) (hsz : P.cellsOf e = R.sz) (hpos : 0 < R.sz) (op : Opens P e R G) : Opens P T R.sl (GLen G) := by
  intro H enc w ρ l fuel cs y m hl ht
  obtain ⟨v, rfl⟩ := one_of hl
  have hmx : maxLen = 9223372036854775807 := rfl
  rcases Deep.open_slice hu ht with ⟨hcs, _⟩ | ⟨a, len, cap, mm, n, D, Pl, hcs, _, hlc, hm, hmm, _, hcell⟩
  · cases hcs
    exact ⟨ρ, [], [nils], [], by rw [List.append_nil]; exact m, RMap.le_refl _, .cons (.snil _ _) .nil, ⟨nils, rfl, .inl ⟨rfl, _, _, rfl⟩⟩, by simp, by simp⟩
  · cases hcs
    simp only [if_true] at hmm
    rw [hsz] at hcell
    cases hc0 : cap with
    | zero =>
      have hl0 : len = 0 := by omega
      subst hl0
      exact ⟨ρ, [], [.slice (some ⟨0, 0, none⟩) 0 openCap], [], by rw [List.append_nil]; exact m, RMap.le_refl _, .cons (.slz m.zero (by decide) rfl) .nil, ⟨_, rfl, .inl ⟨rfl, _, _, rfl⟩⟩, by simp, by simp⟩
    | succ cap' =>
      obtain ⟨cs0, hc, _⟩ := hcell 0 (by omega)
      obtain ⟨_, hlen0, hat0⟩ := World.cells?_some hc
      have hat0 := hat0 0 (by omega)
      have hx0 := List.getElem?_eq_getElem (l := cs0) (i := 0) (by omega)
      obtain ⟨hb, hs⟩ := cell_lt (v := cs0[0]'(by omega)) (by rw [hat0]; exact hx0)
      have hb : a.block < w.heap.size := by simpa [Addr.add] using hb
      have hs : a.spot = none := by simpa [Addr.add] using hs
      have ea : a = ⟨a.block, a.off, none⟩ := by cases a; simp_all
      obtain ⟨ρ1, ext, xs, cs, m1, le1, h1, h2, h3, h4, h5⟩ := Im.rowsK op m hs (fun i hi => let ⟨c, q1, q2⟩ := hcell i (by omega); ⟨c, q1, _, q2⟩) len (Nat.le_refl _)
      have m' := m1.row R.sz a.block a.off cap cs hb h3
      have hnew : vl (l ++ (ext ++ [.row .ro R.sz cs])) (l ++ ext).length = some cs := by
        unfold vl
        rw [← List.append_assoc, List.getElem?_append_right (Nat.le_refl _), Nat.sub_self]
        simp
      refine ⟨_, ext ++ [.row .ro R.sz cs], [.slice (some ⟨(l ++ ext).length, 0, none⟩) len openCap], xs, by rw [← List.append_assoc]; exact m', RMap.le_trans le1 (upR_le m1 _), .cons ?_ .nil, ⟨_, rfl, .inr ⟨(l ++ ext).length, 0, openCap, cs, by rw [h1], hnew, fun i x hx => ?_⟩⟩, by omega, h5⟩
      · rw [ea]
        have e : upR ρ1 (l ++ ext).length ⟨a.block, a.off, cap⟩ (l ++ ext).length = some ⟨a.block, a.off, cap⟩ := by unfold upR; rw [if_pos rfl]
        rw [← hc0]
        exact VR.slo e (by decide) (Nat.add_comm _ _) hlc
      · have hlt := (List.getElem?_eq_some_iff.1 hx).1
        have : i * R.sz + R.sz ≤ len * R.sz := by rw [← Nat.succ_mul]; exact Nat.mul_le_mul_right _ (by omega)
        refine ⟨by omega, ?_⟩
        rw [Nat.zero_add, ← List.append_assoc]
        exact R.mono (vl_app _ _) (h4 i x hx)
/-- A struct of two fields; of more. -/
theorem opens_pair {α β : Type} {R : Rdr α} {S : Rdr β} {G : α → Prop} {G' : β → Prop} {e' : TypeId} (oa : Opens P e R G) (ob' : Opens P e' S G') {H : Type} {enc : TypeId × Value → H} {n n' : Nat} {cs cs' : List Value} {y y' : DataW H × List MemPlace} (m : Im w ρ l)
    (h1 : cs.length = R.sz) (h2 : cs'.length = S.sz) (t1 : DataW.trod enc P w 0 (fun _ => true) true n e cs = some y) (t2 : DataW.trod enc P w 0 (fun _ => true) true n' e' cs' = some y') :
    ∃ (ρ' : RMap) (ext : Heap) (es es' : List Value) (x : α) (x' : β), Im w ρ' (l ++ ext) ∧ ρ.le ρ' ∧ VRs ρ' es cs ∧ VRs ρ' es' cs' ∧ R.E (vl (l ++ ext)) x es ∧ S.E (vl (l ++ ext)) x' es' ∧ G x ∧ G' x' := by
  obtain ⟨ρ1, ext1, es1, x1, m1, le1, v1, E1, G1⟩ := oa m h1 t1
  obtain ⟨ρ2, ext2, es2, x2, m2, le2, v2, E2, G2⟩ := ob' m1 h2 t2
  exact ⟨ρ2, ext1 ++ ext2, es1, es2, x1, x2, by rw [← List.append_assoc]; exact m2, RMap.le_trans le1 le2, v1.mono le2, v2, by rw [← List.append_assoc]; exact R.mono (vl_app _ _) E1, by rw [← List.append_assoc]; exact E2, G1, G2⟩
theorem opens_struct2 {α β : Type} {R : Rdr α} {S : Rdr β} {G : α → Prop} {G' : β → Prop} {fs : Array Field} {t0 t1 : TypeId} (hu : P.underlying T = some (.struct fs)) (hfs : fs.toList.map (fun f => (f.type, f.offset)) = [(t0, 0), (t1, R.sz)])
    (c0 : P.cellsOf t0 = R.sz) (c1 : P.cellsOf t1 = S.sz) (o0 : Opens P t0 R G) (o1 : Opens P t1 S G') : Opens P T (R.pr S) fun x => G x.1 ∧ G' x.2 := by
  intro H enc w ρ l fuel cs y m hl ht
  obtain ⟨xs, n, _, _, _, hxl, hf⟩ := DataW.trod_struct hu ht
  have hl : cs.length = R.sz + S.sz := hl
  have hlen2 : fs.toList.length = 2 := by have := congrArg List.length hfs; simpa using this
  obtain ⟨f0, f1, hq⟩ : ∃ a b, fs.toList = [a, b] := by
    match hq : fs.toList, hlen2 with
    | [a, b], _ => exact ⟨a, b, rfl⟩
  rw [hq] at hfs
  simp only [List.map_cons, List.map_nil, List.cons.injEq, Prod.mk.injEq, and_true] at hfs
  obtain ⟨⟨a0, b0⟩, a1, b1⟩ := hfs
  have hsz : fs.size = 2 := by rw [← Array.length_toList, hq]; rfl
  have g0 : fs[0]? = some f0 := by rw [← Array.getElem?_toList, hq]; rfl
  have g1 : fs[1]? = some f1 := by rw [← Array.getElem?_toList, hq]; rfl
  have q0 := hf 0 f0 g0
  have q1 := hf 1 f1 g1
  rw [hsz] at hxl
  rw [a0, b0, c0, List.drop_zero, List.getElem?_eq_getElem (by omega)] at q0
  rw [a1, b1, c1, List.getElem?_eq_getElem (by omega)] at q1
  obtain ⟨ρ', ext, es, es', x, x', r1, r2, r3, r4, r5, r6, r7, r8⟩ := opens_pair o0 o1 m (by simp; omega) (by simp; omega) q0 q1
  refine ⟨ρ', ext, es ++ es', (x, x'), r1, r2, ?_, ⟨es, es', rfl, r5, r6⟩, r7, r8⟩
  have e : cs = cs.take R.sz ++ (cs.drop R.sz).take S.sz := by
    rw [List.take_of_length_le (l := cs.drop R.sz) (by simp; omega), List.take_append_drop]
  rw [e]
  exact r3.append r4
end
/-- A value that came in. -/
theorem VR.of1 {ρ : RMap} {es : List Value} {v : Value} (h : VRs ρ es [v]) : ∃ u, es = [u] ∧ VR ρ u v := by
  cases h with
  | cons a b => cases b; exact ⟨_, rfl, a⟩
end Go.Am
