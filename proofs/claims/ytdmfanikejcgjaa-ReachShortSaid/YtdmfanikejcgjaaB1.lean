import Derived.Orders
import Derived.Below
set_option linter.unusedSimpArgs false
set_option linter.unusedVariables false
namespace Go.Am
open Go

/-- Where a row of the plain machine lies in the true one. 'cap': how many elements the true row bears from there on (rows that may grow). -/
structure RLoc where
  blk : Nat
  off : Nat
  cap : Nat

abbrev RMap := Nat → Option RLoc

/-- What a slice says that may grow: its capacity is open. -/
def openCap : Nat := 9223372036854775808

mutual
/-- A value of the plain machine, and the true one. -/
inductive VR (ρ : RMap) : Value → Value → Prop
  | bool (b : Bool) : VR ρ (.bool b) (.bool b)
  | int (k : IntKind) (n : Int) : VR ρ (.int k n) (.int k n)
  | string (s : ByteArray) : VR ρ (.string s) (.string s)
  | pnil : VR ρ (.pointer none) (.pointer none)
  | ptr {b o : Nat} {L : RLoc} (h : ρ b = some L) : VR ρ (.pointer (some ⟨b, o, none⟩)) (.pointer (some ⟨L.blk, L.off + o, none⟩))
  | snil (n c : Nat) : VR ρ (.slice none n c) (.slice none n c)
  | sl {b o n c : Nat} {L : RLoc} (h : ρ b = some L) (hc : c < 4611686018427387904) : VR ρ (.slice (some ⟨b, o, none⟩) n c) (.slice (some ⟨L.blk, L.off + o, none⟩) n c)
  | slo {b o n c c' : Nat} {L : RLoc} (h : ρ b = some L) (hc : 4611686018427387904 ≤ c) (he : c' + openCap = c + L.cap) (hn : n ≤ c') :
      VR ρ (.slice (some ⟨b, o, none⟩) n c) (.slice (some ⟨L.blk, L.off + o, none⟩) n c')
  | slz {b o c : Nat} {L : RLoc} {a : Addr} (h : ρ b = some L) (hc : 4611686018427387904 ≤ c) (he : openCap = c + L.cap) : VR ρ (.slice (some ⟨b, o, none⟩) 0 c) (.slice (some a) 0 0)
  | sl0 {b o : Nat} {L : RLoc} {a : Addr} (h : ρ b = some L) : VR ρ (.slice (some ⟨b, o, none⟩) 0 0) (.slice (some a) 0 0)
  | mnil : VR ρ (.map none) (.map none)
  | map {b : Nat} {L : RLoc} (h : ρ b = some L) : VR ρ (.map (some b)) (.map (some L.blk))
  | func {fn : Fn} {xs ys us vs : List Value} : VRs ρ xs ys → VRs ρ us vs → VR ρ (.func fn ⟨xs⟩ ⟨us⟩) (.func fn ⟨ys⟩ ⟨vs⟩)
  | nilFunc : VR ρ .nilFunc .nilFunc
  | nilIface : VR ρ .nilIface .nilIface
  | iface {t : TypeId} {x y : Value} : VR ρ x y → VR ρ (.iface t x) (.iface t y)
  | agg {xs ys : List Value} : VRs ρ xs ys → VR ρ (.agg ⟨xs⟩) (.agg ⟨ys⟩)
  | tuple {xs ys : List Value} : VRs ρ xs ys → VR ρ (.tuple ⟨xs⟩) (.tuple ⟨ys⟩)
inductive VRs (ρ : RMap) : List Value → List Value → Prop
  | nil : VRs ρ [] []
  | cons {x y : Value} {xs ys : List Value} : VR ρ x y → VRs ρ xs ys → VRs ρ (x :: xs) (y :: ys)
end

def RMap.le (ρ ρ' : RMap) : Prop := ∀ b L, ρ b = some L → ρ' b = some L
theorem RMap.le_refl (ρ : RMap) : ρ.le ρ := fun _ _ h => h
theorem RMap.le_trans {ρ ρ' ρ'' : RMap} (h : ρ.le ρ') (h' : ρ'.le ρ'') : ρ.le ρ'' := fun b L e => h' b L (h b L e)

mutual
theorem VR.mono {ρ ρ' : RMap} (hl : ρ.le ρ') : ∀ {x y : Value}, VR ρ x y → VR ρ' x y
  | _, _, .bool b => .bool b
  | _, _, .int k n => .int k n
  | _, _, .string s => .string s
  | _, _, .pnil => .pnil
  | _, _, .ptr h => .ptr (hl _ _ h)
  | _, _, .snil n c => .snil n c
  | _, _, .sl h hc => .sl (hl _ _ h) hc
  | _, _, .slo h hc he hn => .slo (hl _ _ h) hc he hn
  | _, _, .slz h hc he => .slz (hl _ _ h) hc he
  | _, _, .sl0 h => .sl0 (hl _ _ h)
  | _, _, .mnil => .mnil
  | _, _, .map h => .map (hl _ _ h)
  | _, _, .func h1 h2 => .func (VRs.mono hl h1) (VRs.mono hl h2)
  | _, _, .nilFunc => .nilFunc
  | _, _, .nilIface => .nilIface
  | _, _, .iface h => .iface (VR.mono hl h)
  | _, _, .agg h => .agg (VRs.mono hl h)
  | _, _, .tuple h => .tuple (VRs.mono hl h)
theorem VRs.mono {ρ ρ' : RMap} (hl : ρ.le ρ') : ∀ {x y : List Value}, VRs ρ x y → VRs ρ' x y
  | _, _, .nil => .nil
  | _, _, .cons h1 h2 => .cons (VR.mono hl h1) (VRs.mono hl h2)
end

section
variable {ρ : RMap}

theorem VRs.length {xs ys : List Value} (h : VRs ρ xs ys) : xs.length = ys.length := by
  induction xs generalizing ys with
  | nil => cases h; rfl
  | cons x xs ih => cases h with | cons h1 h2 => simp [ih h2]

theorem VRs.get {xs ys : List Value} (h : VRs ρ xs ys) {i : Nat} {v : Value} (hi : xs[i]? = some v) : ∃ v', ys[i]? = some v' ∧ VR ρ v v' := by
  induction xs generalizing ys i with
  | nil => simp at hi
  | cons x xs ih =>
    cases h with
    | cons h1 h2 =>
      cases i with
      | zero => simp at hi; subst hi; exact ⟨_, by simp, h1⟩
      | succ i => simp at hi; simpa using ih h2 hi

theorem VRs.getBack {xs ys : List Value} (h : VRs ρ xs ys) {i : Nat} {v' : Value} (hi : ys[i]? = some v') : ∃ v, xs[i]? = some v ∧ VR ρ v v' := by
  induction xs generalizing ys i with
  | nil => cases h; simp at hi
  | cons x xs ih =>
    cases h with
    | cons h1 h2 =>
      cases i with
      | zero => simp at hi; subst hi; exact ⟨_, by simp, h1⟩
      | succ i => simp at hi; simpa using ih h2 hi

theorem VRs.set {xs ys : List Value} (h : VRs ρ xs ys) {v v' : Value} (hv : VR ρ v v') (i : Nat) : VRs ρ (xs.set i v) (ys.set i v') := by
  induction xs generalizing ys i with
  | nil => cases h; simp; exact .nil
  | cons x xs ih =>
    cases h with
    | cons h1 h2 =>
      cases i with
      | zero => exact .cons hv h2
      | succ i => exact .cons h1 (ih h2 i)

theorem VRs.append {xs ys us vs : List Value} (h : VRs ρ xs ys) (h' : VRs ρ us vs) : VRs ρ (xs ++ us) (ys ++ vs) := by
  induction xs generalizing ys with
  | nil => cases h; simpa using h'
  | cons x xs ih => cases h with | cons h1 h2 => exact .cons h1 (ih h2)

theorem VRs.take {xs ys : List Value} (h : VRs ρ xs ys) (n : Nat) : VRs ρ (xs.take n) (ys.take n) := by
  induction xs generalizing ys n with
  | nil => cases h; simp; exact .nil
  | cons x xs ih =>
    cases h with
    | cons h1 h2 =>
      cases n with
      | zero => simp; exact .nil
      | succ n => exact .cons h1 (ih h2 n)

theorem VRs.drop {xs ys : List Value} (h : VRs ρ xs ys) (n : Nat) : VRs ρ (xs.drop n) (ys.drop n) := by
  induction xs generalizing ys n with
  | nil => cases h; simp; exact .nil
  | cons x xs ih =>
    cases h with
    | cons h1 h2 =>
      cases n with
      | zero => exact .cons h1 h2
      | succ n => simpa using ih h2 n

theorem VRs.replicate {x y : Value} (h : VR ρ x y) (n : Nat) : VRs ρ (List.replicate n x) (List.replicate n y) := by
  induction n with
  | zero => exact .nil
  | succ n ih => exact .cons h ih

theorem VR.undef : VR ρ undef undef := .tuple .nil

theorem VRs.getD {xs ys : List Value} (h : VRs ρ xs ys) (i : Nat) : VR ρ (xs.getD i Go.undef) (ys.getD i Go.undef) := by
  induction xs generalizing ys i with
  | nil => cases h; simpa using VR.undef
  | cons x xs ih =>
    cases h with
    | cons h1 h2 =>
      cases i with
      | zero => simpa using h1
      | succ i => simpa using ih h2 i

end

/-- A value without an address: it is the true one itself. -/
def plainV : Value → Bool
  | .bool _ | .int _ _ | .string _ | .pointer none | .slice none _ _ | .map none | .nilFunc | .nilIface => true
  | .agg ⟨xs⟩ | .tuple ⟨xs⟩ => plainVs xs
  | .iface _ x => plainV x
  | _ => false
where
  plainVs : List Value → Bool
  | [] => true
  | x :: xs => plainV x && plainVs xs

mutual
theorem VR.plain {ρ : RMap} : ∀ {x : Value}, plainV x = true → VR ρ x x
  | .bool b, _ => .bool b
  | .int k n, _ => .int k n
  | .string s, _ => .string s
  | .pointer none, _ => .pnil
  | .slice none n c, _ => .snil n c
  | .map none, _ => .mnil
  | .nilFunc, _ => .nilFunc
  | .nilIface, _ => .nilIface
  | .agg ⟨xs⟩, h => .agg (VRs.plain (by simpa [plainV] using h))
  | .tuple ⟨xs⟩, h => .tuple (VRs.plain (by simpa [plainV] using h))
  | .iface t x, h => .iface (VR.plain (by simpa [plainV] using h))
  | .pointer (some _), h => by simp [plainV] at h
  | .slice (some _) _ _, h => by simp [plainV] at h
  | .map (some _), h => by simp [plainV] at h
  | .float _ _, h => by simp [plainV] at h
  | .complex _ _ _, h => by simp [plainV] at h
  | .chan _, h => by simp [plainV] at h
  | .func _ _ _, h => by simp [plainV] at h
theorem VRs.plain {ρ : RMap} : ∀ {xs : List Value}, plainV.plainVs xs = true → VRs ρ xs xs
  | [], _ => .nil
  | x :: xs, h => by
    simp [plainV.plainVs] at h
    exact .cons (VR.plain h.1) (VRs.plain h.2)
end

mutual
theorem VR.plain_eq {ρ : RMap} : ∀ {x y : Value}, VR ρ x y → plainV x = true → y = x
  | _, _, .bool b, _ => rfl
  | _, _, .int k n, _ => rfl
  | _, _, .string s, _ => rfl
  | _, _, .pnil, _ => rfl
  | _, _, .ptr h, hp => by simp [plainV] at hp
  | _, _, .snil n c, _ => rfl
  | _, _, .sl h hc, hp => by simp [plainV] at hp
  | _, _, .slo h hc he hn, hp => by simp [plainV] at hp
  | _, _, .slz h hc he, hp => by simp [plainV] at hp
  | _, _, .sl0 h, hp => by simp [plainV] at hp
  | _, _, .mnil, _ => rfl
  | _, _, .map h, hp => by simp [plainV] at hp
  | _, _, .func h1 h2, hp => by simp [plainV] at hp
  | _, _, .nilFunc, _ => rfl
  | _, _, .nilIface, _ => rfl
  | _, _, .iface h, hp => by rw [VR.plain_eq h (by simpa [plainV] using hp)]
  | _, _, .agg h, hp => by rw [VRs.plain_eq h (by simpa [plainV] using hp)]
  | _, _, .tuple h, hp => by rw [VRs.plain_eq h (by simpa [plainV] using hp)]
theorem VRs.plain_eq {ρ : RMap} : ∀ {x y : List Value}, VRs ρ x y → plainV.plainVs x = true → y = x
  | _, _, .nil, _ => rfl
  | _, _, .cons h1 h2, hp => by
    simp [plainV.plainVs] at hp
    rw [VR.plain_eq h1 hp.1, VRs.plain_eq h2 hp.2]
end

/-- Temporaries: none is what is not told. -/
abbrev Tm := List (Option Value)

structure TRs (ρ : RMap) (t : Tm) (ts : List Value) : Prop where
  len : t.length = ts.length
  get : ∀ (i : Nat) v, t[i]? = some (some v) → ∃ v', ts[i]? = some v' ∧ VR ρ v v'

theorem TRs.mono {ρ ρ' : RMap} (hl : ρ.le ρ') {t : Tm} {ts : List Value} (h : TRs ρ t ts) : TRs ρ' t ts :=
  ⟨h.len, fun i v hv => let ⟨v', h1, h2⟩ := h.get i v hv; ⟨v', h1, h2.mono hl⟩⟩

theorem TRs.set {ρ : RMap} {t : Tm} {ts : List Value} (h : TRs ρ t ts) {v v' : Value} (hv : VR ρ v v') (d : Nat) : TRs ρ (t.set d (some v)) (ts.set d v') := by
  refine ⟨by simp [h.len], fun i u hu => ?_⟩
  by_cases hid : d = i
  · subst hid
    have hlt : d < t.length := by
      have := (List.getElem?_eq_some_iff.1 hu).1
      simpa using this
    rw [List.getElem?_set_self hlt] at hu
    cases hu
    exact ⟨v', by rw [List.getElem?_set_self (by rw [← h.len]; exact hlt)], hv⟩
  · rw [List.getElem?_set_ne hid] at hu ⊢
    exact h.get i u hu

theorem TRs.weak {ρ : RMap} {t t' : Tm} {ts : List Value} (h : TRs ρ t ts) (hl : t'.length = t.length) (hs : ∀ (i : Nat) v, t'[i]? = some (some v) → t[i]? = some (some v)) : TRs ρ t' ts :=
  ⟨hl.trans h.len, fun i v hv => h.get i v (hs i v hv)⟩

theorem TRs.of {ρ : RMap} {xs ys : List Value} (h : VRs ρ xs ys) (n : Nat) (zs : List Value) (hz : zs.length = n) : TRs ρ (xs.map some ++ List.replicate n none) (ys ++ zs) := by
  refine ⟨by simp [h.length, hz], fun i v hv => ?_⟩
  by_cases hi : i < xs.length
  · rw [List.getElem?_append_left (by simpa using hi)] at hv
    simp only [List.getElem?_map, Option.map_eq_some_iff, Option.some.injEq, exists_eq_right] at hv
    obtain ⟨v', h1, h2⟩ := h.get hv
    exact ⟨v', by rw [List.getElem?_append_left (by rw [← h.length]; exact hi)]; exact h1, h2⟩
  · rw [List.getElem?_append_right (by simpa using hi)] at hv
    rw [List.getElem?_replicate] at hv
    split at hv <;> simp at hv

/-- What a temporary holds. -/
def tget (t : Tm) (i : Nat) : Option Value :=
  match t[i]? with
  | some (some v) => some v
  | _ => none

theorem TRs.tget {ρ : RMap} {t : Tm} {ts : List Value} (h : TRs ρ t ts) {i : Nat} {v : Value} (hv : tget t i = some v) : ∃ v', ts[i]? = some v' ∧ VR ρ v v' := by
  unfold Go.Am.tget at hv
  split at hv
  · cases hv; exact h.get _ _ ‹_›
  · cases hv

end Go.Am
