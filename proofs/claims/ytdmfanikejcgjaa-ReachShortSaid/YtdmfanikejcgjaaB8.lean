import Derived.Test.YtdmfanikejcgjaaB7
set_option linter.unusedSimpArgs false
set_option linter.unusedVariables false
namespace Go.Am
open Go Go.RowKit

section
variable {P : Program} {B : Nat} {w0 : World} {ρ : RMap} {h : Heap} {w : World} {t : Tm} {ts : List Value}

theorem VR.oneCell {x y : Value} (hxy : VR ρ x y) (hx : x.oneCell' = true) : y.oneCell' = true := by
  cases hxy <;> first | rfl | exact hx

/-- The true lists of a row that may be written. -/
theorem Rel.owned (hr : Rel B w0 ρ h w) {b : Nat} {m : Mode} {esz : Nat} {cs : List Value} (ho : h[b]? = some (.row m esz cs)) (hm : m ≠ .ro) {L : RLoc} (hL : ρ b = some L) :
    B ≤ L.blk ∧ ∃ (pre vs suf : List Value) (e : TypeId) (lo hi : Nat), w.heap[L.blk]? = some (.cells ⟨pre ++ vs ++ suf⟩ e (lo, hi)) ∧ pre.length = L.off ∧ VRs ρ cs vs ∧
      (lo = hi ∨ (pre ++ vs ++ suf).length ≤ lo) ∧ (m = .opn → vs.length + suf.length = L.cap * esz) := by
  obtain ⟨L', hL', hO⟩ := hr.obj b _ ho
  obtain rfl : L = L' := by rw [hL] at hL'; exact Option.some.inj hL'
  cases m with
  | ro => exact absurd rfl hm
  | own => obtain ⟨h0, pre, vs, suf, e, lo, hi, h1, h2, h3, h4⟩ := hO; exact ⟨h0, pre, vs, suf, e, lo, hi, h1, h2, h3, h4, by simp⟩
  | opn => obtain ⟨h0, pre, vs, suf, e, lo, hi, h1, h2, h3, h4, h5⟩ := hO; exact ⟨h0, pre, vs, suf, e, lo, hi, h1, h2, h3, h4, fun _ => h5⟩

theorem setCell_eq {w : World} {b o : Nat} {c : List Value} {e : TypeId} {fz : Nat × Nat} (hb : w.heap[b]? = some (.cells ⟨c⟩ e fz)) (v : Value) :
    w.setCell ⟨b, o, none⟩ v = { w with heap := w.heap.setIfInBounds b (.cells ⟨c.set o v⟩ e fz) } := by
  have hlt : b < w.heap.size := (Array.getElem?_eq_some_iff.1 hb).1
  unfold World.setCell
  congr 1
  apply Array.ext_getElem?
  intro i
  rw [Array.getElem?_modify, Array.getElem?_setIfInBounds]
  by_cases hib : b = i
  · subst hib
    rw [if_pos rfl, if_pos rfl, if_pos hlt, hb]
    simp
  · rw [if_neg hib, if_neg hib]

theorem Rel.store1 (hr : Rel B w0 ρ h w) {b : Nat} {m : Mode} {esz : Nat} {cs : List Value} (ho : h[b]? = some (.row m esz cs)) (hm : m ≠ .ro) {L : RLoc} (hL : ρ b = some L) {i : Nat} (hi : i < cs.length)
    {v v' : Value} (hv : VR ρ v v') (h1 : v'.oneCell' = true) :
    ∃ w', (store ⟨L.blk, L.off + i, none⟩ v').run P w = .ok () w' ∧ Rel B w0 ρ (h.set b (.row m esz (cs.set i v))) w' := by
  obtain ⟨hB, pre, vs, suf, e, lo, hi', hb, hpre, hvs, hfz, hop⟩ := hr.owned ho hm hL
  have hlen := hvs.length
  refine ⟨w.setCell ⟨L.blk, L.off + i, none⟩ v', ?_, ?_⟩
  · rw [run_store P w _ _ _ h1]
    have hc : w.cell? ⟨L.blk, L.off + i, none⟩ = some vs[i] := by
      simp only [World.cell?, hb, Option.isSome_none, Bool.false_eq_true, if_false, List.getElem?_toArray]
      rw [List.append_assoc, List.getElem?_append_right (by omega), ← hpre, Nat.add_sub_cancel_left, List.getElem?_append_left (by omega), List.getElem?_eq_getElem]
    have hf : w.frozen? ⟨L.blk, L.off + i, none⟩ = false := by
      simp only [World.frozen?, hb, Bool.and_eq_false_iff, decide_eq_false_iff_not]
      simp at hfz
      rcases hfz with hfz | hfz <;> omega
    simp [hc, hf]
  · rw [setCell_eq hb]
    have hset : (pre ++ vs ++ suf).set (L.off + i) v' = pre ++ vs.set i v' ++ suf := by
      rw [List.append_assoc, List.set_append_right _ _ (by omega), ← hpre, Nat.add_sub_cancel_left, List.set_append_left _ _ (by omega), List.append_assoc]
    rw [hset]
    have how : (AObj.row m esz cs).owned = true := by cases m <;> first | rfl | exact absurd rfl hm
    refine hr.write ho how hL hB (fun w' hw' => ?_)
    have hlen2 : (pre ++ vs.set i v' ++ suf).length = (pre ++ vs ++ suf).length := by simp
    cases m with
    | ro => exact absurd rfl hm
    | own => exact ⟨hB, pre, vs.set i v', suf, e, lo, hi', hw', hpre, hvs.set hv i, by rw [hlen2]; exact hfz⟩
    | opn => exact ⟨hB, pre, vs.set i v', suf, e, lo, hi', hw', hpre, hvs.set hv i, by rw [hlen2]; exact hfz, by simpa using hop rfl⟩

theorem Rel.stores {vs us : List Value} (hvs : VRs ρ vs us) (hone : ∀ v ∈ vs, v.oneCell' = true) : ∀ {h : Heap} {w : World} (_ : Rel B w0 ρ h w) {b : Nat} {m : Mode} {esz : Nat} {cs : List Value} (_ : h[b]? = some (.row m esz cs)) (_ : m ≠ .ro) {L : RLoc} (_ : ρ b = some L) {o k : Nat} (_ : o + k + vs.length ≤ cs.length),
    ∃ w', (storeCells ⟨L.blk, L.off + o, none⟩ us k).run P w = .ok () w' ∧ Rel B w0 ρ (h.set b (.row m esz (setsL cs (o + k) vs))) w' := by
  induction vs generalizing us with
  | nil =>
    intro h w hr b m esz cs ho hm L hL o k hle
    cases hvs
    refine ⟨w, rfl, ?_⟩
    have : h.set b (.row m esz cs) = h := by
      apply List.ext_getElem?
      intro i
      by_cases hib : b = i
      · subst hib
        have hlt := (List.getElem?_eq_some_iff.1 ho).1
        rw [List.getElem?_set_self hlt, ho]
      · rw [List.getElem?_set_ne hib]
    simpa [setsL, this] using hr
  | cons v vs ih =>
    intro h w hr b m esz cs ho hm L hL o k hle
    cases hvs with
    | @cons _ u _ us hv hvs =>
      simp only [List.length_cons] at hle
      obtain ⟨w1, h1, hr1⟩ := hr.store1 (P := P) ho hm hL (i := o + k) (by omega) hv (hv.oneCell (hone v (by simp)))
      have hlt := (List.getElem?_eq_some_iff.1 ho).1
      obtain ⟨w2, h2, hr2⟩ := ih hvs (fun x hx => hone x (by simp [hx])) hr1 (b := b) (m := m) (esz := esz) (cs := cs.set (o + k) v) (by rw [List.getElem?_set_self hlt]) hm hL (o := o) (k := k + 1) (by simp; omega)
      refine ⟨w2, ?_, ?_⟩
      · simp only [storeCells, Sem.run_bind]
        rw [addr_add, Nat.add_assoc, h1]
        exact h2
      · simpa [setsL, Nat.add_assoc, List.set_set] using hr2

end

/-! ### what makes or writes memory -/
def oneCells (vs : List Value) : Bool := vs.all (·.oneCell')

def astore (P : Program) (T : TypeId) (x v : Value) (h : Heap) : Option Heap :=
  match x, P.info? T with
  | .pointer (some ⟨b, o, none⟩), some i =>
    if (cellsL v).length = i.size && oneCells (cellsL v) then
      match h[b]? with
      | some (.row m esz cs) => if m ≠ .ro ∧ o + i.size ≤ cs.length then some (h.set b (.row m esz (setsL cs o (cellsL v)))) else none
      | _ => none
    else none
  | _, _ => none

def zrow (z : List Value) (n : Nat) : List Value := (List.range n).map fun i => z.getD (i % z.length) (.bool false)

def abox (v : Value) (h : Heap) : Option (Value × Heap) := some (.pointer (some ⟨h.length, 0, none⟩), h ++ [.row .own 1 (cellsL v)])

def aalloc (P : Program) (T : TypeId) (h : Heap) : Option (Value × Heap) :=
  match P.info? T with
  | some i => match i.zero with
    | some z => if plainV z then abox z h else none
    | none => none
  | none => none

def abuildSlice (P : Program) (T : TypeId) (len : Nat) (parts : List (Nat × Value)) (h : Heap) : Option (Value × Heap) :=
  match P.underlying T with
  | some (.slice e) => match P.info? e with
    | some i => match i.zero with
      | some z =>
        if plainV z && decide (0 < len * i.size) && decide (len * i.size ≤ 2 ^ 24) && decide ((cellsL z).length = i.size) then
          match afill (fun j => some (j * i.size, i.size)) (zrow (cellsL z) (len * i.size)) parts with
          | some cs => some (.slice (some ⟨h.length, 0, none⟩) len len, h ++ [.row .own i.size cs])
          | none => none
        else none
      | none => none
    | none => none
  | _ => none

def amakeSlice (P : Program) (T : TypeId) (l c : Value) (h : Heap) : Option (Value × Heap) :=
  match P.underlying T, l, c with
  | some (.slice e), .int _ l, .int _ c => match P.info? e with
    | some i => match i.zero with
      | some z =>
        if plainV z && decide (0 ≤ l) && decide (l ≤ c) && decide (c < 4611686018427387904) && decide (i.bytes * c ≤ 2 ^ 48) && decide ((cellsL z).length = i.size) then
          some (.slice (some ⟨h.length, 0, none⟩) l.toNat c.toNat, h ++ [.row .own i.size (zrow (cellsL z) (c.toNat * i.size))])
        else none
      | none => none
    | none => none
  | _, _, _ => none

def amakeMap (P : Program) (T : TypeId) (r : Option Value) (h : Heap) : Option (Value × Heap) :=
  match r with
  | none => some (.map (some h.length), h ++ [.map [] 0])
  | some (.int _ _) => match P.underlying T with
    | some (.map _ _) => some (.map (some h.length), h ++ [.map [] 0])
    | _ => none
  | _ => none

def amapUpdate (P : Program) (T : TypeId) (x k v : Value) (h : Heap) : Option Heap :=
  match P.underlying T, x with
  | some (.map kt _), .map (some b) => match h[b]? with
    | some (.map es clock) =>
      if plainV k && keysPlain es then
        match pureRun P (Instr.checkKey false 10000 kt k) with
        | none => none
        | some _ => match afind P kt k es with
          | none => none
          | some (some (i, _)) => if Instr.sameBits 10000 (((es[i]?).map (·.key)).getD k) k then some (h.set b (.map (es.modify i fun e => { e with key := k, val := v }) clock)) else none
          | some none => some (h.set b (.map (es ++ [⟨k, v, clock⟩]) (clock + 1)))
      else none
    | _ => none
  | _, _ => none

section
variable {P : Program} {B : Nat} {w0 : World} {ρ : RMap} {h : Heap} {w : World} {t : Tm} {ts : List Value}

theorem astore_ok (hr : Rel B w0 ρ h w) {T : TypeId} {x x' v v' : Value} {h' : Heap} (hs : astore P T x v h = some h') (hx : VR ρ x x') (hv : VR ρ v v') :
    ∃ w', (Instr.storeAt T x' v').run P w = .ok () w' ∧ Rel B w0 ρ h' w' := by
  unfold astore at hs
  split at hs
  rotate_left
  · cases hs
  rename_i b o i hi
  split at hs
  rotate_left
  · cases hs
  rename_i hc
  simp only [Bool.and_eq_true, decide_eq_true_eq] at hc
  split at hs
  rotate_left
  · cases hs
  rename_i m esz cs hb
  split at hs <;> simp at hs
  subst hs
  rename_i hm
  cases hx with
  | @ptr b o L hL =>
    have hcl := hv.cellsL
    obtain ⟨w', h1, h2⟩ := hr.stores (P := P) hcl (by simpa [oneCells] using hc.2) hb hm.1 hL (o := o) (k := 0) (by omega)
    refine ⟨w', ?_, by simpa using h2⟩
    have hsz : v'.cells.size = i.size := by
      rw [← hc.1, hcl.length, cellsL_eq]; simp
    simp only [Instr.storeAt, Instr.sureAddr, Sem.run_bind, Sem.run_pure, Result.andThen_ok, storeVar, run_sizeOf' hi]
    rw [if_neg (by simp [hsz])]
    rw [← cellsL_eq]
    exact h1

theorem newRow_ok (hr : Rel B w0 ρ h w) {cs ds : List Value} (hc : VRs ρ cs ds) (esz : Nat) (e : TypeId) :
    ∃ ρ' w', ρ.le ρ' ∧ (newRow e ⟨ds⟩).run P w = .ok ⟨w.heap.size, 0, none⟩ w' ∧ ρ' h.length = some ⟨w.heap.size, 0, 0⟩ ∧ Rel B w0 ρ' (h ++ [.row .own esz cs]) w' := by
  obtain ⟨ρ', h1, h2, h3⟩ := hr.push (o := .row .own esz cs) (obj := .cells ⟨ds⟩ e (0, 0)) (cap := 0) (fun ρ' w' hle hw' => ⟨hr.base, [], ds, [], e, 0, 0, by simpa using hw', rfl, hc.mono hle, .inl rfl⟩)
  exact ⟨ρ', _, h1, rfl, h2, h3⟩

theorem abox_ok (hr : Rel B w0 ρ h w) {T : TypeId} {v v' u : Value} {h' : Heap} (hb : abox v h = some (u, h')) (hv : VR ρ v v') :
    ∃ ρ' w' u', ρ.le ρ' ∧ (Instr.box T v').run P w = .ok u' w' ∧ VR ρ' u u' ∧ Rel B w0 ρ' h' w' := by
  simp only [abox, Option.some.injEq, Prod.mk.injEq] at hb
  obtain ⟨rfl, rfl⟩ := hb
  obtain ⟨ρ', w', h1, h2, h3, h4⟩ := newRow_ok (P := P) hr hv.cellsL 1 T
  refine ⟨ρ', w', .pointer (some ⟨w.heap.size, 0, none⟩), h1, ?_, ?_, h4⟩
  · have : v'.cells = ⟨cellsL v'⟩ := by rw [cellsL_eq]
    simp only [Instr.box, newVar, Sem.run_bind, this, h2, Result.andThen_ok, Sem.run_pure]
  · simpa using VR.ptr (o := 0) h3

theorem aalloc_ok (hr : Rel B w0 ρ h w) {T : TypeId} {u : Value} {h' : Heap} (hb : aalloc P T h = some (u, h')) :
    ∃ ρ' w' u', ρ.le ρ' ∧ (Instr.alloc T true (.tuple #[])).run P w = .ok u' w' ∧ VR ρ' u u' ∧ Rel B w0 ρ' h' w' := by
  unfold aalloc at hb
  split at hb
  · rename_i i hi
    split at hb
    · rename_i z hz
      split at hb
      · rename_i hp
        obtain ⟨ρ', w', u', h1, h2, h3, h4⟩ := abox_ok (P := P) (T := T) hr hb (VR.plain hp)
        refine ⟨ρ', w', u', h1, ?_, h3, h4⟩
        simp only [Instr.alloc, Sem.run_bind, run_zeroValue' hi hz, Result.andThen_ok]
        exact h2
      · cases hb
    · cases hb
  · cases hb

theorem VRs.ofPlain {xs : List Value} (h : ∀ x ∈ xs, plainV x = true) : VRs ρ xs xs := by
  induction xs with
  | nil => exact .nil
  | cons x xs ih => exact .cons (VR.plain (h x (by simp))) (ih fun y hy => h y (by simp [hy]))

theorem plain_mem : ∀ {xs : List Value}, plainV.plainVs xs = true → ∀ x ∈ xs, plainV x = true
  | [], _, x, hx => by simp at hx
  | y :: ys, h, x, hx => by
    simp [plainV.plainVs] at h
    rcases List.mem_cons.1 hx with rfl | hx
    · exact h.1
    · exact plain_mem h.2 x hx

theorem plain_cellsL {z : Value} (h : plainV z = true) : ∀ x ∈ cellsL z, plainV x = true := by
  cases z <;> first | (intro x hx; simp [cellsL] at hx; subst hx; exact h) | skip
  rename_i cs
  intro x hx
  exact plain_mem (by simpa [plainV] using h) x (by simpa [cellsL] using hx)

theorem zrow_ok {z : Value} (h : plainV z = true) (n : Nat) : VRs ρ (zrow (cellsL z) n) (zrow (cellsL z) n) := by
  apply VRs.ofPlain
  intro x hx
  simp only [zrow, List.mem_map] at hx
  obtain ⟨i, _, rfl⟩ := hx
  rw [List.getD_eq_getElem?_getD]
  cases hq : (cellsL z)[i % (cellsL z).length]? with
  | none => rfl
  | some y => exact plain_cellsL h y (List.mem_of_getElem? hq)

theorem zrow_eq (z : List Value) (n : Nat) (hz : n = 0 ∨ 0 < z.length) : (Array.range n).map (fun i => (Array.mk z)[i % (Array.mk z).size]!) = ⟨zrow z n⟩ := by
  apply Array.ext'
  simp only [Array.toList_map, Array.toList_range, zrow]
  apply List.map_congr_left
  intro i hi
  simp only [List.mem_range] at hi
  have hlt : i % z.length < z.length := Nat.mod_lt _ (by omega)
  simp [List.getD_eq_getElem?_getD, hlt]

theorem abuildSlice_ok (hr : Rel B w0 ρ h w) {T : TypeId} {len : Nat} {ps qs : List (Nat × Value)} {u : Value} {h' : Heap} (hb : abuildSlice P T len ps h = some (u, h')) (hp : PRs ρ ps qs) :
    ∃ ρ' w' u', ρ.le ρ' ∧ (Instr.buildSlice T len ⟨qs⟩).run P w = .ok u' w' ∧ VR ρ' u u' ∧ Rel B w0 ρ' h' w' := by
  unfold abuildSlice at hb
  split at hb
  rotate_left
  · cases hb
  rename_i e hu
  split at hb
  rotate_left
  · cases hb
  rename_i i hi
  split at hb
  rotate_left
  · cases hb
  rename_i z hz
  split at hb
  rotate_left
  · cases hb
  rename_i hc
  simp only [Bool.and_eq_true, decide_eq_true_eq] at hc
  split at hb
  rotate_left
  · cases hb
  rename_i cs hf
  simp only [Option.some.injEq, Prod.mk.injEq] at hb
  obtain ⟨rfl, rfl⟩ := hb
  obtain ⟨r, hr1, hr2⟩ := afill_ok _ hp (zrow_ok hc.1.1.1 _) hf
  obtain ⟨ρ', w', h1, h2, h3, h4⟩ := newRow_ok (P := P) hr hr2 i.size e
  have hbig : len < 4611686018427387904 := by
    have h5 := hc.1.1.2
    have h6 := hc.1.2
    have : 0 < i.size := Nat.pos_of_ne_zero (by rintro h0; rw [h0] at h5; simp at h5)
    have : len ≤ len * i.size := Nat.le_mul_of_pos_right _ this
    omega
  refine ⟨ρ', w', .slice (some ⟨w.heap.size, 0, none⟩) len len, h1, ?_, ?_, h4⟩
  · have hzc : z.cells = ⟨cellsL z⟩ := by rw [cellsL_eq]
    simp only [Instr.buildSlice, Sem.run_bind, run_underlying' hu, Result.andThen_ok, run_sizeOf' hi]
    rw [if_neg (by omega), if_neg (by omega)]
    have hz1 : 0 < (cellsL z).length := by
      have h5 := hc.1.1.2
      rw [hc.2]
      exact Nat.pos_of_ne_zero (by rintro h0; rw [h0] at h5; simp at h5)
    simp only [Sem.run_bind, run_zeroValue' hi hz, Result.andThen_ok, Sem.run_pure, hzc, zrow_eq _ _ (.inr hz1), hr1, h2]
  · simpa using VR.sl (o := 0) (n := len) h3 hbig

theorem wrap64_id {n : Int} (h0 : 0 ≤ n) (h1 : n < 4611686018427387904) : IntKind.i64.wrap n = n := by
  simp only [IntKind.wrap, IntKind.signed, IntKind.bits]
  simp
  omega

theorem amakeSlice_ok (hr : Rel B w0 ρ h w) {T : TypeId} {l l' c c' u : Value} {h' : Heap} (hb : amakeSlice P T l c h = some (u, h')) (hl : VR ρ l l') (hcc : VR ρ c c') :
    ∃ ρ' w' u', ρ.le ρ' ∧ (Instr.makeSlice T l' c').run P w = .ok u' w' ∧ VR ρ' u u' ∧ Rel B w0 ρ' h' w' := by
  unfold amakeSlice at hb
  split at hb
  rotate_left
  · cases hb
  rename_i e k1 l k2 c hu
  split at hb
  rotate_left
  · cases hb
  rename_i i hi
  split at hb
  rotate_left
  · cases hb
  rename_i z hz
  split at hb
  rotate_left
  · cases hb
  rename_i hc
  simp only [Bool.and_eq_true, decide_eq_true_eq] at hc
  simp only [Option.some.injEq, Prod.mk.injEq] at hb
  obtain ⟨rfl, rfl⟩ := hb
  cases hl
  cases hcc
  obtain ⟨⟨⟨⟨⟨hp, h0⟩, hlc⟩, hcb⟩, hby⟩, hsz⟩ := hc
  obtain ⟨ρ', w', h1, h2, h3, h4⟩ := newRow_ok (P := P) hr (zrow_ok hp (c.toNat * i.size)) i.size e
  refine ⟨ρ', w', .slice (some ⟨w.heap.size, 0, none⟩) l.toNat c.toNat, h1, ?_, ?_, h4⟩
  · have hzc : z.cells = ⟨cellsL z⟩ := by rw [cellsL_eq]
    have wl := wrap64_id h0 (by omega : l < 4611686018427387904)
    have wc := wrap64_id (by omega : 0 ≤ c) hcb
    have tl : (decide (c < 0) || decide ((i.bytes : Int) * c > 2 ^ 48)) = false := by
      simp only [Bool.or_eq_false_iff, decide_eq_false_iff_not]
      constructor <;> omega
    simp only [Instr.makeSlice, Sem.run_bind, run_underlying' hu, Result.andThen_ok, asInt, asIntOf, Sem.run_pure, run_typeInfo' hi, wl, wc, tl]
    rw [if_neg (by simp; omega)]
    simp only [Sem.run_bind, run_askRoom, Result.andThen_ok, run_sizeOf' hi]
    by_cases hn : c.toNat * i.size = 0
    · rw [hn] at h2
      simp only [hn, if_true, Sem.run_pure, Sem.run_bind, Result.andThen_ok]
      have : (Array.range 0).map (fun x => (#[] : Array Value)[x % (#[] : Array Value).size]!) = ⟨zrow (cellsL z) 0⟩ := by simp [zrow]
      rw [this, h2]
      rfl
    · simp only [hn, if_false, Sem.run_pure, Sem.run_bind, Result.andThen_ok, run_zeroValue' hi hz, hzc]
      have hz1 : 0 < (cellsL z).length := by
        rw [hsz]
        exact Nat.pos_of_ne_zero (by rintro h0; rw [h0] at hn; simp at hn)
      rw [zrow_eq _ _ (.inr hz1), h2]
      rfl
  · simpa using VR.sl (o := 0) (n := l.toNat) h3 (by omega)

theorem amakeMap_ok (hr : Rel B w0 ρ h w) {T : TypeId} {r r' : Option Value} {u : Value} {h' : Heap} (hb : amakeMap P T r h = some (u, h')) (hx : OptR ρ r r') :
    ∃ ρ' w' u', ρ.le ρ' ∧ (Instr.makeMap T r').run P w = .ok u' w' ∧ VR ρ' u u' ∧ Rel B w0 ρ' h' w' := by
  have fin : u = .map (some h.length) → h' = h ++ [.map [] 0] → ∃ ρ' w' u', ρ.le ρ' ∧ (do pure (Value.map (some (← newObj (.map #[] 0)))) : Sem Value).run P w = .ok u' w' ∧ VR ρ' u u' ∧ Rel B w0 ρ' h' w' := by
    rintro rfl rfl
    obtain ⟨ρ', h1, h2, h3⟩ := hr.push (o := .map [] 0) (obj := .map #[] 0) (cap := 0) (fun ρ' w' hle hw' => ⟨hr.base, [], by simpa using hw', .nil⟩)
    exact ⟨ρ', _, .map (some w.heap.size), h1, rfl, .map h2, h3⟩
  unfold amakeMap at hb
  split at hb
  · simp only [Option.some.injEq, Prod.mk.injEq] at hb
    cases r' with
    | some _ => simp [OptR] at hx
    | none => exact fin hb.1.symm hb.2.symm
  · rename_i k n
    split at hb
    · rename_i kt et hu
      simp only [Option.some.injEq, Prod.mk.injEq] at hb
      cases r' with
      | none => simp [OptR] at hx
      | some v =>
        cases hx
        obtain ⟨ρ', w', u', h1, h2, h3, h4⟩ := fin hb.1.symm hb.2.symm
        refine ⟨ρ', w', u', h1, ?_, h3, h4⟩
        simp only [Instr.makeMap, Sem.run_bind, run_underlying' hu, Result.andThen_ok, asInt, asIntOf, Sem.run_pure] at h2 ⊢
        exact h2
    · cases hb
  · cases hb

theorem ERs.append {xs ys us vs : List MapEntry} (h1 : ERs ρ xs ys) (h2 : ERs ρ us vs) : ERs ρ (xs ++ us) (ys ++ vs) := by
  induction h1 with
  | nil => exact h2
  | cons a b _ ih => exact .cons a b ih

theorem ERs.modify {xs ys : List MapEntry} (h1 : ERs ρ xs ys) {k k' v v' : Value} (hk : VR ρ k k') (hv : VR ρ v v') (i : Nat) :
    ERs ρ (xs.modify i fun e => { e with key := k, val := v }) (ys.modify i fun e => { e with key := k', val := v' }) := by
  induction h1 generalizing i with
  | nil => simp; exact .nil
  | cons a b c ih =>
    cases i with
    | zero => simpa using .cons hk hv c
    | succ i => simpa using .cons a b (ih i)

theorem ERs.key {xs ys : List MapEntry} (h1 : ERs ρ xs ys) (hp : keysPlain xs = true) (i : Nat) (k : Value) : ((ys[i]?).map (·.key)).getD k = ((xs[i]?).map (·.key)).getD k := by
  induction h1 generalizing i with
  | nil => simp
  | cons a b c ih =>
    simp only [keysPlain, List.all_cons, Bool.and_eq_true] at hp
    cases i with
    | zero => simp [a.plain_eq hp.1]
    | succ i => simpa using ih hp.2 i

theorem amapUpdate_ok (hr : Rel B w0 ρ h w) {T : TypeId} {x x' k k' v v' : Value} {h' : Heap} (hs : amapUpdate P T x k v h = some h') (hx : VR ρ x x') (hk : VR ρ k k') (hv : VR ρ v v') :
    ∃ w', (Instr.mapUpdate T x' k' v').run P w = .ok () w' ∧ Rel B w0 ρ h' w' := by
  unfold amapUpdate at hs
  split at hs
  rotate_left
  · cases hs
  rename_i kt et b hu
  split at hs
  rotate_left
  · cases hs
  rename_i es clock hb
  split at hs
  rotate_left
  · cases hs
  rename_i hp
  simp only [Bool.and_eq_true] at hp
  obtain rfl := hk.plain_eq hp.1
  split at hs
  · cases hs
  rename_i hck
  cases hx with
  | @map b L hL =>
    obtain ⟨L', hL', hO⟩ := hr.obj b _ hb
    obtain rfl : L = L' := by rw [hL] at hL'; exact Option.some.inj hL'
    obtain ⟨hB, es', h1, h2⟩ := hO
    have fin : ∀ (es2 es2' : List MapEntry) (clock2 : Nat), ERs ρ es2 es2' → Rel B w0 ρ (h.set b (.map es2 clock2)) { w with heap := w.heap.setIfInBounds L.blk (.map ⟨es2'⟩ clock2) } :=
      fun es2 es2' clock2 he => hr.write hb rfl hL hB (fun w' hw' => ⟨hB, es2', hw', he⟩)
    have hset : ∀ o : Obj, (∀ c e f, o ≠ .cells c e f) → (setObj L.blk o).run P w = .ok () { w with heap := w.heap.setIfInBounds L.blk o } := by
      intro o ho
      simp [setObj, Sem.run, h1]
    split at hs
    · cases hs
    · rename_i i u hf
      obtain ⟨r', h3, h4⟩ := afind_ok h2 hp.2 hf
      cases r' with
      | none => exact h4.elim
      | some p =>
        obtain ⟨j, u'⟩ := p
        obtain ⟨rfl, _⟩ := h4
        split at hs <;> simp at hs
        subst hs
        rename_i hsb
        refine ⟨_, ?_, fin _ _ clock (h2.modify (VR.plain hp.1) hv i)⟩
        have hkey := h2.key hp.2 i k'
        have hmod : (Array.mk es').modify i (fun e => { e with key := k', val := v' }) = ⟨es'.modify i fun e => { e with key := k', val := v' }⟩ := by
          apply Array.ext'; simp
        simp only [Instr.mapUpdate, Sem.run_bind, run_underlying' hu, Result.andThen_ok, run_getObj_map h1, pureRun_ok hck, h3, Instr.keyThatStays, List.getElem?_toArray, hkey, hsb, if_true, Sem.run_pure, hmod]
        exact hset _ (by simp)
    · rename_i hf
      obtain ⟨r', h3, h4⟩ := afind_ok h2 hp.2 hf
      cases r' with
      | some p => exact h4.elim
      | none =>
        simp at hs; subst hs
        refine ⟨_, ?_, fin _ _ (clock + 1) (h2.append (.cons (VR.plain hp.1) hv .nil))⟩
        have hmod : (Array.mk es').push ⟨k', v', clock⟩ = ⟨es' ++ [⟨k', v', clock⟩]⟩ := by
          apply Array.ext'; simp
        simp only [Instr.mapUpdate, Sem.run_bind, run_underlying' hu, Result.andThen_ok, run_getObj_map h1, pureRun_ok hck, h3, hmod]
        exact hset _ (by simp)
end
end Go.Am
