import Derived.Test.YtdmfanikejcgjaaB8
set_option linter.unusedSimpArgs false
set_option linter.unusedVariables false
namespace Go.Am
open Go Go.RowKit

def isIntD : TypeDesc → Bool
  | .int _ => true
  | _ => false

/-- What is appended: how many elements, and their cells. -/
def atail (size : Nat) (x : Value) (h : Heap) : Option (Nat × List Value) :=
  match x with
  | .slice none 0 _ => some (0, [])
  | .slice (some ⟨b, o, none⟩) n _ => match h[b]? with
    | some (.row _ _ cs) => if o + n * size ≤ cs.length then some (n, (cs.drop o).take (n * size)) else none
    | _ => none
  | .string s => if size = 1 then some (s.size, s.data.toList.map fun b => .int .u8 b.toNat) else none
  | _ => none

def aappend (P : Program) (ats : Array TypeId) (vs : List Value) (h : Heap) : Option (Value × Heap) :=
  match ats[0]?, ats[1]?, vs with
  | some sT, some xT, [s, x] =>
    match P.underlying sT, P.underlying xT with
    | some (.slice e), some xd =>
      match P.info? e with
      | none => none
      | some i => match i.zero with
        | none => none
        | some z =>
          if isIntD xd || decide (i.size = 0) || decide (i.bytes = 0) || decide ((cellsL z).length ≠ i.size) then none else
          match atail i.size x h with
          | none => none
          | some (n, new) =>
            if !oneCells new then none else
            match s with
            | .slice none 0 0 =>
              if n = 0 then some (s, h)
              else if (2 * n + 512) * i.bytes ≤ 2 ^ 48 then some (.slice (some ⟨h.length, 0, none⟩) n openCap, h ++ [.row .opn i.size new])
              else none
            | .slice (some ⟨b, o, none⟩) sLen sCap =>
              if n = 0 ∧ sLen ≤ sCap then some (s, h) else
              if ¬ (2 * (sLen + n) + 512) * i.bytes ≤ 2 ^ 48 then none else
              match h[b]? with
              | some (.row m esz cs) =>
                if o + sLen * i.size ≤ cs.length then
                  if sCap < 4611686018427387904 then
                    if sLen + n ≤ sCap then
                      if m ≠ .ro ∧ o + (sLen + n) * i.size ≤ cs.length then some (.slice (some ⟨b, o, none⟩) (sLen + n) sCap, h.set b (.row m esz (setsL cs (o + sLen * i.size) new))) else none
                    else some (.slice (some ⟨h.length, 0, none⟩) (sLen + n) openCap, h ++ [.row .opn i.size ((cs.drop o).take (sLen * i.size) ++ new)])
                  else if m = .opn ∧ esz = i.size ∧ sCap ≤ openCap ∧ (openCap - sCap) * i.size = o then
                    if o + (sLen + n) * i.size ≤ cs.length then some (.slice (some ⟨b, o, none⟩) (sLen + n) sCap, h.set b (.row m esz (setsL cs (o + sLen * i.size) new)))
                    else some (.slice (some ⟨h.length, 0, none⟩) (sLen + n) openCap, List.set (h ++ [AObj.row .opn i.size ((cs.drop o).take (sLen * i.size) ++ new)]) b .dead)
                  else none
                else none
              | _ => none
            | _ => none
    | _, _ => none
  | _, _, _ => none

section
variable {P : Program} {B : Nat} {w0 : World} {ρ : RMap} {h : Heap} {w : World} {t : Tm} {ts : List Value}

theorem growBy_le (n : Nat) : ∀ (r c : Nat), c < n → Builtin.growBy n r c ≤ 2 * n + 192
  | 0, c, hc => by simp [Builtin.growBy]; omega
  | r + 1, c, hc => by
    simp only [Builtin.growBy]
    split
    · omega
    · by_cases h2 : c + (c + 768) / 4 < n
      · exact growBy_le n r _ h2
      · cases r with
        | zero => simp [Builtin.growBy]; omega
        | succ r => simp only [Builtin.growBy]; rw [if_pos (by omega)]; omega

theorem nextslicecap_le {n c : Nat} (h : c < n) : Builtin.nextslicecap n c ≤ 2 * n + 512 := by
  unfold Builtin.nextslicecap
  split
  · omega
  · split
    · omega
    · have := growBy_le n 4 c h; omega

theorem atail_ok (hr : Rel B w0 ρ h w) {size : Nat} {x x' : Value} {n : Nat} {new : List Value} (hx : VR ρ x x') (ht : atail size x h = some (n, new)) :
    new.length = n * size ∧ ∃ us, VRs ρ new us ∧ (Builtin.lenOf x').run P w = .ok n w ∧ ∀ d, (Builtin.firstCells size n x').run P { w with drawn := d } = .ok ⟨us⟩ { w with drawn := d } := by
  unfold atail at ht
  split at ht
  · simp at ht
    obtain ⟨rfl, rfl⟩ := ht
    cases hx
    exact ⟨by simp, [], .nil, rfl, fun d => rfl⟩
  · rename_i b o n' c
    split at ht
    · rename_i m esz cs hb
      split at ht <;> simp at ht
      obtain ⟨rfl, rfl⟩ := ht
      rename_i hle
      have fin : ∀ (L : RLoc) (c' : Nat), ρ b = some L → ∃ us, VRs ρ ((cs.drop o).take (n' * size)) us ∧ (Builtin.lenOf (.slice (some ⟨L.blk, L.off + o, none⟩) n' c')).run P w = .ok n' w ∧
          ∀ d, (Builtin.firstCells size n' (.slice (some ⟨L.blk, L.off + o, none⟩) n' c')).run P { w with drawn := d } = .ok ⟨us⟩ { w with drawn := d } := by
        intro L c' hL
        obtain ⟨us, h1, h2⟩ := hr.cells hb hL o (n' * size)
        have hlen : us.length = n' * size := by rw [← h1.length]; simp; omega
        refine ⟨us, h1, rfl, fun d => ?_⟩
        have := run_loadCells_list (P := P) { w with drawn := d } _ us h2
        rw [hlen] at this
        exact this
      refine ⟨by simp; omega, ?_⟩
      cases hx with
      | sl hL hc => exact fin _ _ hL
      | slo hL hc he hn => exact fin _ _ hL
      | @slz b o c L a' hL hc he =>
        refine ⟨[], by simp; exact .nil, rfl, fun d => ?_⟩
        simp only [Builtin.firstCells, Nat.zero_mul]
        rfl
      | @sl0 b o L a' hL =>
        refine ⟨[], by simp; exact .nil, rfl, fun d => ?_⟩
        simp only [Builtin.firstCells, Nat.zero_mul]
        rfl
    · cases ht
  · rename_i s
    split at ht <;> simp at ht
    obtain ⟨rfl, rfl⟩ := ht
    rename_i h1
    subst h1
    cases hx
    refine ⟨by simp, _, VRs.ofPlain (fun x hx => by simp at hx; obtain ⟨b, _, rfl⟩ := hx; rfl), rfl, fun d => ?_⟩
    simp only [Builtin.firstCells, Sem.run_pure]
    congr 1
    apply Array.ext'
    simp
  · cases ht

/-- A new row that may grow. -/
theorem newOpen_ok (hr : Rel B w0 ρ h w) {cs ds rest : List Value} (hc : VRs ρ cs ds) {esz cap : Nat} (e : TypeId) (hcap : ds.length + rest.length = cap * esz) {n : Nat} (hn : n ≤ cap) :
    ∃ ρ', ρ.le ρ' ∧ VR ρ' (.slice (some ⟨h.length, 0, none⟩) n openCap) (.slice (some ⟨w.heap.size, 0, none⟩) n cap) ∧ Rel B w0 ρ' (h ++ [.row .opn esz cs]) { w with heap := w.heap.push (.cells ⟨ds ++ rest⟩ e (0, 0)) } := by
  obtain ⟨ρ', h1, h2, h3⟩ := hr.push (o := .row .opn esz cs) (obj := .cells ⟨ds ++ rest⟩ e (0, 0)) (cap := cap) (fun ρ' w' hle hw' => ⟨hr.base, [], ds, rest, e, 0, 0, by simpa using hw', rfl, hc.mono hle, .inl rfl, hcap⟩)
  refine ⟨ρ', h1, ?_, h3⟩
  have := VR.slo (ρ := ρ') (b := h.length) (o := 0) (n := n) (c := openCap) (c' := cap) h2 (by decide) (by simp [Nat.add_comm]) hn
  simpa using this

/-- The part of append that makes a new row. -/
theorem grow_ok (hr : Rel B w0 ρ h w) {ats : Array TypeId} {ty sT xT e : TypeId} {xd : TypeDesc} {i : TypeInfo} {z : Value} (h0 : ats[0]? = some sT) (h1 : ats[1]? = some xT) (hu : P.underlying sT = some (.slice e)) (hx : P.underlying xT = some xd)
    (hi : P.info? e = some i) (hz : i.zero = some z) (hxd : isIntD xd = false) (hby : i.bytes ≠ 0) (hzl : (cellsL z).length = i.size)
    {base : Option Addr} {sLen sCap n : Nat} {x' : Value} {old new us vs : List Value} (hlen : (Builtin.lenOf x').run P w = .ok n w) (hold : ∀ d, (Builtin.firstCells i.size sLen (.slice base sLen sCap)).run P { w with drawn := d } = .ok ⟨us⟩ { w with drawn := d })
    (hnew : ∀ d, (Builtin.firstCells i.size n x').run P { w with drawn := d } = .ok ⟨vs⟩ { w with drawn := d }) (ho : VRs ρ old us) (hn : VRs ρ new vs) (hol : old.length = sLen * i.size) (hnl : new.length = n * i.size) (hgrow : sCap < sLen + n) (hb : (2 * (sLen + n) + 512) * i.bytes ≤ 2 ^ 48) :
    ∃ ρ' w' u', ρ.le ρ' ∧ (Builtin.append_ ats ty #[.slice base sLen sCap, x']).run P w = .ok u' w' ∧ VR ρ' (.slice (some ⟨h.length, 0, none⟩) (sLen + n) openCap) u' ∧ Rel B w0 ρ' (h ++ [.row .opn i.size (old ++ new)]) w' := by
  have hr' : Rel B w0 ρ h { w with drawn := w.drawn + 1 } := hr.draw
  let newCap := (sLen + n) + (w.tape w.drawn (.appendCap (sLen + n) sCap e)) % (2 ^ 63 - (sLen + n))
  have hlo : (Builtin.zeroCells z.cells (newCap - (sLen + n))).toList.length = (newCap - (sLen + n)) * i.size := by
    have : z.cells.size = i.size := by rw [← hzl, cellsL_eq]; simp
    simp [Builtin.zeroCells, this]
  obtain ⟨ρ', r1, r2, r3⟩ := newOpen_ok hr' (ho.append hn) (esz := i.size) (cap := newCap) (rest := (Builtin.zeroCells z.cells (newCap - (sLen + n))).toList) e
    (by
      rw [hlo, ← (ho.append hn).length]
      simp only [List.length_append, hol, hnl]
      rw [← Nat.add_mul, ← Nat.add_mul]
      congr 1
      have : sLen + n ≤ newCap := Nat.le_add_right _ _
      omega) (n := sLen + n) (Nat.le_add_right _ _)
  refine ⟨ρ', _, _, r1, ?_, r2, r3⟩
  have hbound : Builtin.nextslicecap (sLen + n) sCap * i.bytes ≤ 2 ^ 48 := Nat.le_trans (Nat.mul_le_mul_right _ (nextslicecap_le hgrow)) hb
  have hfold : ∀ (a1 a2 : List Value) (a4 : Array Value), (Array.mk a1 ++ Array.mk a2 ++ a4) = Array.mk (a1 ++ a2 ++ a4.toList) := by
    intro a1 a2 a4; apply Array.ext'; simp
  have hzc : z.cells = ⟨cellsL z⟩ := by rw [cellsL_eq]
  have hnc : ∀ w : World, (choose (.appendCap (sLen + n) sCap e)).run P w = .ok ((sLen + n) + (w.tape w.drawn (.appendCap (sLen + n) sCap e)) % (2 ^ 63 - (sLen + n))) { w with drawn := w.drawn + 1 } := fun w => rfl
  cases xd <;> first | (simp [isIntD] at hxd; done) | skip
  all_goals
    unfold Builtin.append_
    simp only [h0, h1, List.getElem?_toArray, List.getElem?_cons_zero, List.getElem?_cons_succ, Sem.run_bind, run_underlying' hu, Result.andThen_ok, run_sizeOf' hi, Sem.run_pure, run_underlying' hx, Bool.false_eq_true, if_false, hlen]
    rw [if_neg (by omega), Sem.run_bind, run_typeInfo' hi, Result.andThen_ok, if_neg (by rintro ⟨_, h | h⟩; exact h; exact hby h), Sem.run_bind, run_typeInfo' hi, Result.andThen_ok, if_neg (by omega)]
    simp only [Sem.run_bind, hnc, Result.andThen_ok, run_typeInfo' hi, run_askRoom, hold, Bool.not_false, if_true, hnew, run_zeroValue' hi hz, newRow, run_newObj, Sem.run_pure]
    rw [hfold]

theorem oneCells_mem {vs : List Value} (h : oneCells vs = true) : ∀ v ∈ vs, v.oneCell' = true := by simpa [oneCells] using h

/-- The part of append that stays in its row. -/
theorem stay_ok {ats : Array TypeId} {ty sT xT e : TypeId} {xd : TypeDesc} {i : TypeInfo} (h0 : ats[0]? = some sT) (h1 : ats[1]? = some xT) (hu : P.underlying sT = some (.slice e)) (hx : P.underlying xT = some xd)
    (hi : P.info? e = some i) (hxd : isIntD xd = false)
    {base : Option Addr} {sLen sCap n : Nat} {x' : Value} {vs : List Value} (hlen : (Builtin.lenOf x').run P w = .ok n w) (hnew : ∀ d, (Builtin.firstCells i.size n x').run P { w with drawn := d } = .ok ⟨vs⟩ { w with drawn := d })
    (hstay : sLen + n ≤ sCap) {w' : World} (hst : ∀ a, base = some a → (storeCells (a.add (sLen * i.size)) vs).run P w = .ok () w') (hno : base = none → w' = w) :
    (Builtin.append_ ats ty #[.slice base sLen sCap, x']).run P w = .ok (.slice base (sLen + n) sCap) w' := by
  have hnew0 : (Builtin.firstCells i.size n x').run P w = .ok ⟨vs⟩ w := hnew w.drawn
  cases xd <;> first | (simp [isIntD] at hxd; done) | skip
  all_goals
    unfold Builtin.append_
    simp only [h0, h1, List.getElem?_toArray, List.getElem?_cons_zero, List.getElem?_cons_succ, Sem.run_bind, run_underlying' hu, Result.andThen_ok, run_sizeOf' hi, Sem.run_pure, run_underlying' hx, Bool.false_eq_true, if_false, hlen]
    rw [if_pos hstay]
    cases base with
    | none => simp only [Sem.run_bind, Bool.not_false, if_true, hnew0, Result.andThen_ok, Sem.run_pure, hno rfl]
    | some a => simp only [Sem.run_bind, Bool.not_false, if_true, hnew0, Result.andThen_ok, Sem.run_pure, hst a rfl]

/-- append in the row that it was given, which the plain machine takes for a new one. -/
theorem Rel.regrow (hr : Rel B w0 ρ h w) {b : Nat} {esz : Nat} {cs : List Value} (ho : h[b]? = some (.row .opn esz cs)) {L : RLoc} (hL : ρ b = some L) {o q k : Nat} (hq : o = q * esz) {new us : List Value} (hn : VRs ρ new us)
    (hok : o + k ≤ cs.length) (hone : ∀ v ∈ us, v.oneCell' = true) {n : Nat} (hfit : q + n ≤ L.cap) (hsz : k + new.length ≤ n * esz) :
    ∃ ρ' w', ρ.le ρ' ∧ (storeCells ⟨L.blk, L.off + (o + k), none⟩ us).run P w = .ok () w' ∧ VR ρ' (.slice (some ⟨h.length, 0, none⟩) n openCap) (.slice (some ⟨L.blk, L.off + o, none⟩) n (L.cap - q)) ∧
      Rel B w0 ρ' ((h ++ [AObj.row .opn esz ((cs.drop o).take k ++ new)]).set b .dead) w' := by
  obtain ⟨hB, pre, vs, suf, e, lo, hi', hb, hpre, hvs, hfz, hop⟩ := hr.owned ho (by simp) hL
  have hop := hop rfl
  have hlen := hvs.length
  have hnl := hn.length
  have hblt : L.blk < w.heap.size := (Array.getElem?_eq_some_iff.1 hb).1
  have hroom : o + k + us.length ≤ vs.length + suf.length := by
    rw [hop]
    have h1 : (q + n) * esz ≤ L.cap * esz := Nat.mul_le_mul_right _ hfit
    rw [Nat.add_mul] at h1
    omega
  -- the true store
  have st : ∀ (us : List Value) (k2 : Nat) (c : List Value) (w : World), w.heap[L.blk]? = some (.cells ⟨c⟩ e (lo, hi')) → (lo = hi' ∨ c.length ≤ lo) → L.off + (o + k) + k2 + us.length ≤ c.length → (∀ v ∈ us, v.oneCell' = true) →
      (storeCells ⟨L.blk, L.off + (o + k), none⟩ us k2).run P w = .ok () { w with heap := w.heap.setIfInBounds L.blk (.cells ⟨setsL c (L.off + (o + k) + k2) us⟩ e (lo, hi')) } := by
    intro us
    induction us with
    | nil =>
      intro k2 c w hc _ _ _
      simp only [storeCells, setsL, Sem.run_pure]
      congr 1
      have : w.heap.setIfInBounds L.blk (.cells ⟨c⟩ e (lo, hi')) = w.heap := by
        apply Array.ext_getElem?
        intro i
        rw [Array.getElem?_setIfInBounds]
        split
        · rename_i h; subst h
          have hlt : L.blk < w.heap.size := (Array.getElem?_eq_some_iff.1 hc).1
          rw [if_pos hlt, hc]
        · rfl
      rw [this]
    | cons u us ih =>
      intro k2 c w hc hfz hle hone
      simp only [List.length_cons] at hle
      have h1 := hone u (by simp)
      have hcell : w.cell? ⟨L.blk, L.off + (o + k) + k2, none⟩ = some (c[L.off + (o + k) + k2]'(by omega)) := by
        simp only [World.cell?, hc, Option.isSome_none, Bool.false_eq_true, if_false, List.getElem?_toArray]
        exact List.getElem?_eq_getElem _
      have hf : w.frozen? ⟨L.blk, L.off + (o + k) + k2, none⟩ = false := by
        simp only [World.frozen?, hc, Bool.and_eq_false_iff, decide_eq_false_iff_not]
        rcases hfz with hfz | hfz <;> omega
      have hlt : L.blk < w.heap.size := (Array.getElem?_eq_some_iff.1 hc).1
      have h2 : (store ⟨L.blk, L.off + (o + k) + k2, none⟩ u).run P w = .ok () (w.setCell ⟨L.blk, L.off + (o + k) + k2, none⟩ u) := by
        rw [run_store P w _ _ _ h1]; simp [hcell, hf]
      rw [setCell_eq hc] at h2
      have h3 := ih (k2 + 1) (c.set (L.off + (o + k) + k2) u) { w with heap := w.heap.setIfInBounds L.blk (.cells ⟨c.set (L.off + (o + k) + k2) u⟩ e (lo, hi')) } (by simp [hlt]) (by simpa using hfz) (by simp; omega) (fun v hv => hone v (by simp [hv]))
      simp only [storeCells, Sem.run_bind]
      rw [addr_add, h2]
      simp only [Result.andThen_ok]
      rw [h3]
      simp only [setsL, Nat.add_assoc]
      congr 2
      apply Array.ext_getElem?
      intro i
      simp only [Array.getElem?_setIfInBounds, Array.size_setIfInBounds]
      split <;> simp_all
  have st0 := st us 0 (pre ++ vs ++ suf) w hb hfz (by simp; omega) hone
  -- the true row behind the store
  have hrow : setsL (pre ++ vs ++ suf) (L.off + (o + k) + 0) us = (pre ++ vs.take o) ++ ((vs.drop o).take k ++ us) ++ ((vs ++ suf).drop (o + k + us.length)) := by
    have sets_split : ∀ (us a c : List Value), us.length ≤ c.length → setsL (a ++ c) a.length us = a ++ us ++ c.drop us.length := by
      intro us
      induction us with
      | nil => intro a c _; simp [setsL]
      | cons u us ih =>
        intro a c hc
        cases c with
        | nil => simp at hc
        | cons x c =>
          simp only [setsL]
          have : (a ++ x :: c).set a.length u = (a ++ [u]) ++ c := by simp
          rw [this]
          have := ih (a ++ [u]) c (by simpa using hc)
          simp only [List.length_append, List.length_cons, List.length_nil, Nat.zero_add] at this
          rw [this]; simp
    have hd : pre ++ vs ++ suf = (pre ++ vs.take (o + k)) ++ (vs.drop (o + k) ++ suf) := by
      conv => lhs; rw [← List.take_append_drop (o + k) vs]
      simp only [List.append_assoc]
    rw [hd]
    have ha : L.off + (o + k) + 0 = (pre ++ vs.take (o + k)).length := by simp; omega
    rw [ha, sets_split _ _ _ (by simp; omega)]
    have ht : vs.take (o + k) = vs.take o ++ (vs.drop o).take k := by
      rw [List.take_add]
    have hdd : (vs.drop (o + k) ++ suf).drop us.length = (vs ++ suf).drop (o + k + us.length) := by
      rw [show (vs ++ suf).drop (o + k + us.length) = ((vs ++ suf).drop (o + k)).drop us.length from by rw [List.drop_drop], List.drop_append_of_le_length (l₁ := vs) (by omega)]
    rw [ht, hdd]
    simp
  -- the relation
  have hk := hr.kill b
  have hdead : (h.set b .dead)[b]? = some .dead := by
    have hlt := (List.getElem?_eq_some_iff.1 ho).1
    rw [List.getElem?_set_self hlt]
  let L' : RLoc := ⟨L.blk, L.off + o, L.cap - q⟩
  let ρ' : RMap := fun x => if x = h.length then some L' else ρ x
  have hnew : ρ h.length = none := by
    cases hq : ρ h.length with
    | none => rfl
    | some L => exact absurd (hr.fin _ _ hq) (by omega)
  have hle : ρ.le ρ' := by
    intro x Lx hx
    show (if x = h.length then some L' else ρ x) = some Lx
    rw [if_neg]
    · exact hx
    · rintro rfl; rw [hnew] at hx; cases hx
  have hblen : b < h.length := (List.getElem?_eq_some_iff.1 ho).1
  have hheap : (h ++ [AObj.row .opn esz ((cs.drop o).take k ++ new)]).set b .dead = h.set b .dead ++ [AObj.row .opn esz ((cs.drop o).take k ++ new)] := by
    rw [List.set_append_left _ _ hblen]
  let w' : World := { w with heap := w.heap.setIfInBounds L.blk (.cells ⟨setsL (pre ++ vs ++ suf) (L.off + (o + k) + 0) us⟩ e (lo, hi')) }
  have hother : ∀ j, j ≠ L.blk → w'.heap[j]? = w.heap[j]? := fun j hj => Array.getElem?_setIfInBounds_ne (Ne.symm hj)
  have hhere : w'.heap[L.blk]? = some (.cells ⟨setsL (pre ++ vs ++ suf) (L.off + (o + k) + 0) us⟩ e (lo, hi')) := by
    show (w.heap.setIfInBounds _ _)[_]? = _
    simp [hblt]
  refine ⟨ρ', w', hle, st0, ?_, ?_⟩
  · have := VR.slo (ρ := ρ') (b := h.length) (o := 0) (n := n) (c := openCap) (c' := L.cap - q) (L := L') (by show (if h.length = h.length then some L' else _) = _; rw [if_pos rfl]) (by decide) (by show L.cap - q + openCap = openCap + (L.cap - q); omega) (by omega)
    simpa [L'] using this
  · rw [hheap]
    refine ⟨hr.below.trans ⟨rfl, rfl, rfl, by simp [w'], fun j hj => hother j (by omega)⟩, by simpa [w'] using hr.base, ?_, ?_, ?_, ?_⟩
    · intro x Lx hx
      have hx' : (if x = h.length then some L' else ρ x) = some Lx := hx
      split at hx'
      · simp; omega
      · have := hr.fin x Lx hx'; simp; omega
    · intro x Lx o2 hx ho2 hnd
      have hx' : (if x = h.length then some L' else ρ x) = some Lx := hx
      split at hx'
      · cases hx'; simpa [w', L'] using hblt
      · have hf := hr.fin x Lx hx'
        rw [List.getElem?_append_left (by simpa using hf)] at ho2
        simpa [w'] using hk.lt x Lx o2 hx' ho2 hnd
    · intro x o2 ho2
      by_cases hxl : x = h.length
      · subst hxl
        have : (h.set b .dead ++ [AObj.row .opn esz ((cs.drop o).take k ++ new)])[h.length]? = some (AObj.row .opn esz ((cs.drop o).take k ++ new)) := by
          rw [List.getElem?_append_right (by simp)]; simp
        rw [this] at ho2; cases ho2
        refine ⟨L', by show (if h.length = h.length then some L' else _) = _; rw [if_pos rfl], ?_⟩
        refine ⟨hB, pre ++ vs.take o, (vs.drop o).take k ++ us, (vs ++ suf).drop (o + k + us.length), e, lo, hi', ?_, ?_, ?_, ?_, ?_⟩
        · rw [← hrow]; exact hhere
        · simp [L']; omega
        · exact (((hvs.drop o).take k).append hn).mono hle
        · have hl2 : (pre ++ vs.take o ++ ((vs.drop o).take k ++ us) ++ (vs ++ suf).drop (o + k + us.length)).length = (pre ++ vs ++ suf).length := by
            rw [← hrow, setsL_length]
          rw [hl2]; exact hfz
        · show ((vs.drop o).take k ++ us).length + ((vs ++ suf).drop (o + k + us.length)).length = (L.cap - q) * esz
          rw [Nat.sub_mul, ← hop, ← hq]
          simp; omega
      · have hlt : x < h.length := by
          have := (List.getElem?_eq_some_iff.1 ho2).1
          simp at this; omega
        rw [List.getElem?_append_left (by simpa using hlt)] at ho2
        obtain ⟨Lx, hLx, hO⟩ := hk.obj x o2 ho2
        refine ⟨Lx, by show (if x = h.length then some L' else ρ x) = _; rw [if_neg hxl]; exact hLx, ?_⟩
        by_cases hxb : x = b
        · subst hxb; rw [hdead] at ho2; cases ho2; trivial
        · rw [List.getElem?_set_ne (Ne.symm hxb)] at ho2
          cases o2 with
          | dead => trivial
          | map es clock => exact (hO.mono hle).frame (hother _ (hr.sep x b _ _ Lx L hxb ho2 ho rfl rfl hLx hL))
          | row m2 esz2 cs2 =>
            cases m2 with
            | ro => exact (hO.mono hle).frame (hother _ (by have := hO.1; omega))
            | own => exact (hO.mono hle).frame (hother _ (hr.sep x b _ _ Lx L hxb ho2 ho rfl rfl hLx hL))
            | opn => exact (hO.mono hle).frame (hother _ (hr.sep x b _ _ Lx L hxb ho2 ho rfl rfl hLx hL))
    · have old : ∀ (x : Nat) (o2 : AObj), x ≠ h.length → (h.set b .dead ++ [AObj.row .opn esz ((cs.drop o).take k ++ new)])[x]? = some o2 → o2.owned = true → x ≠ b ∧ h[x]? = some o2 := by
        intro x o2 hxl ho2 how
        have hlt : x < h.length := by
          have := (List.getElem?_eq_some_iff.1 ho2).1
          simp at this; omega
        rw [List.getElem?_append_left (by simpa using hlt)] at ho2
        by_cases hxb : x = b
        · subst hxb; rw [hdead] at ho2; cases ho2; simp [AObj.owned] at how
        · rw [List.getElem?_set_ne (Ne.symm hxb)] at ho2; exact ⟨hxb, ho2⟩
      intro x y o1 o2 L1 L2 hne ho1 ho2 hw1 hw2 hL1 hL2
      have hL1' : (if x = h.length then some L' else ρ x) = some L1 := hL1
      have hL2' : (if y = h.length then some L' else ρ y) = some L2 := hL2
      by_cases hx : x = h.length
      · rw [if_pos hx] at hL1'; cases hL1'
        have hy : y ≠ h.length := by omega
        rw [if_neg hy] at hL2'
        obtain ⟨hyb, hoy⟩ := old y o2 hy ho2 hw2
        exact (hr.sep y b o2 _ L2 L hyb hoy ho hw2 rfl hL2' hL).symm
      · rw [if_neg hx] at hL1'
        obtain ⟨hxb, hox⟩ := old x o1 hx ho1 hw1
        by_cases hy : y = h.length
        · rw [if_pos hy] at hL2'; cases hL2'
          exact hr.sep x b o1 _ L1 L hxb hox ho hw1 rfl hL1' hL
        · rw [if_neg hy] at hL2'
          obtain ⟨hyb, hoy⟩ := old y o2 hy ho2 hw2
          exact hr.sep x y o1 o2 L1 L2 hne hox hoy hw1 hw2 hL1' hL2'

theorem aappend_ok (hr : Rel B w0 ρ h w) {ats : Array TypeId} {ty : TypeId} {vs us : List Value} {u : Value} {h' : Heap} (hb : aappend P ats vs h = some (u, h')) (hv : VRs ρ vs us) :
    ∃ ρ' w' u', ρ.le ρ' ∧ (Builtin.append_ ats ty ⟨us⟩).run P w = .ok u' w' ∧ VR ρ' u u' ∧ Rel B w0 ρ' h' w' := by
  unfold aappend at hb
  split at hb
  rotate_left
  · cases hb
  rename_i sT xT s x h0 h1
  cases hv with
  | @cons _ s' _ us hs hv =>
  cases hv with
  | @cons _ x' _ us hx hv =>
  cases hv
  split at hb
  rotate_left
  · cases hb
  rename_i e xd hu hxu
  split at hb
  · cases hb
  rename_i i hi
  split at hb
  · cases hb
  rename_i z hz
  split at hb
  · cases hb
  rename_i hcond
  simp only [Bool.or_eq_true, decide_eq_true_eq, not_or, Bool.not_eq_true] at hcond
  obtain ⟨⟨⟨hxd, hsz⟩, hby⟩, hzl⟩ := hcond
  have hzl : (cellsL z).length = i.size := by omega
  split at hb
  · cases hb
  rename_i n new htail
  split at hb
  · cases hb
  rename_i hone
  simp only [Bool.not_eq_true, Bool.not_eq_false'] at hone
  have hone : oneCells new = true := by simpa using hone
  obtain ⟨hnl, nus, hn1, hn2, hn3⟩ := atail_ok (P := P) hr hx htail
  have honeU : ∀ v ∈ nus, v.oneCell' = true := by
    intro v hv
    obtain ⟨j, hj⟩ := List.getElem?_of_mem hv
    obtain ⟨v0, h5, h6⟩ := hn1.getBack hj
    exact h6.oneCell (oneCells_mem hone v0 (List.mem_of_getElem? h5))
  split at hb
  · -- a nil slice
    cases hs
    split at hb
    · rename_i hn0
      simp at hb; obtain ⟨rfl, rfl⟩ := hb
      subst hn0
      refine ⟨ρ, w, .slice none 0 0, ρ.le_refl, ?_, .snil 0 0, hr⟩
      exact stay_ok h0 h1 hu hxu hi hxd hn2 hn3 (by omega) (by simp) (by simp)
    · split at hb <;> simp at hb
      obtain ⟨rfl, rfl⟩ := hb
      rename_i hn0 hbnd
      obtain ⟨ρ', w', u', r1, r2, r3, r4⟩ := grow_ok (ty := ty) hr h0 h1 hu hxu hi hz hxd hby hzl (base := none) (sLen := 0) (sCap := 0) hn2 (old := []) (us := []) (fun d => rfl) hn3 .nil hn1 (by simp) hnl (by omega) (by simpa using hbnd)
      exact ⟨ρ', w', u', r1, r2, by simpa using r3, by simpa using r4⟩
  · rename_i b o sLen sCap
    -- what the true slice is
    have true_s : ∃ (L : RLoc) (a : Addr) (c' : Nat), ρ b = some L ∧ s' = .slice (some a) sLen c' ∧ ((a = ⟨L.blk, L.off + o, none⟩ ∧ ((sCap < 4611686018427387904 ∧ c' = sCap) ∨ (4611686018427387904 ≤ sCap ∧ c' + openCap = sCap + L.cap ∧ sLen ≤ c'))) ∨
        (sLen = 0 ∧ c' = 0 ∧ (sCap = 0 ∨ (4611686018427387904 ≤ sCap ∧ openCap = sCap + L.cap)))) := by
      cases hs with
      | sl hL hc => exact ⟨_, _, _, hL, rfl, .inl ⟨rfl, .inl ⟨hc, rfl⟩⟩⟩
      | slo hL hc he hn => exact ⟨_, _, _, hL, rfl, .inl ⟨rfl, .inr ⟨hc, he, hn⟩⟩⟩
      | slz hL hc he => exact ⟨_, _, _, hL, rfl, .inr ⟨rfl, rfl, .inr ⟨hc, he⟩⟩⟩
      | sl0 hL => exact ⟨_, _, _, hL, rfl, .inr ⟨rfl, rfl, .inl rfl⟩⟩
    obtain ⟨L, a, c', hL, rfl, hcase⟩ := true_s
    split at hb
    · rename_i hn0
      simp at hb; obtain ⟨rfl, rfl⟩ := hb
      obtain ⟨rfl, hsc⟩ := hn0
      have hnil : nus = [] := by
        have := hn1.length
        simp only [hnl, Nat.zero_mul] at this
        exact List.eq_nil_of_length_eq_zero this.symm
      subst hnil
      refine ⟨ρ, w, .slice (some a) sLen c', ρ.le_refl, ?_, hs, hr⟩
      have := stay_ok (ty := ty) h0 h1 hu hxu hi hxd (base := some a) (sLen := sLen) (sCap := c') hn2 hn3 (by rcases hcase with ⟨_, h⟩ | h <;> omega) (w' := w) (fun a _ => rfl) (fun hh => by cases hh)
      simpa using this
    split at hb
    · cases hb
    rename_i hn0 hbnd
    have hbnd : (2 * (sLen + n) + 512) * i.bytes ≤ 2 ^ 48 := by omega
    split at hb
    rotate_left
    · cases hb
    rename_i m esz cs hrow
    split at hb
    rotate_left
    · cases hb
    rename_i hle
    -- reading the old cells
    have hold : a = ⟨L.blk, L.off + o, none⟩ ∨ sLen = 0 → ∃ ous, VRs ρ ((cs.drop o).take (sLen * i.size)) ous ∧ ∀ d, (Builtin.firstCells i.size sLen (.slice (some a) sLen c')).run P { w with drawn := d } = .ok ⟨ous⟩ { w with drawn := d } := by
      intro ha
      rcases ha with rfl | rfl
      · obtain ⟨ous, h2, h3⟩ := hr.cells hrow hL o (sLen * i.size)
        refine ⟨ous, h2, fun d => ?_⟩
        have hlen : ous.length = sLen * i.size := by rw [← h2.length]; simp; omega
        have := run_loadCells_list (P := P) { w with drawn := d } _ ous h3
        rw [hlen] at this
        exact this
      · refine ⟨[], by simp; exact .nil, fun d => ?_⟩
        simp only [Builtin.firstCells, Nat.zero_mul]
        rfl
    have hol : ((cs.drop o).take (sLen * i.size)).length = sLen * i.size := by simp; omega
    split at hb
    · -- a capacity that is known
      rename_i hsc
      have hc' : c' = sCap := by omega
      subst hc'
      split at hb
      · rename_i hfit
        have hnz : sLen + n ≠ 0 := fun hh => hn0 ⟨by omega, by omega⟩
        rcases hcase with ⟨rfl, hcase⟩ | hcase
        rotate_left
        · omega
        split at hb <;> simp at hb
        obtain ⟨rfl, rfl⟩ := hb
        rename_i hm
        obtain ⟨w', r1, r2⟩ := hr.stores (P := P) hn1 (oneCells_mem hone) hrow hm.1 hL (o := o + sLen * i.size) (k := 0) (by rw [hnl]; rw [Nat.add_mul] at hm; omega)
        refine ⟨ρ, w', _, ρ.le_refl, stay_ok h0 h1 hu hxu hi hxd hn2 hn3 hfit (fun a ha => ?_) (fun hh => by cases hh), .sl hL hsc, by simpa using r2⟩
        cases ha
        rw [addr_add, Nat.add_assoc]
        exact r1
      · rename_i hfit
        simp at hb; obtain ⟨rfl, rfl⟩ := hb
        obtain ⟨ous, h2, h3⟩ := hold (by rcases hcase with ⟨h, _⟩ | ⟨h, _⟩ <;> simp [h])
        exact grow_ok (ty := ty) hr h0 h1 hu hxu hi hz hxd hby hzl hn2 h3 hn3 h2 hn1 hol hnl (by omega) hbnd
    · -- an open one
      rename_i hsc
      split at hb
      rotate_left
      · cases hb
      rename_i hop
      obtain ⟨rfl, rfl, hsco, ho⟩ := hop
      obtain ⟨hB, pre, vvs, suf, e', lo, hi', hbk, hpre, hvvs, hfz, hopn⟩ := hr.owned hrow (by simp) hL
      have hopn := hopn rfl
      have hvl := hvvs.length
      have hpos : 0 < i.size := Nat.pos_of_ne_zero hsz
      split at hb
      · -- within what is there
        rename_i hfit
        simp at hb; obtain ⟨rfl, rfl⟩ := hb
        have hmul : (openCap - sCap) * i.size + (sLen + n) * i.size ≤ L.cap * i.size := by omega
        rw [← Nat.add_mul] at hmul
        have hmul := Nat.le_of_mul_le_mul_right hmul hpos
        rcases hcase with ⟨rfl, hcase⟩ | hcase
        · rcases hcase with hcase | ⟨hcc, he, hnc⟩
          · omega
          have hfit' : sLen + n ≤ c' := by omega
          obtain ⟨w', r1, r2⟩ := hr.stores (P := P) hn1 (oneCells_mem hone) hrow (by simp) hL (o := o + sLen * i.size) (k := 0) (by rw [hnl]; rw [Nat.add_mul] at hfit; omega)
          refine ⟨ρ, w', _, ρ.le_refl, stay_ok h0 h1 hu hxu hi hxd hn2 hn3 hfit' (fun a ha => ?_) (fun hh => by cases hh), .slo hL hcc he hfit', by simpa using r2⟩
          cases ha
          rw [addr_add, Nat.add_assoc]
          exact r1
        · exfalso
          obtain ⟨rfl, _, hcase⟩ := hcase
          have he : openCap = sCap + L.cap := by omega
          have : 0 < n := Nat.pos_of_ne_zero (fun hh => hn0 ⟨hh, by omega⟩)
          omega
      · rename_i hfit
        simp at hb; obtain ⟨rfl, rfl⟩ := hb
        by_cases hin : sLen + n ≤ c'
        · -- it stays in its true row
          rcases hcase with ⟨rfl, hcase⟩ | hcase
          · rcases hcase with hcase | ⟨hcc, he, hnc⟩
            · omega
            obtain ⟨ρ', w', r1, r2, r3, r4⟩ := hr.regrow (P := P) hrow hL (o := o) (q := openCap - sCap) (k := sLen * i.size) (n := sLen + n) ho.symm hn1 hle honeU (by omega) (by rw [hnl, Nat.add_mul]; omega)
            have hcq : L.cap - (openCap - sCap) = c' := by omega
            rw [hcq] at r3
            refine ⟨ρ', w', _, r1, stay_ok h0 h1 hu hxu hi hxd hn2 hn3 hin (fun a ha => ?_) (fun hh => by cases hh), r3, r4⟩
            cases ha
            rw [addr_add, Nat.add_assoc]
            exact r2
          · exfalso
            have : 0 < n := Nat.pos_of_ne_zero (fun hh => hn0 ⟨hh, by omega⟩)
            omega
        · obtain ⟨ous, h2, h3⟩ := hold (by rcases hcase with ⟨h, _⟩ | ⟨h, _⟩ <;> simp [h])
          obtain ⟨ρ', w', u', r1, r2, r3, r4⟩ := grow_ok (ty := ty) hr h0 h1 hu hxu hi hz hxd hby hzl hn2 h3 hn3 h2 hn1 hol hnl (by omega) hbnd
          exact ⟨ρ', w', u', r1, r2, r3, r4.kill b⟩
  · cases hb
end
end Go.Am
