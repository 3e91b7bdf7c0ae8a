import Derived.Test.YtdmfanikejcgjaaX3
set_option linter.unusedSimpArgs false
set_option linter.unusedVariables false
namespace Go.Am
open Go Go.RowKit

/-! ### rows made of parts, rows that grow -/
noncomputable def tkA {α : Type} (n : Nat) : List Value → List Value → (List Value → Option α) → Option α :=
  Nat.rec (motive := fun _ => List Value → List Value → (List Value → Option α) → Option α) (fun _ tl K => K tl)
    (fun _ ih l tl K => List.rec (motive := fun _ => Option α) none (fun x xs _ => ih xs tl fun ys => K (x :: ys)) l) n
theorem tkA_ok {α : Type} {K : List Value → Option α} {r : α} {n : Nat} {l tl : List Value} (h : tkA n l tl K = some r) : n ≤ l.length ∧ K (l.take n ++ tl) = some r := by
  induction n generalizing l K with
  | zero => exact ⟨Nat.zero_le _, by rw [List.take_zero]; exact h⟩
  | succ n ih =>
    cases l with
    | nil => cases h
    | cons x xs =>
      have h : tkA n xs tl (fun ys => K (x :: ys)) = some r := h
      obtain ⟨h1, h2⟩ := ih h
      exact ⟨by simpa using h1, by simpa using h2⟩

def bsRow (P : Program) (T : TypeId) (len : Nat) (parts : List (Nat × Value)) : Option (Nat × List Value) :=
  match P.underlying T with
  | some (.slice e) => match P.info? e with
    | some i => match i.zero with
      | some z =>
        if plainV z && decide (0 < len * i.size) && decide (len * i.size ≤ 2 ^ 24) && decide ((cellsL z).length = i.size) then
          match afill (fun j => some (j * i.size, i.size)) (zrow (cellsL z) (len * i.size)) parts with
          | some cs => some (i.size, cs)
          | none => none
        else none
      | none => none
    | none => none
  | _ => none
noncomputable def xBS (len : Nat) (row : Option (Nat × List Value)) (h : PH) : R := match row with
  | some (sz, cs) => match h.push (.row .own sz cs) with
    | some h' => some (.slice (some ⟨h.n, 0, none⟩) len len, h')
    | none => none
  | none => none
theorem xBS_ok {P : Program} {T : TypeId} {len : Nat} {parts : List (Nat × Value)} {u : Value} {h h' : PH} (hx : xBS len (bsRow P T len parts) h = some (u, h')) : abuildSlice P T len parts h.abs = some (u, h'.abs) := by
  unfold xBS at hx
  split at hx <;> try (cases hx; done)
  rename_i sz cs hr
  split at hx <;> try (cases hx; done)
  rename_i h'' hp
  cases hx
  unfold bsRow at hr
  unfold abuildSlice
  split at hr <;> try (cases hr; done)
  split at hr <;> try (cases hr; done)
  split at hr <;> try (cases hr; done)
  split at hr <;> try (cases hr; done)
  split at hr <;> try (cases hr; done)
  rename_i e hu _ i hi _ z hz hc _ cs' hf
  cases hr
  simp only [hu, hi, hz, hc, hf, if_true, PH.push_abs hp, PH.length]

noncomputable def ptail (size : Nat) (x : Value) (h : PH) : Option (Nat × List Value) :=
  match x with
  | .slice none 0 _ => some (0, [])
  | .slice (some ⟨b, o, none⟩) n _ => match h.raw b with
    | some (.row _ _ cs) => tkA (Nat.mul n size) (cs.drop o) [] fun l => match Nat.ble (Nat.add o (Nat.mul n size)) cs.length with
      | true => some (n, l)
      | false => none
    | _ => none
  | .string s => match Nat.beq size 1 with
    | true => some (s.size, s.data.toList.map fun b => .int .u8 b.toNat)
    | false => none
  | _ => none
theorem ptail_ok {size : Nat} {x : Value} {h : PH} {r : Nat × List Value} (hp : ptail size x h = some r) : atail size x h.abs = some r := by
  unfold ptail at hp
  unfold atail
  split at hp
  · exact hp
  · split at hp <;> try (cases hp; done)
    rename_i hg
    obtain ⟨h1, h2⟩ := tkA_ok hp
    split at h2 <;> try (cases h2; done)
    rename_i hle
    have hle := Nat.le_of_ble_eq_true hle
    cases h2
    obtain ⟨m', hg⟩ := PH.raw_row hg
    simp only [hg]
    refine (if_pos hle).trans ?_
    simp
  · split at hp <;> try (cases hp; done)
    rename_i hb
    dsimp only
    rw [if_pos (Nat.eq_of_beq_eq_true hb)]
    exact hp
  · cases hp

def appInfo (P : Program) (ats : Array TypeId) : Option (Nat × Nat) :=
  match ats[0]?, ats[1]? with
  | some sT, some xT => match P.underlying sT, P.underlying xT with
    | some (.slice e), some xd => match P.info? e with
      | none => none
      | some i => match i.zero with
        | none => none
        | some z => if isIntD xd || decide (i.size = 0) || decide (i.bytes = 0) || decide ((cellsL z).length ≠ i.size) then none else some (i.size, i.bytes)
    | _, _ => none
  | _, _ => none

def modn (m : Mode) : Bool := match m with
  | .opn => true
  | _ => false
/-- A new row: so many cells of an old one, and what comes. -/
noncomputable def growR (sz b k o : Nat) (kill : Bool) (cs new : List Value) (n : Nat) (h : PH) : R :=
  tkA k (cs.drop o) new fun cs' => match h.push (.row .opn sz cs') with
    | some h' => match kill with
      | true => match h'.set b .dead with
        | some h'' => seqN n fun n => some (.slice (some ⟨h.n, 0, none⟩) n openCap, h'')
        | none => none
      | false => seqN n fun n => some (.slice (some ⟨h.n, 0, none⟩) n openCap, h')
    | none => none
noncomputable def stayR (b o sz sLen sCap n : Nat) (m : Mode) (esz : Nat) (cs new : List Value) (h : PH) : R :=
  stsK cs (Nat.add o (Nat.mul sLen sz)) new fun cs' => match h.set b (.row m esz cs') with
    | some h' => seqN (Nat.add sLen n) fun k => some (.slice (some ⟨b, o, none⟩) k sCap, h')
    | none => none
noncomputable def xApp (ai : Option (Nat × Nat)) (s x : Value) (h : PH) : R := match ai with
  | none => none
  | some (sz, bt) => match ptail sz x h with
    | none => none
    | some (n, new) => match oneCells new with
      | false => none
      | true => match s with
        | .slice none 0 0 => match Nat.beq n 0 with
          | true => some (.slice none 0 0, h)
          | false => match Nat.ble (Nat.mul (Nat.add (Nat.mul 2 n) 512) bt) 281474976710656 with
            | true => match h.push (.row .opn sz new) with
              | some h' => some (.slice (some ⟨h.n, 0, none⟩) n openCap, h')
              | none => none
            | false => none
        | .slice (some ⟨b, o, none⟩) sLen sCap => match Nat.beq n 0 with
          | true => match Nat.ble sLen sCap with
            | true => some (.slice (some ⟨b, o, none⟩) sLen sCap, h)
            | false => none
          | false => match Nat.ble (Nat.mul (Nat.add (Nat.mul 2 (Nat.add sLen n)) 512) bt) 281474976710656 with
            | false => none
            | true => match h.get b with
              | some (.row m esz cs) => match Nat.ble (Nat.add o (Nat.mul sLen sz)) cs.length with
                | false => none
                | true => match Nat.blt sCap 4611686018427387904 with
                  | true => match Nat.ble (Nat.add sLen n) sCap with
                    | true => match mro m with
                      | true => none
                      | false => match Nat.ble (Nat.add o (Nat.mul (Nat.add sLen n) sz)) cs.length with
                        | true => stayR b o sz sLen sCap n m esz cs new h
                        | false => none
                    | false => growR sz b (Nat.mul sLen sz) o false cs new (Nat.add sLen n) h
                  | false => match modn m with
                    | false => none
                    | true => match Nat.beq esz sz with
                      | false => none
                      | true => match Nat.ble sCap openCap with
                        | false => none
                        | true => match Nat.beq (Nat.mul (Nat.sub openCap sCap) sz) o with
                          | false => none
                          | true => match Nat.ble (Nat.add o (Nat.mul (Nat.add sLen n) sz)) cs.length with
                            | true => stayR b o sz sLen sCap n m esz cs new h
                            | false => growR sz b (Nat.mul sLen sz) o true cs new (Nat.add sLen n) h
              | _ => none
        | _ => none

theorem growR_ok {sz b k o n : Nat} {kill : Bool} {cs new : List Value} {h h' : PH} {v : Value} (hx : growR sz b k o kill cs new n h = some (v, h')) :
    v = .slice (some ⟨h.abs.length, 0, none⟩) n openCap ∧ h'.abs = (if kill then List.set (h.abs ++ [.row .opn sz ((cs.drop o).take k ++ new)]) b .dead else h.abs ++ [.row .opn sz ((cs.drop o).take k ++ new)]) := by
  unfold growR at hx
  obtain ⟨h1, h2⟩ := tkA_ok hx
  split at h2 <;> try (cases h2; done)
  rename_i h1' hp
  rw [PH.length]
  cases kill with
  | true =>
    dsimp only at h2
    split at h2 <;> try (cases h2; done)
    rename_i h2' hs
    rw [seqN_eq] at h2
    cases h2
    exact ⟨rfl, by simp [PH.set_abs hs, PH.push_abs hp]⟩
  | false =>
    dsimp only at h2
    rw [seqN_eq] at h2
    cases h2
    exact ⟨rfl, by simp [PH.push_abs hp]⟩
theorem stayR_ok {b o sz sLen sCap n esz : Nat} {m : Mode} {cs new : List Value} {h h' : PH} {v : Value} (hx : stayR b o sz sLen sCap n m esz cs new h = some (v, h')) :
    v = .slice (some ⟨b, o, none⟩) (sLen + n) sCap ∧ h'.abs = h.abs.set b (.row m esz (setsL cs (o + sLen * sz) new)) := by
  unfold stayR at hx
  obtain ⟨h1, h2⟩ := stsK_ok hx
  split at h2 <;> try (cases h2; done)
  rename_i h' hs
  rw [seqN_eq] at h2
  cases h2
  exact ⟨rfl, PH.set_abs hs⟩

theorem xApp_ok {P : Program} {ats : Array TypeId} {s x u : Value} {h h' : PH} (hx : xApp (appInfo P ats) s x h = some (u, h')) : aappend P ats [s, x] h.abs = some (u, h'.abs) := by
  unfold xApp at hx
  split at hx
  · cases hx
  rename_i sz bt hai
  unfold appInfo at hai
  split at hai <;> try (cases hai; done)
  rename_i sT xT h0 h1
  split at hai <;> try (cases hai; done)
  rename_i e xd hu hux
  split at hai <;> try (cases hai; done)
  rename_i i hi
  split at hai <;> try (cases hai; done)
  rename_i z hz
  split at hai
  · cases hai
  rename_i hcond
  cases hai
  split at hx
  · cases hx
  rename_i n new ht
  split at hx
  · cases hx
  rename_i hone
  have ht := ptail_ok ht
  unfold aappend
  simp only [h0, h1, hu, hux, hi, hz]
  rw [if_neg hcond]
  simp only [ht, hone, Bool.not_true, Bool.false_eq_true, if_false]
  split at hx
  · try dsimp only
    split at hx
    · rename_i hn
      rw [if_pos (Nat.eq_of_beq_eq_true hn)]
      cases hx; rfl
    · rename_i hn
      rw [if_neg (Nat.ne_of_beq_eq_false hn)]
      split at hx <;> try (cases hx; done)
      rename_i hle
      have hle : (2 * n + 512) * i.bytes ≤ 2 ^ 48 := Nat.le_of_ble_eq_true hle
      rw [if_pos hle]
      split at hx <;> try (cases hx; done)
      rename_i hp
      cases hx
      simp only [PH.push_abs hp, PH.length]
  · rename_i b o sLen sCap
    try dsimp only
    split at hx
    · rename_i hn
      split at hx <;> try (cases hx; done)
      rename_i hle
      rw [if_pos ⟨Nat.eq_of_beq_eq_true hn, Nat.le_of_ble_eq_true hle⟩]
      cases hx; rfl
    · rename_i hn
      rw [if_neg (fun c => Nat.ne_of_beq_eq_false hn c.1)]
      split at hx
      · cases hx
      rename_i hle
      have hle : (2 * (sLen + n) + 512) * i.bytes ≤ 2 ^ 48 := Nat.le_of_ble_eq_true hle
      rw [if_neg (fun c => c hle)]
      split at hx <;> try (cases hx; done)
      rename_i m esz cs hg
      simp only [PH.get_abs hg]
      split at hx
      · cases hx
      rename_i hlen
      rw [if_pos (show o + sLen * i.size ≤ cs.length from Nat.le_of_ble_eq_true hlen)]
      split at hx
      · rename_i hcap
        rw [if_pos (show sCap < 4611686018427387904 from Nat.le_of_ble_eq_true hcap)]
        split at hx
        · rename_i hin
          rw [if_pos (show sLen + n ≤ sCap from Nat.le_of_ble_eq_true hin)]
          split at hx
          · cases hx
          rename_i hm
          split at hx <;> try (cases hx; done)
          rename_i hin2
          rw [if_pos ⟨mro_ok hm, Nat.le_of_ble_eq_true hin2⟩]
          obtain ⟨rfl, h2⟩ := stayR_ok hx
          rw [h2]
        · rename_i hin
          rw [if_neg (fun c : sLen + n ≤ sCap => by have := Nat.ble_eq_true_of_le c; exact absurd (this.symm.trans hin) (by simp))]
          obtain ⟨rfl, h2⟩ := growR_ok hx
          rw [h2]
          rfl
      · rename_i hcap
        rw [if_neg (fun c : sCap < 4611686018427387904 => by have := Nat.ble_eq_true_of_le c; exact absurd (this.symm.trans hcap) (by simp))]
        split at hx
        · cases hx
        rename_i hm
        split at hx
        · cases hx
        rename_i he
        split at hx
        · cases hx
        rename_i hoc
        split at hx
        · cases hx
        rename_i ho
        have hm' : m = .opn := by cases m <;> simp_all [modn]
        rw [if_pos ⟨hm', Nat.eq_of_beq_eq_true he, Nat.le_of_ble_eq_true hoc, Nat.eq_of_beq_eq_true ho⟩]
        split at hx
        · rename_i hin2
          rw [if_pos (show o + (sLen + n) * i.size ≤ cs.length from Nat.le_of_ble_eq_true hin2)]
          obtain ⟨rfl, h2⟩ := stayR_ok hx
          rw [h2]
        · rename_i hin2
          rw [if_neg (fun c : o + (sLen + n) * i.size ≤ cs.length => by have := Nat.ble_eq_true_of_le c; exact absurd (this.symm.trans hin2) (by simp))]
          obtain ⟨rfl, h2⟩ := growR_ok hx
          rw [h2]
          rfl
  · cases hx
end Go.Am
