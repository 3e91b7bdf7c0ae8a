import Derived.Test.YtdmfanikejcgjaaB14
set_option linter.unusedSimpArgs false
set_option linter.unusedVariables false
namespace Go.Am
open Go Go.RowKit

/-- Which operations must stand ahead of each. -/
def masksGo (acc : List Nat) : List Oper → List Nat
  | [] => acc
  | o :: rest => masksGo (acc ++ [o.after.toList.foldl (fun s e => if Region.binds .any e then s ||| (2 ^ e.on ||| acc.getD e.on 0) else s) 0]) rest

inductive Tr (ops : Array Oper) : Nat → Nat → Prop
  | base {j : Nat} {o : Oper} {e : Edge} : ops[j]? = some o → e ∈ o.after.toList → Region.binds .any e = true → Tr ops j e.on
  | step {j i : Nat} {o : Oper} {e : Edge} : ops[j]? = some o → e ∈ o.after.toList → Region.binds .any e = true → Tr ops e.on i → Tr ops j i

theorem foldl_mask (acc : List Nat) (es : List Edge) (s i : Nat) (h : (es.foldl (fun s e => if Region.binds .any e then s ||| (2 ^ e.on ||| acc.getD e.on 0) else s) s).testBit i = true) :
    s.testBit i = true ∨ ∃ e ∈ es, Region.binds .any e = true ∧ (e.on = i ∨ (acc.getD e.on 0).testBit i = true) := by
  induction es generalizing s with
  | nil => exact .inl h
  | cons e es ih =>
    simp only [List.foldl_cons] at h
    rcases ih _ h with h1 | ⟨e', h1, h2⟩
    · split at h1
      · rename_i hb
        simp only [Nat.testBit_or, Bool.or_eq_true, Nat.testBit_two_pow, decide_eq_true_eq] at h1
        rcases h1 with h1 | h1 | h1
        · exact .inl h1
        · exact .inr ⟨e, by simp, hb, .inl h1⟩
        · exact .inr ⟨e, by simp, hb, .inr h1⟩
      · exact .inl h1
    · exact .inr ⟨e', by simp [h1], h2⟩

theorem masks_ok (ops : Array Oper) : ∀ (rest pre : List Oper) (acc : List Nat), ops.toList = pre ++ rest → pre.length = acc.length → (∀ (j m : Nat), acc[j]? = some m → ∀ i, m.testBit i = true → Tr ops j i) →
    ∀ (j m : Nat), (masksGo acc rest)[j]? = some m → ∀ i, m.testBit i = true → Tr ops j i := by
  intro rest
  induction rest with
  | nil => intro pre acc _ _ h; exact h
  | cons o rest ih =>
    intro pre acc hops hlen h
    simp only [masksGo]
    refine ih (pre ++ [o]) _ (by simpa using hops) (by simp [hlen]) ?_
    intro j m hj i hi
    by_cases hjl : j < acc.length
    · rw [List.getElem?_append_left hjl] at hj
      exact h j m hj i hi
    · have hj' : j = acc.length := by
        have := (List.getElem?_eq_some_iff.1 hj).1
        simp at this; omega
      subst hj'
      rw [List.getElem?_append_right (Nat.le_refl _)] at hj
      simp only [Nat.sub_self, List.getElem?_cons_zero, Option.some.injEq] at hj
      subst hj
      have ho : ops[acc.length]? = some o := by
        rw [← Array.getElem?_toList, hops, List.getElem?_append_right (by omega)]
        simp [hlen]
      rcases foldl_mask acc o.after.toList 0 i hi with h1 | ⟨e, h1, h2, h3⟩
      · simp at h1
      · rcases h3 with rfl | h3
        · exact .base ho h1 h2
        · refine .step ho h1 h2 ?_
          rw [List.getD_eq_getElem?_getD] at h3
          cases hq : acc[e.on]? with
          | none => rw [hq] at h3; simp at h3
          | some m => rw [hq] at h3; exact h e.on m hq i h3

def fop (ops : Array Oper) (fl : List Nat) (i : Nat) : Option FOp :=
  match ops[i]? with
  | some o => some (o, fl.contains i)
  | none => none

def fops (ops : Array Oper) (fl : List Nat) (l : List Nat) : List FOp := l.filterMap (fop ops fl)

def pairOk (P : Program) (ops : Array Oper) (fl : List Nat) (M : List Nat) (p q : Nat) : Bool :=
  (M.getD q 0).testBit p || (match fop ops fl p, fop ops fl q with
    | some x, some y => indep P ops x y
    | _, _ => false)

def pairsOk (P : Program) (ops : Array Oper) (fl : List Nat) (M : List Nat) : List Nat → Bool
  | [] => true
  | p :: rest => rest.all (pairOk P ops fl M p) && pairsOk P ops fl M rest

def nodupB : List Nat → Bool
  | [] => true
  | p :: rest => !rest.contains p && nodupB rest

/-- May these operations, in this order, stand for every order? -/
def chkD (P : Program) (ops : Array Oper) (fl ord : List Nat) : Bool :=
  decide (ord.length ≤ ops.size) && ord.all (· < ops.size) && nodupB ord && (List.range ops.size).all (ord.contains ·) &&
  (ops.toList.zipIdx.all fun (o, i) => o.after.toList.all fun e => !Region.binds .any e || decide (e.on < i)) &&
  pairsOk P ops fl (masksGo [] ops.toList) ord

section
variable {P : Program} {ops : Array Oper} {S : List Nat} {K : Tm → Heap → Prop}

theorem nodupB_ok {l : List Nat} (h : nodupB l = true) : l.Nodup := by
  induction l with
  | nil => exact List.nodup_nil
  | cons p l ih =>
    simp [nodupB] at h
    exact List.nodup_cons.2 ⟨by simpa using h.1, ih h.2⟩

theorem pairsOk_ok {fl M l : List Nat} (h : pairsOk P ops fl M l = true) : l.Pairwise fun p q => pairOk P ops fl M p q = true := by
  induction l with
  | nil => exact .nil
  | cons p l ih =>
    simp only [pairsOk, Bool.and_eq_true, List.all_eq_true] at h
    exact .cons h.1 (ih h.2)

theorem bubble {x : FOp} : ∀ (l1 l2 : List FOp), (∀ p ∈ l1, indep P ops p x = true) → ∀ {t : Tm} {h : Heap}, AOpsF P ops S K (l1 ++ x :: l2) t h → AOpsF P ops S K (x :: (l1 ++ l2)) t h := by
  intro l1
  induction l1 with
  | nil => intro l2 _ t h hk; exact hk
  | cons p l1 ih =>
    intro l2 hp t h hk
    have h1 : AOpF P ops S p (AOpsF P ops S K (x :: (l1 ++ l2))) t h := AOpF.mono (fun t h => ih l2 fun q hq => hp q (by simp [hq])) hk
    exact AOpF.swap (hp p (by simp)) h1

theorem Tr_listed {listed : Nat → Prop} (hcl : ∀ (j : Nat) (o : Oper), listed j → ops[j]? = some o → ∀ e ∈ o.after.toList, Region.binds .any e = true → listed e.on) {j i : Nat} (ht : Tr ops j i)
    (hj : ∀ (o : Oper), ops[j]? = some o → ∀ e ∈ o.after.toList, Region.binds .any e = true → listed e.on) : listed i := by
  induction ht with
  | base h1 h2 h3 => exact hj _ h1 _ h2 h3
  | step h1 h2 h3 h4 ih => exact ih fun o ho e he hb => hcl _ o (hj _ h1 _ h2 h3) ho e he hb

theorem orders {fl ord : List Nat} (hchk : chkD P ops fl ord = true) : ∀ (fuel tt : Nat) (listed : Array Bool) (C : List Nat), listed.size = ops.size → (∀ i, i < ops.size → (listed.getD i false = false ↔ i ∈ C)) →
    C.Sublist ord → (∀ (j : Nat) (o : Oper), listed.getD j false = true → ops[j]? = some o → ∀ e ∈ o.after.toList, Region.binds .any e = true → listed.getD e.on false = true) → C.length ≤ fuel →
    ∀ {t : Tm} {h : Heap}, AOpsF P ops S K (fops ops fl C) t h → AOpsF P ops S K (fops ops fl (Region.linearise.go .any ops fuel tt listed [])) t h := by
  simp only [chkD, Bool.and_eq_true, List.all_eq_true, decide_eq_true_eq] at hchk
  obtain ⟨⟨⟨⟨⟨hle, hlt⟩, hnd⟩, hall⟩, hedge⟩, hpairs⟩ := hchk
  have hnd := nodupB_ok hnd
  have hpw := pairsOk_ok hpairs
  have hmask := masks_ok ops ops.toList [] [] (by simp) rfl (by simp)
  have hedge' : ∀ (i : Nat) (o : Oper), ops[i]? = some o → ∀ e ∈ o.after.toList, Region.binds .any e = true → e.on < i := by
    intro i o ho e he hb
    have h1 := hedge (o, i) (by rw [List.mem_zipIdx_iff_getElem?]; rw [Array.getElem?_toList]; exact ho)
    have h2 := h1 e he
    simpa [hb] using h2
  intro fuel
  induction fuel with
  | zero =>
    intro tt listed C _ _ _ _ hlen t h hk
    have : C = [] := List.eq_nil_of_length_eq_zero (by omega)
    subst this
    exact hk
  | succ fuel ih =>
    intro tt listed C hsz hC hsub hcl hlen t h hk
    simp only [Region.linearise.go]
    split
    · rename_i i hi
      have himem := List.mem_of_getElem? hi
      simp only [List.mem_filter, List.mem_range, Bool.and_eq_true, Bool.not_eq_true'] at himem
      obtain ⟨hin, hnl0, haft⟩ := himem
      have hnl : listed.getD i false = false := by
        have hil : i < listed.size := by omega
        simpa [Array.getD_eq_getD_getElem?, hil] using hnl0
      have hiC : i ∈ C := (hC i hin).1 hnl
      obtain ⟨o, ho⟩ : ∃ o, ops[i]? = some o := ⟨ops[i], by simp [hin]⟩
      have hdir : ∀ (o : Oper), ops[i]? = some o → ∀ e ∈ o.after.toList, Region.binds .any e = true → listed.getD e.on false = true := by
        intro o' ho' e he hb
        rw [ho'] at haft
        simp only [Option.map_some, Option.getD_some, Array.all_eq_true_iff_forall_mem] at haft
        have := haft e (by simpa using he)
        simpa [hb] using this
      obtain ⟨C1, C2, rfl⟩ := List.append_of_mem hiC
      have hCnd : (C1 ++ i :: C2).Nodup := hsub.nodup hnd
      have hCpw := List.Pairwise.sublist hsub hpw
      -- the first ones may wait
      have hind : ∀ p ∈ fops ops fl C1, indep P ops p (o, fl.contains i) = true := by
        intro p hp
        obtain ⟨k, hk1, hk2⟩ := List.mem_filterMap.1 hp
        have hki : pairOk P ops fl (masksGo [] ops.toList) k i = true := (List.pairwise_append.1 hCpw).2.2 k hk1 i (by simp)
        simp only [pairOk, Bool.or_eq_true] at hki
        rcases hki with hki | hki
        · exfalso
          rw [List.getD_eq_getElem?_getD] at hki
          cases hq : (masksGo [] ops.toList)[i]? with
          | none => rw [hq] at hki; simp at hki
          | some m =>
            rw [hq] at hki
            have htr := hmask i m hq k hki
            have hkl := Tr_listed (listed := fun j => listed.getD j false = true) hcl htr hdir
            have hklt : k < ops.size := by
              have := hlt k (hsub.subset (by simp [hk1]))
              simpa using this
            have := (hC k hklt).2 (by simp [hk1])
            rw [this] at hkl; cases hkl
        · have hfi : fop ops fl i = some (o, fl.contains i) := by simp [fop, ho]
          rw [hk2, hfi] at hki
          exact hki
      have hb : AOpsF P ops S K ((o, fl.contains i) :: (fops ops fl C1 ++ fops ops fl C2)) t h := by
        refine bubble _ _ hind ?_
        have : fops ops fl (C1 ++ i :: C2) = fops ops fl C1 ++ (o, fl.contains i) :: fops ops fl C2 := by
          simp [fops, List.filterMap_append, List.filterMap_cons, fop, ho]
        rw [← this]; exact hk
      rw [linearise_go_acc]
      have hgo : fops ops fl ([i].reverse ++ Region.linearise.go .any ops fuel (tt / (List.filter (fun i => !listed.getD i true && (Option.map (fun x => x.after.all fun e => !Region.binds Region.Mode.any e || listed.getD e.on false) ops[i]?).getD false) (List.range ops.size)).length) (listed.setIfInBounds i true) []) =
          (o, fl.contains i) :: fops ops fl (Region.linearise.go .any ops fuel (tt / (List.filter (fun i => !listed.getD i true && (Option.map (fun x => x.after.all fun e => !Region.binds Region.Mode.any e || listed.getD e.on false) ops[i]?).getD false) (List.range ops.size)).length) (listed.setIfInBounds i true) []) := by
        simp [fops, List.filterMap_cons, fop, ho]
      rw [hgo]
      refine AOpF.mono (fun t h hk2 => ?_) hb
      have hgetset : ∀ j, (listed.setIfInBounds i true).getD j false = if i = j then true else listed.getD j false := by
        intro j
        simp only [Array.getD_eq_getD_getElem?, Array.getElem?_setIfInBounds]
        split
        · subst_vars; rw [if_pos (by omega)]; rfl
        · rfl
      refine ih _ _ (C1 ++ C2) (by simpa using hsz) ?_ ?_ ?_ (by simp at hlen ⊢; omega) (by simpa [fops, List.filterMap_append] using hk2)
      · intro j hj
        rw [hgetset]
        have hij : i ∉ C1 ++ C2 := by
          obtain ⟨_, h2, h3⟩ := List.nodup_append.1 hCnd
          intro hm
          rcases List.mem_append.1 hm with hm | hm
          · exact h3 i hm i (by simp) rfl
          · exact (List.nodup_cons.1 h2).1 hm
        split
        · subst_vars; simpa using hij
        · rename_i hne
          rw [hC j hj]
          simp only [List.mem_append, List.mem_cons]
          constructor
          · rintro (h | h | h)
            · exact .inl h
            · exact absurd h.symm hne
            · exact .inr h
          · rintro (h | h)
            · exact .inl h
            · exact .inr (.inr h)
      · exact List.Sublist.trans (List.Sublist.append (List.Sublist.refl C1) (List.sublist_cons_self i C2)) hsub
      · intro j o' hj ho' e he hb'
        rw [hgetset] at hj ⊢
        split
        · rfl
        · split at hj
          · subst_vars; exact hdir o' ho' e he hb'
          · exact hcl j o' hj ho' e he hb'
    · rename_i hnone
      have hempty : C = [] := by
        cases C with
        | nil => rfl
        | cons c C =>
          exfalso
          obtain ⟨m, hm1, hm2⟩ := least_ex (p := fun k => k ∈ c :: C) c (by simp)
          have hmlt : m < ops.size := by
            have := hlt m (hsub.subset hm1)
            simpa using this
          have hready : m ∈ (List.range ops.size).filter fun i => !listed.getD i true && ((ops[i]?).map (·.after.all fun e => !Region.binds .any e || listed.getD e.on false)).getD false := by
            simp only [List.mem_filter, List.mem_range, Bool.and_eq_true, Bool.not_eq_true']
            refine ⟨hmlt, ?_, ?_⟩
            · have h0 := (hC m hmlt).2 hm1
              have hml : m < listed.size := by omega
              simpa [Array.getD_eq_getD_getElem?, hml] using h0
            obtain ⟨o, ho⟩ : ∃ o, ops[m]? = some o := ⟨ops[m], by simp [hmlt]⟩
            rw [ho]
            simp only [Option.map_some, Option.getD_some, Array.all_eq_true_iff_forall_mem]
            intro e he
            by_cases hb : Region.binds .any e = true
            · have hlt' := hedge' m o ho e (by simpa using he) hb
              have hnC := hm2 e.on hlt'
              cases hq : listed.getD e.on false with
              | true => simp
              | false => exact absurd ((hC e.on (by omega)).1 hq) hnC
            · simp [hb]
          have hlen2 := List.length_pos_of_mem hready
          rw [List.getElem?_eq_none_iff] at hnone
          have := Nat.mod_lt tt hlen2
          omega
      subst hempty
      exact hk

theorem wpOps_filter {Q : Exit → Act → World → Prop} (l : List Nat) : ∀ (a : Act) (w : World), wpOps P ops Q l a w = wpList P ops Q (l.filterMap fun i => ops[i]?) a w := by
  induction l with
  | nil => intro a w; rfl
  | cons i l ih =>
    intro a w
    simp only [wpOps, List.filterMap_cons]
    cases hi : ops[i]? with
    | none => exact ih a w
    | some o =>
      have hf : wpOps P ops Q l = wpList P ops Q (l.filterMap fun i => ops[i]?) := by funext a w; exact ih a w
      simp only [wpList, hf]

theorem fops_fst (fl : List Nat) (l : List Nat) : (fops ops fl l).map (·.1) = l.filterMap fun i => ops[i]? := by
  induction l with
  | nil => rfl
  | cons i l ih =>
    simp only [fops, List.filterMap_cons, fop] at ih ⊢
    cases hi : ops[i]? with
    | none => exact ih
    | some o => simp [ih]

/-- A region that draws its order. -/
theorem AWp.drawn {Q : Exit → Tm → Heap → Prop} {t : Tm} {h : Heap} {id : Nat} (fl ord S : List Nat) (hm : P.follows .mixedOrders = true) (hchk : chkD P ops fl ord = true)
    (hl : AOpsF P ops S (Q .normal) (fops ops fl ord) t h) : AWp P (.region id ops true) Q t h := by
  intro B w0 ρ ts w hr ht
  refine wp_mono (Q := fun e a w => e = .normal ∧ Sim B w0 ρ (Q .normal) a w) (wp_region_draw fun tt => ?_) (by rintro e a w ⟨rfl, hs⟩; exact hs)
  simp only [Region.schedule, hm, Bool.true_or, if_true]
  rw [wpOps_filter, ← fops_fst fl]
  have hchk' := hchk
  simp only [chkD, Bool.and_eq_true, List.all_eq_true, decide_eq_true_eq] at hchk'
  obtain ⟨⟨⟨⟨⟨hle, hlt⟩, hnd⟩, hall⟩, hedge⟩, hpairs⟩ := hchk'
  have hord : AOpsF P ops S (Q .normal) (fops ops fl (Region.linearise .any ops tt)) t h := by
    unfold Region.linearise
    refine orders hchk ops.size tt _ ord (by simp) (fun i hi => ?_) (List.Sublist.refl _) (fun j o hj => ?_) hle hl
    · have := hall i (by simpa using hi)
      simp [Array.getD_eq_getD_getElem?, Array.getElem?_replicate, hi]
      simpa using this
    · simp only [Array.getD_eq_getD_getElem?, Array.getElem?_replicate] at hj
      split at hj <;> simp at hj
  exact AOps.sound ops _ (AOpsF.plain _ hord) (hr.draw (n := w.drawn + 1)) ht
end
end Go.Am
