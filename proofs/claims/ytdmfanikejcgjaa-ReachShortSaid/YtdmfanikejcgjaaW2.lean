import Derived.Test.YtdmfanikejcgjaaW1
set_option linter.unusedSimpArgs false
set_option linter.unusedVariables false
namespace Go.Am
open Go Go.RowKit

/-! ### what is told of memory within a function: it began in h0; these rows are its own -/
structure St (h0 h : PH) (rows : List (Nat × List Value)) : Prop where
  kp : Kp h0.n h0 h
  mine : ∀ p ∈ rows, Mine h p.1 p.2
  old : ∀ p ∈ rows, h0.n ≤ p.1
  nd : rows.Pairwise fun p q => p.1 ≠ q.1

theorem St.start (h : PH) [OkH h] : St h h [] := ⟨Kp.refl _ _, (fun _ h => by cases h), (fun _ h => by cases h), List.Pairwise.nil⟩

section
variable {Q : Value → PH → Prop} {h0 h : PH} {rows : List (Nat × List Value)} {K : Value → R} {K2 : Value → PH → R}

theorem St.ok (s : St h0 h rows) : OkH h := s.kp.ok
theorem St.sees (s : St h0 h rows) {b : Nat} {cs : List Value} (e : Sees h0 b cs) : Sees h b cs := s.kp.sees e e.lt
theorem St.row (s : St h0 h rows) {b : Nat} {cs : List Value} (e : (b, cs) ∈ rows) : Sees h b cs := (s.mine _ e).sees

/-- A new row. -/
theorem St.push (s : St h0 h rows) {h' : PH} {b : Nat} {cs : List Value} (k : Kp h.n h h') (m : Mine h' b cs) (hb : h.n ≤ b) : St h0 h' ((b, cs) :: rows) := by
  have hlt : ∀ p ∈ rows, p.1 < h.n := fun p hp => (s.mine p hp).sees.lt
  have hle := s.kp.le
  refine ⟨⟨k.ok, Nat.le_trans s.kp.le k.le, k.fz.trans s.kp.fz, fun c hc => (k.raw c (by omega)).trans (s.kp.raw c hc), fun c s' hc o => k.op c s' (by have := s.kp.le; omega) (s.kp.op c s' hc o)⟩, ?_, ?_, ?_⟩
  · intro p hp
    rcases List.mem_cons.1 hp with rfl | hp
    · exact m
    · exact (s.mine p hp).of_raw (k.raw _ (hlt p hp)) k.fz
  · intro p hp
    rcases List.mem_cons.1 hp with rfl | hp
    · show h0.n ≤ b; omega
    · exact s.old p hp
  · refine .cons (fun p hp e => ?_) s.nd
    have := hlt p hp
    have e : b = p.1 := e
    omega
/-- A row is written. -/
theorem St.put (s : St h0 h rows) {h' : PH} {i b : Nat} {cs cs' : List Value} (hi : rows[i]? = some (b, cs)) (k : Kp b h h') (hr : ∀ c, c ≠ b → h'.raw c = h.raw c) (m : Mine h' b cs') : St h0 h' (rows.set i (b, cs')) := by
  have hmem := List.mem_of_getElem? hi
  have hlt := (List.getElem?_eq_some_iff.1 hi).1
  have hold := s.old _ hmem
  have hne : ∀ (j : Nat) p, rows[j]? = some p → j ≠ i → p.1 ≠ b := by
    intro j p hj hji e
    have hjlt := (List.getElem?_eq_some_iff.1 hj).1
    have hp : rows[j] = p := (List.getElem?_eq_some_iff.1 hj).2
    have hq : rows[i] = (b, cs) := (List.getElem?_eq_some_iff.1 hi).2
    have pw := List.pairwise_iff_getElem.1 s.nd
    rcases Nat.lt_or_gt_of_ne hji with h1 | h1
    · have := pw j i hjlt hlt h1; rw [hp, hq] at this; exact this e
    · have := pw i j hlt hjlt h1; rw [hp, hq] at this; exact this e.symm
  have at' : ∀ p ∈ rows.set i (b, cs'), p = (b, cs') ∨ ∃ j, j ≠ i ∧ rows[j]? = some p := by
    intro p hp
    obtain ⟨j, hj⟩ := List.getElem?_of_mem hp
    by_cases e : i = j
    · subst e
      rw [List.getElem?_set_self hlt] at hj
      cases hj; exact .inl rfl
    · rw [List.getElem?_set_ne e] at hj
      exact .inr ⟨j, fun c => e c.symm, hj⟩
  refine ⟨⟨k.ok, Nat.le_trans s.kp.le k.le, k.fz.trans s.kp.fz, fun c hc => (k.raw c (by omega)).trans (s.kp.raw c hc), fun c s' hc o => k.op c s' (by have := s.kp.le; omega) (s.kp.op c s' hc o)⟩, ?_, ?_, ?_⟩
  · intro p hp
    rcases at' p hp with rfl | ⟨j, hj, hp⟩
    · exact m
    · exact (s.mine p (List.mem_of_getElem? hp)).of_raw (hr _ (hne j p hp hj)) k.fz
  · intro p hp
    rcases at' p hp with rfl | ⟨j, hj, hp⟩
    · exact hold
    · exact s.old p (List.mem_of_getElem? hp)
  · have e : (rows.set i (b, cs')).map (·.1) = rows.map (·.1) := by
      apply List.ext_getElem?
      intro j
      rw [List.getElem?_map, List.getElem?_map, List.getElem?_set]
      by_cases e : i = j
      · subst e
        rw [if_pos rfl, if_pos hlt, hi]; rfl
      · rw [if_neg e]
    have pw : (rows.map (·.1)).Pairwise (· ≠ ·) := List.pairwise_map.2 s.nd
    rw [← e] at pw
    exact List.pairwise_map.1 pw
theorem St.drop (s : St h0 h rows) {rows' : List (Nat × List Value)} (hs : rows'.Sublist rows) : St h0 h rows' :=
  ⟨s.kp, fun p hp => s.mine p (hs.subset hp), fun p hp => s.old p (hs.subset hp), s.nd.sublist hs⟩

/-! ### operations, told of the rows -/
theorem Ret.sbox (s : St h0 h rows) {v : Value} (hk : ∀ h b, St h0 h ((b, cellsL v) :: rows) → Ret (K2 (.pointer (some ⟨b, 0, none⟩)) h) Q) : Ret (Go.Am.hb (xBox v h) K2) Q := by
  have := s.ok
  exact Ret.box fun h' k hn m => hk h' _ (s.push k m (Nat.le_refl _))
theorem Ret.salloc (s : St h0 h rows) {zs : Option (List Value)} {cs : List Value} (e : zs = some cs) (hk : ∀ h b, St h0 h ((b, cs) :: rows) → Ret (K2 (.pointer (some ⟨b, 0, none⟩)) h) Q) : Ret (Go.Am.hb (xAlloc zs h) K2) Q := by
  have := s.ok
  exact Ret.alloc e fun h' k hn m => hk h' _ (s.push k m (Nat.le_refl _))
theorem Ret.smk (s : St h0 h rows) {zi : Option (Nat × Nat × List Value)} {sz bt : Nat} {z : List Value} {kk kk' : IntKind} {l c : Int} (e : zi = some (sz, bt, z)) (h0' : 0 ≤ l) (h1 : l ≤ c) (h2 : c ≤ 4611686018427387903) (h3 : (bt : Int) * c ≤ 281474976710656)
    (hk : ∀ h b, St h0 h ((b, zrows z c.toNat) :: rows) → Ret (K2 (.slice (some ⟨b, 0, none⟩) l.toNat c.toNat) h) Q) : Ret (Go.Am.hb (xMk zi (.int kk l) (.int kk' c) h) K2) Q := by
  have := s.ok
  exact Ret.mk e h0' h1 h2 h3 fun h' k hn m => hk h' _ (s.push k m (Nat.le_refl _))
theorem Ret.sst1 (s : St h0 h rows) {i b o : Nat} {cs : List Value} {v : Value} (hi : rows[i]? = some (b, cs)) (ho : o < cs.length) (hv : v.oneCell' = true) (hk : ∀ h, St h0 h (rows.set i (b, cs.set o v)) → Ret (K2 undef h) Q) :
    Ret (Go.Am.hb (xSt1 (.pointer (some ⟨b, o, none⟩)) v h) K2) Q := by
  have := s.ok
  exact Ret.st1 (s.mine _ (List.mem_of_getElem? hi)) ho hv fun h' k hn hr m => hk h' (s.put hi k hr m)
theorem Ret.sstA (s : St h0 h rows) {i b o sz : Nat} {cs vs : List Value} (hi : rows[i]? = some (b, cs)) (hs : vs.length = sz) (ho : o + sz ≤ cs.length) (hv : oneCells vs = true) (hk : ∀ h, St h0 h (rows.set i (b, setsL cs o vs)) → Ret (K2 undef h) Q) :
    Ret (Go.Am.hb (xStA sz (.pointer (some ⟨b, o, none⟩)) (.agg ⟨vs⟩) h) K2) Q := by
  have := s.ok
  exact Ret.stA (s.mine _ (List.mem_of_getElem? hi)) hs ho hv fun h' k hn hr m => hk h' (s.put hi k hr m)

/-! ### rows that are read -/
/-- The slice v reads as l; an element's cells are told by E. -/
def RdS {α : Type} (E : α → List Value → Prop) (sz : Nat) (h : PH) (v : Value) (l : List α) : Prop :=
  (l = [] ∧ ∃ a c, v = .slice a 0 c) ∨ ∃ b o c cs, v = .slice (some ⟨b, o, none⟩) l.length c ∧ Sees h b cs ∧ ∀ (i : Nat) x, l[i]? = some x → o + i * sz + sz ≤ cs.length ∧ E x ((cs.drop (o + i * sz)).take sz)
theorem RdS.len {α : Type} {E : α → List Value → Prop} {sz : Nat} {v : Value} {l : List α} (r : RdS E sz h v l) : xLenS v = some (.int .i64 l.length) := by
  rcases r with ⟨rfl, a, c, rfl⟩ | ⟨b, o, c, cs, rfl, _⟩ <;> simp
theorem RdS.one {α : Type} {E : α → List Value → Prop} {sz : Nat} {v : Value} {l : List α} (r : RdS E sz h v l) : v.oneCell' = true := by
  rcases r with ⟨rfl, a, c, rfl⟩ | ⟨b, o, c, cs, rfl, _⟩ <;> rfl
theorem RdS.mono {α : Type} {E E' : α → List Value → Prop} {sz : Nat} {h' : PH} {v : Value} {l : List α} (hs : ∀ b cs, Sees h b cs → Sees h' b cs) (hE : ∀ x ∈ l, ∀ es, E x es → E' x es) (r : RdS E sz h v l) : RdS E' sz h' v l := by
  rcases r with h1 | ⟨b, o, c, cs, h1, h2, h3⟩
  · exact .inl h1
  · exact .inr ⟨b, o, c, cs, h1, hs _ _ h2, fun i x hx => ⟨(h3 i x hx).1, hE x (List.mem_of_getElem? hx) _ (h3 i x hx).2⟩⟩
theorem Ret.idx {α : Type} {E : α → List Value → Prop} {sz : Nat} {v : Value} {l : List α} {k : IntKind} {i : Int} (r : RdS E sz h v l) (h1 : 0 ≤ i) (h2 : i < l.length)
    (hk : ∀ b o cs x, l[i.toNat]? = some x → Sees h b cs → o + sz ≤ cs.length → E x ((cs.drop o).take sz) → Ret (K (.pointer (some ⟨b, o, none⟩))) Q) : Ret (Go.Am.vb (xIdxS sz v (.int k i)) K) Q := by
  rcases r with ⟨rfl, _⟩ | ⟨b, o, c, cs, rfl, s, he⟩
  · simp at h2; omega
  · have hlt : i.toNat < l.length := by omega
    have := he _ _ (List.getElem?_eq_getElem hlt)
    exact Ret.vb (xIdxS_at h1 h2) (hk b _ cs _ (List.getElem?_eq_getElem hlt) s this.1 this.2)
theorem xLdE {b o sz : Nat} {cs es : List Value} {v : Value} (s : Sees h b cs) (hl : o + sz ≤ cs.length) (he : (cs.drop o).take sz = es) {j : Nat} (hj : es[j]? = some v) : xLd (.pointer (some ⟨b, o + j, none⟩)) h = some v := by
  refine xLd_at s ?_
  subst he
  have hlt := (List.getElem?_eq_some_iff.1 hj).1
  rw [List.getElem?_take] at hj
  split at hj
  · rw [List.getElem?_drop] at hj; exact hj
  · cases hj
end

def intE (x : Int) (es : List Value) : Prop := es = [.int .i64 x]
def int3E (x : Int × Int × Int) (es : List Value) : Prop := es = [.int .i64 x.1, .int .i64 x.2.1, .int .i64 x.2.2]
abbrev RdI (h : PH) (v : Value) (l : List Int) : Prop := RdS intE 1 h v l
def inR (x : Int) : Prop := -9223372036854775808 ≤ x ∧ x < 9223372036854775808

/-- A row of one's own, of one cell each, read. -/
theorem RdS.ofRow {α : Type} {e : α → Value} {h : PH} {b c : Nat} {l : List α} (s : Sees h b (l.map e)) : RdS (fun x es => es = [e x]) 1 h (.slice (some ⟨b, 0, none⟩) l.length c) l := by
  refine .inr ⟨b, 0, c, _, rfl, s, fun i x hx => ?_⟩
  have hlt := (List.getElem?_eq_some_iff.1 hx).1
  refine ⟨by simp; omega, ?_⟩
  rw [Nat.zero_add, Nat.mul_one, List.drop_eq_getElem_cons (by simpa using hlt), List.take_succ_cons, List.take_zero, List.getElem_map]
  rw [(List.getElem?_eq_some_iff.1 hx).2]

structure Rl where
  left : Int
  right : List Int
  dyn : Int
structure Gr where
  names : Int
  kinds : Int
  start : Int
  rules : List Rl
  forbid : List (Int × Int × Int)
  rclass : List Int
  kclass : List Int
def ruleE (h : PH) (r : Rl) (es : List Value) : Prop := ∃ rv, es = [.int .i64 r.left, rv, .int .i64 r.dyn] ∧ RdI h rv r.right
/-- The value v is the grammar g. -/
structure RdG (h : PH) (v : Value) (g : Gr) (rv fv cv kv : Value) : Prop where
  v : v = .agg ⟨[.int .i64 g.names, .int .i64 g.kinds, .int .i64 g.start, rv, fv, cv, kv]⟩
  rules : RdS (ruleE h) 3 h rv g.rules
  forbid : RdS int3E 3 h fv g.forbid
  rclass : RdI h cv g.rclass
  kclass : RdI h kv g.kclass
/-- The numbers of a grammar are numbers of the machine, its rows no longer than may be. -/
structure GIn (g : Gr) : Prop where
  names : inR g.names
  kinds : inR g.kinds
  start : inR g.start
  rlen : g.rules.length < 9223372036854775808
  flen : g.forbid.length < 9223372036854775808
  clen : g.rclass.length < 9223372036854775808
  klen : g.kclass.length < 9223372036854775808
  left : ∀ r ∈ g.rules, inR r.left
  dyn : ∀ r ∈ g.rules, inR r.dyn
  right : ∀ r ∈ g.rules, ∀ s ∈ r.right, inR s
  rl : ∀ r ∈ g.rules, r.right.length < 9223372036854775808
  fin : ∀ f ∈ g.forbid, inR f.1 ∧ inR f.2.1 ∧ inR f.2.2
theorem RdI.mono {h h' : PH} {v : Value} {l : List Int} (hs : ∀ b cs, Sees h b cs → Sees h' b cs) (r : RdI h v l) : RdI h' v l := RdS.mono hs (fun _ _ _ e => e) r
theorem RdG.mono {h h' : PH} {v rv fv cv kv : Value} {g : Gr} (hs : ∀ b cs, Sees h b cs → Sees h' b cs) (r : RdG h v g rv fv cv kv) : RdG h' v g rv fv cv kv :=
  ⟨r.v, RdS.mono hs (fun _ _ _ ⟨q, e1, e2⟩ => ⟨q, e1, e2.mono hs⟩) r.rules, RdS.mono hs (fun _ _ _ e => e) r.forbid, r.rclass.mono hs, r.kclass.mono hs⟩
end Go.Am
