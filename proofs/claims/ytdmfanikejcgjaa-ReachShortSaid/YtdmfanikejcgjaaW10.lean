import Derived.Test.YtdmfanikejcgjaaW9
set_option linter.unusedSimpArgs false
set_option linter.unusedVariables false
namespace Go.Am
open Go Go.RowKit Go.Proofs

theorem St.perm {h0 h : PH} {rows rows' : List (Nat × List Value)} (s : St h0 h rows) (p : rows.Perm rows') : St h0 h rows' :=
  ⟨s.kp, fun q hq => s.mine q (p.mem_iff.2 hq), fun q hq => s.old q (p.mem_iff.2 hq), p.pairwise s.nd (fun h => Ne.symm h)⟩
theorem St.sw {h0 h : PH} {rows : List (Nat × List Value)} {a b : Nat × List Value} (s : St h0 h (a :: b :: rows)) : St h0 h (b :: a :: rows) := s.perm (.swap _ _ _)
theorem St.rot {h0 h : PH} {rows : List (Nat × List Value)} {a b c : Nat × List Value} (s : St h0 h (a :: b :: c :: rows)) : St h0 h (b :: c :: a :: rows) :=
  s.perm ((List.Perm.swap _ _ _).trans (.cons _ (.swap _ _ _)))

section
variable {Q : Value → PH → Prop} {h0 h : PH} {K : Value → R} {K2 : Value → PH → R}
abbrev bgC (nm : Int) (rvv : Value) : List Value := [.int .i64 nm, .int .i64 1, .int .i64 0, rvv, nils, nils, nils]
abbrev rlC (r : Rl) (b : Nat) : List Value := [.int .i64 r.left, .slice (some ⟨b, 0, none⟩) r.right.length r.right.length, .int .i64 r.dyn]
/-- A grammar that grows. -/
def BG (h0 h : PH) (bg : Nat) (nm : Int) (rvv : Value) (rules : List Rl) (ex : List (Nat × List Value)) : Prop :=
  (rules = [] ∧ rvv = nils ∧ St h0 h ((bg, bgC nm rvv) :: ex)) ∨
  ∃ br all, rvv = .slice (some ⟨br, 0, none⟩) rules.length openCap ∧ St h0 h ((bg, bgC nm rvv) :: (br, all) :: ex) ∧ Op h br 3 ∧ all.length = rules.length * 3 ∧ ∀ (i : Nat) r, rules[i]? = some r → ∃ b, (all.drop (i * 3)).take 3 = rlC r b ∧ (b, r.right.map (Value.int .i64)) ∈ ex
variable {bg : Nat} {nm : Int} {rvv : Value} {rules : List Rl} {ex : List (Nat × List Value)}
theorem BG.st (g : BG h0 h bg nm rvv rules ex) : ∃ rows, St h0 h rows ∧ (bg, bgC nm rvv) ∈ rows ∧ ∀ p ∈ ex, p ∈ rows := by
  rcases g with ⟨_, _, s⟩ | ⟨br, all, _, s, _⟩
  · exact ⟨_, s, .head _, fun p hp => .tail _ hp⟩
  · exact ⟨_, s, .head _, fun p hp => .tail _ (.tail _ hp)⟩
theorem BG.ld (g : BG h0 h bg nm rvv rules ex) : xLd (.pointer (some ⟨bg, 3, none⟩)) h = some rvv := by
  obtain ⟨rows, s, hm, _⟩ := g.st
  exact xLd_at (s.row hm) rfl
theorem BG.more (g : BG h0 h bg nm rvv rules ex) {h' : PH} {p : Nat × List Value} (hs : ∀ rows, St h0 h rows → St h0 h' (p :: rows)) (hop : OpK h h') : BG h0 h' bg nm rvv rules (p :: ex) := by
  rcases g with ⟨a, b, s⟩ | ⟨br, all, a, s, op, hl, hr⟩
  · exact .inl ⟨a, b, (hs _ s).sw⟩
  · exact .inr ⟨br, all, a, (hs _ s).rot, hop _ _ (s.row (b := br) (.tail _ (.head _))).lt op, hl, fun i r hi => let ⟨b, h1, h2⟩ := hr i r hi; ⟨b, h1, .tail _ h2⟩⟩
theorem Ret.bgs (g : BG h0 h bg nm rvv rules ex) {row : Option (Nat × List Value)} {sz len : Nat} {cs : List Value} (e : row = some (sz, cs)) (hk : ∀ h' b, BG h0 h' bg nm rvv rules ((b, cs) :: ex) → Ret (K2 (.slice (some ⟨b, 0, none⟩) len len) h') Q) : Ret (Go.Am.hb (xBS len row h) K2) Q := by
  obtain ⟨rows, s, _, _⟩ := g.st
  have k := s.ok
  subst e
  obtain ⟨h', hp, ok, hn, hz, hr⟩ := push_ex h (.row .own sz cs)
  have e : xBS len (some (sz, cs)) h = some (.slice (some ⟨h.n, 0, none⟩) len len, h') := by simp only [xBS, hp]
  rw [e]
  have kp : Kp h.n h h' := ⟨ok, by omega, hz, fun b hb => by rw [hr, if_neg (by omega)], opK_of fun b hb => by rw [hr, if_neg (by omega)]⟩
  exact hk h' _ (g.more (fun rows s => s.push kp (mine_own (by rw [hr, if_pos rfl]) (by have := k.fz; omega)) (Nat.le_refl _)) kp.op)
theorem Ret.bgalloc (g : BG h0 h bg nm rvv rules ex) {zs : Option (List Value)} {cs : List Value} (e : zs = some cs) (hk : ∀ h' b, BG h0 h' bg nm rvv rules ((b, cs) :: ex) → Ret (K2 (.pointer (some ⟨b, 0, none⟩)) h') Q) : Ret (Go.Am.hb (xAlloc zs h) K2) Q := by
  obtain ⟨rows, s, _, _⟩ := g.st
  have := s.ok
  exact Ret.alloc e fun h' k hn m => hk h' _ (g.more (fun rows s => s.push k m (Nat.le_refl _)) k.op)
theorem sets3 {a b c : Value} {cs : List Value} (h : cs.length = 3) : setsL cs 0 [a, b, c] = [a, b, c] := by
  match cs, h with
  | [x, y, z], _ => rfl
/-- A variable of three cells. -/
theorem Ret.bgvar (g : BG h0 h bg nm rvv rules ex) {zs : Option (List Value)} {cs : List Value} {x y z : Value} (e : zs = some cs) (hcs : cs.length = 3) (hv : oneCells [x, y, z] = true)
    (hk : ∀ h' b, BG h0 h' bg nm rvv rules ((b, [x, y, z]) :: ex) → Ret (K2 (.pointer (some ⟨b, 0, none⟩)) h') Q) :
    Ret (Go.Am.hb (xAlloc zs h) fun v h => Go.Am.hb (xStA 3 v (.agg ⟨[x, y, z]⟩) h) fun _ h => K2 v h) Q := by
  rcases g with ⟨a, b, s⟩ | ⟨br, all, a, s, op, hl, hr⟩
  · refine Ret.salloc' s e fun h2 b2 s2 _ => ?_
    refine Ret.sstA' s2 (i := 0) rfl rfl (by omega) hv fun h3 s3 _ => ?_
    have s3 : St h0 h3 ((b2, setsL cs 0 [x, y, z]) :: (bg, bgC nm rvv) :: ex) := s3
    rw [sets3 hcs] at s3
    exact hk h3 b2 (.inl ⟨a, b, s3.sw⟩)
  · refine Ret.salloc' s e fun h2 b2 s2 ok2 => ?_
    refine Ret.sstA' s2 (i := 0) rfl rfl (by omega) hv fun h3 s3 ok3 => ?_
    have s3 : St h0 h3 ((b2, setsL cs 0 [x, y, z]) :: (bg, bgC nm rvv) :: (br, all) :: ex) := s3
    rw [sets3 hcs] at s3
    exact hk h3 b2 (.inr ⟨br, all, a, s3.rot, ok3 _ _ (s2.row (b := br) (.tail _ (.tail _ (.head _)))).lt (ok2 _ _ (s.row (b := br) (.tail _ (.head _))).lt op), hl, fun i r hi => let ⟨b, h1, h2⟩ := hr i r hi; ⟨b, h1, .tail _ h2⟩⟩)
/-- A rule is put behind. -/
theorem Ret.bgapp {K : PH → R} (g : BG h0 h bg nm rvv rules ex) {r : Rl} {bq : Nat} (hq : (bq, r.right.map (Value.int .i64)) ∈ ex) (hlen : rules.length ≤ 60) (hk : ∀ h' rvv', BG h0 h' bg nm rvv' (rules ++ [r]) ex → Ret (K h') Q) :
    Ret (Go.Am.hb (xBS 1 (bsRow Try.prog 23 1 [(0, .agg ⟨rlC r bq⟩)]) h) fun v68 h => Go.Am.hb (xApp (appInfo Try.prog #[23, 23]) rvv v68 h) fun v69 h => Go.Am.vb (xFld 3 (.pointer (some ⟨bg, 0, none⟩))) fun v70 => Go.Am.hb (xSt1 v70 v69 h) fun _ h => K h) Q := by
  rcases g with ⟨rfl, rfl, s⟩ | ⟨br, all, rfl, s, op, hl, hr⟩
  · refine Ret.sbs s (bs23 rfl) fun h2 bs s2 ok2 => ?_
    rw [ai23]
    refine Ret.sapp0 s2 (n := 1) (ptail_at (s2.mine _ (.head _)) rfl) (by omega) rfl (by omega) fun h3 b' s3 op3 ok3 => ?_
    simp only [xFld_p, Nat.zero_add, vb_some]
    refine Ret.sst1' s3 (i := 2) (b := bg) (o := 3) rfl (by show 3 < 7; omega) rfl fun h4 s4 ok4 => ?_
    have s4 : St h0 h4 ((b', rlC r bq) :: (bs, rlC r bq) :: (bg, bgC nm (.slice (some ⟨b', 0, none⟩) 1 openCap)) :: ex) := s4
    have op4 := ok4 _ _ (s3.row (b := b') (.head _)).lt op3
    refine hk h4 _ (.inr ⟨b', rlC r bq, rfl, (s4.drop (.cons_cons _ (.cons _ (List.Sublist.refl _)))).sw, op4, rfl, fun i r' hi => ?_⟩)
    match i, hi with
    | 0, hi => cases hi; exact ⟨bq, rfl, hq⟩
  · refine Ret.sbs s (bs23 rfl) fun h2 bs s2 ok2 => ?_
    have op2 := ok2 _ _ (s.row (b := br) (.tail _ (.head _))).lt op
    rw [ai23]
    have hsz : (2 * (rules.length + 1) + 512) * 40 ≤ 281474976710656 := by
      have h1 : 2 * (rules.length + 1) + 512 ≤ 1000 := by omega
      exact Nat.le_trans (Nat.mul_le_mul_right 40 h1) (by decide)
    refine Ret.sapp s2 (i := 2) (o := 0) (n := 1) rfl ⟨by rw [hl]; omega, .inr ⟨op2, Nat.le_refl _, by decide, by rw [Nat.sub_self, Nat.zero_mul]⟩⟩ (by omega) (ptail_at (s2.mine _ (.head _)) rfl) (by omega) rfl hsz fun h3 b' s3 op3 _ => ?_
    simp only [xFld_p, Nat.zero_add, vb_some]
    refine Ret.sst1' s3 (i := 2) (b := bg) (o := 3) rfl (by show 3 < 7; omega) rfl fun h4 s4 ok4 => ?_
    have s4 : St h0 h4 ((b', all.drop 0 ++ rlC r bq) :: (bs, rlC r bq) :: (bg, bgC nm (.slice (some ⟨b', 0, none⟩) (rules.length + 1) openCap)) :: ex) := s4
    rw [List.drop_zero] at s4
    have op4 := ok4 _ _ (s3.row (b := b') (.head _)).lt op3
    have hll : (rules ++ [r]).length = rules.length + 1 := by simp
    refine hk h4 _ (.inr ⟨b', all ++ rlC r bq, by rw [hll], (s4.drop (.cons_cons _ (.cons _ (List.Sublist.refl _)))).sw, op4, by rw [List.length_append, hl, hll]; show _ + 3 = _; omega, fun i r' hi => ?_⟩)
    by_cases hlt : i < rules.length
    · rw [List.getElem?_append_left hlt] at hi
      obtain ⟨b, h1, h2⟩ := hr i r' hi
      refine ⟨b, ?_, h2⟩
      rw [List.drop_append_of_le_length (by omega), List.take_append_of_le_length (by simp; omega)]
      exact h1
    · have hi' : i = rules.length := by
        have := (List.getElem?_eq_some_iff.1 hi).1
        simp at this; omega
      subst hi'
      rw [List.getElem?_append_right (Nat.le_refl _)] at hi
      simp at hi; subst hi
      refine ⟨bq, ?_, hq⟩
      rw [← hl, List.drop_left]; rfl
/-- What was built is a grammar. -/
theorem BG.rd (g : BG h0 h bg nm rvv rules ex) : RdG h (.agg ⟨bgC nm rvv⟩) ⟨nm, 1, 0, rules, [], [], []⟩ rvv nils nils nils := by
  refine ⟨rfl, ?_, .inl ⟨rfl, _, _, rfl⟩, .inl ⟨rfl, _, _, rfl⟩, .inl ⟨rfl, _, _, rfl⟩⟩
  rcases g with ⟨rfl, rfl, s⟩ | ⟨br, all, rfl, s, op, hl, hr⟩
  · exact .inl ⟨rfl, _, _, rfl⟩
  · refine .inr ⟨br, 0, _, all, rfl, s.row (.tail _ (.head _)), fun i r hi => ?_⟩
    have hlt := (List.getElem?_eq_some_iff.1 hi).1
    have hlt : i < rules.length := hlt
    obtain ⟨b, h1, h2⟩ := hr i r hi
    refine ⟨by omega, ⟨_, by rw [Nat.zero_add]; exact h1, RdS.ofRow (s.row (.tail _ (.tail _ h2)))⟩⟩
end
end Go.Am
