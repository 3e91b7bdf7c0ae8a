import Derived.Test.YtdmfanikejcgjaaW19
set_option linter.unusedSimpArgs false
set_option linter.unusedVariables false
namespace Go.Am
open Go Go.RowKit Go.Proofs
section
variable {n : Nat} {cl ih : CL} {h : PH}
theorem c15 [OkH h] {g : Gr} {v rv fv cv kv : Value} (hn : 9223372036854775808 ≤ n) (r : RdG h v g rv fv cv kv) (hg : GIn g) :
    Ret (F15 n cl v h.fzn) fun v h1 => Kp h.n h.fzn h1 ∧ ReachQ g h h1 v := by
  unfold F15
  rw [r.v]
  refine Ret.sbox (St.start _) (fun h1 b st => ?_)
  have := st.ok
  have lw : xLdA 7 (.pointer (some ⟨b, 0, none⟩)) h1 = some (.agg ⟨gcs g rv fv cv kv⟩) := xLdA_at (st.row (.head _)) rfl (Nat.le_refl _)
  have sees : ∀ b cs, Sees h b cs → Sees h1 b cs := fun b cs s => st.sees s
  have e := c30 (n := n) (cl := cl) (h := h1) hn (r.mono sees) hg
  rw [r.v] at e
  simp only [lw, vb_some, e, xNot_b]
  cases hgood : goodB g with
  | false => simp only [Bool.not_false, bite_t]; exact Ret.of ⟨st.kp, fun _ => rfl, fun h => by rw [hgood] at h; cases h⟩
  | true =>
    obtain ⟨w1, w2, w3, w4, w5, w6, w7⟩ := goodB_whole hgood
    have hsn := isName_iff.1 w7
    have l0 : xLd (.pointer (some ⟨b, 0, none⟩)) h1 = some (.int .i64 g.names) := xLd_at (st.row (.head _)) rfl
    simp only [Bool.not_true, bite_f, F15_11, xFld_p, Nat.zero_add, vb_some, l0]
    refine Ret.smk st zi34 (by omega) (by omega) (by omega) (by omega) fun h2 b2 st2 => ?_
    rw [zrows1] at st2
    have l2 : xLd (.pointer (some ⟨b, 2, none⟩)) h2 = some (.int .i64 g.start) := xLd_at (st2.row (.tail _ (.head _))) rfl
    simp only [xFld_p, Nat.zero_add, vb_some, l2]
    rw [xIdxS_at hsn.1 (by omega)]
    simp only [vb_some, tt_eq, show 0 + g.start.toNat * 1 = g.start.toNat from by omega]
    refine Ret.sst1 st2 (i := 0) (o := g.start.toNat) rfl (by simp; omega) rfl fun h3 st3 => ?_
    have sf : ∀ b cs, Sees h b cs → Sees h.fzn b cs := fun b cs s => s
    have st3' : St h.fzn h3 [(b2, bv ((List.replicate g.names.toNat false).set g.start.toNat true)), (b, gcs g rv fv cv kv)] := by
      have e : bv ((List.replicate g.names.toNat false).set g.start.toNat true) = (List.replicate g.names.toNat (.bool false)).set g.start.toNat (.bool true) := by
        rw [bv, List.map_set, List.map_replicate]
      rw [e]; exact st3
    have hlt : g.start.toNat < (List.replicate g.names.toNat false).length := by simp; omega
    have hback : ∀ x, isName g.names x = true → marked ((List.replicate g.names.toNat false).set g.start.toNat true) x → x = g.start := by
      intro x hx hm
      have := isName_iff.1 hx
      unfold marked at hm
      by_cases e : g.start.toNat = x.toNat
      · omega
      · rw [List.getElem?_set_ne e, List.getElem?_replicate] at hm
        split at hm <;> simp at hm
    refine loop15 (h0 := h.fzn) hn (r.mono sf) hg hgood (fun h5 out st5 q5 hd => ⟨st5.kp, fun h => (by rw [hgood] at h; cases h), fun _ => ⟨out, b2, _, q5.len, fun s hs => ⟨q5.sound s hs, q5.all hgood hd hs⟩, rfl, st5.old _ (.head _), st5.mine _ (.head _)⟩⟩)
      g.names.toNat n _ h3 (by omega) (by omega) st3' ⟨by simp, fun s hs hm => by rw [hback s hs hm]; exact .start, marked_set_self hlt⟩
def fewB (g : Gr) : Bool := decide (g.rules.length ≤ 70 ∧ g.forbid.length ≤ 250 ∧ g.rclass.length ≤ 100 ∧ g.kclass.length ≤ 100)
theorem c12 [OkH h] {g : Gr} {v rv fv cv kv : Value} (r : RdG h v g rv fv cv kv) : pcall (F12 n cl v h.fzn) = some (.bool (fewB g)) := by
  have un1 : isB false undef = false := rfl
  have un2 : isB true undef = false := rfl
  refine pcall_of ?_ rfl
  unfold F12
  rw [r.v]
  refine Ret.sbox (St.start _) (fun h1 b st => ?_)
  have ld : ∀ (o : Nat) (u : Value), (gcs g rv fv cv kv)[o]? = some u → xLd (.pointer (some ⟨b, o, none⟩)) h1 = some u := fun o u e => xLd_at (st.row (.head _)) e
  have l3 := ld 3 _ rfl
  have l4 := ld 4 _ rfl
  have l5 := ld 5 _ rfl
  have l6 := ld 6 _ rfl
  have n3 := RdS.len r.rules
  have n4 := RdS.len r.forbid
  have n5 := RdS.len r.rclass
  have n6 := RdS.len r.kclass
  simp only [xFld_p, Nat.zero_add, vb_some, l3, n3, vN_eq, xLe_i, show (((70 : Nat) : Int)) = 70 from rfl, show (((250 : Nat) : Int)) = 250 from rfl, show (((100 : Nat) : Int)) = 100 from rfl, ff_eq]
  by_cases a1 : (g.rules.length : Int) ≤ 70
  · by_cases a2 : (g.forbid.length : Int) ≤ 250
    · by_cases a3 : (g.rclass.length : Int) ≤ 100
      · by_cases a4 : (g.kclass.length : Int) ≤ 100
        · simp only [a1, a2, a3, a4, decide_true, isB_t, gd_true, vb_some, l4, l5, l6, n4, n5, n6, xLe_i, xPick_t]
          exact Ret.of (by unfold fewB; rw [decide_eq_true (by omega)])
        · simp only [a1, a2, a3, a4, decide_true, decide_false, isB_t, gd_true, vb_some, l4, l5, l6, n4, n5, n6, xLe_i, xPick_t]
          exact Ret.of (by unfold fewB; rw [decide_eq_false (by omega)])
      · simp only [a1, a2, a3, decide_true, decide_false, isB_t, gd_true, gd_false, vb_some, l4, l5, l6, n4, n5, n6, xLe_i, xPick_t, xPick_f]
        exact Ret.of (by unfold fewB; rw [decide_eq_false (by omega)])
    · simp only [a1, a2, decide_true, decide_false, isB_t, gd_true, gd_false, vb_some, l4, l5, l6, n4, n5, n6, xLe_i, xPick_t, xPick_f]
      exact Ret.of (by unfold fewB; rw [decide_eq_false (by omega)])
  · simp only [a1, decide_true, decide_false, isB_t, gd_true, gd_false, vb_some, xPick_t, xPick_f]
    exact Ret.of (by unfold fewB; rw [decide_eq_false (by omega)])

/-! ### results, told as lists -/
def ReachLs (g : Gr) (l : List Bool) : Prop := (goodB g = false ∧ l = []) ∨ (goodB g = true ∧ l.length = g.names.toNat ∧ ∀ s, isName g.names s = true → (marked l s ↔ Reach g s))
def ShortLs (g : Gr) (l : List Int) : Prop := (goodB g = false ∧ l = []) ∨ (goodB g = true ∧ Runs g (List.replicate g.names.toNat (-1)) l ∧ TabS g l)
theorem ReachLs.eq {g : Gr} {a b : List Bool} (x : ReachLs g a) (y : ReachLs g b) : a = b := by
  rcases x with ⟨x1, x2⟩ | ⟨x1, x2, x3⟩ <;> rcases y with ⟨y1, y2⟩ | ⟨y1, y2, y3⟩
  · rw [x2, y2]
  · rw [x1] at y1; cases y1
  · rw [x1] at y1; cases y1
  · apply List.ext_getElem (x2.trans y2.symm)
    intro i h1 h2
    have hn : isName g.names i = true := isName_iff.2 ⟨by omega, by omega⟩
    have := (x3 i hn).trans (y3 i hn).symm
    unfold marked at this
    simp only [Int.toNat_natCast, List.getElem?_eq_getElem h1, List.getElem?_eq_getElem h2, Option.some.injEq] at this
    exact Bool.eq_iff_iff.2 this
theorem ShortLs.eq {g : Gr} {a b : List Int} (x : ShortLs g a) (y : ShortLs g b) : a = b := by
  rcases x with ⟨x1, x2⟩ | ⟨x1, x2, x3⟩ <;> rcases y with ⟨y1, y2⟩ | ⟨y1, y2, y3⟩
  · rw [x2, y2]
  · rw [x1] at y1; cases y1
  · rw [x1] at y1; cases y1
  · exact x2.det y2
theorem ReachLs.le {g : Gr} {a : List Bool} (x : ReachLs g a) : a.length < 9223372036854775808 := by
  rcases x with ⟨_, rfl⟩ | ⟨x1, x2, _⟩
  · simp
  · obtain ⟨w1, w2, _⟩ := goodB_whole x1; omega
theorem ShortLs.le {g : Gr} {a : List Int} (x : ShortLs g a) : a.length < 9223372036854775808 := by
  rcases x with ⟨_, rfl⟩ | ⟨x1, _, x2⟩
  · simp
  · obtain ⟨w1, w2, _⟩ := goodB_whole x1; have := x2.len; omega
theorem seesOf {h1 hb : PH} {b : Nat} {cs : List Value} (m : Mine h1 b cs) (hr : hb.raw b = h1.raw b) : Sees hb b cs := m.sees.of_raw hr
theorem ReachQ.rd {g : Gr} {h1 hb : PH} {v : Value} (q : ReachQ g h h1 v) (hr : ∀ b, hb.raw b = h1.raw b) : ∃ l, ReachLs g l ∧ RdS boolE 1 hb v l := by
  cases hg : goodB g with
  | false => exact ⟨[], .inl ⟨hg, rfl⟩, .inl ⟨rfl, _, _, q.bad hg⟩⟩
  | true =>
    obtain ⟨out, b, c, h2, h3, rfl, _, m⟩ := q.good hg
    exact ⟨out, .inr ⟨hg, h2, h3⟩, by have := RdS.ofRow (e := Value.bool) (c := c) (seesOf m (hr b)); rw [h2] at this; exact this⟩
theorem ShortQ.rd {g : Gr} {h1 hb : PH} {v : Value} (q : ShortQ g h h1 v) (hr : ∀ b, hb.raw b = h1.raw b) : ∃ l, ShortLs g l ∧ RdI hb v l := by
  cases hg : goodB g with
  | false => exact ⟨[], .inl ⟨hg, rfl⟩, .inl ⟨rfl, _, _, q.bad hg⟩⟩
  | true =>
    obtain ⟨out, b, c, h2, h3, rfl, _, m⟩ := q.good hg
    exact ⟨out, .inr ⟨hg, h2, h3⟩, by have := RdS.ofRow (e := Value.int .i64) (c := c) (seesOf m (hr b)); rw [h3.len] at this; exact this⟩
theorem ProdQ.rd {g : Gr} {h1 hb : PH} {v : Value} (q : ProdQ g h h1 v) (hr : ∀ b, hb.raw b = h1.raw b) : ∃ l, ShortLs g l ∧ RdS boolE 1 hb v (prodL l) := by
  cases hg : goodB g with
  | false => exact ⟨[], .inl ⟨hg, rfl⟩, .inl ⟨rfl, _, _, q.bad hg⟩⟩
  | true =>
    obtain ⟨out, b, c, h2, h3, rfl, _, m⟩ := q.good hg
    refine ⟨out, .inr ⟨hg, h2, h3⟩, ?_⟩
    have := RdS.ofRow (e := Value.bool) (c := c) (seesOf m (hr b))
    rw [show (prodL out).length = g.names.toNat from by rw [← h3.len]; simp] at this
    exact this
end
end Go.Am
