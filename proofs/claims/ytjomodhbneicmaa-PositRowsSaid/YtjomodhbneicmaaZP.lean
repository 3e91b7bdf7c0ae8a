import Derived.Test.YtjomodhbneicmaaZH
set_option linter.unusedSimpArgs false
set_option linter.unusedVariables false
namespace Go.Am
open Go Go.RowKit Go.Proofs
theorem clt25 {n d : Nat} {v : Value} {h : PH} : CLT n d 25 [v] h = CLV n d 25 [v] h := rfl
theorem clt53 {n d : Nat} {v : Value} {h : PH} : CLT n d 53 [v] h = CLV n d 53 [v] h := rfl
theorem clt54 {n d : Nat} {u v : Value} {h : PH} : CLT n d 54 [u, v] h = CLV n d 54 [u, v] h := rfl
theorem PoV.mono {V W : Vw} {po : Po} {ps : List Value} (hs : Vw.le V W) (h : PoV V po ps) : PoV W po ps := by
  obtain ⟨sv, fv, lv, wv, ws, e, a1, a2, a3, a4, a5, a6⟩ := h
  exact ⟨sv, fv, lv, wv, ws, e, a1.mono hs, a2.mono hs, a3.mono hs, a4.mono hs, a5, fun i l hl => let ⟨w, q1, q2⟩ := a6 i l hl; ⟨w, q1, q2.mono hs⟩⟩
def po0 : Po := ⟨[], false, [], [], []⟩
theorem PoV.zero {V : Vw} : PoV V po0 [nils, .bool false, nils, nils, nils] :=
  ⟨nils, nils, nils, nils, [], rfl, .inl ⟨rfl, rfl, _, _, rfl⟩, .inl ⟨rfl, _, _, rfl⟩, .inl ⟨rfl, _, _, rfl⟩, .inl ⟨rfl, _, _, rfl⟩, rfl, fun i l hl => by simp [po0] at hl⟩
theorem PoV.ps {V : Vw} {po : Po} {ps : List Value} (h : PoV V po ps) : ps.length = 5 ∧ oneCells ps = true := by
  obtain ⟨sv, fv, lv, wv, ws, rfl, q1, q2, q3, q4, _⟩ := h
  refine ⟨rfl, ?_⟩
  unfold oneCells
  simp only [List.all_cons, List.all_nil, q1.one, q2.one, q3.one, q4.one]; rfl
mutual
theorem ReE.s4 {V : Vw} : ∀ {x : Re} {es : List Value}, ReE V x es → ∀ s ∈ x.sets, s.length = 4
  | .mk op s ks, es, h => by
    obtain ⟨kv, _, hs, hk⟩ := ReE_mk.1 h
    rw [Re.sets_looked]
    split
    · intro t ht; simp at ht; subst ht; exact hs
    · have key : ∀ s ∈ reSets ks, s.length = 4 := by
        rcases hk with ⟨rfl, _⟩ | ⟨b, o, c, cs, _, _, _, _, hc⟩
        · intro t ht; simp [reSets] at ht
        · exact KidsC.s4 hc
      intro t ht
      refine key t ?_
      unfold looked at ht
      split at ht
      · exact ht
      · split at ht
        · cases ks with
          | nil => simp [reSets] at ht
          | cons k ks => simp [reSets] at ht ⊢; exact .inl ht
        · simp [reSets] at ht
theorem KidsC.s4 {V : Vw} : ∀ {ks : List Re} {cs : List Value}, KidsC V ks cs → ∀ s ∈ reSets ks, s.length = 4
  | [], cs, h => by intro t ht; simp [reSets] at ht
  | k :: ks, cs, h => by
    unfold KidsC at h
    intro t ht
    unfold reSets at ht
    rcases List.mem_append.1 ht with ht | ht
    · exact ReE.s4 h.1 t ht
    · exact KidsC.s4 h.2 t ht
end
theorem poOf_in {V : Vw} {x : Re} {es : List Value} (h : ReE V x es) (hs : x.sets.length ≤ 150) : (poOf x).In := by
  have hl : ∀ P : Nat → Bool, (srt x.sets.length P).length ≤ x.sets.length := fun P => srt_len
  refine ⟨h.s4, by unfold poOf; simp only; omega, by have := hl (x.ev 0).fst; unfold poOf; simp only; omega, by have := hl (x.ev 0).lst; unfold poOf; simp only; omega, by unfold poOf; simp; omega, fun l hm => ?_⟩
  unfold poOf at hm
  simp only [List.mem_map] at hm
  obtain ⟨i, _, rfl⟩ := hm
  have := hl ((x.ev 0).fol i); omega
theorem po0_in : po0.In := ⟨by simp [po0], by simp [po0], by simp [po0], by simp [po0], by simp [po0], by simp [po0]⟩
section
variable {n : Nat} {h h0 : PH} {S : Vw}
theorem law8 [OkH h] (hn : 4611686018427387904 ≤ n) {D : Nat} {x : Re} {es : List Value} (hS : Vw.le S h.cells) (he : ReE S x es) (hd : x.deep ≤ D) (hsz : x.size < 1099511627776) : Ret (F8 n (CLT n D) (.agg ⟨es⟩) h) fun v _ => v = .bool true := by
  have hes := he.len
  unfold F8
  refine Ret.lbox (Sl.start h hS) fun h1 x1 st => ?_
  have st : Sl h h1 S OM.emp [(x1, .row .own 1 es)] := st
  have la : xLdA 6 (.pointer (some ⟨x1, 0, none⟩)) h1 = some (.agg ⟨es⟩) := st.ldA (.head _) (by rw [List.drop_zero, ← hes, List.take_length]) (by omega)
  have := st.ok
  have hp := pcall_fr (c25 hn D x hd hsz h1.fzn (fun b cs e => st.leS b cs e) es he) rfl
  simp only [told24, vb_some, xNot_b, Bool.not_true, isB_f, Bool.not_false, gd_true, la, clt25, hp, vN_eq, xGt_i, xPick_f]
  by_cases c1 : 250 < x.deep
  · have hd1 : decide (((250 : Nat) : Int) < ((x.deep : Nat) : Int)) = true := by simp; omega
    simp only [hd1, bite_t]
    exact Ret.of rfl
  have hd1 : decide (((250 : Nat) : Int) < ((x.deep : Nat) : Int)) = false := by simp; omega
  simp only [hd1, bite_f, F8_0, la, vb_some]
  refine Ret.hb (c26 hn (fun v h => clt50) (fun u v h => clt51) hd hsz st he) fun v2 h2 ⟨S2, ps, e, le2, st2, hv, hq⟩ => ?_
  subst hv
  simp only [xExt_t', List.getElem?_cons_zero, List.getElem?_cons_succ, vb_some]
  have P1 : ps.length = 5 ∧ oneCells ps = true := by
    rcases hq with ⟨_, _, rfl⟩ | ⟨_, _, _, rfl⟩ | ⟨_, _, _, q⟩
    · exact ⟨rfl, rfl⟩
    · exact ⟨rfl, rfl⟩
    · exact q.ps
  refine Ret.lalloc st2 zc43 fun h3 x12 st3 => ?_
  refine Ret.lstA st3 0 rfl rfl P1.1 (by simp) P1.2 fun h4 st4 => ?_
  rw [setsL_all (by rw [P1.1]; rfl)] at st4
  have st4 : Sl h h4 S2 OM.emp [(x12, .row .own 1 ps), (x1, .row .own 1 es)] := st4
  have la4 : xLdA 6 (.pointer (some ⟨x1, 0, none⟩)) h4 = some (.agg ⟨es⟩) := st4.ldA (.tail _ (.head _)) (by rw [List.drop_zero, ← hes, List.take_length]) (by omega)
  simp only [la4, vb_some]
  refine Ret.hb (c27 hn (fun v h => clt25) (fun v h => clt53) (fun u v h => clt54) hd hsz st4 (he.mono le2)) fun v5 h5 ⟨S5, qs, f, le5, st5, hv, hq2⟩ => ?_
  subst hv
  simp only [xExt_t', List.getElem?_cons_zero, List.getElem?_cons_succ, vb_some]
  have P2 : qs.length = 5 ∧ oneCells qs = true := by
    rcases hq2 with ⟨_, _, rfl⟩ | ⟨_, _, _, rfl⟩ | ⟨_, _, _, q⟩
    · exact ⟨rfl, rfl⟩
    · exact ⟨rfl, rfl⟩
    · exact q.ps
  refine Ret.lalloc st5 zc43 fun h6 x17 st6 => ?_
  refine Ret.lstA st6 0 rfl rfl P2.1 (by simp) P2.2 fun h7 st7 => ?_
  rw [setsL_all (by rw [P2.1]; rfl)] at st7
  have st7 : Sl h h7 S5 OM.emp [(x17, .row .own 1 qs), (x12, .row .own 1 ps), (x1, .row .own 1 es)] := st7
  have lb1 : xLdA 5 (.pointer (some ⟨x12, 0, none⟩)) h7 = some (.agg ⟨ps⟩) := st7.ldA (.tail _ (.head _)) (by rw [List.drop_zero, ← P1.1, List.take_length]) (by rw [P1.1]; exact Nat.le_refl _)
  have lb2 : xLdA 5 (.pointer (some ⟨x17, 0, none⟩)) h7 = some (.agg ⟨qs⟩) := st7.ldA (.head _) (by rw [List.drop_zero, ← P2.1, List.take_length]) (by rw [P2.1]; exact Nat.le_refl _)
  have := st7.ok
  have same : e = f ∧ ∃ po, PoV S5 po ps ∧ PoV S5 po qs ∧ po.In := by
    rcases hq with ⟨a, b, c⟩ | ⟨a, b, c, d⟩ | ⟨a, b, c, d⟩ <;> rcases hq2 with ⟨a', b', c'⟩ | ⟨a', b', c', d'⟩ | ⟨a', b', c', d'⟩ <;> first
      | omega
      | exact ⟨by omega, po0, by subst_vars; exact PoV.zero, by subst_vars; exact PoV.zero, po0_in⟩
      | exact ⟨by omega, poOf x, d.mono le5, d', poOf_in he a⟩
  obtain ⟨rfl, po, q1, q2, q3⟩ := same
  have hc := c28 (n := n) (cl := CLT n D) (h := h7.fzn) hn (fun b cs e => st7.leS b cs e) q1 q2 q3
  have hee : decide (e = e) = true := by simp
  simp only [lb1, lb2, vb_some, hc, isB_t, gd_true, c29, gd_some', if_true, xEq_i, hee, xPick_t]
  exact Ret.of rfl
end
end Go.Am

set_option linter.unusedSimpArgs false
set_option linter.unusedVariables false
namespace Go.Am
open Go Go.RowKit Go.Proofs

/-! ### a row of sets, each of which may be repeated, or left out -/
def kidOf (o : Nat) : Re := if o = 0 then leaf1 else .mk ((3 + o : Nat) : Int) zs4 [leaf1]
def nl (o : Nat) : Bool := o == 1 || o == 3
def rp (o : Nat) : Bool := o == 1 || o == 2
theorem evCat_snoc {x : Re} : ∀ (ks : List Re) (a : Pt), evCat (ks ++ [x]) a = (evCat ks a).cat (x.ev (evCat ks a).cnt)
  | [], a => by simp [evCat]
  | k :: ks, a => by
    rw [List.cons_append]
    unfold evCat
    exact evCat_snoc ks _
theorem kidOf_ev {o : Nat} (ho : o < 4) (b : Nat) : ((kidOf o).ev b).null = nl o ∧ ((kidOf o).ev b).cnt = b + 1 ∧ (∀ i, ((kidOf o).ev b).fst i = decide (i = b)) ∧ (∀ i, ((kidOf o).ev b).lst i = decide (i = b)) ∧
    ∀ i j, ((kidOf o).ev b).fol i j = (rp o && (decide (i = b) && decide (j = b))) := by
  match o, ho with
  | 0, _ => simp [kidOf, leaf1, Re.ev, Pt.one, nl, rp]
  | 1, _ => simp [kidOf, leaf1, Re.ev, evOne, Pt.one, Pt.rep, nl, rp]
  | 2, _ => simp [kidOf, leaf1, Re.ev, evOne, Pt.one, Pt.rep, nl, rp]
  | 3, _ => simp [kidOf, leaf1, Re.ev, evOne, Pt.one, Pt.rep, nl, rp]
theorem kidOf_sets {o : Nat} (ho : o < 4) : (kidOf o).sets.length = 1 := by
  match o, ho with
  | 0, _ => rfl
  | 1, _ => rfl
  | 2, _ => rfl
  | 3, _ => rfl
theorem kidOf_size (o : Nat) : (kidOf o).size ≤ 2 := by
  unfold kidOf
  split
  · simp [leaf1, Re.size, sizeL]
  · simp [leaf1, Re.size, sizeL]
theorem kidOf_deep {o : Nat} (ho : o < 4) : (kidOf o).deep ≤ 2 := by
  match o, ho with
  | 0, _ => decide
  | 1, _ => decide
  | 2, _ => decide
  | 3, _ => decide
def rowRe (os : List Nat) : Re := .mk 2 zs4 (os.map kidOf)
theorem rowRe_sets {os : List Nat} (ho : ∀ o ∈ os, o < 4) : (rowRe os).sets.length = os.length := by
  rw [rowRe, Re.sets_looked]
  simp only [looked, true_or, if_true]
  rw [if_neg (by decide)]
  induction os with
  | nil => rfl
  | cons o os ih =>
    rw [List.map_cons]
    unfold reSets
    rw [List.length_append, kidOf_sets (ho o (.head _)), ih fun x hx => ho x (.tail _ hx), List.length_cons]
    omega
theorem rowRe_size (os : List Nat) : (rowRe os).size ≤ 2 * os.length + 1 := by
  rw [rowRe]
  unfold Re.size
  have : sizeL (os.map kidOf) ≤ 2 * os.length := by
    induction os with
    | nil => simp [sizeL]
    | cons o os ih =>
      rw [List.map_cons]
      unfold sizeL
      have := kidOf_size o
      rw [List.length_cons]; omega
  omega
theorem rowRe_deep {os : List Nat} (ho : ∀ o ∈ os, o < 4) : (rowRe os).deep ≤ 3 := by
  rw [rowRe, Re.deep_looked]
  simp only [looked, true_or, if_true]
  have : deepL (os.map kidOf) ≤ 2 := by
    induction os with
    | nil => simp [deepL]
    | cons o os ih =>
      rw [List.map_cons]
      unfold deepL
      have := kidOf_deep (ho o (.head _))
      have := ih fun x hx => ho x (.tail _ hx)
      omega
  omega
/-- What is told of the first k of them. -/
structure Told (os : List Nat) (k : Nat) (p : Pt) : Prop where
  cnt : p.cnt = k
  null : p.null = (os.take k).all nl
  lst : ∀ i, p.lst i = true ↔ i < k ∧ ∀ m, i < m → m < k → nl (os.getD m 0) = true
  fol : ∀ i j, p.fol i j = true ↔ (i = j ∧ i < k ∧ rp (os.getD i 0) = true) ∨ (i < j ∧ j < k ∧ ∀ m, i < m → m < j → nl (os.getD m 0) = true)
theorem told_row {os : List Nat} (ho : ∀ o ∈ os, o < 4) : ∀ k, k ≤ os.length → Told os k (evCat ((os.take k).map kidOf) (Pt.unit 0))
  | 0, _ => by
    refine ⟨rfl, rfl, fun i => ?_, fun i j => ?_⟩
    · simp [evCat, Pt.unit]
    · simp [evCat, Pt.unit]
  | k + 1, hk => by
    have ih := told_row ho k (by omega)
    have hg := List.getElem?_eq_getElem (l := os) (i := k) (by omega)
    have e : os.take (k + 1) = os.take k ++ [os[k]] := List.take_succ_eq_append_getElem (by omega)
    have hD : os.getD k 0 = os[k] := by simp [List.getD_eq_getElem?_getD, hg]
    rw [e, List.map_append, List.map_cons, List.map_nil, evCat_snoc]
    generalize evCat ((os.take k).map kidOf) (Pt.unit 0) = a at ih ⊢
    obtain ⟨q1, q2, q3, q4, q5⟩ := kidOf_ev (ho _ (List.getElem_mem (by omega : k < os.length))) a.cnt
    rw [ih.cnt] at q1 q2 q3 q4 q5
    refine ⟨?_, ?_, fun i => ?_, fun i j => ?_⟩
    · show ((kidOf os[k]).ev a.cnt).cnt = k + 1
      rw [ih.cnt, q2]
    · show (a.null && ((kidOf os[k]).ev a.cnt).null) = _
      rw [ih.cnt, q1, ih.null, e, List.all_append]
      simp
    · show (((kidOf os[k]).ev a.cnt).lst i || (((kidOf os[k]).ev a.cnt).null && a.lst i)) = true ↔ _
      rw [ih.cnt, q1, q4]
      simp only [Bool.or_eq_true, decide_eq_true_eq, Bool.and_eq_true, ih.lst]
      constructor
      · rintro (h | ⟨h1, h2, h3⟩)
        · subst h; exact ⟨by omega, fun m h1 h2 => by omega⟩
        · refine ⟨by omega, fun m h4 h5 => ?_⟩
          by_cases hm : m = k
          · subst hm; rw [hD]; exact h1
          · exact h3 m h4 (by omega)
      · rintro ⟨h1, h2⟩
        by_cases hi : i = k
        · exact .inl hi
        · exact .inr ⟨by rw [← hD]; exact h2 k (by omega) (by omega), by omega, fun m h3 h4 => h2 m h3 (by omega)⟩
    · show ((a.fol i j || ((kidOf os[k]).ev a.cnt).fol i j) || (a.lst i && ((kidOf os[k]).ev a.cnt).fst j)) = true ↔ _
      rw [ih.cnt, q3, q5]
      simp only [Bool.or_eq_true, decide_eq_true_eq, Bool.and_eq_true, ih.lst, ih.fol]
      constructor
      · rintro (((⟨h1, h2, h3⟩ | ⟨h1, h2, h3⟩) | ⟨h1, h2, h3⟩) | ⟨⟨h1, h2⟩, h3⟩)
        · exact .inl ⟨h1, by omega, h3⟩
        · exact .inr ⟨h1, by omega, h3⟩
        · exact .inl ⟨by omega, by omega, by rw [h2, hD]; exact h1⟩
        · exact .inr ⟨by omega, by omega, fun m h4 h5 => h2 m h4 (by omega)⟩
      · rintro (⟨h1, h2, h3⟩ | ⟨h1, h2, h3⟩)
        · by_cases hi : i = k
          · exact .inl (.inr ⟨by rw [← hD, ← hi]; exact h3, hi, by omega⟩)
          · exact .inl (.inl (.inl ⟨h1, by omega, h3⟩))
        · by_cases hj : j = k
          · exact .inr ⟨⟨by omega, fun m h4 h5 => h3 m h4 (by omega)⟩, hj⟩
          · exact .inl (.inl (.inr ⟨h1, by omega, h3⟩))
theorem told_all {os : List Nat} (ho : ∀ o ∈ os, o < 4) : Told os os.length ((rowRe os).ev 0) := by
  have := told_row ho os.length (Nat.le_refl _)
  rw [List.take_length] at this
  rw [rowRe, Re.ev_mk]
  simpa using this
end Go.Am

set_option linter.unusedSimpArgs false
set_option linter.unusedVariables false
namespace Go.Am
open Go Go.RowKit Go.Proofs
def zv (l : List Int) : List Value := l.map fun z => .int .i64 z
def om (z : Int) : Nat := (z % 4).toNat
theorem om_lt (z : Int) : om z < 4 := by unfold om; omega
theorem xBit3 {z : Int} : xBit Nat.land (.int .i64 z) (vN 3) = some (.int .i64 (om z : Nat)) := by
  have e : (BitVec.ofInt 64 z).toNat % 4 = om z := by
    rw [BitVec.toNat_ofInt]
    unfold om
    have : (2 : Int) ^ 64 = 18446744073709551616 := by decide
    omega
  have e2 : ∀ x : Nat, Nat.land x 3 = x % 4 := fun x => Nat.and_two_pow_sub_one_eq_mod x 2
  rw [vN_eq]
  have h3 : bitN .i64 ((3 : Nat) : Int) = 3 := by rfl
  show mkI .i64 (wr .i64 (.ofNat (Nat.land (bitN .i64 z) (bitN .i64 ((3 : Nat) : Int))))) = _
  rw [mkI_eq, wr_eq, bitN_eq, h3, e2]
  show some (Value.int .i64 (IntKind.i64.wrap (((BitVec.ofInt 64 z).toNat % 4 : Nat) : Int))) = _
  rw [e, wrap_in (by omega) (by have := om_lt z; omega)]
theorem xBit3' {z : Int} : xBit Nat.land (.int .i64 z) (.int .i64 3) = some (.int .i64 (om z : Nat)) := by
  have := xBit3 (z := z)
  rw [vN_eq] at this; exact this
theorem zv_get {l : List Int} {i : Nat} {z : Int} (h : l[i]? = some z) : (zv l)[i]? = some (.int .i64 z) := by simp [zv, h]
theorem zv_len (l : List Int) : (zv l).length = l.length := by simp [zv]
/-- What follows place i. -/
def Fol (os : List Nat) (i : Nat) (P : Nat → Bool) : Prop := ∀ j, P j = true ↔ (i = j ∧ i < os.length ∧ rp (os.getD i 0) = true) ∨ (i < j ∧ j < os.length ∧ ∀ m, i < m → m < j → nl (os.getD m 0) = true)
theorem srt_end {N k : Nat} {P : Nat → Bool} (h : k ≤ N) (hP : ∀ j, k ≤ j → P j = false) : srt N P = srt k P := by
  obtain ⟨d, rfl⟩ : ∃ d, N = k + d := ⟨N - k, by omega⟩
  clear h
  induction d with
  | zero => rfl
  | succ d ih =>
    show (List.range (k + d + 1)).filter P = _
    rw [srt_next (N := 0), hP _ (by omega)]
    simpa [srt] using ih
theorem ns_snoc (l : List Nat) (i : Nat) : ns l ++ [.int .i64 (i : Nat)] = ns (l ++ [i]) := by simp [ns]
section
variable {Q : Value → PH → Prop} {n : Nat} {cl : CL} {h h0 : PH} {S : Vw} {m : OM} {rows : Rws}
theorem loop11i {av vq nv : Value} {ops : List Int} {i : Nat} {P : Nat → Bool} {K : Kt} (ha : SlV S av (zv ops)) (hN : ops.length ≤ 40) (hP : Fol (ops.map om) i P)
    (hk : ∀ h' v' ex', Sl h0 h' S OM.emp (ex' ++ rows) → Gl 1 v' (srt ops.length P).length (ns (srt ops.length P)) ex' → Ret (K [av, vq, nv, .int .i64 (i : Nat), v'] h') Q) :
    ∀ (d q k : Nat) (h : PH) (v : Value) (ex : Rws), ops.length - k ≤ d → d < q → i < k → k ≤ ops.length → (∀ m, i < m → m < k → nl ((ops.map om).getD m 0) = true) → Sl h0 h S OM.emp (ex ++ rows) → Gl 1 v (srt k P).length (ns (srt k P)) ex →
    Ret (lp q (F11_10 n cl K) [av, vq, nv, .int .i64 (i : Nat), v, .int .i64 (k : Nat)] h) Q := by
  have hlen := ha.len
  rw [zv_len] at hlen
  intro d
  induction d with
  | zero =>
    intro q k h v ex h1 h2 h3 h4 h5 st g
    obtain ⟨q, rfl⟩ : ∃ r, q = r + 1 := ⟨q - 1, by omega⟩
    have hk' : k = ops.length := by omega
    subst hk'
    rw [lp_succ]
    have hc0 : decide ((ops.length : Int) < (ops.length : Int)) = false := by simp
    simp only [F11_10, F11_9, ucons_cons, hlen, xLt_i, vb_some, hc0, bite_f]
    exact hk h v ex st g
  | succ d ih =>
    intro q k h v ex h1 h2 h3 h4 h5 st g
    obtain ⟨q, rfl⟩ : ∃ r, q = r + 1 := ⟨q - 1, by omega⟩
    by_cases hlt : k < ops.length
    · rw [lp_succ]
      generalize hL : lp q (F11_10 n cl K) = LL
      have hc0 : decide ((k : Int) < (ops.length : Int)) = true := by simp; omega
      have hPk : P k = true := (hP k).2 (.inr ⟨h3, by simpa using hlt, h5⟩)
      simp only [F11_10, F11_9, ucons_cons, hlen, xLt_i, vb_some, hc0, bite_t, F11_8]
      refine Ret.gapp st g bs28 ai28 rfl rfl (sz_le (c := 40) (by have := srt_len (N := k) (P := P); omega) (by decide)) fun h' v' ex' st' g' => ?_
      have e : srt (k + 1) P = srt k P ++ [k] := by show (List.range (k + 1)).filter P = _; rw [srt_next (N := 0), hPk]; rfl
      have g' : Gl 1 v' (srt (k + 1) P).length (ns (srt (k + 1) P)) ex' := by
        rw [e, ← ns_snoc]; simpa using g'
      have hx := List.getElem?_eq_getElem hlt
      have hD : (ops.map om).getD k 0 = om ops[k] := by simp [List.getD_eq_getElem?_getD, hx]
      obtain ⟨b1, o1, cs1, e1, e2, e3⟩ := ha.at (k := .i64) (zv_get hx)
      have l1 := st'.ldS e2 e3
      generalize ops[k] = z at hx hD l1
      have hw : IntKind.i64.wrap ((k : Int) + 1) = (k : Int) + 1 := by rw [wrap_in (by omega) (by omega)]
      have go : nl (om z) = true → Ret (LL [av, vq, nv, .int .i64 (i : Nat), v', .int .i64 ((k + 1 : Nat) : Int)] h') Q := by
        intro hz
        rw [← hL]
        refine ih q (k + 1) h' v' ex' (by omega) (by omega) (by omega) (by omega) (fun m q1 q2 => ?_) st' g'
        by_cases hm : m = k
        · subst hm; rw [hD]; exact hz
        · exact h5 m q1 (by omega)
      have stop : nl (om z) = false → Ret (K [av, vq, nv, .int .i64 (i : Nat), v'] h') Q := by
        intro hz
        have e : srt ops.length P = srt (k + 1) P := by
          refine srt_end (by omega) fun j hj => ?_
          cases hc : P j with
          | false => rfl
          | true =>
            rcases (hP j).1 hc with ⟨q1, _⟩ | ⟨_, _, q3⟩
            · omega
            · have := q3 k h3 (by omega)
              rw [hD, hz] at this; cases this
        exact hk h' v' ex' st' (by rw [e]; exact g')
      have hz4 := om_lt z
      rcases (by omega : om z = 0 ∨ om z = 1 ∨ om z = 2 ∨ om z = 3) with c | c | c | c
      · rw [c] at go stop
        simp [e1, l1, xBit3', c, gd_some']
        exact stop rfl
      · rw [c] at go stop
        simp [e1, l1, xBit3', c, gd_some', F11_7, hw]
        have := go rfl
        rw [Int.natCast_add] at this
        exact this
      · rw [c] at go stop
        simp [e1, l1, xBit3', c, gd_some']
        exact stop rfl
      · rw [c] at go stop
        simp [e1, l1, xBit3', c, gd_some', F11_7, hw]
        have := go rfl
        rw [Int.natCast_add] at this
        exact this
    · exact ih (q + 1) k h v ex (by omega) (by omega) h3 h4 h5 st g
end
end Go.Am

set_option linter.unusedSimpArgs false
set_option linter.unusedVariables false
namespace Go.Am
open Go Go.RowKit Go.Proofs
section
variable {Q : Value → PH → Prop} {n : Nat} {cl : CL} {h h0 : PH} {S : Vw} {m : OM} {rows : Rws}
theorem om_all {ops : List Int} : ∀ o ∈ ops.map om, o < 4 := by
  intro o ho
  obtain ⟨z, _, rfl⟩ := List.mem_map.1 ho
  exact om_lt z
theorem loop11o (hn : 4611686018427387904 ≤ n) {av : Value} {ops : List Int} {x : Nat} {ps : List Value} (ha : SlV S av (zv ops)) (hN : ops.length ≤ 40) (hm : (x, .row .own 1 ps) ∈ rows) (hp : PoV S (poOf (rowRe (ops.map om))) ps) :
    ∀ (d q i : Nat) (h : PH), ops.length - i ≤ d → d < q → i ≤ ops.length → Sl h0 h S OM.emp rows →
    Ret (lp q (F11_18 n cl) [av, .pointer (some ⟨x, 0, none⟩), .bool (((ops.map om).take i).all nl), .int .i64 (i : Nat)] h) fun v _ => v = .bool true := by
  have hlen := ha.len
  rw [zv_len] at hlen
  have hT := told_all (os := ops.map om) om_all
  have hNN : (rowRe (ops.map om)).sets.length = ops.length := by rw [rowRe_sets om_all, List.length_map]
  have hol : (ops.map om).length = ops.length := List.length_map _
  obtain ⟨sv, fv, lv, wv, ws, rfl, a1, a2, a3, a4, a5, a6⟩ := hp
  intro d
  induction d with
  | zero =>
    intro q i h h1 h2 h3 st
    obtain ⟨q, rfl⟩ : ∃ r, q = r + 1 := ⟨q - 1, by omega⟩
    have hi : i = ops.length := by omega
    subst hi
    rw [lp_succ]
    have hc0 : decide ((ops.length : Int) < (ops.length : Int)) = false := by simp
    have l1 : xLd (.pointer (some ⟨x, 1, none⟩)) h = some (.bool ((rowRe (ops.map om)).ev 0).null) := st.ld hm rfl
    simp only [F11_18, F11_17, ucons_cons, hlen, xLt_i, vb_some, hc0, bite_f, F11_16, xFld_p, Nat.zero_add, l1, abeq]
    refine Ret.of ?_
    rw [hT.null, hol]
    simp
  | succ d ih =>
    intro q i h h1 h2 h3 st
    by_cases hlt : i < ops.length
    · obtain ⟨q, rfl⟩ : ∃ r, q = r + 1 := ⟨q - 1, by omega⟩
      rw [lp_succ]
      generalize hL : lp q (F11_18 n cl) = LL
      have hx := List.getElem?_eq_getElem hlt
      have hD : (ops.map om).getD i 0 = om ops[i] := by simp [List.getD_eq_getElem?_getD, hx]
      have htk : (ops.map om).take (i + 1) = (ops.map om).take i ++ [om ops[i]] := by
        rw [List.take_add_one, List.getElem?_map, hx]; rfl
      obtain ⟨b1, o1, cs1, e1, e2, e3⟩ := ha.at (k := .i64) (zv_get hx)
      have l1 := st.ldS e2 e3
      generalize ops[i] = z at hx hD l1 htk e3
      have hc0 : decide ((i : Int) < (ops.length : Int)) = true := by simp; omega
      have hw : IntKind.i64.wrap ((i : Int) + ((1 : Nat) : Int)) = ((i + 1 : Nat) : Int) := by rw [wrap_in (by omega) (by omega)]; omega
      have hFol : Fol (ops.map om) i (((rowRe (ops.map om)).ev 0).fol i) := by
        intro j
        rw [hT.fol]
      generalize hPe : ((rowRe (ops.map om)).ev 0).fol i = P at hFol
      -- behind the list of what should follow
      have tail : ∀ h' v' ex', Sl h0 h' S OM.emp (ex' ++ rows) → Gl 1 v' (srt ops.length P).length (ns (srt ops.length P)) ex' →
          Ret (F11_11 n cl LL [av, .pointer (some ⟨x, 0, none⟩), .bool (((ops.map om).take i).all nl), .int .i64 (i : Nat), v'] h') fun v _ => v = .bool true := by
        intro h' v' ex' st' g
        obtain ⟨S', le, st2, hv'⟩ := Gl.settle st' g
        have hfo : (poOf (rowRe (ops.map om))).follow[i]? = some (srt ops.length P) := by
          unfold poOf
          simp only [hNN]
          rw [List.getElem?_map, List.getElem?_range hlt]
          simp [hPe]
        obtain ⟨w, w1, w2⟩ := a6 i _ hfo
        obtain ⟨b2, o2, cs2, f1, f2, f3⟩ := a4.at (k := .i64) w1
        have l4 : xLd (.pointer (some ⟨x, 4, none⟩)) h' = some wv := st2.ld hm rfl
        have l5 := (st2.weakS le).ldS f2 f3
        have l2 := (st2.weakS le).ldS e2 e3
        have := st2.ok
        have hp := c33 (n := n) (cl := cl) (h := h'.fzn) hn (fun b cs e => st2.leS b cs e) (w2.mono le) hv'.slv (by have := srt_len (N := ops.length) (P := P); omega)
        have fin : ∀ bb, bb = ((((ops.map om).take i).all nl) && nl (om z)) → Ret (LL [av, .pointer (some ⟨x, 0, none⟩), .bool bb, .int .i64 ((i + 1 : Nat) : Int)] h') fun v _ => v = .bool true := by
          intro bb hb
          have e : bb = ((ops.map om).take (i + 1)).all nl := by rw [htk, List.all_append, hb]; simp
          rw [e, ← hL]
          exact ih q (i + 1) h' (by omega) (by omega) (by omega) (st2.weakS le)
        generalize ((ops.map om).take i).all nl = nb at fin ⊢
        have hz4 := om_lt z
        have hw' : IntKind.i64.wrap ((i : Int) + 1) = (i : Int) + 1 := by rw [wrap_in (by omega) (by omega)]
        simp only [F11_11, F11_6, ucons_cons, xFld_p, Nat.zero_add, l4, vb_some, f1, l5, hp, xNot_b, Bool.not_true, bite_f, F11_5]
        rcases (by omega : om z = 0 ∨ om z = 1 ∨ om z = 2 ∨ om z = 3) with c | c | c | c <;> rw [c] at fin <;> cases nb <;>
          · have := fin _ rfl
            simp [nl] at this
            simp [e1, l2, xBit3', c, gd_some', hw']
            exact this
      have mid : ∀ h' v' ex', Sl h0 h' S OM.emp (ex' ++ rows) → Gl 1 v' (srt (i + 1) P).length (ns (srt (i + 1) P)) ex' →
          Ret (F11_14 n cl LL [av, .pointer (some ⟨x, 0, none⟩), .bool (((ops.map om).take i).all nl), .int .i64 (i : Nat), v'] h') fun v _ => v = .bool true := by
        intro h' v' ex' st' g
        simp only [F11_14, ucons_cons, jn_eq, F11_12, vN_eq, xAdd_i, hw, vb_some]
        exact loop11i ha hN hFol tail ops.length n (i + 1) h' v' ex' (by omega) (by omega) (by omega) (by omega) (fun m q1 q2 => by omega) st' g
      have hlow : srt i P = [] := by
        unfold srt
        rw [List.filter_eq_nil_iff]
        intro j hj hc
        have hj : j < i := by simpa using hj
        rcases (hFol j).1 hc with ⟨q1, _⟩ | ⟨q1, _⟩ <;> omega
      have hsrt : srt (i + 1) P = if P i = true then [i] else [] := by
        show (List.range (i + 1)).filter P = _
        rw [srt_next (N := 0)]
        show srt i P ++ _ = _
        rw [hlow]; rfl
      have hPi : P i = rp (om z) := by
        rw [Bool.eq_iff_iff, hFol i, hol, hD]
        constructor
        · rintro (⟨_, _, q⟩ | ⟨q, _⟩)
          · exact q
          · omega
        · intro q; exact .inl ⟨rfl, hlt, q⟩
      rw [hPi] at hsrt
      simp only [F11_18, F11_17, ucons_cons, hlen, xLt_i, vb_some, hc0, bite_t, jn_eq, F11_15]
      generalize (((ops.map om).take i).all nl) = nb at mid ⊢
      have yes : rp (om z) = true → Ret (F11_13 n cl (.int .i64 (i : Nat)) (F11_14 n cl LL) av (.pointer (some ⟨x, 0, none⟩)) (.bool nb) h) fun v _ => v = .bool true := by
        intro hr
        unfold F11_13
        refine Ret.gapp (ex := []) st Gl.nil bs28 ai28 rfl rfl (by decide) fun h' v' ex' st' g' => ?_
        refine mid h' v' ex' st' ?_
        rw [hsrt, if_pos hr]; exact g'
      have no : rp (om z) = false → Ret (F11_14 n cl LL [av, .pointer (some ⟨x, 0, none⟩), .bool nb, .int .i64 (i : Nat), nils] h) fun v _ => v = .bool true := by
        intro hr
        refine mid h nils [] st ?_
        rw [hsrt, if_neg (by rw [hr]; decide)]; exact Gl.nil
      have hz4 := om_lt z
      rcases (by omega : om z = 0 ∨ om z = 1 ∨ om z = 2 ∨ om z = 3) with c | c | c | c
      · rw [c] at no
        simp [e1, l1, xBit3', c, gd_some']
        exact no rfl
      · rw [c] at yes
        simp [e1, l1, xBit3', c, gd_some']
        exact yes rfl
      · rw [c] at yes
        simp [e1, l1, xBit3', c, gd_some']
        exact yes rfl
      · rw [c] at no
        simp [e1, l1, xBit3', c, gd_some']
        exact no rfl
    · exact ih q i h (by omega) (by omega) h3 st
end
end Go.Am

set_option linter.unusedSimpArgs false
set_option linter.unusedVariables false
namespace Go.Am
open Go Go.RowKit Go.Proofs

/-! ### a slice that grows from nothing keeps its cap -/
def Gc (v : Value) : Prop := v = nils ∨ ∃ b k, v = .slice (some ⟨b, 0, none⟩) k openCap
theorem growR_v {sz b k o n : Nat} {kill : Bool} {cs new : List Value} {h h' : PH} {v : Value} (hx : growR sz b k o kill cs new n h = some (v, h')) : ∃ b', v = .slice (some ⟨b', 0, none⟩) n openCap := by
  unfold growR at hx
  split at hx <;> try (cases hx; done)
  split at hx
  · split at hx <;> try (cases hx; done)
    rw [seqN_eq] at hx; cases hx; exact ⟨_, rfl⟩
  · rw [seqN_eq] at hx; cases hx; exact ⟨_, rfl⟩
theorem xApp_gc {ai : Option (Nat × Nat)} {v v' x : Value} {h h' : PH} (g : Gc v) (e : xApp ai v x h = some (v', h')) : Gc v' := by
  unfold xApp at e
  split at e <;> try (cases e; done)
  split at e <;> try (cases e; done)
  split at e <;> try (cases e; done)
  rcases g with rfl | ⟨b, k, rfl⟩
  · simp only [nils] at e
    split at e
    · cases e; exact .inl rfl
    · split at e <;> try (cases e; done)
      split at e <;> try (cases e; done)
      cases e; exact .inr ⟨_, _, rfl⟩
  · simp only at e
    split at e
    · split at e <;> try (cases e; done)
      cases e; exact .inr ⟨_, _, rfl⟩
    · split at e <;> try (cases e; done)
      split at e <;> try (cases e; done)
      split at e <;> try (cases e; done)
      split at e
      · split at e
        · split at e <;> try (cases e; done)
          split at e <;> try (cases e; done)
          exact .inr ⟨_, _, (stayR_ok e).1⟩
        · obtain ⟨_, q⟩ := growR_v e; exact .inr ⟨_, _, q⟩
      · split at e <;> try (cases e; done)
        split at e <;> try (cases e; done)
        split at e <;> try (cases e; done)
        split at e <;> try (cases e; done)
        split at e
        · exact .inr ⟨_, _, (stayR_ok e).1⟩
        · obtain ⟨_, q⟩ := growR_v e; exact .inr ⟨_, _, q⟩
section
variable {Q : Value → PH → Prop} {n : Nat} {cl : CL} {h h0 : PH} {S : Vw} {m : OM} {rows : Rws} {K2 : Value → PH → R}
/-- What is known of an answer may be used behind it. -/
theorem Ret.know {X : R} {F : Value → Prop} {u : Value} (hF : ∀ v h, X = some (v, h) → F v) (hw : ∀ h, Q u h) (H : ∀ K', (∀ v h, (F v → Ret (K2 v h) Q) → Ret (K' v h) Q) → Ret (Go.Am.hb X K') Q) : Ret (Go.Am.hb X K2) Q := by
  classical
  have := H (fun v h => if F v then K2 v h else some (u, h)) (fun v h a => by
    by_cases f : F v
    · rw [if_pos f]; exact a f
    · rw [if_neg f]; exact Ret.of (hw h))
  cases hX : X with
  | none => rw [hX] at this; exact this
  | some p =>
    obtain ⟨v, h⟩ := p
    rw [hX] at this
    have f := hF v h hX
    have this : Ret (if F v then K2 v h else some (u, h)) Q := this
    rw [if_pos f] at this
    exact this
theorem Ret.gappC {ex : Rws} (s : Sl h0 h S m (ex ++ rows)) {P : Program} {T : TypeId} {ats : Array TypeId} {parts : List (Nat × Value)} {sz bt k : Nat} {v u : Value} {cells new : List Value} (g : Gl sz v k cells ex) (gc : Gc v)
    (hb : bsRow P T 1 parts = some (sz, new)) (ha : appInfo P ats = some (sz, bt)) (hl : new.length = sz) (hone : oneCells new = true) (hsz : (2 * (k + 1) + 512) * bt ≤ 281474976710656) (hw : ∀ h, Q u h)
    (hk : ∀ h' v' ex', Sl h0 h' S m (ex' ++ rows) → Gl sz v' (k + 1) (cells ++ new) ex' → Gc v' → Ret (K2 v' h') Q) : Ret (Go.Am.hb (xBS 1 (bsRow P T 1 parts) h) fun v1 h => Go.Am.hb (xApp (appInfo P ats) v v1 h) K2) Q := by
  refine Ret.lbs s hb fun h1 b st => ?_
  have st1 := st.perm (rows' := ex ++ (b, .row .own sz new) :: rows) List.perm_middle.symm
  have hx := st1.ptail (n := 1) (sz := sz) (c := 1) (b := b) (List.mem_append_right _ (.head _)) (by rw [hl, Nat.one_mul])
  rw [ha]
  refine Ret.know (F := Gc) (fun v h e => xApp_gc gc e) hw fun K' hK' => ?_
  refine Ret.lapp st1 g hx (by rw [hl, Nat.one_mul]) (by omega) hone hsz fun h' v' ex' st' g' => ?_
  exact hK' _ _ fun gc' => hk h' v' ex' (st'.drop (List.Sublist.append (List.Sublist.refl _) (List.sublist_cons_self _ _))) g' gc'
theorem KidsC.more {V : Vw} : ∀ {ks : List Re} {cs : List Value} (k : Nat), KidsC V ks (cs.take k) → ks.length * 6 ≤ k → KidsC V ks cs
  | [], cs, k, h, _ => by simp [KidsC]
  | x :: ks, cs, k, h, hk => by
    unfold KidsC at h ⊢
    have hk : (ks.length + 1) * 6 ≤ k := hk
    rw [List.take_take, Nat.min_eq_left (by omega), List.drop_take] at h
    exact ⟨h.1, KidsC.more (k - 6) h.2 (by omega)⟩
theorem SlC.kids {V : Vw} {ks : List Re} {v : Value} {k : Nat} {cells : List Value} (r : SlC V 6 v k cells) (gc : Gc v) (hk : ks.length = k) (hk' : k ≤ 4611686018427387904) (hc : KidsC V ks cells) : KidsV V ks v := by
  rcases r with ⟨rfl, rfl, a, c, rfl⟩ | ⟨b, o, c, cs, rfl, h1, h2, rfl⟩
  · have hks : ks = [] := List.eq_nil_of_length_eq_zero hk
    subst hks
    rcases gc with e | ⟨b, k, e⟩
    · cases e; exact .inl ⟨rfl, none, 0, rfl, CapOk.self (by omega), rfl⟩
    · cases e; exact .inl ⟨rfl, _, _, rfl, CapOk.opn (by omega), rfl⟩
  · rcases gc with e | ⟨b, k, e⟩
    · cases e
    · cases e
      subst hk
      exact .inr ⟨b, 0, openCap, cs, rfl, CapOk.opn hk', h1, h2, KidsC.more _ hc (Nat.le_refl _)⟩
end
end Go.Am

set_option linter.unusedSimpArgs false
set_option linter.unusedVariables false
namespace Go.Am
open Go Go.RowKit Go.Proofs
theorem xBitN {z : Int} : xBit Nat.land (.int .i64 z) (.int .i64 ((3 : Nat) : Int)) = some (.int .i64 (om z : Nat)) := by
  have := xBit3 (z := z)
  rw [vN_eq] at this; exact this
theorem ai55 : appInfo Try.prog #[55, 55] = some (6, 64) := by kernel_rfl
theorem KidsC.snoc' {V : Vw} {x : Re} {es : List Value} (hx : ReE V x es) : ∀ {ks : List Re} {cs : List Value}, KidsC V ks cs → cs.length = ks.length * 6 → KidsC V (ks ++ [x]) (cs ++ es)
  | [], cs, _, hl => by
    have : cs = [] := List.eq_nil_of_length_eq_zero (by simpa using hl)
    subst this
    rw [List.nil_append, List.nil_append]
    unfold KidsC
    have := hx.len
    rw [List.take_of_length_le (by omega)]
    exact ⟨hx, by unfold KidsC; trivial⟩
  | k :: ks, cs, h, hl => by
    unfold KidsC at h
    rw [List.cons_append]
    unfold KidsC
    have hl : cs.length = (ks.length + 1) * 6 := hl
    rw [List.take_append_of_le_length (by omega), List.drop_append_of_le_length (by omega)]
    exact ⟨h.1, KidsC.snoc' hx h.2 (by simp; omega)⟩
section
variable {n : Nat} {cl : CL} {h h0 : PH} {S : Vw} {m : OM} {rows : Rws}
/-- Behind the pattern that was made. -/
theorem end11 (hn : 4611686018427387904 ≤ n) {av : Value} {ops : List Int} {x : Nat} {es : List Value} (ha : SlV S av (zv ops)) (hN : ops.length ≤ 40) (st : Sl h0 h S OM.emp [(x, .row .own 1 es)]) (he : ReE S (rowRe (ops.map om)) es) :
    Ret (F11_19 n (CLT n 300) (.pointer (some ⟨x, 0, none⟩)) av h) fun v _ => v = .bool true := by
  have hes := he.len
  have la : xLdA 6 (.pointer (some ⟨x, 0, none⟩)) h = some (.agg ⟨es⟩) := st.ldA (.head _) (by rw [List.drop_zero, ← hes, List.take_length]) (by omega)
  have hNN : (rowRe (ops.map om)).sets.length = ops.length := by rw [rowRe_sets om_all, List.length_map]
  have hd := rowRe_deep (os := ops.map om) om_all
  have hsz := rowRe_size (ops.map om)
  rw [List.length_map] at hsz
  simp only [F11_19, la, vb_some]
  refine Ret.hb (c26 hn (fun v h => clt50) (fun u v h => clt51) (by omega) (by omega) st he) fun v h1 ⟨S1, ps, e, le, st1, hv, hq⟩ => ?_
  subst hv
  obtain ⟨rfl, hp⟩ : e = 0 ∧ PoV S1 (poOf (rowRe (ops.map om))) ps := by
    rcases hq with h | h | h
    · omega
    · omega
    · exact h.2.2
  have hps := hp.ps
  simp only [xExt_t', List.getElem?_cons_zero, List.getElem?_cons_succ, vb_some]
  refine Ret.lalloc st1 zc43 fun h2 b2 st2 => ?_
  refine Ret.lstA st2 0 rfl rfl hps.1 (by simp) hps.2 fun h3 st3 => ?_
  rw [setsL_all (by rw [hps.1]; rfl)] at st3
  have st3 : Sl h0 h3 S1 OM.emp [(b2, .row .own 1 ps), (x, .row .own 1 es)] := st3
  have hlo := loop11o (cl := CLT n 300) hn (ha.mono le) hN (.head _) hp ops.length n 0 h3 (by omega) (by omega) (by omega) st3
  obtain ⟨sv, fv, lv, wv, ws, rfl, a1, a2, a3, a4, a5, a6⟩ := hp
  have l0 : xLd (.pointer (some ⟨b2, 0, none⟩)) h3 = some sv := st3.ld (.head _) rfl
  have l4 : xLd (.pointer (some ⟨b2, 4, none⟩)) h3 = some wv := st3.ld (.head _) rfl
  have e1 : xLenS sv = some (.int .i64 ops.length) := by
    have := a1.len
    rw [this]
    show some (Value.int .i64 (((rowRe (ops.map om)).sets.length : Nat) : Int)) = _
    rw [hNN]
  have e4 : xLenS wv = some (.int .i64 ops.length) := by
    have := a4.len
    rw [this, a5]
    show some (Value.int .i64 ((((List.range (rowRe (ops.map om)).sets.length).map fun i => srt (rowRe (ops.map om)).sets.length (((rowRe (ops.map om)).ev 0).fol i)).length : Nat) : Int)) = _
    rw [List.length_map, List.length_range, hNN]
  have hlen := ha.len
  rw [zv_len] at hlen
  simp [c29, gd_some', l0, e1, hlen, l4, e4]
  simpa using hlo
theorem loop11b (hn : 4611686018427387904 ≤ n) {av : Value} {ops : List Int} {x : Nat} {S0 : Vw} (ha : SlV S0 av (zv ops)) (hN : ops.length ≤ 40) :
    ∀ (d q i : Nat) (S : Vw) (h : PH) (v : Value) (cells : List Value) (ex : Rws), ops.length - i ≤ d → d < q → i ≤ ops.length → Vw.le S0 S → Sl h0 h S OM.emp (ex ++ [(x, .row .own 1 [.int .i64 2, .int .u64 0, .int .u64 0, .int .u64 0, .int .u64 0, v])]) → Gl 6 v i cells ex → Gc v →
      KidsC S (((ops.map om).take i).map kidOf) cells →
    Ret (lp q (F11_21 n (CLT n 300)) [av, .pointer (some ⟨x, 0, none⟩), .int .i64 (i : Nat)] h) fun v _ => v = .bool true := by
  have hlen := ha.len
  rw [zv_len] at hlen
  intro d
  induction d with
  | zero =>
    intro q i S h v cells ex h1 h2 h3 leS st g gc hk
    obtain ⟨q, rfl⟩ : ∃ r, q = r + 1 := ⟨q - 1, by omega⟩
    have hi : i = ops.length := by omega
    subst hi
    rw [lp_succ]
    have hc0 : decide ((ops.length : Int) < (ops.length : Int)) = false := by simp
    simp only [F11_21, F11_20, ucons_cons, hlen, xLt_i, vb_some, hc0, bite_f]
    obtain ⟨S', le, st2, hv⟩ := Gl.settle st g
    rw [List.take_of_length_le (by simp)] at hk
    refine end11 hn ((ha.mono leS).mono le) hN st2 ?_
    refine ReE_mk.2 ⟨v, rfl, rfl, ?_⟩
    exact hv.kids gc (by simp) (by omega) (KidsC.mono le hk)
  | succ d ih =>
    intro q i S h v cells ex h1 h2 h3 leS st g gc hk
    by_cases hlt : i < ops.length
    · obtain ⟨q, rfl⟩ : ∃ r, q = r + 1 := ⟨q - 1, by omega⟩
      rw [lp_succ]
      generalize hL : lp q (F11_21 n (CLT n 300)) = LL
      have hx := List.getElem?_eq_getElem hlt
      obtain ⟨b1, o1, cs1, e1, e2, e3⟩ := ha.at (k := .i64) (zv_get hx)
      have htk : (ops.map om).take (i + 1) = (ops.map om).take i ++ [om ops[i]] := by
        rw [List.take_add_one, List.getElem?_map, hx]; rfl
      generalize ops[i] = z at hx e3 htk
      have hc0 : decide ((i : Int) < (ops.length : Int)) = true := by simp; omega
      have hw : IntKind.i64.wrap ((i : Int) + ((1 : Nat) : Int)) = ((i + 1 : Nat) : Int) := by rw [wrap_in (by omega) (by omega)]; omega
      have glen := g.length
      simp only [F11_21, F11_20, ucons_cons, hlen, xLt_i, vb_some, hc0, bite_t, F11_4, vN_eq]
      refine Ret.vb ab57 ?_
      refine Ret.lalloc st zc57 fun h2 y st2 => ?_
      refine Ret.lstA st2 0 rfl rfl rfl (by simp) rfl fun h3 st3 => ?_
      have st3 : Sl h0 h3 S OM.emp ((y, .row .own 1 [.int .i64 1, .int .u64 0, .int .u64 0, .int .u64 0, .int .u64 0, nils]) :: (ex ++ [(x, .row .own 1 [.int .i64 2, .int .u64 0, .int .u64 0, .int .u64 0, .int .u64 0, v])])) := st3
      -- the part is made: append it
      have tail : ∀ (S' : Vw) (h' : PH) (a : Int) (kv : Value), Vw.le S S' → kv.oneCell' = true → Sl h0 h' S' OM.emp ((y, .row .own 1 [.int .i64 a, .int .u64 0, .int .u64 0, .int .u64 0, .int .u64 0, kv]) :: (ex ++ [(x, .row .own 1 [.int .i64 2, .int .u64 0, .int .u64 0, .int .u64 0, .int .u64 0, v])])) →
          ReE S' (kidOf (om z)) [.int .i64 a, .int .u64 0, .int .u64 0, .int .u64 0, .int .u64 0, kv] →
          Ret (F11_2 n (CLT n 300) LL [av, .pointer (some ⟨x, 0, none⟩), .int .i64 (i : Nat), .pointer (some ⟨y, 0, none⟩)] h') fun v _ => v = .bool true := by
        intro S' h' a kv le hone st' he
        have lx : xLd (.pointer (some ⟨x, 5, none⟩)) h' = some v := st'.ld (.tail _ (List.mem_append_right _ (.head _))) rfl
        have ly : xLdA 6 (.pointer (some ⟨y, 0, none⟩)) h' = some (.agg ⟨[.int .i64 a, .int .u64 0, .int .u64 0, .int .u64 0, .int .u64 0, kv]⟩) := st'.ldA (.head _) rfl (by simp)
        simp only [F11_2, ucons_cons, F11_0, xFld_p, Nat.zero_add, lx, ly, vb_some]
        have st4 := st'.perm (rows' := ex ++ [(y, .row .own 1 [.int .i64 a, .int .u64 0, .int .u64 0, .int .u64 0, .int .u64 0, kv]), (x, .row .own 1 [.int .i64 2, .int .u64 0, .int .u64 0, .int .u64 0, .int .u64 0, v])]) List.perm_middle.symm
        refine Ret.gappC st4 g gc (bs57 hone) ai55 rfl (by unfold oneCells; simp only [List.all_cons, List.all_nil, hone]; rfl) (sz_le (c := 40) (by omega) (by decide)) (u := .bool true) (fun _ => rfl) fun h5 v' ex' st5 g' gc' => ?_
        have st6 := (st5.perm (rows' := (x, .row .own 1 [.int .i64 2, .int .u64 0, .int .u64 0, .int .u64 0, .int .u64 0, v]) :: (ex' ++ [(y, .row .own 1 [.int .i64 a, .int .u64 0, .int .u64 0, .int .u64 0, .int .u64 0, kv])])) (by
          refine List.Perm.trans (l₂ := ex' ++ ((x, .row .own 1 [.int .i64 2, .int .u64 0, .int .u64 0, .int .u64 0, .int .u64 0, v]) :: [(y, .row .own 1 [.int .i64 a, .int .u64 0, .int .u64 0, .int .u64 0, .int .u64 0, kv])])) ?_ List.perm_middle
          exact List.Perm.append_left _ (List.Perm.swap _ _ _))).drop (rows' := (x, .row .own 1 [.int .i64 2, .int .u64 0, .int .u64 0, .int .u64 0, .int .u64 0, v]) :: ex') (.cons_cons _ (List.sublist_append_left _ _))
        refine Ret.lst1 st6 0 rfl rfl (by simp) g'.one fun h7 st7 => ?_
        have st7 : Sl h0 h7 S' OM.emp ([(x, .row .own 1 [.int .i64 2, .int .u64 0, .int .u64 0, .int .u64 0, .int .u64 0, v'])] ++ ex') := st7
        have st8 := st7.perm (rows' := ex' ++ [(x, .row .own 1 [.int .i64 2, .int .u64 0, .int .u64 0, .int .u64 0, .int .u64 0, v'])]) List.perm_append_comm
        simp only [vN_eq, xAdd_i, hw, vb_some]
        rw [← hL]
        refine ih q (i + 1) S' h7 v' _ ex' (by omega) (by omega) (by omega) (leS.trans le) st8 g' gc' ?_
        rw [htk, List.map_append, List.map_cons, List.map_nil]
        refine KidsC.snoc' he (KidsC.mono le hk) ?_
        rw [glen, List.length_map, List.length_take, List.length_map, Nat.min_eq_left (by omega)]
      have l1 := (st3.weakS leS).ldS e2 e3
      have hz4 := om_lt z
      simp only [jn_eq, F11_3, e1, l1, xBitN, vb_some, vN_eq, xGt_i]
      by_cases hz : om z = 0
      · have d0 : decide (((0 : Nat) : Int) < ((om z : Nat) : Int)) = false := by rw [hz]; rfl
        simp only [d0, bite_f]
        refine tail S h3 1 nils (Vw.le.refl _) rfl st3 ?_
        rw [hz]; exact leafE
      · have d0 : decide (((0 : Nat) : Int) < ((om z : Nat) : Int)) = true := by simp; omega
        have w1 : IntKind.i64.wrap (((4 : Nat) : Int) + ((om z : Nat) : Int)) = ((4 + om z : Nat) : Int) := by rw [wrap_in (by omega) (by omega)]; omega
        have w2 : IntKind.i64.wrap (((4 + om z : Nat) : Int) - ((1 : Nat) : Int)) = ((3 + om z : Nat) : Int) := by rw [wrap_in (by omega) (by omega)]; omega
        have ly : xLdA 6 (.pointer (some ⟨y, 0, none⟩)) h3 = some (.agg ⟨[.int .i64 1, .int .u64 0, .int .u64 0, .int .u64 0, .int .u64 0, nils]⟩) := st3.ldA (.head _) rfl (by simp)
        simp only [d0, bite_t, F11_1, e1, l1, xBitN, vb_some, vN_eq, xAdd_i, xSub_i, w1, w2, ly]
        refine Ret.lbs st3 (bs57 rfl) fun h4 b st4 => ?_
        obtain ⟨st5, hSb⟩ := st4.settle (i := 0) rfl
        have st5 : Sl h0 h4 (S.put b [.int .i64 1, .int .u64 0, .int .u64 0, .int .u64 0, .int .u64 0, nils]) OM.emp ((y, .row .own 1 [.int .i64 1, .int .u64 0, .int .u64 0, .int .u64 0, .int .u64 0, nils]) :: (ex ++ [(x, .row .own 1 [.int .i64 2, .int .u64 0, .int .u64 0, .int .u64 0, .int .u64 0, v])])) := st5
        refine Ret.vb ab57' ?_
        refine Ret.lstA st5 0 rfl rfl rfl (by simp) rfl fun h6 st6 => ?_
        refine tail _ h6 ((3 + om z : Nat) : Int) (.slice (some ⟨b, 0, none⟩) 1 1) (Vw.le_put hSb) rfl st6 ?_
        have : kidOf (om z) = .mk ((3 + om z : Nat) : Int) zs4 [leaf1] := by unfold kidOf; rw [if_neg hz]
        rw [this]
        refine ReE_mk.2 ⟨_, rfl, rfl, .inr ⟨b, 0, 1, _, rfl, CapOk.self (by decide), Vw.put_self, by simp, ?_⟩⟩
        unfold KidsC
        exact ⟨leafE, by unfold KidsC; trivial⟩
    · exact ih q i S h v cells ex (by omega) (by omega) h3 leS st g gc hk
theorem law11 [OkH h] (hn : 4611686018427387904 ≤ n) {av : Value} {ops : List Int} (hS : Vw.le S h.cells) (ha : SlV S av (zv ops)) (hmx : ops.length < 9223372036854775808) : Ret (F11 n (CLT n 300) av h) fun v _ => v = .bool true := by
  have hlen := ha.len
  rw [zv_len] at hlen
  unfold F11
  simp only [told24, vb_some, xNot_b, Bool.not_true, isB_f, Bool.not_false, gd_true, hlen, vN_eq, xLt_i, xPick_f]
  by_cases c1 : ops.length < 2
  · have d1 : decide ((ops.length : Int) < ((2 : Nat) : Int)) = true := by simp; omega
    have g1 : ∀ o : Option Value, gd (!decide ((ops.length : Int) < ((2 : Nat) : Int))) o = some undef := fun o => by rw [d1]; rfl
    simp only [gd_true, vb_some, xPick_f, d1, Bool.not_true, gd_false, tt_eq, xPick_t, bite_t]
    exact Ret.of rfl
  by_cases c2 : 40 < ops.length
  · have d1 : decide ((ops.length : Int) < ((2 : Nat) : Int)) = false := by simp; omega
    have d2 : decide (((40 : Nat) : Int) < (ops.length : Int)) = true := by simp; omega
    simp only [gd_true, vb_some, xPick_f, d1, Bool.not_false, if_true, hlen, xGt_i, d2, bite_t]
    exact Ret.of rfl
  have d1 : decide ((ops.length : Int) < ((2 : Nat) : Int)) = false := by simp; omega
  have d2 : decide (((40 : Nat) : Int) < (ops.length : Int)) = false := by simp; omega
  simp only [gd_true, vb_some, xPick_f, d1, Bool.not_false, if_true, hlen, xGt_i, d2, bite_f, F11_22, vN_eq]
  refine Ret.vb ab57 ?_
  refine Ret.lalloc (Sl.start h hS) zc57 fun h1 b st => ?_
  refine Ret.lstA st 0 rfl rfl rfl (by simp) rfl fun h2 st2 => ?_
  have st2 : Sl h h2 S OM.emp ([] ++ [(b, .row .own 1 [.int .i64 2, .int .u64 0, .int .u64 0, .int .u64 0, .int .u64 0, nils])]) := st2
  exact loop11b hn ha (by omega) ops.length n 0 S h2 nils [] [] (by omega) (by omega) (by omega) (Vw.le.refl _) st2 Gl.nil (.inl rfl) (by simp [KidsC])
end
end Go.Am
