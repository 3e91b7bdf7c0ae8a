import Derived.Test.YtjomodhbneicmaaZC
set_option linter.unusedVariables false
namespace Go.Am
open Go Go.RowKit Go.Proofs
theorem alive_run : isT (F24 300 (CLV 300 30) h00) = true := by kernel_rfl
/-- What is told of a function without arguments, once and for all; the others as b tells. -/
noncomputable def toldOr (f : FuncId) (v : Value) (b : CL) : CL := fun g xs h => sw g f (u0 xs (some (v, h))) (b g xs h)
theorem toldOr_ok {P : Program} {f : FuncId} {v : Value} {b : CL} (hb : OkCL P b) (he : enterable P f = true) (hv : plainV v = true) (hc : ACall P f [] [] (fun u _ => u = v)) : OkCL P (toldOr f v b) := by
  intro g xs h v' h' hx
  unfold toldOr at hx
  rcases sw_ok hx with ⟨rfl, hx1⟩ | hx1
  · obtain ⟨rfl, hx2⟩ := u0_ok hx1
    cases hx2
    refine ⟨⟨he, ?_⟩, Inv.refl _⟩
    intro B w0 ρ rargs w hr hv2
    cases hv2
    refine (hc w.heap.size w (fun _ => none) [] w (rel0 w) .nil).mono ?_
    rintro e w' ⟨u, u', k, ρ', rfl, rfl, hl, hr', hvr⟩
    exact ⟨_, u', h.abs, ρ, rfl, ⟨rfl, rfl⟩, ρ.le_refl, hr.thaw hr', by rw [hvr.plain_eq hv]; exact VR.plain hv⟩
  · exact hb _ _ _ _ _ hx1
noncomputable def CLT (n d : Nat) : CL := toldOr 24 (.bool true) (CLV n d)
theorem CLT_ok (n d : Nat) : OkCL Try.prog (CLT n d) := by
  obtain ⟨k, hk⟩ := isT_ok alive_run
  have := S24 (CLV_ok _ _) hk
  refine toldOr_ok (CLV_ok n d) this.1.1 rfl ?_
  have hc := this.1.2
  have h0 : h00.abs = [] := rfl
  rw [h0] at hc
  exact hc.mono fun u k hq => hq.1
theorem told24 {n d : Nat} {h : PH} : pcall (CLT n d 24 [] h) = some (.bool true) := rfl
theorem clt50 {n d : Nat} {v : Value} {h : PH} : CLT n d 50 [v] h = CLV n d 50 [v] h := rfl
theorem clt51 {n d : Nat} {u v : Value} {h : PH} : CLT n d 51 [u, v] h = CLV n d 51 [u, v] h := rfl
theorem c29 {n : Nat} {cl : CL} {k : IntKind} {z : Int} {h : PH} : pcall (F29 n cl (.int k z) h) = some (.int k z) := rfl
theorem abeq {o1 o2 : Operand} {a b : Bool} : abin Try.prog .eql 4 o1 o2 (.bool a) (.bool b) = some (.bool (a == b)) := by cases a <;> cases b <;> kernel_rfl
end Go.Am

set_option linter.unusedSimpArgs false
set_option linter.unusedVariables false
namespace Go.Am
open Go Go.RowKit Go.Proofs
def zs4 : List Int := [0, 0, 0, 0]
def leaf1 : Re := .mk 1 zs4 []
def nest : Nat → Re
  | 0 => leaf1
  | i + 1 => .mk 6 zs4 [nest i]
theorem nest_sets : ∀ i, (nest i).sets.length = 1
  | 0 => rfl
  | i + 1 => by
    rw [nest, Re.sets_looked]
    simp [looked, reSets, nest_sets i]
theorem nest_deep : ∀ i, (nest i).deep = i + 1
  | 0 => rfl
  | i + 1 => by
    rw [nest, Re.deep_looked]
    simp [looked, deepL, nest_deep i]
theorem nest_size : ∀ i, (nest i).size = i + 1
  | 0 => rfl
  | i + 1 => by
    rw [nest]
    unfold Re.size
    simp [sizeL, nest_size i]
def flat (k : Nat) : Re := .mk 2 zs4 (List.replicate k leaf1)
theorem flat_sets (k : Nat) : (flat k).sets.length = k := by
  rw [flat, Re.sets_looked]
  simp only [looked]
  have : ∀ k, (reSets (List.replicate k leaf1)).length = k := by
    intro k
    induction k with
    | zero => rfl
    | succ k ih => rw [List.replicate_succ]; unfold reSets; rw [List.length_append, ih]; show 1 + k = k + 1; omega
  simpa using this k
theorem flat_deep {k : Nat} (hk : 1 ≤ k) : (flat k).deep = 2 := by
  rw [flat, Re.deep_looked]
  simp only [looked]
  have : ∀ k, deepL (List.replicate (k + 1) leaf1) = 1 := by
    intro k
    induction k with
    | zero => rfl
    | succ k ih => rw [List.replicate_succ]; unfold deepL; rw [ih]; rfl
  obtain ⟨j, rfl⟩ : ∃ j, k = j + 1 := ⟨k - 1, by omega⟩
  simpa using this j
theorem flat_size (k : Nat) : (flat k).size = k + 1 := by
  rw [flat]
  unfold Re.size
  have : ∀ k, sizeL (List.replicate k leaf1) = k := by
    intro k
    induction k with
    | zero => rfl
    | succ k ih => rw [List.replicate_succ]; unfold sizeL; rw [ih]; show 1 + k = k + 1; omega
  rw [this]
theorem bs57 {a : Int} {s0 s1 s2 s3 : Int} {v : Value} (hv : v.oneCell' = true) : bsRow Try.prog 55 1 [(0, .agg ⟨[.int .i64 a, .int .u64 s0, .int .u64 s1, .int .u64 s2, .int .u64 s3, v]⟩)] = some (6, [.int .i64 a, .int .u64 s0, .int .u64 s1, .int .u64 s2, .int .u64 s3, v]) := by
  cases v <;> first | (simp [Value.oneCell'] at hv; done) | kernel_rfl
theorem ab57 {a : Int} : abuild Try.prog 57 [(0, .int .i64 a)] = some (.agg ⟨[.int .i64 a, .int .u64 0, .int .u64 0, .int .u64 0, .int .u64 0, nils]⟩) := by kernel_rfl
theorem ab57' {a : Int} {b n c : Nat} : abuild Try.prog 57 [(0, .int .i64 a), (2, .slice (some ⟨b, 0, none⟩) n c)] = some (.agg ⟨[.int .i64 a, .int .u64 0, .int .u64 0, .int .u64 0, .int .u64 0, .slice (some ⟨b, 0, none⟩) n c]⟩) := by kernel_rfl
theorem zi55 : zinfo Try.prog 55 = some (6, 64, [.int .i64 0, .int .u64 0, .int .u64 0, .int .u64 0, .int .u64 0, nils]) := by kernel_rfl
section
variable {n : Nat} {cl : CL} {h h0 : PH} {S : Vw} {m : OM} {rows : Rws}
theorem leafE {V : Vw} : ReE V leaf1 [.int .i64 1, .int .u64 0, .int .u64 0, .int .u64 0, .int .u64 0, nils] := by
  refine ReE_mk.2 ⟨nils, rfl, rfl, .inl ⟨rfl, none, 0, rfl, CapOk.self (by omega), rfl⟩⟩
/-- Behind the pattern that was made. -/
theorem end12 (hn : 4611686018427387904 ≤ n) {k : Nat} {deep : Bool} {x : Re} {es : List Value} {b : Nat} (hk : 1 ≤ k ∧ k ≤ 260) (hd : x.deep ≤ 300) (hsz : x.size ≤ 1000) (st : Sl h0 h S OM.emp [(b, .row .own 1 es)]) (he : ReE S x es)
    (hdeep : deep = true → x.sets.length = 1 ∧ x.deep = k) (hflat : deep = false → x.sets.length = k ∧ x.deep = 2) :
    Ret (F12_11 n (CLT n 300) [.int .i64 k, .bool deep, .pointer (some ⟨b, 0, none⟩)] h) fun v _ => v = .bool true := by
  have hes := he.len
  have la : xLdA 6 (.pointer (some ⟨b, 0, none⟩)) h = some (.agg ⟨es⟩) := st.ldA (.head _) (by rw [List.drop_zero, ← hes, List.take_length]) (by omega)
  simp only [F12_11, F12_2, ucons_cons, la, vb_some]
  refine Ret.hb (c26 hn (fun v h => clt50) (fun u v h => clt51) hd (by omega) st he) fun v h1 ⟨S1, ps, e, le, st1, hv, hq⟩ => ?_
  subst hv
  simp only [xExt_t', List.getElem?_cons_zero, List.getElem?_cons_succ, vb_some]
  refine Ret.lalloc st1 zc43 fun h2 b2 st2 => ?_
  have hps : ps.length = 5 ∧ oneCells ps = true := by
    rcases hq with ⟨_, _, rfl⟩ | ⟨_, _, _, rfl⟩ | ⟨_, _, _, q⟩
    · exact ⟨rfl, rfl⟩
    · exact ⟨rfl, rfl⟩
    · obtain ⟨sv, fv, lv, wv, ws, rfl, q1, q2, q3, q4, _⟩ := q.h
      refine ⟨rfl, ?_⟩
      unfold oneCells
      simp only [List.all_cons, List.all_nil, q1.one, q2.one, q3.one, q4.one]; rfl
  refine Ret.lstA st2 0 rfl rfl hps.1 (by simp) hps.2 fun h3 st3 => ?_
  cases deep with
  | true =>
    obtain ⟨hs, hdp⟩ := hdeep rfl
    rw [hs, hdp] at hq
    simp only [bite_t]
    by_cases c : k ≤ 200
    · have he : e = 0 := by rcases hq with h | h | h <;> omega
      subst he
      have d1 : (k : Int) ≤ 200 := by omega
      simp [F12_0, c29, abeq, gd_some', c, d1]
      exact Ret.of rfl
    · have he : e = 4 := by rcases hq with h | h | h <;> omega
      subst he
      have d1 : ¬ (k : Int) ≤ 200 := by omega
      simp [F12_0, c29, abeq, gd_some', c, d1]
      exact Ret.of rfl
  | false =>
    obtain ⟨hs, hdp⟩ := hflat rfl
    rw [hs, hdp] at hq
    simp only [bite_f]
    by_cases c : k ≤ 150
    · have he : e = 0 := by rcases hq with h | h | h <;> omega
      subst he
      have d1 : (k : Int) ≤ 150 := by omega
      simp [F12_1, c29, abeq, gd_some', c, d1]
      exact Ret.of rfl
    · have he : e = 3 := by rcases hq with h | h | h <;> omega
      subst he
      have d1 : ¬ (k : Int) ≤ 150 := by omega
      simp [F12_1, c29, abeq, gd_some', c, d1]
      exact Ret.of rfl
theorem loop12d (hn : 4611686018427387904 ≤ n) {K b : Nat} (hK : K ≤ 260) : ∀ (k q i : Nat) (S : Vw) (h : PH) (es : List Value), K - i ≤ k → k < q → 1 ≤ i → i ≤ K → Sl h0 h S OM.emp [(b, .row .own 1 es)] → ReE S (nest (i - 1)) es →
    Ret (lp q (F12_5 n (CLT n 300) (F12_11 n (CLT n 300))) [.int .i64 K, .bool true, .pointer (some ⟨b, 0, none⟩), .int .i64 i] h) fun v _ => v = .bool true := by
  intro k
  induction k with
  | zero =>
    intro q i S h es h1 h2 h3 h4 st he
    obtain ⟨q, rfl⟩ : ∃ r, q = r + 1 := ⟨q - 1, by omega⟩
    have hi : i = K := by omega
    subst hi
    rw [lp_succ]
    have hc0 : decide ((i : Int) < (i : Int)) = false := by simp
    simp only [F12_5, F12_4, ucons_cons, xLt_i, vb_some, hc0, bite_f]
    exact end12 hn ⟨h3, hK⟩ (by rw [nest_deep]; omega) (by rw [nest_size]; omega) st he (fun _ => ⟨nest_sets _, by rw [nest_deep]; omega⟩) (fun h => by cases h)
  | succ k ih =>
    intro q i S h es h1 h2 h3 h4 st he
    by_cases hi : i < K
    · obtain ⟨q, rfl⟩ : ∃ r, q = r + 1 := ⟨q - 1, by omega⟩
      rw [lp_succ]
      generalize hL : lp q (F12_5 n (CLT n 300) (F12_11 n (CLT n 300))) = LL
      have hc1 : decide ((i : Int) < (K : Int)) = true := by simp; omega
      have hw2 : IntKind.i64.wrap ((i : Int) + ((1 : Nat) : Int)) = ((i + 1 : Nat) : Int) := by rw [wrap_in (by omega) (by omega)]; omega
      have hes := he.len
      have la : xLdA 6 (.pointer (some ⟨b, 0, none⟩)) h = some (.agg ⟨es⟩) := st.ldA (.head _) (by rw [List.drop_zero, ← hes, List.take_length]) (by omega)
      obtain ⟨op, s, ks, hx⟩ : ∃ op s ks, nest (i - 1) = .mk op s ks := by cases nest (i - 1); exact ⟨_, _, _, rfl⟩
      have he0 := he
      rw [hx] at he
      obtain ⟨kv, he2, hs4, hkv⟩ := ReE_mk.1 he
      obtain ⟨s0, s1, s2, s3, rfl⟩ : ∃ a b c d, s = [a, b, c, d] := by
        match s, hs4 with
        | [a, b, c, d], _ => exact ⟨a, b, c, d, rfl⟩
      subst he2
      simp only [F12_5, F12_4, F12_3, ucons_cons, xLt_i, vb_some, hc1, bite_t, la]
      refine Ret.lbs st (bs57 hkv.one) fun h2 b2 st2 => ?_
      simp only [vN_eq]
      refine Ret.vb ab57' ?_
      refine Ret.lstA st2 1 rfl rfl rfl (by simp [u64s]) rfl fun h3 st3 => ?_
      have st3 : Sl h0 h3 S OM.emp [(b2, .row .own 6 (.int .i64 op :: (u64s [s0, s1, s2, s3] ++ [kv]))), (b, .row .own 1 [.int .i64 6, .int .u64 0, .int .u64 0, .int .u64 0, .int .u64 0, .slice (some ⟨b2, 0, none⟩) 1 1])] := st3
      obtain ⟨st4, hS⟩ := st3.settle (i := 0) rfl
      have le := Vw.le_put (cs := .int .i64 op :: (u64s [s0, s1, s2, s3] ++ [kv])) hS
      simp only [xAdd_i, vb_some, hw2]
      have hne : ReE (S.put b2 (.int .i64 op :: (u64s [s0, s1, s2, s3] ++ [kv]))) (nest (i + 1 - 1)) [.int .i64 6, .int .u64 0, .int .u64 0, .int .u64 0, .int .u64 0, .slice (some ⟨b2, 0, none⟩) 1 1] := by
        have e : nest (i + 1 - 1) = .mk 6 zs4 [nest (i - 1)] := by
          obtain ⟨j, rfl⟩ : ∃ j, i = j + 1 := ⟨i - 1, by omega⟩
          rfl
        rw [e]
        refine ReE_mk.2 ⟨_, rfl, rfl, .inr ⟨b2, 0, 1, _, rfl, CapOk.self (by simp), Vw.put_self, by simp [u64s], ?_⟩⟩
        unfold KidsC
        refine ⟨?_, by unfold KidsC; trivial⟩
        exact he0.mono le
      have := ih q (i + 1) _ h3 _ (by omega) (by omega) (by omega) (by omega) st4 hne
      rw [hL] at this; exact this
    · exact ih q i S h es (by omega) (by omega) h3 h4 st he
/-- The cells of K sets, of which the first i are told. -/
def fk (K i : Nat) : List Value := (List.range (K * 6)).map fun j => if j % 6 = 0 then (if j / 6 < i then .int .i64 1 else .int .i64 0) else if j % 6 = 5 then nils else .int .u64 0
theorem fk_zero {K : Nat} : zrows [.int .i64 0, .int .u64 0, .int .u64 0, .int .u64 0, .int .u64 0, nils] K = fk K 0 := by
  apply List.ext_getElem?
  intro j
  by_cases hj : j < K * 6
  · rw [zrows_get _ _ _ (by simpa using hj)]
    unfold fk
    rw [List.getElem?_map, List.getElem?_range hj]
    have : j % 6 < 6 := Nat.mod_lt _ (by omega)
    show [Value.int .i64 0, .int .u64 0, .int .u64 0, .int .u64 0, .int .u64 0, nils][j % 6]? = _
    match hq : j % 6, this with
    | 0, _ => simp [hq]
    | 1, _ => simp [hq]
    | 2, _ => simp [hq]
    | 3, _ => simp [hq]
    | 4, _ => simp [hq]
    | 5, _ => simp [hq]
  · rw [List.getElem?_eq_none (by rw [zrows_length]; simp; omega), List.getElem?_eq_none (by simp [fk]; omega)]
theorem fk_set {K i : Nat} : (fk K i).set (i * 6) (.int .i64 1) = fk K (i + 1) := by
  apply List.ext_getElem?
  intro j
  rw [List.getElem?_set]
  by_cases hj : j < K * 6
  · have e : ∀ i, (fk K i)[j]? = some (if j % 6 = 0 then (if j / 6 < i then .int .i64 1 else .int .i64 0) else if j % 6 = 5 then nils else .int .u64 0) := fun i => by
      unfold fk
      rw [List.getElem?_map, List.getElem?_range hj]; rfl
    rw [e, e]
    by_cases h1 : i * 6 = j
    · subst h1
      have a1 : i * 6 % 6 = 0 := by omega
      have a2 : i * 6 / 6 < i + 1 := by omega
      rw [if_pos rfl, if_pos (by simp [fk]; omega), if_pos a1, if_pos a2]
    · rw [if_neg h1]
      by_cases h2 : j % 6 = 0
      · rw [if_pos h2, if_pos h2]
        by_cases h3 : j / 6 < i
        · rw [if_pos h3, if_pos (by omega)]
        · rw [if_neg h3, if_neg (by omega)]
      · rw [if_neg h2, if_neg h2]
  · rw [List.getElem?_eq_none (by simp [fk]; omega), List.getElem?_eq_none (l := fk K (i + 1)) (by simp [fk]; omega)]
    split <;> (try split) <;> first | rfl | (rename_i h1 h2; simp [fk] at h2; omega)
theorem fk_kids {V : Vw} {K : Nat} : ∀ (k i : Nat), i + k = K → KidsC V (List.replicate k leaf1) ((fk K K).drop (i * 6))
  | 0, i, h => by simp [KidsC]
  | k + 1, i, h => by
    rw [List.replicate_succ]
    unfold KidsC
    refine ⟨?_, ?_⟩
    · have e : ((fk K K).drop (i * 6)).take 6 = [.int .i64 1, .int .u64 0, .int .u64 0, .int .u64 0, .int .u64 0, nils] := by
        apply List.ext_getElem?
        intro j
        rw [List.getElem?_take]
        by_cases hj : j < 6
        · rw [if_pos hj, List.getElem?_drop]
          unfold fk
          rw [List.getElem?_map, List.getElem?_range (by omega)]
          have h1 : (i * 6 + j) % 6 = j := by omega
          have h2 : (i * 6 + j) / 6 < K := by omega
          show some (if (i * 6 + j) % 6 = 0 then (if (i * 6 + j) / 6 < K then .int .i64 1 else .int .i64 0) else if (i * 6 + j) % 6 = 5 then nils else .int .u64 0) = _
          rw [h1, if_pos h2]
          match j, hj with
          | 0, _ => rfl
          | 1, _ => rfl
          | 2, _ => rfl
          | 3, _ => rfl
          | 4, _ => rfl
          | 5, _ => rfl
        · rw [if_neg hj, List.getElem?_eq_none (by simp; omega)]
      rw [e]; exact leafE
    · have := fk_kids (V := V) (K := K) k (i + 1) (by omega)
      rw [List.drop_drop]
      have e : i * 6 + 6 = (i + 1) * 6 := by omega
      rw [e]; exact this
theorem loop12f (hn : 4611686018427387904 ≤ n) {K b b2 : Nat} (hK : 1 ≤ K ∧ K ≤ 260) (hS : Vw.le S h0.cells) : ∀ (k q i : Nat) (h : PH), K - i ≤ k → k < q → i ≤ K → Sl h0 h S OM.emp [(b2, .row .own 6 (fk K i)), (b, .row .own 1 [.int .i64 2, .int .u64 0, .int .u64 0, .int .u64 0, .int .u64 0, .slice (some ⟨b2, 0, none⟩) K K])] →
    Ret (lp q (F12_9 n (CLT n 300) (F12_11 n (CLT n 300))) [.int .i64 K, .bool false, .pointer (some ⟨b, 0, none⟩), .int .i64 i] h) fun v _ => v = .bool true := by
  intro k
  induction k with
  | zero =>
    intro q i h h1 h2 h3 st
    obtain ⟨q, rfl⟩ : ∃ r, q = r + 1 := ⟨q - 1, by omega⟩
    have hi : i = K := by omega
    subst hi
    rw [lp_succ]
    have hc0 : decide ((i : Int) < (i : Int)) = false := by simp
    simp only [F12_9, F12_8, ucons_cons, xLt_i, vb_some, hc0, bite_f]
    obtain ⟨st4, hS⟩ := st.settle (i := 0) rfl
    refine end12 (x := flat i) hn ⟨hK.1, hK.2⟩ (by rw [flat_deep hK.1]; omega) (by rw [flat_size]; omega) st4 ?_ (fun h => by cases h) (fun _ => ⟨flat_sets i, flat_deep hK.1⟩)
    refine ReE_mk.2 ⟨_, rfl, rfl, .inr ⟨b2, 0, i, _, by rw [List.length_replicate], by rw [List.length_replicate]; exact CapOk.self (by omega), Vw.put_self, by simp [fk], ?_⟩⟩
    have := fk_kids (V := S.put b2 (fk i i)) (K := i) i 0 (by omega)
    simpa using this
  | succ k ih =>
    intro q i h h1 h2 h3 st
    by_cases hi : i < K
    · obtain ⟨q, rfl⟩ : ∃ r, q = r + 1 := ⟨q - 1, by omega⟩
      rw [lp_succ]
      generalize hL : lp q (F12_9 n (CLT n 300) (F12_11 n (CLT n 300))) = LL
      have hc1 : decide ((i : Int) < (K : Int)) = true := by simp; omega
      have hw2 : IntKind.i64.wrap ((i : Int) + ((1 : Nat) : Int)) = ((i + 1 : Nat) : Int) := by rw [wrap_in (by omega) (by omega)]; omega
      have l5 : xLd (.pointer (some ⟨b, 5, none⟩)) h = some (.slice (some ⟨b2, 0, none⟩) K K) := st.ld (.tail _ (.head _)) rfl
      have i1 := xIdxS_at (sz := 6) (b := b2) (o := 0) (n := K) (c := K) (k := .i64) (i := (i : Int)) (by omega) (by omega)
      simp only [Int.toNat_natCast, Nat.zero_add] at i1
      simp only [F12_9, F12_8, F12_7, ucons_cons, xLt_i, vb_some, hc1, bite_t, xFld_p, Nat.zero_add, l5, i1, Nat.add_zero]
      refine Ret.lst1 st 0 rfl rfl (by simp [fk]; omega) rfl fun h3 st3 => ?_
      rw [vN_eq] at st3
      have e1 : (fk K i).set (i * 6) (.int .i64 ((1 : Nat) : Int)) = fk K (i + 1) := fk_set
      rw [e1] at st3
      simp only [vN_eq, xAdd_i, vb_some, hw2]
      have := ih q (i + 1) h3 (by omega) (by omega) (by omega) st3
      rw [hL] at this; exact this
    · exact ih q i h (by omega) (by omega) h3 st
theorem law12 (hn : 4611686018427387904 ≤ n) (a0 : Int) (a1 : Bool) [OkH h] : Ret (F12 n (CLT n 300) (.int .i64 a0) (.bool a1) h) fun v _ => v = .bool true := by
  unfold F12
  simp only [told24, vb_some, xNot_b, Bool.not_true, gd_some', isB_f, isB_t, Bool.not_false, if_true, vN_eq, xLt_i, xGt_i, xPick_f]
  by_cases c1 : a0 < 1
  · have d1 : decide (a0 < ((1 : Nat) : Int)) = true := by simp; omega
    have g1 : ∀ o : Option Value, gd (!decide (a0 < ((1 : Nat) : Int))) o = some undef := fun o => by rw [d1]; rfl
    simp only [gd_true, vb_some, xPick_f, d1, Bool.not_true, gd_false, tt_eq, xPick_t, bite_t]
    exact Ret.of rfl
  by_cases c2 : 260 < a0
  · have d1 : decide (a0 < ((1 : Nat) : Int)) = false := by simp; omega
    have d2 : decide (((260 : Nat) : Int) < a0) = true := by simp; omega
    simp only [gd_true, vb_some, xPick_f, d1, Bool.not_false, if_true, xGt_i, d2, bite_t]
    exact Ret.of rfl
  have d1 : decide (a0 < ((1 : Nat) : Int)) = false := by simp; omega
  have d2 : decide (((260 : Nat) : Int) < a0) = false := by simp; omega
  obtain ⟨K, rfl⟩ : ∃ K : Nat, a0 = K := ⟨a0.toNat, by omega⟩
  simp only [gd_true, vb_some, xPick_f, d1, Bool.not_false, if_true, xGt_i, d2, bite_f, F12_12, vN_eq]
  refine Ret.vb ab57 ?_
  have S0 : Vw.le (fun _ => none) h.cells := fun b cs e => by cases e
  refine Ret.lalloc (Sl.start h S0) zc57 fun h1 b st => ?_
  refine Ret.lstA st 0 rfl rfl rfl (by simp) rfl fun h2 st2 => ?_
  have st2 : Sl h h2 (fun _ => none) OM.emp [(b, .row .own 1 [.int .i64 2, .int .u64 0, .int .u64 0, .int .u64 0, .int .u64 0, nils])] := st2
  cases a1 with
  | true =>
    simp only [jn_eq, bite_t, F12_6, vN_eq]
    refine Ret.vb ab57 ?_
    refine Ret.lstA st2 0 rfl rfl rfl (by simp) rfl fun h3 st3 => ?_
    exact loop12d hn (by omega) K n 1 _ h3 _ (by omega) (by omega) (by omega) (by omega) st3 leafE
  | false =>
    simp only [jn_eq, bite_f, F12_10]
    refine Ret.lmk st2 zi55 (by omega) (by omega) (by omega) (by omega) fun h3 b2 st3 => ?_
    rw [Int.toNat_natCast, fk_zero] at st3
    simp only [xFld_p, Nat.zero_add, vb_some]
    refine Ret.lst1 st3 1 rfl rfl (by simp) rfl fun h4 st4 => ?_
    exact loop12f hn (by omega) S0 K n 0 h4 (by omega) (by omega) (by omega) st4
end
theorem law (a0 : Int) (a1 : Bool) : ∃ k, F12 4611686018427387904 (CLT 4611686018427387904 300) (.int .i64 a0) (.bool a1) h00 = some (.bool true, k) := by
  have : OkH h00 := ⟨Nat.le_refl _, rfl⟩
  obtain ⟨v, h, e, q⟩ := law12 (n := 4611686018427387904) (h := h00) (Nat.le_refl _) a0 a1
  subst q; exact ⟨h, e⟩
end Go.Am
