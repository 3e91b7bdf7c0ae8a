import Derived.Test.YtjomodhbneicmaaZH
import Derived.Test.YtjomodhbneicmaaRows
import Derived.Test.YtjomodhbneicmaaZW
set_option linter.unusedSimpArgs false
set_option linter.unusedVariables false
namespace Go.Am
open Go Go.RowKit Go.Proofs
theorem clt25 {n d : Nat} {v : Value} {h : PH} : CLT n d 25 [v] h = CLV n d 25 [v] h := rfl
theorem clt53 {n d : Nat} {v : Value} {h : PH} : CLT n d 53 [v] h = CLV n d 53 [v] h := rfl
theorem clt54 {n d : Nat} {u v : Value} {h : PH} : CLT n d 54 [u, v] h = CLV n d 54 [u, v] h := rfl
theorem PoV.mono {V W : Vw} {po : Po} {ps : List Value} (hs : Vw.le V W) (h : PoV V po ps) : PoV W po ps := by
  obtain ⟨sv, fv, lv, wv, ws, e, a1, a2, a3, a4, a5, a6⟩ := h
  exact ⟨sv, fv, lv, wv, ws, e, a1.mono hs, a2.mono hs, a3.mono hs, a4.mono hs, a5, fun i l hl => let ⟨w, q1, q2⟩ := a6 i l hl; ⟨w, q1, q2.mono hs⟩⟩
def po0 : Po := ⟨[], false, [], [], []⟩
theorem PoV.zero {V : Vw} : PoV V po0 [nils, .bool false, nils, nils, nils] :=
  ⟨nils, nils, nils, nils, [], rfl, .inl ⟨rfl, rfl, _, _, rfl⟩, .inl ⟨rfl, _, _, rfl⟩, .inl ⟨rfl, _, _, rfl⟩, .inl ⟨rfl, _, _, rfl⟩, rfl, fun i l hl => by simp [po0] at hl⟩
theorem PoV.ps {V : Vw} {po : Po} {ps : List Value} (h : PoV V po ps) : ps.length = 5 ∧ oneCells ps = true := by
  obtain ⟨sv, fv, lv, wv, ws, rfl, q1, q2, q3, q4, _⟩ := h
  refine ⟨rfl, ?_⟩
  unfold oneCells
  simp only [List.all_cons, List.all_nil, q1.one, q2.one, q3.one, q4.one]; rfl
mutual
theorem ReE.s4 {V : Vw} : ∀ {x : Re} {es : List Value}, ReE V x es → ∀ s ∈ x.sets, s.length = 4
  | .mk op s ks, es, h => by
    obtain ⟨kv, _, hs, hk⟩ := ReE_mk.1 h
    rw [Re.sets_looked]
    split
    · intro t ht; simp at ht; subst ht; exact hs
    · have key : ∀ s ∈ reSets ks, s.length = 4 := by
        rcases hk with ⟨rfl, _⟩ | ⟨b, o, c, cs, _, _, _, _, hc⟩
        · intro t ht; simp [reSets] at ht
        · exact KidsC.s4 hc
      intro t ht
      refine key t ?_
      unfold looked at ht
      split at ht
      · exact ht
      · split at ht
        · cases ks with
          | nil => simp [reSets] at ht
          | cons k ks => simp [reSets] at ht ⊢; exact .inl ht
        · simp [reSets] at ht
theorem KidsC.s4 {V : Vw} : ∀ {ks : List Re} {cs : List Value}, KidsC V ks cs → ∀ s ∈ reSets ks, s.length = 4
  | [], cs, h => by intro t ht; simp [reSets] at ht
  | k :: ks, cs, h => by
    unfold KidsC at h
    intro t ht
    unfold reSets at ht
    rcases List.mem_append.1 ht with ht | ht
    · exact ReE.s4 h.1 t ht
    · exact KidsC.s4 h.2 t ht
end
theorem poOf_in {V : Vw} {x : Re} {es : List Value} (h : ReE V x es) (hs : x.sets.length ≤ 150) : (poOf x).In := by
  have hl : ∀ P : Nat → Bool, (srt x.sets.length P).length ≤ x.sets.length := fun P => srt_len
  refine ⟨h.s4, by unfold poOf; simp only; omega, by have := hl (x.ev 0).fst; unfold poOf; simp only; omega, by have := hl (x.ev 0).lst; unfold poOf; simp only; omega, by unfold poOf; simp; omega, fun l hm => ?_⟩
  unfold poOf at hm
  simp only [List.mem_map] at hm
  obtain ⟨i, _, rfl⟩ := hm
  have := hl ((x.ev 0).fol i); omega
theorem po0_in : po0.In := ⟨by simp [po0], by simp [po0], by simp [po0], by simp [po0], by simp [po0], by simp [po0]⟩
section
variable {n : Nat} {h h0 : PH} {S : Vw}
theorem law8 [OkH h] (hn : 4611686018427387904 ≤ n) {D : Nat} {x : Re} {es : List Value} (hS : Vw.le S h.cells) (he : ReE S x es) (hd : x.deep ≤ D) (hsz : x.size < 1099511627776) : Ret (F8 n (CLT n D) (.agg ⟨es⟩) h) fun v _ => v = .bool true := by
  have hes := he.len
  unfold F8
  refine Ret.lbox (Sl.start h hS) fun h1 x1 st => ?_
  have st : Sl h h1 S OM.emp [(x1, .row .own 1 es)] := st
  have la : xLdA 6 (.pointer (some ⟨x1, 0, none⟩)) h1 = some (.agg ⟨es⟩) := st.ldA (.head _) (by rw [List.drop_zero, ← hes, List.take_length]) (by omega)
  have := st.ok
  have hp := pcall_fr (c25 hn D x hd hsz h1.fzn (fun b cs e => st.leS b cs e) es he) rfl
  simp only [told24, vb_some, xNot_b, Bool.not_true, isB_f, Bool.not_false, gd_true, la, clt25, hp, vN_eq, xGt_i, xPick_f]
  by_cases c1 : 250 < x.deep
  · have hd1 : decide (((250 : Nat) : Int) < ((x.deep : Nat) : Int)) = true := by simp; omega
    simp only [hd1, bite_t]
    exact Ret.of rfl
  have hd1 : decide (((250 : Nat) : Int) < ((x.deep : Nat) : Int)) = false := by simp; omega
  simp only [hd1, bite_f, F8_0, la, vb_some]
  refine Ret.hb (c26 hn (fun v h => clt50) (fun u v h => clt51) hd hsz st he) fun v2 h2 ⟨S2, ps, e, le2, st2, hv, hq⟩ => ?_
  subst hv
  simp only [xExt_t', List.getElem?_cons_zero, List.getElem?_cons_succ, vb_some]
  have P1 : ps.length = 5 ∧ oneCells ps = true := by
    rcases hq with ⟨_, _, rfl⟩ | ⟨_, _, _, rfl⟩ | ⟨_, _, _, q⟩
    · exact ⟨rfl, rfl⟩
    · exact ⟨rfl, rfl⟩
    · exact q.ps
  refine Ret.lalloc st2 zc43 fun h3 x12 st3 => ?_
  refine Ret.lstA st3 0 rfl rfl P1.1 (by simp) P1.2 fun h4 st4 => ?_
  rw [setsL_all (by rw [P1.1]; rfl)] at st4
  have st4 : Sl h h4 S2 OM.emp [(x12, .row .own 1 ps), (x1, .row .own 1 es)] := st4
  have la4 : xLdA 6 (.pointer (some ⟨x1, 0, none⟩)) h4 = some (.agg ⟨es⟩) := st4.ldA (.tail _ (.head _)) (by rw [List.drop_zero, ← hes, List.take_length]) (by omega)
  simp only [la4, vb_some]
  refine Ret.hb (c27 hn (fun v h => clt25) (fun v h => clt53) (fun u v h => clt54) hd hsz st4 (he.mono le2)) fun v5 h5 ⟨S5, qs, f, le5, st5, hv, hq2⟩ => ?_
  subst hv
  simp only [xExt_t', List.getElem?_cons_zero, List.getElem?_cons_succ, vb_some]
  have P2 : qs.length = 5 ∧ oneCells qs = true := by
    rcases hq2 with ⟨_, _, rfl⟩ | ⟨_, _, _, rfl⟩ | ⟨_, _, _, q⟩
    · exact ⟨rfl, rfl⟩
    · exact ⟨rfl, rfl⟩
    · exact q.ps
  refine Ret.lalloc st5 zc43 fun h6 x17 st6 => ?_
  refine Ret.lstA st6 0 rfl rfl P2.1 (by simp) P2.2 fun h7 st7 => ?_
  rw [setsL_all (by rw [P2.1]; rfl)] at st7
  have st7 : Sl h h7 S5 OM.emp [(x17, .row .own 1 qs), (x12, .row .own 1 ps), (x1, .row .own 1 es)] := st7
  have lb1 : xLdA 5 (.pointer (some ⟨x12, 0, none⟩)) h7 = some (.agg ⟨ps⟩) := st7.ldA (.tail _ (.head _)) (by rw [List.drop_zero, ← P1.1, List.take_length]) (by rw [P1.1]; exact Nat.le_refl _)
  have lb2 : xLdA 5 (.pointer (some ⟨x17, 0, none⟩)) h7 = some (.agg ⟨qs⟩) := st7.ldA (.head _) (by rw [List.drop_zero, ← P2.1, List.take_length]) (by rw [P2.1]; exact Nat.le_refl _)
  have := st7.ok
  have same : e = f ∧ ∃ po, PoV S5 po ps ∧ PoV S5 po qs ∧ po.In := by
    rcases hq with ⟨a, b, c⟩ | ⟨a, b, c, d⟩ | ⟨a, b, c, d⟩ <;> rcases hq2 with ⟨a', b', c'⟩ | ⟨a', b', c', d'⟩ | ⟨a', b', c', d'⟩ <;> first
      | omega
      | exact ⟨by omega, po0, by subst_vars; exact PoV.zero, by subst_vars; exact PoV.zero, po0_in⟩
      | exact ⟨by omega, poOf x, d.mono le5, d', poOf_in he a⟩
  obtain ⟨rfl, po, q1, q2, q3⟩ := same
  have hc := c28 (n := n) (cl := CLT n D) (h := h7.fzn) hn (fun b cs e => st7.leS b cs e) q1 q2 q3
  have hee : decide (e = e) = true := by simp
  simp only [lb1, lb2, vb_some, hc, isB_t, gd_true, c29, gd_some', if_true, xEq_i, hee, xPick_t]
  exact Ret.of rfl
end
end Go.Am

set_option linter.unusedSimpArgs false
set_option linter.unusedVariables false
namespace Go.Am
open Go Go.RowKit Go.Proofs Go.ChangeShapes Go.WideShapes
theorem KidsC.snoc {V : Vw} {x : Re} {es : List Value} (hx : ReE V x es) : ∀ {ks : List Re} {cs : List Value}, KidsC V ks cs → cs.length = ks.length * 6 → KidsC V (ks ++ [x]) (cs ++ es)
  | [], cs, _, hl => by
    have : cs = [] := List.eq_nil_of_length_eq_zero (by simpa using hl)
    subst this
    rw [List.nil_append, List.nil_append]
    unfold KidsC
    have := hx.len
    rw [List.take_of_length_le (by omega)]
    exact ⟨hx, by unfold KidsC; trivial⟩
  | k :: ks, cs, h, hl => by
    unfold KidsC at h
    rw [List.cons_append]
    unfold KidsC
    have hl : cs.length = (ks.length + 1) * 6 := hl
    rw [List.take_append_of_le_length (by omega), List.drop_append_of_le_length (by omega)]
    exact ⟨h.1, KidsC.snoc hx h.2 (by simp; omega)⟩
theorem sizeL_snoc {x : Re} : ∀ (ks : List Re), sizeL (ks ++ [x]) = sizeL ks + x.size
  | [] => by simp [sizeL]
  | k :: ks => by rw [List.cons_append]; unfold sizeL; rw [sizeL_snoc ks]; omega
theorem vrs_u64 {ρ : RMap} : ∀ (s : List Int), VRs ρ (u64s s) (u64s s)
  | [] => .nil
  | x :: s => .cons (.int _ _) (vrs_u64 s)
section
variable {H : Type} {enc : TypeId × Value → H} {w : World} {ρ : RMap} {l : Heap}
theorem arr54 {n : Nat} {cs : List Value} {y : DataW H × List MemPlace} (hl : cs.length = 4) (ht : DataW.trod enc Try.prog w 0 (fun _ => true) true n 54 cs = some y) : ∃ s : List Int, s.length = 4 ∧ cs = u64s s := by
  obtain ⟨xs, m, _, _, _, hxl, hf⟩ := DataW.trod_array Try.underlying54 ht
  have C : Try.prog.cellsOf 53 = 1 := by kernel_rfl
  rw [C] at hf
  match cs, hl with
  | [a, b, c, d], _ =>
    have k : ∀ (i : Nat), i < 4 → ∀ v, [a, b, c, d][i]? = some v → ∃ z, v = .int .u64 z := by
      intro i hi v hv
      have h0 := hf i hi
      have e : ([a, b, c, d].drop (i * 1)).take 1 = [v] := by
        match i, hi with
        | 0, _ => simpa using hv
        | 1, _ => simpa using hv
        | 2, _ => simpa using hv
        | 3, _ => simpa using hv
      rw [e, List.getElem?_eq_getElem (by omega)] at h0
      obtain ⟨z, e, _⟩ := DataW.trod_int Try.underlying53 h0
      simp at e
      exact ⟨z, e⟩
    obtain ⟨z0, rfl⟩ := k 0 (by decide) a rfl
    obtain ⟨z1, rfl⟩ := k 1 (by decide) b rfl
    obtain ⟨z2, rfl⟩ := k 2 (by decide) c rfl
    obtain ⟨z3, rfl⟩ := k 3 (by decide) d rfl
    exact ⟨[z0, z1, z2, z3], rfl, rfl⟩
def OpRe (H : Type) (enc : TypeId × Value → H) (w : World) (n : Nat) : Prop := ∀ {ρ : RMap} {l : Heap} {cs : List Value} {y : DataW H × List MemPlace}, Im w ρ l → cs.length = 6 → DataW.trod enc Try.prog w 0 (fun _ => true) true n 57 cs = some y → Ytjomodhbneicmaa.Rows.uptoBulk y.1 ≤ 1048576 →
    ∃ (ρ' : RMap) (ext : Heap) (es : List Value) (x : Re), Im w ρ' (l ++ ext) ∧ ρ.le ρ' ∧ VRs ρ' es cs ∧ ReE (vl (l ++ ext)) x es ∧ x.size ≤ Ytjomodhbneicmaa.Rows.uptoBulk y.1
theorem bulk_app : ∀ (l r : List (DataW H)), Ytjomodhbneicmaa.Rows.uptoBulkAll (l ++ r) = Ytjomodhbneicmaa.Rows.uptoBulkAll l + Ytjomodhbneicmaa.Rows.uptoBulkAll r
  | [], r => by simp [Ytjomodhbneicmaa.Rows.uptoBulkAll]
  | x :: l, r => by simp only [List.cons_append, Ytjomodhbneicmaa.Rows.uptoBulkAll, bulk_app l r]; omega
theorem bulk_mem {d : DataW H} : ∀ {l : List (DataW H)}, d ∈ l → Ytjomodhbneicmaa.Rows.uptoBulk d ≤ Ytjomodhbneicmaa.Rows.uptoBulkAll l
  | x :: r, h => by
    simp only [Ytjomodhbneicmaa.Rows.uptoBulkAll]
    cases List.mem_cons.1 h with
    | inl e => subst e; omega
    | inr e => have := bulk_mem e; omega
theorem bulk_one (d : DataW H) : 1 ≤ Ytjomodhbneicmaa.Rows.uptoBulk d := by
  cases d with
  | lit l => cases l <;> simp [Ytjomodhbneicmaa.Rows.uptoBulk]
  | nil => simp [Ytjomodhbneicmaa.Rows.uptoBulk]
  | ptr d => simp [Ytjomodhbneicmaa.Rows.uptoBulk]
  | slice elems spare => simp [Ytjomodhbneicmaa.Rows.uptoBulk]
  | agg parts => simp [Ytjomodhbneicmaa.Rows.uptoBulk]
  | iface t d => simp [Ytjomodhbneicmaa.Rows.uptoBulk]
  | map entries => simp [Ytjomodhbneicmaa.Rows.uptoBulk]
  | held h => simp [Ytjomodhbneicmaa.Rows.uptoBulk]
theorem bulk_len : ∀ (l : List (DataW H)), l.length ≤ Ytjomodhbneicmaa.Rows.uptoBulkAll l
  | [] => by simp
  | d :: l => by have := bulk_one d; have := bulk_len l; simp only [Ytjomodhbneicmaa.Rows.uptoBulkAll, List.length_cons]; omega
theorem kidsK {n : Nat} (op : OpRe H enc w n) (m : Im w ρ l) {a : Addr} {len : Nat} (hs : a.spot = none) {D : Nat → DataW H} {Pl : Nat → List MemPlace}
    (hcell : ∀ i, i < len → ∃ cs', w.cells? 0 (a.add (i * 6)) 6 = some cs' ∧ DataW.trod enc Try.prog w 0 (fun _ => true) true n 57 cs' = some (D i, Pl i)) (hB : ∀ i, i < len → Ytjomodhbneicmaa.Rows.uptoBulk (D i) ≤ 1048576) :
    ∀ k, k ≤ len → ∃ (ρ' : RMap) (ext : Heap) (xs : List Re) (cs : List Value), Im w ρ' (l ++ ext) ∧ ρ.le ρ' ∧ xs.length = k ∧ cs.length = k * 6 ∧ (∀ (i : Nat) v, cs[i]? = some v → ∃ v', w.cell? ⟨a.block, a.off + i, none⟩ = some v' ∧ VR ρ' v v') ∧ KidsC (vl (l ++ ext)) xs cs ∧ sizeL xs ≤ Ytjomodhbneicmaa.Rows.uptoBulkAll ((List.range k).map D)
  | 0, _ => ⟨ρ, [], [], [], by rw [List.append_nil]; exact m, RMap.le_refl _, rfl, by simp, by simp, by simp [KidsC], by simp [sizeL]⟩
  | k + 1, hk => by
    obtain ⟨ρ1, ext, xs, cs, m1, le1, h1, h2, h3, h4, h5⟩ := kidsK op m hs hcell hB k (by omega)
    obtain ⟨cs', hc, ht⟩ := hcell k (by omega)
    obtain ⟨_, hlen, hat⟩ := World.cells?_some hc
    obtain ⟨ρ2, ext2, es, x, m2, le2, hv, hE, hG⟩ := op m1 hlen ht (hB k (by omega))
    have hlen' : es.length = 6 := hv.length.trans hlen
    have hbase : ∀ j, j < 6 → w.cell? ⟨a.block, a.off + (k * 6 + j), none⟩ = cs'[j]? := by
      intro j hj
      have := hat j (by omega)
      rw [add_eq hs, add_eq rfl] at this
      rw [← this]
      show w.cell? ⟨a.block, a.off + (k * 6 + j), none⟩ = w.cell? ⟨a.block, a.off + k * 6 + j, none⟩
      rw [Nat.add_assoc]
    refine ⟨ρ2, ext ++ ext2, xs ++ [x], cs ++ es, by rw [← List.append_assoc]; exact m2, RMap.le_trans le1 le2, by simp [h1], by rw [List.length_append, h2, hlen', Nat.succ_mul], ?_, ?_, ?_⟩
    · intro i v hi
      by_cases hlt : i < cs.length
      · rw [List.getElem?_append_left hlt] at hi
        obtain ⟨v', e1, e2⟩ := h3 i v hi
        exact ⟨v', e1, e2.mono le2⟩
      · rw [List.getElem?_append_right (by omega)] at hi
        have hij : i - cs.length < 6 := by rw [← hlen']; exact (List.getElem?_eq_some_iff.1 hi).1
        obtain ⟨v', e1, e2⟩ := hv.get hi
        refine ⟨v', ?_, e2⟩
        have e : i = k * 6 + (i - cs.length) := by omega
        rw [e, hbase _ hij]
        exact e1
    · rw [← List.append_assoc]
      exact KidsC.snoc hE (KidsC.mono (vl_app _ _) h4) (by omega)
    · rw [sizeL_snoc, List.range_succ, List.map_append, bulk_app]
      have : Ytjomodhbneicmaa.Rows.uptoBulk (D k) ≤ Ytjomodhbneicmaa.Rows.uptoBulkAll (List.map D [k]) := bulk_mem (by simp)
      have hG : x.size ≤ Ytjomodhbneicmaa.Rows.uptoBulk (D k) := hG
      omega
theorem kidsO {n : Nat} (op : ∀ n', n' < n → OpRe H enc w n') (m : Im w ρ l) {v : Value} {y : DataW H × List MemPlace} (ht : DataW.trod enc Try.prog w 0 (fun _ => true) true n 55 [v] = some y) (hyb : Ytjomodhbneicmaa.Rows.uptoBulk y.1 ≤ 1048576) :
    ∃ (ρ' : RMap) (ext : Heap) (u : Value) (ks : List Re), Im w ρ' (l ++ ext) ∧ ρ.le ρ' ∧ VR ρ' u v ∧ KidsV (vl (l ++ ext)) ks u ∧ sizeL ks ≤ Ytjomodhbneicmaa.Rows.uptoBulk y.1 := by
  have hmx : maxLen = 9223372036854775807 := rfl
  have C : Try.prog.cellsOf 57 = 6 := by kernel_rfl
  rcases DataW.trod_slice Try.underlying55 ht with ⟨hcs, hy⟩ | ⟨a, len, cap, elems, rest, n', hn', hcs, hy, _, hlc, hm, hel, hE, hR, _⟩
  · cases hcs
    refine ⟨ρ, [], nils, [], by rw [List.append_nil]; exact m, RMap.le_refl _, .snil _ _, .inl ⟨rfl, _, _, rfl, CapOk.self (by omega), rfl⟩, by simp [sizeL]⟩
  · cases hcs
    rw [C] at hE hR
    have hR := hR rfl
    have hsum : sizeL [] ≤ Ytjomodhbneicmaa.Rows.uptoBulk y.1 := by simp [sizeL]
    cases hc0 : cap with
    | zero =>
      have hl0 : len = 0 := by omega
      subst hl0
      exact ⟨ρ, [], .slice (some ⟨0, 0, none⟩) 0 openCap, [], by rw [List.append_nil]; exact m, RMap.le_refl _, .slz m.zero (by decide) rfl, .inl ⟨rfl, _, _, rfl, CapOk.opn (by omega), rfl⟩, hsum⟩
    | succ cap' =>
      have h0 : ∃ cs0, w.cells? 0 (a.add (0 * 6)) 6 = some cs0 := by
        by_cases hl0 : 0 < len
        · have := hE 0 hl0
          rw [List.getElem?_eq_getElem (by omega), Option.bind_eq_some_iff] at this
          obtain ⟨c, q, _⟩ := this
          exact ⟨c, q⟩
        · have hl0 : len = 0 := by omega
          have := hR.2 0 (by omega)
          rw [List.getElem?_eq_getElem (by omega), Option.bind_eq_some_iff] at this
          obtain ⟨c, q, _⟩ := this
          rw [hl0] at q
          exact ⟨c, q⟩
      obtain ⟨cs0, hc⟩ := h0
      obtain ⟨_, hlen0, hat0⟩ := World.cells?_some hc
      have hat0 := hat0 0 (by omega)
      have hx0 := List.getElem?_eq_getElem (l := cs0) (i := 0) (by omega)
      obtain ⟨hb, hs⟩ := cell_lt (v := cs0[0]'(by omega)) (by rw [hat0]; exact hx0)
      have hb : a.block < w.heap.size := by simpa [Addr.add] using hb
      have hs : a.spot = none := by simpa [Addr.add] using hs
      have ea : a = ⟨a.block, a.off, none⟩ := by cases a; simp_all
      have hcell : ∀ i, i < len → ∃ cs', w.cells? 0 (a.add (i * 6)) 6 = some cs' ∧ DataW.trod enc Try.prog w 0 (fun _ => true) true n' 57 cs' = some ((elems.getD i (.nil, [])).1, (elems.getD i (.nil, [])).2) := by
        intro i hi
        have := hE i hi
        rw [List.getElem?_eq_getElem (by omega), Option.bind_eq_some_iff] at this
        obtain ⟨c, q1, q2⟩ := this
        exact ⟨c, q1, by rw [q2, List.getD_eq_getElem?_getD, List.getElem?_eq_getElem (by omega)]; rfl⟩
      have hyE : Ytjomodhbneicmaa.Rows.uptoBulkAll (elems.map (·.1)) + 1 ≤ 1048576 := by
        rw [hy] at hyb; simp only [Ytjomodhbneicmaa.Rows.uptoBulk] at hyb; omega
      have hyl : len ≤ 1048576 := by
        have := bulk_len (elems.map (·.1)); rw [List.length_map] at this; omega
      have hB : ∀ i, i < len → Ytjomodhbneicmaa.Rows.uptoBulk (elems.getD i (.nil, [])).1 ≤ 1048576 := by
        intro i hi
        rw [List.getD_eq_getElem?_getD, List.getElem?_eq_getElem (by omega), Option.getD_some]
        have := bulk_mem (d := (elems[i]'(by omega)).1) (l := elems.map (·.1)) (List.mem_map.2 ⟨_, List.getElem_mem _, rfl⟩)
        omega
      obtain ⟨ρ1, ext, xs, cs, m1, le1, h1, h2, h3, h4, h5⟩ := kidsK (D := fun i => (elems.getD i (.nil, [])).1) (Pl := fun i => (elems.getD i (.nil, [])).2) (op n' (by omega)) m hs hcell hB len (Nat.le_refl _)
      have m' := m1.row 6 a.block a.off cap cs hb h3
      have hnew : vl (l ++ (ext ++ [.row .ro 6 cs])) (l ++ ext).length = some cs := by
        unfold vl
        rw [← List.append_assoc, List.getElem?_append_right (Nat.le_refl _), Nat.sub_self]
        simp
      have hmap : (List.range len).map (fun i => (elems.getD i (.nil, [])).1) = elems.map (·.1) := by
        apply List.ext_getElem (by simp; omega)
        intro i q1 q2
        simp at q1 q2
        simp [List.getElem?_eq_getElem q2]
      rw [hmap] at h5
      refine ⟨_, ext ++ [.row .ro 6 cs], .slice (some ⟨(l ++ ext).length, 0, none⟩) len openCap, xs, by rw [← List.append_assoc]; exact m', RMap.le_trans le1 (upR_le m1 _), ?_, .inr ⟨(l ++ ext).length, 0, openCap, cs, by rw [h1], CapOk.opn (by omega), hnew, by omega, ?_⟩, ?_⟩
      · rw [ea]
        have e : upR ρ1 (l ++ ext).length ⟨a.block, a.off, cap⟩ (l ++ ext).length = some ⟨a.block, a.off, cap⟩ := by unfold upR; rw [if_pos rfl]
        rw [← hc0]
        exact VR.slo e (by decide) (Nat.add_comm _ _) hlc
      · rw [List.drop_zero, ← List.append_assoc]
        exact KidsC.mono (vl_app _ _) h4
      · subst hy
        simp only [Ytjomodhbneicmaa.Rows.uptoBulk]
        omega
set_option maxRecDepth 100000 in
theorem opRe : ∀ n, OpRe H enc w n := by
  intro n
  induction n using Nat.strongRecOn with
  | ind n ih =>
    intro ρ l cs y m hl ht hyb
    obtain ⟨xs, n', hn', hy, _, hxl, hf⟩ := DataW.trod_struct Try.underlying57 ht
    have C3 : Try.prog.cellsOf 3 = 1 := by kernel_rfl
    have C54 : Try.prog.cellsOf 54 = 4 := by kernel_rfl
    have C55 : Try.prog.cellsOf 55 = 1 := by kernel_rfl
    have hxl : xs.length = 3 := hxl
    have q0 : DataW.trod enc Try.prog w 0 (fun _ => true) true n' 3 ((cs.drop 0).take (Try.prog.cellsOf 3)) = xs[0]? := hf 0 _ rfl
    have q1 : DataW.trod enc Try.prog w 0 (fun _ => true) true n' 54 ((cs.drop 1).take (Try.prog.cellsOf 54)) = xs[1]? := hf 1 _ rfl
    have q2 : DataW.trod enc Try.prog w 0 (fun _ => true) true n' 55 ((cs.drop 5).take (Try.prog.cellsOf 55)) = xs[2]? := hf 2 _ rfl
    rw [List.getElem?_eq_getElem (by omega)] at q0 q1 q2
    rw [C3] at q0
    rw [C54] at q1
    rw [C55] at q2
    have hk2 := bulk_mem (d := xs[2].1) (l := xs.map (·.1)) (List.mem_map.2 ⟨_, List.getElem_mem _, rfl⟩)
    rw [hy] at hyb ⊢
    simp only [Ytjomodhbneicmaa.Rows.uptoBulk] at hyb ⊢
    obtain ⟨c0, c1, c2, c3, c4, c5, rfl⟩ : ∃ c0 c1 c2 c3 c4 c5, cs = [c0, c1, c2, c3, c4, c5] := by
      match cs, hl with
      | [c0, c1, c2, c3, c4, c5], _ => exact ⟨_, _, _, _, _, _, rfl⟩
    · obtain ⟨z, e, _⟩ := DataW.trod_int Try.underlying3 q0
      obtain ⟨s, hs, e2⟩ := arr54 rfl q1
      obtain ⟨ρ', ext, u, ks, m', le, hv, hk, hsz⟩ := kidsO (fun n'' h'' => ih n'' (by omega)) m q2 (by omega)
      refine ⟨ρ', ext, .int .i64 z :: (u64s s ++ [u]), .mk z s ks, m', le, ?_, ReE_mk.2 ⟨u, rfl, hs, hk⟩, ?_⟩
      · have : [c0, c1, c2, c3, c4, c5] = .int .i64 z :: (u64s s ++ [c5]) := by
          simp at e e2
          rw [← e2, e]; rfl
        rw [this]
        exact .cons (.int _ _) ((vrs_u64 s).append (.cons hv .nil))
      · unfold Re.size
        omega
end
end Go.Am
