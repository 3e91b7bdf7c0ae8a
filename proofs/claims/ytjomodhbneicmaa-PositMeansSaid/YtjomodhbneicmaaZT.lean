import Derived.Test.YtjomodhbneicmaaZS
import Derived.Test.YtjomodhbneicmaaZQ
import Derived.Test.YtjomodhbneicmaaZH
import Derived.Test.YtjomodhbneicmaaZW
set_option linter.unusedSimpArgs false
set_option linter.unusedVariables false
namespace Go.Am
open Go Go.RowKit Go.Proofs
/-! ### is a byte in a set? -/
def shrI (x : Int) (s : Nat) : Int := match x with
  | .ofNat m => .ofNat (m >>> s)
  | .negSucc m => .negSucc (m >>> s)
theorem xShr_is {k k' : IntKind} {x : Int} {s : Nat} (h : s ≤ k.bits) : xShr (.int k x) (.int k' (s : Nat)) = some (.int k (shrI x s)) := by
  have h1 : Nat.ble s k.bits = true := ble_t' h
  cases x with
  | ofNat m =>
    show (match Nat.ble s k.bits with | true => (match shN (.ofNat m) s with | some q => some (Value.int k q) | none => none) | false => none) = _
    rw [h1]
    show (match seqN (Nat.shiftRight m s) fun q => some (Int.ofNat q) with | some q => some (Value.int k q) | none => none) = _
    rw [seqN_eq]; rfl
  | negSucc m =>
    show (match Nat.ble s k.bits with | true => (match shN (.negSucc m) s with | some q => some (Value.int k q) | none => none) | false => none) = _
    rw [h1]
    show (match seqN (Nat.shiftRight m s) fun q => some (Int.negSucc q) with | some q => some (Value.int k q) | none => none) = _
    rw [seqN_eq]; rfl
def hasB (s : List Int) (c : Nat) : Bool := decide (IntKind.u64.wrap ((Nat.land (bitN .u64 (shrI (s.getD (c / 64) 0) (c % 64))) (bitN .u64 (.ofNat 1)) : Nat) : Int) = .ofNat 1)
theorem xRem_n {x y : Nat} (hy : 0 < y) (hx : x < 4611686018427387904) : xRem (.int .i64 (x : Nat)) (.int .i64 (y : Nat)) = some (.int .i64 ((x % y : Nat) : Int)) := by
  have h1 : kb .i64 .i64 = true := rfl
  have h2 : ieq ((y : Nat) : Int) 0 = false := by rw [ieq_eq]; simp; omega
  have h3 : Int.tmod ((x : Nat) : Int) ((y : Nat) : Int) = ((x % y : Nat) : Int) := by simp [Int.tmod]
  have h4 : x % y ≤ x := Nat.mod_le _ _
  simp only [xRem, h1, h2, mkI_eq, wr_eq, h3]
section
variable {Q : Value → PH → Prop} {n : Nat} {cl : CL} {h h0 : PH} {S : Vw} {m : OM} {rows : Rws}
theorem c44 [OkH h] {s : List Int} (hs : s.length = 4) {c : Nat} (hc : c < 256) : pcall (F44 n cl (.agg ⟨u64s s⟩) (.int .u8 (c : Nat)) h) = some (.bool (hasB s c)) := by
  refine pcall_fr (h := h) (S := h.cells) ?_ rfl
  unfold Fr F44
  refine Ret.lbox (Sl.start h (Vw.le.refl _)) fun h1 b1 st1 => ?_
  have st1 : Sl h h1 h.cells OM.emp [(b1, .row .own 1 (u64s s))] := st1
  have e1 : xShr (.int .u8 (c : Nat)) (.int .u64 (.ofNat 6)) = some (.int .u8 ((c / 64 : Nat) : Int)) := xShr_ex (k := .u8) (k' := .u64) (x := c) (s := 6) (by decide)
  have hj : c / 64 < 4 := by omega
  have hx := List.getElem?_eq_getElem (l := s) (i := c / 64) (by omega)
  have hD : s.getD (c / 64) 0 = s[c / 64] := by simp [List.getD_eq_getElem?_getD, hx]
  have l1 : xLd (.pointer (some ⟨b1, 0 + c / 64 * 1, none⟩)) h1 = some (.int .u64 s[c / 64]) := st1.ld (.head _) (by rw [Nat.zero_add, Nat.mul_one]; simp [u64s, hx])
  have e2 := xShr_is (k := .u64) (k' := .u64) (x := s[c / 64]) (s := c % 64) (by show c % 64 ≤ 64; omega)
  simp only [e1, vb_some, xIdxA_at' hj, l1, xBit63 hc, xConvI_i', wr64u (show c % 64 < 18446744073709551616 by omega), e2, xBit_ex, xEq_i]
  refine Fr.ret st1 ?_
  unfold hasB; rw [hD]
theorem c103 [OkH h] {s : List Int} (hs : s.length = 4) {c : Nat} (hc : c < 256) : pcall (F103 n cl (.agg ⟨u64s s⟩) (.int .i64 (c : Nat)) h) = some (.bool (hasB s c)) := by
  refine pcall_fr (h := h) (S := h.cells) ?_ rfl
  unfold Fr F103
  refine Ret.lbox (Sl.start h (Vw.le.refl _)) fun h1 b1 st1 => ?_
  have st1 : Sl h h1 h.cells OM.emp [(b1, .row .own 1 (u64s s))] := st1
  have hj : c / 64 < 4 := by omega
  have hx := List.getElem?_eq_getElem (l := s) (i := c / 64) (by omega)
  have hD : s.getD (c / 64) 0 = s[c / 64] := by simp [List.getD_eq_getElem?_getD, hx]
  have l1 : xLd (.pointer (some ⟨b1, 0 + c / 64 * 1, none⟩)) h1 = some (.int .u64 s[c / 64]) := st1.ld (.head _) (by rw [Nat.zero_add, Nat.mul_one]; simp [u64s, hx])
  have e1 := xQuo_n (x := c) (y := 64) (by decide) (by omega)
  have e3 := xRem_n (x := c) (y := 64) (by decide) (by omega)
  have e2 := xShr_is (k := .u64) (k' := .i64) (x := s[c / 64]) (s := c % 64) (by show c % 64 ≤ 64; omega)
  simp only [vN_eq, e1, vb_some, xIdxA_at' hj, l1, e3, e2, xBit_ex, xEq_i]
  refine Fr.ret st1 ?_
  unfold hasB; rw [hD]
theorem c84 [OkH h] {s : List Int} (hs : s.length = 4) {c : Nat} (hc : c < 256) : pcall (F84 n cl (.agg ⟨u64s s⟩) (.int .u8 (c : Nat)) h) = some (.bool (hasB s c)) := by
  refine pcall_fr (h := h) (S := h.cells) ?_ rfl
  unfold Fr F84
  refine Ret.lbox (Sl.start h (Vw.le.refl _)) fun h1 b1 st1 => ?_
  have st1 : Sl h h1 h.cells OM.emp [(b1, .row .own 1 (u64s s))] := st1
  have hl : (u64s s).length = 4 := by simp [u64s, hs]
  have la : xLdA 4 (pt b1) h1 = some (.agg ⟨u64s s⟩) := st1.ldA (.head _) (by rw [List.drop_zero, ← hl, List.take_length]) (by omega)
  have := st1.ok
  have hp := c103 (n := n) (cl := cl) (h := h1.fzn) hs hc
  simp only [la, vb_some, xConvI_i', wrap_in (show -9223372036854775808 ≤ ((c : Nat) : Int) by omega) (show ((c : Nat) : Int) < 9223372036854775808 by omega), hp]
  exact Fr.ret st1 rfl
theorem c88 [OkH h] (hn : 4611686018427387904 ≤ n) (hS : Vw.le S h.cells) {av : Value} {l : List Nat} (ha : SlV S av (ns l)) (hl : l.length < 1000000000) {x : Nat} : ∃ z : Int, pcall (F88 n cl av (.int .i64 (x : Nat)) h) = some (.int .i64 z) ∧ (0 ≤ z ↔ x ∈ l) := by
  have hlen := ha.len
  rw [ns_len] at hlen
  have st := Sl.start h hS
  have key : ∀ (k q i : Nat), l.length - i ≤ k → k < q → i ≤ l.length → x ∉ l.take i → ∃ z : Int, lp q (F88_3 n cl) [av, .int .i64 (x : Nat), .int .i64 (l.length : Nat), .int .i64 (i : Nat)] h = some (.int .i64 z, h) ∧ (0 ≤ z ↔ x ∈ l) := by
    intro k
    induction k with
    | zero =>
      intro q i h1 h2 h3 h4
      obtain ⟨q, rfl⟩ : ∃ r, q = r + 1 := ⟨q - 1, by omega⟩
      rw [lp_succ]
      have d : decide (((i : Nat) : Int) < ((l.length : Nat) : Int)) = false := by simp; omega
      simp only [F88_3, F88_2, ucons_cons, xLt_i, d, vb_some, bite_f]
      refine ⟨-1, rfl, ?_⟩
      rw [List.take_of_length_le (by omega)] at h4
      simp [h4]
    | succ k ih =>
      intro q i h1 h2 h3 h4
      by_cases hi : i < l.length
      · obtain ⟨q, rfl⟩ : ∃ r, q = r + 1 := ⟨q - 1, by omega⟩
        rw [lp_succ]
        generalize hL : lp q (F88_3 n cl) = LL
        have d : decide (((i : Nat) : Int) < ((l.length : Nat) : Int)) = true := by simp; omega
        have hx := List.getElem?_eq_getElem hi
        obtain ⟨b1, o1, cs1, e1, e2, e3⟩ := ha.at (k := .i64) (i := i) (x := .int .i64 (l[i] : Nat)) (by simp [ns, hx])
        have l1 : xLd (.pointer (some ⟨b1, o1, none⟩)) h = some (.int .i64 (l[i] : Nat)) := st.ldS e2 e3
        simp only [F88_3, F88_2, ucons_cons, xLt_i, d, vb_some, bite_t, F88_1, e1, l1, xEq_i]
        by_cases heq : x = l[i]
        · have d2 : decide (((x : Nat) : Int) = ((l[i] : Nat) : Int)) = true := by simp [heq]
          simp only [d2, bite_t]
          exact ⟨_, rfl, by simp [heq]⟩
        · have d2 : decide (((x : Nat) : Int) = ((l[i] : Nat) : Int)) = false := by simp; omega
          simp only [d2, bite_f, F88_0, vN_eq, xAdd_i, wrapN (show i < 4611686018427387904 by omega), vb_some]
          rw [← hL]
          refine ih q (i + 1) (by omega) (by omega) (by omega) ?_
          intro hm
          rw [List.take_add_one, hx] at hm
          rcases List.mem_append.1 hm with q | q
          · exact h4 q
          · exact heq (by simpa using q)
      · exact ih q i (by omega) (by omega) h3 h4
  obtain ⟨z, h1, h2⟩ := key l.length n 0 (by omega) (by omega) (by omega) (by simp)
  refine ⟨z, ?_, h2⟩
  have : F88 n cl av (.int .i64 (x : Nat)) h = some (.int .i64 z, h) := by
    unfold F88
    simp only [hlen, vb_some, vN_eq]
    exact h1
  rw [this]; rfl
end
end Go.Am

set_option linter.unusedSimpArgs false
set_option linter.unusedVariables false
namespace Go.Am
open Go Go.RowKit Go.Proofs
def takesB (po : Po) (c i : Nat) : Bool := decide (i < po.sets.length) && hasB (po.sets.getD i []) c
def tk (po : Po) (c : Nat) (l : List Nat) : List Nat := l.filter fun i => takesB po c i
section
variable {Q : Value → PH → Prop} {n : Nat} {cl : CL} {h h0 : PH} {S : Vw} {m : OM} {rows : Rws}
theorem loop58 {po : Po} {ps : List Value} {lv : Value} {l : List Nat} {x c : Nat} (hp : PoV S po ps) (hin : po.In) (hl : SlV S lv (ns l)) (hln : l.length < 1000000) (hc : c < 256) :
    ∀ (k q i : Nat) (v : Value) (h : PH) (ex : Rws), l.length - i ≤ k → k < q → i ≤ l.length → Sl h0 h S OM.emp (ex ++ [(x, .row .own 1 ps)]) → Gl 1 v (tk po c (l.take i)).length (ns (tk po c (l.take i))) ex →
    Ret (lp q (F58_5 n cl) [.int .u8 (c : Nat), pt x, v, lv, .int .i64 (l.length : Nat), .int .i64 (i : Nat)] h) fun v h' => ∃ ex, Sl h0 h' S OM.emp ex ∧ Gl 1 v (tk po c l).length (ns (tk po c l)) ex := by
  have hps := hp.ps
  obtain ⟨sv, fv, lv', wv, ws, rfl, a1, a2, a3, a4, a5, a6⟩ := hp
  have hlenS := a1.len
  intro k
  induction k with
  | zero =>
    intro q i v h ex h1 h2 h3 st g
    obtain ⟨q, rfl⟩ : ∃ r, q = r + 1 := ⟨q - 1, by omega⟩
    rw [lp_succ]
    have d : decide (((i : Nat) : Int) < ((l.length : Nat) : Int)) = false := by simp; omega
    simp only [F58_5, F58_4, ucons_cons, xLt_i, d, vb_some, bite_f]
    rw [List.take_of_length_le (by omega)] at g
    exact Ret.of ⟨ex, st.drop (List.sublist_append_left _ _), g⟩
  | succ k ih =>
    intro q i v h ex h1 h2 h3 st g
    by_cases hi : i < l.length
    · obtain ⟨q, rfl⟩ : ∃ r, q = r + 1 := ⟨q - 1, by omega⟩
      rw [lp_succ]
      generalize hL : lp q (F58_5 n cl) = LL
      have d : decide (((i : Nat) : Int) < ((l.length : Nat) : Int)) = true := by simp; omega
      have hx := List.getElem?_eq_getElem hi
      obtain ⟨b1, o1, cs1, e1, e2, e3⟩ := hl.at (k := .i64) (i := i) (x := .int .i64 (l[i] : Nat)) (by simp [ns, hx])
      have l1 := st.ldS e2 e3
      have htk : tk po c (l.take (i + 1)) = tk po c (l.take i) ++ (if takesB po c l[i] = true then [l[i]] else []) := by
        unfold tk
        rw [List.take_add_one, hx, List.filter_append]
        congr 1
        by_cases hq : takesB po c l[i] = true <;> simp [hq]
      generalize l[i] = y at hx e3 l1 htk
      have l0 : xLd (.pointer (some ⟨x, 0, none⟩)) h = some sv := st.ld (List.mem_append_right _ (.head _)) rfl
      have hw := wrapN (x := i) (by omega)
      have d0 : decide (((0 : Nat) : Int) ≤ ((y : Nat) : Int)) = true := by simp
      have skip : takesB po c y = false → Ret (F58_2 n cl LL [.int .u8 (c : Nat), pt x, v, lv, .int .i64 (l.length : Nat), .int .i64 (i : Nat)] h) fun v h' => ∃ ex, Sl h0 h' S OM.emp ex ∧ Gl 1 v (tk po c l).length (ns (tk po c l)) ex := by
        intro hq
        simp only [F58_2, ucons_cons, F58_0, vN_eq, xAdd_i, hw, vb_some]
        rw [← hL]
        refine ih q (i + 1) v h ex (by omega) (by omega) (by omega) st ?_
        rw [htk, hq]; simpa using g
      have yes : takesB po c y = true → Ret (F58_1 n cl (.int .i64 (y : Nat)) v (F58_2 n cl LL) (.int .u8 (c : Nat)) (pt x) lv (.int .i64 (l.length : Nat)) (.int .i64 (i : Nat)) h) fun v h' => ∃ ex, Sl h0 h' S OM.emp ex ∧ Gl 1 v (tk po c l).length (ns (tk po c l)) ex := by
        intro hq
        simp only [F58_1]
        have hle : (tk po c (l.take i)).length ≤ 1000000 := by
          have : (tk po c (l.take i)).length ≤ (l.take i).length := List.length_filter_le _ _
          have : (l.take i).length ≤ l.length := by rw [List.length_take]; exact Nat.min_le_right _ _
          omega
        refine Ret.gapp st g bs28 ai28 rfl rfl (sz_le (c := 1000000) hle (by decide)) fun h' v' ex' st' g' => ?_
        simp only [F58_2, ucons_cons, F58_0, vN_eq, xAdd_i, hw, vb_some]
        rw [← hL]
        refine ih q (i + 1) v' h' ex' (by omega) (by omega) (by omega) st' ?_
        rw [htk, hq, if_pos rfl, ← ns_snoc]; simpa using g'
      simp only [F58_5, F58_4, ucons_cons, xLt_i, d, vb_some, bite_t, jn_eq, F58_3, e1, l1, vN_eq, xGe_i, d0, isB_t, gd_true, xFld_p, Nat.zero_add, l0, hlenS, xPick_t]
      by_cases hy : y < po.sets.length
      · have d1 : decide (((y : Nat) : Int) < ((po.sets.length : Nat) : Int)) = true := by simp; omega
        obtain ⟨b2, o2, cs2, f1, f2, f3, f4⟩ := a1.at (kk := .i64) hy
        have hsy := List.getElem?_eq_getElem hy
        have hD : po.sets.getD y [] = po.sets[y] := by simp [List.getD_eq_getElem?_getD, hsy]
        have hs4 := hin.s4 _ (List.getElem_mem hy)
        rw [sets_at hin.s4 hsy] at f4
        have l2 := st.ldSA f2 f4 f3
        have := st.ok
        have hpc := c84 (n := n) (cl := cl) (h := h.fzn) hs4 hc
        have hval : takesB po c y = hasB po.sets[y] c := by unfold takesB; rw [hD]; simp [hy]
        rw [hval] at skip yes
        simp only [d1, isB_t, gd_true, vb_some, xFld_p, Nat.zero_add, l0, f1, l2, hpc, xPick_t]
        cases hq : hasB po.sets[y] c with
        | true => simp only [bite_t]; exact yes hq
        | false => simp only [bite_f]; exact skip hq
      · have d1 : decide (((y : Nat) : Int) < ((po.sets.length : Nat) : Int)) = false := by simp; omega
        have hval : takesB po c y = false := by unfold takesB; simp [hy]
        have := skip hval
        simp only [d1]
        simpa [gd_some'] using this
    · exact ih q i v h ex (by omega) (by omega) h3 st g
theorem f58 [OkH h] (hn : 4611686018427387904 ≤ n) (hS : Vw.le S h.cells) {po : Po} {ps : List Value} {lv : Value} {l : List Nat} {c : Nat} (hp : PoV S po ps) (hin : po.In) (hl : SlV S lv (ns l)) (hln : l.length < 1000000) (hc : c < 256) :
    Fr h S (F58 n cl (.agg ⟨ps⟩) lv (.int .u8 (c : Nat)) h) fun v ex => Gl 1 v (tk po c l).length (ns (tk po c l)) ex := by
  have hlen := hl.len
  rw [ns_len] at hlen
  unfold Fr F58
  refine Ret.lbox (Sl.start h hS) fun h1 x st1 => ?_
  have st1 : Sl h h1 S OM.emp ([] ++ [(x, .row .own 1 ps)]) := st1
  simp only [hlen, vb_some, vN_eq]
  exact loop58 hp hin hl hln hc l.length n 0 nils h1 [] (by omega) (by omega) (by omega) st1 (by simpa [tk, ns] using Gl.nil)
end
end Go.Am

set_option linter.unusedSimpArgs false
set_option linter.unusedVariables false
namespace Go.Am
open Go Go.RowKit Go.Proofs
section
variable {Q : Value → PH → Prop} {n : Nat} {cl : CL} {h h0 : PH} {S : Vw} {m : OM} {rows : Rws} {K2 : Value → PH → R}
theorem Sl.float {b : Nat} {o : AObj} (s : Sl h0 h S (OM.emp.upd b o) rows) : Sl h0 h S OM.emp ((b, o) :: rows) := by
  have hne := s.ne (b := b) (o := o) OM.upd_self
  refine ⟨?_, .cons (fun p hp e => hne p hp e.symm) s.nd, fun p hp => rfl⟩
  have e : over ((b, o) :: rows) OM.emp = over rows (OM.emp.upd b o) := over_upd hne
  rw [e]; exact s.sm
theorem Ret.gappR {ex : Rws} (s : Sl h0 h S m (ex ++ rows)) {v w : Value} {k : Nat} {cells : List Value} {l2 : List Nat} (g : Gl 1 v k cells ex) (gc : Gc v) (hw : SlV S w (ns l2)) (hsz : (2 * (k + l2.length) + 512) * 8 ≤ 281474976710656)
    (hk : ∀ h' v' ex', Sl h0 h' S m (ex' ++ rows) → Gl 1 v' (k + l2.length) (cells ++ ns l2) ex' → Gc v' → Ret (K2 v' h') Q) : Ret (Go.Am.hb (xApp (appInfo Try.prog #[28, 28]) v w h) K2) Q := by
  rw [ai28]
  have none' : l2 = [] → Go.Am.ptail 1 w h = some (0, []) → Ret (Go.Am.hb (xApp (some (1, 8)) v w h) K2) Q := by
    intro he hp
    subst he
    have e : xApp (some (1, 8)) v w h = some (v, h) := by
      rcases g.h with ⟨_, _, rfl, _⟩ | ⟨b, o, cap, all, rfl, _, _, _, _, _, hcap⟩
      · exact xApp_00 hp
      · exact xApp_0 hp (by simp at hsz; omega)
    rw [e]
    refine hk h v ex s ?_ gc
    simpa [ns] using g
  rcases hw with ⟨he, rfl⟩ | ⟨b, o, c, cs, rfl, h1, h2, h3⟩
  · have he : l2 = [] := by simpa [ns] using he
    exact none' he rfl
  · rw [ns_len] at h2 none' ⊢
    have hp := s.sm.ptailS (b := b) (o := o) (n := l2.length) (sz := 1) (c := c) h1 (by omega)
    have htk : (cs.drop o).take (l2.length * 1) = ns l2 := by
      rw [Nat.mul_one]
      apply List.ext_getElem?
      intro i
      by_cases hi : i < l2.length
      · have hx := List.getElem?_eq_getElem hi
        have hq : (ns l2)[i]? = some (.int .i64 (l2[i] : Nat)) := by simp [ns, hx]
        rw [hq, List.getElem?_take, if_pos hi, List.getElem?_drop]
        exact h3 i _ hq
      · rw [List.getElem?_eq_none (by simp; omega), List.getElem?_eq_none (by rw [ns_len]; omega)]
    rw [htk] at hp
    by_cases hl0 : l2.length = 0
    · have he : l2 = [] := List.eq_nil_of_length_eq_zero hl0
      refine none' he ?_
      rw [hp, he]; rfl
    · have hone : oneCells (ns l2) = true := by
        unfold oneCells ns; rw [List.all_map]; exact List.all_eq_true.2 fun x _ => rfl
      have H : Ret (Go.Am.hb (xApp (some (1, 8)) v (.slice (some ⟨b, o, none⟩) l2.length c) h) fun v h => some (v, h)) fun v' h' => ∃ ex', Sl h0 h' S m (ex' ++ rows) ∧ Gl 1 v' (k + l2.length) (cells ++ ns l2) ex' := by
        refine Ret.lapp s g hp (by rw [ns_len, Nat.mul_one]) (by omega) hone hsz fun h' v' ex' st' g' => ?_
        exact Ret.of ⟨ex', st', g'⟩
      obtain ⟨v', h', e, ex', st', g'⟩ := Ret.out H
      rw [e]
      exact hk h' v' ex' st' g' (xApp_gc gc e)
def aft (po : Po) (l : List Nat) : List Nat := l.flatMap fun y => po.follow.getD y []
theorem aft_len {po : Po} {N : Nat} (h : ∀ l ∈ po.follow, l.length ≤ N) (l : List Nat) : (aft po l).length ≤ l.length * N := by
  induction l with
  | nil => simp [aft]
  | cons y l ih =>
    unfold aft at ih ⊢
    rw [List.flatMap_cons, List.length_append, List.length_cons, Nat.succ_mul]
    have : (po.follow.getD y []).length ≤ N := by
      rw [List.getD_eq_getElem?_getD]
      cases hq : po.follow[y]? with
      | none => simp
      | some z => exact h z (List.mem_of_getElem? hq)
    omega
theorem loop59 {po : Po} {ps : List Value} {lv : Value} {l : List Nat} {x : Nat} {P : Value → PH → Prop} (hp : PoV S po ps) (hl : SlV S lv (ns l)) (hln : l.length ≤ 1000) (hfl : ∀ w ∈ po.follow, w.length ≤ 1000)
    (hk : ∀ h' v ex, Sl h0 h' S OM.emp ex → Gl 1 v (aft po l).length (ns (aft po l)) ex → Gc v → Ret (F59_4 n cl v h') P) :
    ∀ (k q i : Nat) (v : Value) (h : PH) (ex : Rws), l.length - i ≤ k → k < q → i ≤ l.length → Sl h0 h S OM.emp (ex ++ [(x, .row .own 1 ps)]) → Gl 1 v (aft po (l.take i)).length (ns (aft po (l.take i))) ex → Gc v →
    Ret (lp q (F59_6 n cl) [pt x, v, lv, .int .i64 (l.length : Nat), .int .i64 (i : Nat)] h) P := by
  obtain ⟨sv, fv, lv', wv, ws, rfl, a1, a2, a3, a4, a5, a6⟩ := hp
  have hlenW := a4.len
  intro k
  induction k with
  | zero =>
    intro q i v h ex h1 h2 h3 st g gc
    obtain ⟨q, rfl⟩ : ∃ r, q = r + 1 := ⟨q - 1, by omega⟩
    rw [lp_succ]
    have d : decide (((i : Nat) : Int) < ((l.length : Nat) : Int)) = false := by simp; omega
    simp only [F59_6, F59_5, ucons_cons, xLt_i, d, vb_some, bite_f]
    rw [List.take_of_length_le (by omega)] at g
    exact hk h v ex (st.drop (List.sublist_append_left _ _)) g gc
  | succ k ih =>
    intro q i v h ex h1 h2 h3 st g gc
    by_cases hi : i < l.length
    · obtain ⟨q, rfl⟩ : ∃ r, q = r + 1 := ⟨q - 1, by omega⟩
      rw [lp_succ]
      generalize hL : lp q (F59_6 n cl) = LL
      have d : decide (((i : Nat) : Int) < ((l.length : Nat) : Int)) = true := by simp; omega
      have hx := List.getElem?_eq_getElem hi
      obtain ⟨b1, o1, cs1, e1, e2, e3⟩ := hl.at (k := .i64) (i := i) (x := .int .i64 (l[i] : Nat)) (by simp [ns, hx])
      have l1 := st.ldS e2 e3
      have htk : aft po (l.take (i + 1)) = aft po (l.take i) ++ po.follow.getD l[i] [] := by
        unfold aft
        rw [List.take_add_one, hx, List.flatMap_append]
        simp
      have hlA : (aft po (l.take (i + 1))).length ≤ 1000000 := by
        have q1 := aft_len hfl (l.take (i + 1))
        have q2 : (l.take (i + 1)).length ≤ 1000 := by rw [List.length_take]; omega
        have q3 := Nat.mul_le_mul_right 1000 q2
        omega
      generalize l[i] = y at hx e3 l1 htk
      have l4 : xLd (.pointer (some ⟨x, 4, none⟩)) h = some wv := st.ld (List.mem_append_right _ (.head _)) rfl
      have hw := wrapN (x := i) (by omega)
      simp only [F59_6, F59_5, ucons_cons, xLt_i, d, vb_some, bite_t, jn_eq, F59_3, e1, l1, xFld_p, Nat.zero_add, l4, hlenW]
      by_cases hy : y < po.follow.length
      · have d1 : decide (((y : Nat) : Int) < ((ws.length : Nat) : Int)) = true := by simp; omega
        have hfy := List.getElem?_eq_getElem hy
        have hD : po.follow.getD y [] = po.follow[y] := by simp [List.getD_eq_getElem?_getD, hfy]
        obtain ⟨w, f1, f2⟩ := a6 y _ hfy
        obtain ⟨b2, o2, cs2, g1, g2, g3⟩ := a4.at (k := .i64) f1
        have l5 := st.ldS g2 g3
        simp only [d1, bite_t, F59_1, xFld_p, Nat.zero_add, l4, vb_some, g1, l5]
        rw [hD] at htk
        have hsum : (aft po (l.take i)).length + po.follow[y].length ≤ 1000000 := by
          rw [htk, List.length_append] at hlA; exact hlA
        refine Ret.gappR st g gc f2 (by omega) fun h' v' ex' st' g' gc' => ?_
        simp only [F59_2, ucons_cons, F59_0, vN_eq, xAdd_i, hw, vb_some]
        rw [← hL]
        refine ih q (i + 1) v' h' ex' (by omega) (by omega) (by omega) st' ?_ gc'
        have e : ns (aft po (l.take i)) ++ ns po.follow[y] = ns (aft po (l.take (i + 1))) := by rw [htk]; simp [ns]
        rw [e] at g'
        rw [htk, List.length_append, ← htk]; exact g'
      · have d1 : decide (((y : Nat) : Int) < ((ws.length : Nat) : Int)) = false := by simp; omega
        have hD : po.follow.getD y [] = [] := by rw [List.getD_eq_getElem?_getD, List.getElem?_eq_none (by omega)]; rfl
        simp only [d1, bite_f, F59_2, ucons_cons, F59_0, vN_eq, xAdd_i, hw, vb_some]
        rw [← hL]
        refine ih q (i + 1) v h ex (by omega) (by omega) (by omega) st ?_ gc
        rw [htk, hD, List.append_nil]; exact g
    · exact ih q i v h ex (by omega) (by omega) h3 st g gc
end
end Go.Am

set_option linter.unusedSimpArgs false
set_option linter.unusedVariables false
namespace Go.Am
open Go Go.RowKit Go.Proofs
def Rise (L cat : List Nat) : Prop := L.Pairwise (· < ·) ∧ ∀ y, y ∈ L ↔ y ∈ cat
section
variable {Q : Value → PH → Prop} {n : Nat} {cl : CL} {h h0 : PH} {S : Vw} {m : OM} {rows : Rws} {K2 : Value → PH → R}
theorem fz_ns {cat : List Nat} : fz (fun i => ((cat.getD i 0 : Nat) : Int)) cat.length = ns cat := by
  apply List.ext_getElem?
  intro i
  by_cases hi : i < cat.length
  · rw [fz_get hi]
    simp [ns, List.getElem?_eq_getElem hi]
  · rw [List.getElem?_eq_none (by rw [fz_len]; omega), List.getElem?_eq_none (by rw [ns_len]; omega)]
theorem sort_nils (hn : 4611686018427387904 ≤ n) {D : Nat} (h104 : ∀ u v w x h, cl 104 [u, v, w, x] h = CLV n (D + 1) 104 [u, v, w, x] h) : F85 n cl nils h = some (.tuple ⟨[]⟩, h) := by
  obtain ⟨n', rfl⟩ : ∃ r, n = r + 1 := ⟨n - 1, by omega⟩
  obtain ⟨L, h1, h2, hp⟩ := c105 (n := n' + 1) (cl := cl) (h := h.fzn) (x := 0) (by decide)
  have hl : xLenS nils = some (.int .i64 ((0 : Nat) : Int)) := by simp [nils]
  have w0 : IntKind.u64.wrap ((0 : Nat) : Int) = ((0 : Nat) : Int) := wr64u (by decide)
  have w1 : IntKind.i64.wrap (((0 : Nat) : Int) - ((0 : Nat) : Int)) = ((0 : Nat) : Int) := wrap_in (by decide) (by decide)
  have w2 : IntKind.i64.wrap (((0 : Nat) : Int) + ((1 : Nat) : Int)) = ((1 : Nat) : Int) := wrap_in (by decide) (by decide)
  have d1 : decide (((0 : Nat) : Int) ≤ ((12 : Nat) : Int)) = true := by decide
  have d2 : decide (((1 : Nat) : Int) < ((0 : Nat) : Int)) = false := by decide
  have hF : F111 (n' + 1) (CLV (n' + 1) D) nils (.int .i64 ((0 : Nat) : Int)) (.int .i64 ((0 : Nat) : Int)) h = some (.tuple ⟨[]⟩, h) := by
    unfold F111
    simp only [vN_eq, xAdd_i, w2, vb_some, lp_succ, F111_5, F111_4, ucons_cons, xLt_i, d2, bite_f]
  unfold F85
  simp only [hl, vb_some, xConvI_i', w0, hp, vN_eq, h104, CLV104]
  unfold F104
  simp only [lp_succ, F104_19, ucons_cons, F104_18, xSub_i, w1, vN_eq, xLe_i, d1, vb_some, bite_t, F104_0, hF]
  rfl
theorem end59 (hn : 4611686018427387904 ≤ n) {D : Nat} (hD : 1000000 ≤ D) (h104 : ∀ u v w x h, cl 104 [u, v, w, x] h = CLV n (D + 1) 104 [u, v, w, x] h) {v : Value} {ex : Rws} {cat : List Nat} (hcat : cat.length ≤ 1000000) (st : Sl h0 h S OM.emp ex) (g : Gl 1 v cat.length (ns cat) ex) (gc : Gc v) :
    Ret (F59_4 n cl v h) fun v h' => ∃ ex, Sl h0 h' S OM.emp ex ∧ ∃ L, Rise L cat ∧ Gl 1 v L.length (ns L) ex := by
  rcases g.h with ⟨hk, hc, rfl, rfl⟩ | ⟨b, o, cap, all, rfl, rfl, hc, hle, _⟩
  · have he : cat = [] := List.eq_nil_of_length_eq_zero hk
    subst he
    have hl : xLenS nils = some (.int .i64 ((0 : Nat) : Int)) := by simp [nils]
    have d1 : decide (((0 : Nat) : Int) < ((2 : Nat) : Int)) = true := by decide
    have h86 : F86 n cl nils h = some (nils, h) := by
      unfold F86
      simp only [hl, vN_eq, xLt_i, vb_some, d1, bite_t]
    have h85 := sort_nils (n := n) (cl := cl) (h := h) hn h104
    unfold F59_4
    rw [h85]
    show Ret (Go.Am.hb (F86 n cl nils h) fun v41 h => some (v41, h)) _
    rw [h86]
    exact Ret.of ⟨[], st, [], ⟨.nil, fun y => Iff.rfl⟩, Gl.nil⟩
  · obtain ⟨rfl, rfl⟩ : o = 0 ∧ cap = openCap := by
      rcases gc with e | ⟨b', k', e⟩
      · cases e
      · cases e; exact ⟨rfl, rfl⟩
    have hall : all = ns cat ++ all.drop cat.length := by
      have : ns cat = all.take cat.length := by rw [hc, List.drop_zero, Nat.mul_one]
      rw [this, List.take_append_drop]
    have st1 := (st.sink (i := 0) rfl).1
    have st2 : Sl h0 h S (SM b .opn [] (all.drop cat.length) cat.length (fun i => ((cat.getD i 0 : Nat) : Int))) [] := by
      unfold SM
      rw [fz_ns, List.nil_append, ← hall]
      exact st1
    unfold F59_4
    refine Ret.hb (c85 (c := openCap) rfl hn (by omega) (by omega) h104 st2) fun v1 h1 ⟨g1, s1, o1, st3⟩ => ?_
    refine Ret.hb (c86 (c := openCap) rfl hn (CapOk.opn (by omega)) (by omega) o1 st3) fun v2 h2 ⟨K, g2, post', hK, ⟨u1, u2, u3⟩, hv, st4⟩ => ?_
    subst hv
    have st5 := st4.float
    -- all are places
    have hnat : ∀ i, i < K → ∃ j, j < cat.length ∧ g2 i = ((cat.getD j 0 : Nat) : Int) := by
      intro i hi
      obtain ⟨j, hj, e⟩ := u3 i hi
      obtain ⟨j', hj', e'⟩ := s1.from (k := j) ⟨Nat.zero_le _, hj⟩
      exact ⟨j', hj'.2, by rw [e, e']⟩
    have hL : ns ((List.range K).map fun i => (g2 i).toNat) = fz g2 K := by
      unfold ns fz
      rw [List.map_map]
      apply List.map_congr_left
      intro i hi
      obtain ⟨j, _, e⟩ := hnat i (by simpa using hi)
      simp [e]
    refine Ret.of ⟨_, st5, (List.range K).map fun i => (g2 i).toNat, ⟨?_, fun y => ?_⟩, ?_⟩
    · rw [List.pairwise_map]
      refine List.Pairwise.imp_of_mem (fun {i j} hi hj hij => ?_) List.pairwise_lt_range
      have h1 := u1 i j hij (by simpa using hj)
      obtain ⟨_, _, e1⟩ := hnat i (by simpa using hi)
      obtain ⟨_, _, e2⟩ := hnat j (by simpa using hj)
      omega
    · rw [List.mem_map]
      constructor
      · rintro ⟨i, hi, rfl⟩
        obtain ⟨j, hj, e⟩ := hnat i (by simpa using hi)
        rw [e, List.getD_eq_getElem?_getD, List.getElem?_eq_getElem hj]
        simp
      · intro hy
        obtain ⟨j, hj, e⟩ := List.getElem_of_mem hy
        obtain ⟨j', hj', e'⟩ := s1.to (k := j) ⟨Nat.zero_le _, hj⟩
        obtain ⟨i, hi, e2⟩ := u2 j' hj'.2
        refine ⟨i, by simpa using hi, ?_⟩
        rw [e2, ← e', List.getD_eq_getElem?_getD, List.getElem?_eq_getElem hj]
        simp [e]
    · rw [hL]
      refine ⟨.inr ⟨b, 0, openCap, _, by simp [sv], rfl, ?_, ?_, by rw [Nat.sub_self, Nat.zero_mul], Nat.le_refl _, by decide⟩⟩
      · simp only [List.length_map, List.length_range, Nat.mul_one, List.drop_zero, List.nil_append]
        rw [List.take_append_of_le_length (by rw [fz_len]; exact Nat.le_refl _), List.take_of_length_le (by rw [fz_len]; exact Nat.le_refl _)]
      · simp [fz_len]
end
end Go.Am

set_option linter.unusedSimpArgs false
set_option linter.unusedVariables false
namespace Go.Am
open Go Go.RowKit Go.Proofs
section
variable {Q : Value → PH → Prop} {n : Nat} {cl : CL} {h h0 : PH} {S : Vw} {m : OM} {rows : Rws} {K2 : Value → PH → R}
theorem f59 [OkH h] (hn : 4611686018427387904 ≤ n) {D : Nat} (hD : 1000000 ≤ D) (h104 : ∀ u v w x h, cl 104 [u, v, w, x] h = CLV n (D + 1) 104 [u, v, w, x] h) (hS : Vw.le S h.cells) {po : Po} {ps : List Value} {lv : Value} {l : List Nat} (hp : PoV S po ps) (hl : SlV S lv (ns l)) (hln : l.length ≤ 1000) (hfl : ∀ w ∈ po.follow, w.length ≤ 1000) :
    Fr h S (F59 n cl (.agg ⟨ps⟩) lv h) fun v ex => ∃ L, Rise L (aft po l) ∧ Gl 1 v L.length (ns L) ex := by
  have hlen := hl.len
  rw [ns_len] at hlen
  have hA : (aft po l).length ≤ 1000000 := by
    have q1 := aft_len hfl l
    have q3 := Nat.mul_le_mul_right 1000 hln
    omega
  unfold Fr F59
  refine Ret.lbox (Sl.start h hS) fun h1 x st1 => ?_
  have st1 : Sl h h1 S OM.emp ([] ++ [(x, .row .own 1 ps)]) := st1
  simp only [hlen, vb_some, vN_eq]
  refine loop59 (P := fun v h' => ∃ ex, Sl h h' S OM.emp ex ∧ ∃ L, Rise L (aft po l) ∧ Gl 1 v L.length (ns L) ex) hp hl hln hfl (fun h' v ex st' g' gc' => ?_) l.length n 0 nils h1 [] (by omega) (by omega) (by omega) st1 (by simpa [aft, ns] using Gl.nil) (.inl rfl)
  exact end59 hn hD h104 hA st' g' gc'
theorem rise_len {N : Nat} : ∀ (L : List Nat) (a : Nat), L.Pairwise (· < ·) → (∀ y ∈ L, a ≤ y ∧ y < N) → L.length ≤ N - a
  | [], _, _, _ => by simp
  | y :: L, a, hp, hb => by
    rw [List.pairwise_cons] at hp
    have h1 := hb y (.head _)
    have := rise_len L (y + 1) hp.2 fun z hz => ⟨hp.1 z hz, (hb z (.tail _ hz)).2⟩
    rw [List.length_cons]; omega
theorem Rise.len {L cat : List Nat} {N : Nat} (h : Rise L cat) (hc : ∀ y ∈ cat, y < N) : L.length ≤ N := by
  have := rise_len L 0 h.1 fun y hy => ⟨Nat.zero_le _, hc y ((h.2 y).1 hy)⟩
  omega
end
end Go.Am

set_option linter.unusedSimpArgs false
set_option linter.unusedVariables false
namespace Go.Am
open Go Go.RowKit Go.Proofs
section
variable {Q : Value → PH → Prop} {n : Nat} {cl cl' : CL} {h h0 : PH} {S : Vw} {m : OM} {rows : Rws} {K2 : Value → PH → R}
theorem c62 [OkH h] (hn : 4611686018427387904 ≤ n) (hS : Vw.le S h.cells) {av : Value} {l : List Nat} (ha : SlV S av (ns l)) (hl : l.length < 1000000000) {x : Nat} : pcall (F62 n cl av (.int .i64 (x : Nat)) h) = some (.bool (decide (x ∈ l))) := by
  obtain ⟨z, h1, h2⟩ := c88 (n := n) (cl := cl) (h := h.fzn) hn hS ha hl (x := x)
  have e : F62 n cl av (.int .i64 (x : Nat)) h = some (.bool (decide (x ∈ l)), h) := by
    unfold F62
    have d : decide (((0 : Nat) : Int) ≤ z) = decide (x ∈ l) := by
      rw [decide_eq_decide]; exact h2
    simp only [h1, vb_some, vN_eq, xGe_i, d]
  rw [e]; rfl
theorem c61 [OkH h] (hn : 4611686018427387904 ≤ n) (hS : Vw.le S h.cells) {po : Po} {ps : List Value} {b x : Nat} (hp : PoV S po ps) (hin : po.In) (hb : h.cells b = some ps) : F61 n cl (.int .i64 (x : Nat)) (pt b) h = some (.bool (decide (x ∈ po.last)), h) := by
  obtain ⟨sv, fv, lv, wv, ws, rfl, a1, a2, a3, a4, a5, a6⟩ := hp
  have st := Sl.start h (S := h.cells) (Vw.le.refl _)
  have l3 : xLd (.pointer (some ⟨b, 3, none⟩)) h = some lv := st.ldS hb rfl
  have hc := c62 (n := n) (cl := cl) (h := h.fzn) hn hS a3 (by have := hin.ll; omega) (x := x)
  unfold F61
  simp only [xFld_p, Nat.zero_add, l3, vb_some, hc]
theorem c87 [OkH h] (hn : 4611686018427387904 ≤ n) (hS : Vw.le S h.cells) {po : Po} {ps : List Value} {b : Nat} (hp : PoV S po ps) (hin : po.In) (hb : h.cells b = some ps) (h61 : ∀ u v h, cl 61 [u, v] h = F61 n cl' u v h) {av : Value} {l : List Nat} (ha : SlV S av (ns l)) (hl : l.length < 1000000000) :
    ∃ z : Int, F87 n cl av (.func (Fn.func 61) ⟨[]⟩ ⟨[pt b]⟩) h = some (.int .i64 z, h) ∧ (0 ≤ z ↔ ∃ x ∈ l, x ∈ po.last) := by
  have hlen := ha.len
  rw [ns_len] at hlen
  have st := Sl.start h hS
  have key : ∀ (k q i : Nat), l.length - i ≤ k → k < q → i ≤ l.length → (∀ x ∈ l.take i, x ∉ po.last) → ∃ z : Int, lp q (F87_3 n cl) [av, .func (Fn.func 61) ⟨[]⟩ ⟨[pt b]⟩, .int .i64 (l.length : Nat), .int .i64 (i : Nat)] h = some (.int .i64 z, h) ∧ (0 ≤ z ↔ ∃ x ∈ l, x ∈ po.last) := by
    intro k
    induction k with
    | zero =>
      intro q i h1 h2 h3 h4
      obtain ⟨q, rfl⟩ : ∃ r, q = r + 1 := ⟨q - 1, by omega⟩
      rw [lp_succ]
      have d : decide (((i : Nat) : Int) < ((l.length : Nat) : Int)) = false := by simp; omega
      simp only [F87_3, F87_2, ucons_cons, xLt_i, d, vb_some, bite_f]
      refine ⟨-1, rfl, ?_⟩
      rw [List.take_of_length_le (by omega)] at h4
      constructor
      · intro q; omega
      · rintro ⟨x, q1, q2⟩; exact absurd q2 (h4 x q1)
    | succ k ih =>
      intro q i h1 h2 h3 h4
      by_cases hi : i < l.length
      · obtain ⟨q, rfl⟩ : ∃ r, q = r + 1 := ⟨q - 1, by omega⟩
        rw [lp_succ]
        generalize hL : lp q (F87_3 n cl) = LL
        have d : decide (((i : Nat) : Int) < ((l.length : Nat) : Int)) = true := by simp; omega
        have hx := List.getElem?_eq_getElem hi
        obtain ⟨b1, o1, cs1, e1, e2, e3⟩ := ha.at (k := .i64) (i := i) (x := .int .i64 (l[i] : Nat)) (by simp [ns, hx])
        have l1 := st.ldS e2 e3
        have hmem : l[i] ∈ l := List.getElem_mem hi
        have htk : l.take (i + 1) = l.take i ++ [l[i]] := by rw [List.take_add_one, hx]; rfl
        generalize l[i] = y at hx e3 l1 hmem htk
        have hcall : xCall cl (.func (Fn.func 61) ⟨[]⟩ ⟨[pt b]⟩) [.int .i64 (y : Nat)] h = some (.bool (decide (y ∈ po.last)), h) := by
          show cl 61 [.int .i64 (y : Nat), pt b] h = _
          rw [h61]; exact c61 hn hS hp hin hb
        simp only [F87_3, F87_2, ucons_cons, xLt_i, d, vb_some, bite_t, F87_1, e1, l1, hcall]
        show ∃ z : Int, bite (.bool (decide (y ∈ po.last))) (some (.int .i64 (i : Nat), h)) (F87_0 n cl (.int .i64 (i : Nat)) LL av (.func (Fn.func 61) ⟨[]⟩ ⟨[pt b]⟩) (.int .i64 (l.length : Nat)) h) = some (.int .i64 z, h) ∧ _
        by_cases hy : y ∈ po.last
        · have d2 : decide (y ∈ po.last) = true := by simp [hy]
          simp only [d2, bite_t]
          exact ⟨_, rfl, ⟨fun _ => ⟨y, hmem, hy⟩, fun _ => by omega⟩⟩
        · have d2 : decide (y ∈ po.last) = false := by simp [hy]
          simp only [d2, bite_f, F87_0, vN_eq, xAdd_i, wrapN (show i < 4611686018427387904 by omega), vb_some]
          rw [← hL]
          refine ih q (i + 1) (by omega) (by omega) (by omega) fun x hm => ?_
          rw [htk] at hm
          rcases List.mem_append.1 hm with q | q
          · exact h4 x q
          · have : x = y := by simpa using q
            rw [this]; exact hy
      · exact ih q i (by omega) (by omega) h3 h4
  obtain ⟨z, h1, h2⟩ := key l.length n 0 (by omega) (by omega) (by omega) (by simp)
  refine ⟨z, ?_, h2⟩
  unfold F87
  simp only [hlen, vb_some, vN_eq]
  exact h1
theorem c60 [OkH h] (hn : 4611686018427387904 ≤ n) (hS : Vw.le S h.cells) {po : Po} {ps : List Value} {b : Nat} (hp : PoV S po ps) (hin : po.In) (hb : h.cells b = some ps) (h61 : ∀ u v h, cl 61 [u, v] h = F61 n cl' u v h) {av : Value} {l : List Nat} (ha : SlV S av (ns l)) (hl : l.length < 1000000000) :
    pcall (F60 n cl av (.func (Fn.func 61) ⟨[]⟩ ⟨[pt b]⟩) h) = some (.bool (l.any fun x => decide (x ∈ po.last))) := by
  obtain ⟨z, h1, h2⟩ := c87 (n := n) (cl := cl) (cl' := cl') (h := h.fzn) hn hS hp hin hb h61 ha hl
  have hp87 : pcall (F87 n cl av (.func (Fn.func 61) ⟨[]⟩ ⟨[pt b]⟩) h.fzn) = some (.int .i64 z) := by rw [h1]; rfl
  have e : F60 n cl av (.func (Fn.func 61) ⟨[]⟩ ⟨[pt b]⟩) h = some (.bool (l.any fun x => decide (x ∈ po.last)), h) := by
    unfold F60
    have d : decide (((0 : Nat) : Int) ≤ z) = l.any fun x => decide (x ∈ po.last) := by
      rw [Bool.eq_iff_iff]
      simp only [decide_eq_true_eq, List.any_eq_true]
      exact h2
    simp only [hp87, vb_some, vN_eq, xGe_i, d]
  rw [e]; rfl
end
end Go.Am

set_option linter.unusedSimpArgs false
set_option linter.unusedVariables false
namespace Go.Am
open Go Go.RowKit Go.Proofs
def nowP (po : Po) : (Nat → Prop) → List Nat → (Nat → Prop)
  | X, [] => X
  | X, c :: cs => nowP po (fun i => (∃ y, X y ∧ i ∈ po.follow.getD y []) ∧ takesB po c i = true) cs
def bys (l : List Nat) : List Value := l.map fun c => .int .u8 (c : Nat)
theorem veq1_sl {b o l c : Nat} : veq1 (.slice (some ⟨b, o, none⟩) l c) (.slice (some ⟨b, o, none⟩) l c) = true := by
  unfold veq1
  simp only [Nat.beq_refl]
  unfold aeq
  simp
theorem SlV.veq1 {V : Vw} {v : Value} {vs : List Value} (r : SlV V v vs) : Go.Am.veq1 v v = true := by
  rcases r with ⟨_, rfl⟩ | ⟨b, o, c, cs, rfl, _⟩
  · rfl
  · exact veq1_sl
theorem SlC.veq1 {V : Vw} {sz k : Nat} {v : Value} {cells : List Value} (r : SlC V sz v k cells) : Go.Am.veq1 v v = true := by
  rcases r with ⟨_, _, rfl⟩ | ⟨b, o, c, cs, rfl, _⟩
  · rfl
  · exact veq1_sl
theorem PoV.veq {V : Vw} {po : Po} {ps : List Value} (h : PoV V po ps) : Go.Am.veq (.agg ⟨ps⟩) (.agg ⟨ps⟩) = true := by
  obtain ⟨sv, fv, lv, wv, ws, rfl, q1, q2, q3, q4, _⟩ := h
  have hb : Go.Am.veq1 (.bool po.null) (.bool po.null) = true := by cases po.null <;> rfl
  show veqs [sv, .bool po.null, fv, lv, wv] [sv, .bool po.null, fv, lv, wv] = true
  simp only [veqs, q1.veq1, q2.veq1, q3.veq1, q4.veq1, hb]
theorem mem_aft {po : Po} {l : List Nat} {i : Nat} : i ∈ aft po l ↔ ∃ y, y ∈ l ∧ i ∈ po.follow.getD y [] := by
  unfold aft; rw [List.mem_flatMap]
section
variable {Q : Value → PH → Prop} {n : Nat} {cl cl' : CL} {h h0 : PH} {S : Vw} {m : OM} {rows : Rws} {K2 : Value → PH → R}
theorem loop31 (hn : 4611686018427387904 ≤ n) {D : Nat} (hD : 1000000 ≤ D) (h104 : ∀ u v w x h, cl 104 [u, v, w, x] h = CLV n (D + 1) 104 [u, v, w, x] h) (h61 : ∀ u v h, cl 61 [u, v] h = F61 n cl' u v h) {po : Po} {ps : List Value} {x : Nat} (hp : PoV S po ps) (hin : po.In) (hfl : ∀ w ∈ po.follow, w.length ≤ 1000) (hfy : ∀ w ∈ po.follow, ∀ y ∈ w, y < 1000)
    {rb : Value} {bs : List Nat} (hrb : SlV S rb (bys bs)) (hbs : ∀ c ∈ bs, c < 256) (hbl : bs.length < 1000000) :
    ∀ (k q i : Nat) (X : Nat → Prop) (nv : Value) (lst : List Nat) (S' : Vw) (h : PH), bs.length - i ≤ k → k < q → i ≤ bs.length → Vw.le S S' → Sl h0 h S' OM.emp [(x, .row .own 1 ps)] → SlV S' nv (ns lst) → (∀ y, y ∈ lst ↔ X y) → lst.length ≤ 1000 →
    Ret (lp q (F31_4 n cl) [pt x, nv, rb, .int .i64 (bs.length : Nat), .int .i64 (i : Nat)] h) fun v _ => ∃ bb : Bool, v = .bool bb ∧ (bb = true ↔ ∃ y, nowP po X (bs.drop i) y ∧ y ∈ po.last) := by
  have hps := hp.ps
  intro k
  induction k with
  | zero =>
    intro q i X nv lst S' h h1 h2 h3 le st hnv hX hll
    obtain ⟨q, rfl⟩ : ∃ r, q = r + 1 := ⟨q - 1, by omega⟩
    rw [lp_succ]
    have d : decide (((i : Nat) : Int) < ((bs.length : Nat) : Int)) = false := by simp; omega
    have := st.ok
    have hb : h.fzn.cells x = some ps := st.fz x ps (vall_m (st.mem (.head _)))
    have hc := c60 (n := n) (cl := cl) (cl' := cl') (h := h.fzn) hn (fun b cs e => st.leS b cs e) (hp.mono le) hin hb h61 hnv (by omega)
    simp only [F31_4, F31_3, ucons_cons, xLt_i, d, vb_some, bite_f, F31_2, hc]
    refine Ret.of ⟨_, rfl, ?_⟩
    rw [List.drop_of_length_le (by omega)]
    simp only [List.any_eq_true, decide_eq_true_eq, nowP]
    exact ⟨fun ⟨y, q1, q2⟩ => ⟨y, (hX y).1 q1, q2⟩, fun ⟨y, q1, q2⟩ => ⟨y, (hX y).2 q1, q2⟩⟩
  | succ k ih =>
    intro q i X nv lst S' h h1 h2 h3 le st hnv hX hll
    by_cases hi : i < bs.length
    · obtain ⟨q, rfl⟩ : ∃ r, q = r + 1 := ⟨q - 1, by omega⟩
      rw [lp_succ]
      generalize hL : lp q (F31_4 n cl) = LL
      have d : decide (((i : Nat) : Int) < ((bs.length : Nat) : Int)) = true := by simp; omega
      have hx := List.getElem?_eq_getElem hi
      have hc256 := hbs _ (List.getElem_mem hi)
      have hdr : bs.drop i = bs[i] :: bs.drop (i + 1) := List.drop_eq_getElem_cons hi
      obtain ⟨b1, o1, cs1, e1, e2, e3⟩ := hrb.at (k := .i64) (i := i) (x := .int .u8 (bs[i] : Nat)) (by simp [bys, hx])
      have l1 := (st.weakS le).ldS e2 e3
      generalize bs[i] = c at hx hc256 hdr e3 l1
      have la : xLdA 5 (pt x) h = some (.agg ⟨ps⟩) := st.ldA (.head _) (by rw [List.drop_zero, ← hps.1, List.take_length]) (by rw [hps.1]; exact Nat.le_refl _)
      simp only [F31_4, F31_3, ucons_cons, xLt_i, d, vb_some, bite_t, F31_1, e1, l1, la]
      have := st.ok
      refine Ret.lfcall st (f59 (n := n) (cl := cl) (h := h.fzn) (S := S') hn hD h104 (fun b cs e => st.leS b cs e) (hp.mono le) hnv hll hfl) fun v2 h2' rows2 ⟨L, hRise, g2⟩ st2 => ?_
      have hLl : L.length ≤ 1000 := hRise.len fun y hy => by
        obtain ⟨z, _, hz⟩ := mem_aft.1 hy
        rw [List.getD_eq_getElem?_getD] at hz
        cases hq : po.follow[z]? with
        | none => rw [hq] at hz; simp at hz
        | some w => rw [hq] at hz; exact hfy w (List.mem_of_getElem? hq) y (by simpa using hz)
      obtain ⟨S2, le2, st3, hv2⟩ := Gl.settle st2 g2
      have la2 : xLdA 5 (pt x) h2' = some (.agg ⟨ps⟩) := st3.ldA (.head _) (by rw [List.drop_zero, ← hps.1, List.take_length]) (by rw [hps.1]; exact Nat.le_refl _)
      rw [la2, lchk_t hp.veq]
      have := st3.ok
      refine Ret.lfcall st3 (f58 (n := n) (cl := cl) (h := h2'.fzn) (S := S2) hn (fun b cs e => st3.leS b cs e) (hp.mono (le.trans le2)) hin hv2.slv (by omega) hc256) fun v4 h4 rows4 g4 st4 => ?_
      obtain ⟨S4, le4, st5, hv4⟩ := Gl.settle st4 g4
      simp only [vN_eq, xAdd_i, wrapN (show i < 4611686018427387904 by omega), vb_some]
      rw [← hL, hdr]
      refine ih q (i + 1) _ v4 (tk po c L) S4 h4 (by omega) (by omega) (by omega) ((le.trans le2).trans le4) st5 hv4.slv (fun y => ?_) (by
        have : (tk po c L).length ≤ L.length := List.length_filter_le _ _
        omega)
      unfold tk
      rw [List.mem_filter, hRise.2, mem_aft]
      constructor
      · rintro ⟨⟨z, q1, q2⟩, q3⟩; exact ⟨⟨z, (hX z).1 q1, q2⟩, q3⟩
      · rintro ⟨⟨z, q1, q2⟩, q3⟩; exact ⟨⟨z, (hX z).2 q1, q2⟩, q3⟩
    · exact ih q i X nv lst S' h (by omega) (by omega) h3 le st hnv hX hll
end
end Go.Am

set_option linter.unusedSimpArgs false
set_option linter.unusedVariables false
namespace Go.Am
open Go Go.RowKit Go.Proofs
def takesP (po : Po) : List Nat → Prop
  | [] => po.null = true
  | c :: cs => ∃ y, nowP po (fun i => i ∈ po.first ∧ takesB po c i = true) cs y ∧ y ∈ po.last
theorem u39 : ∃ inf, Try.prog.underlying 39 = some (.slice 5) ∧ Try.prog.info? 5 = some inf ∧ inf.size = 1 := by
  have e2 : (Try.prog.info? 5).map (·.size) = some 1 := by kernel_rfl
  rw [Option.map_eq_some_iff] at e2
  obtain ⟨inf, h1, h2⟩ := e2
  exact ⟨inf, by kernel_rfl, h1, h2⟩
theorem bys_len (l : List Nat) : (bys l).length = l.length := by simp [bys]
section
variable {Q : Value → PH → Prop} {n : Nat} {cl cl' : CL} {h h0 : PH} {S : Vw} {m : OM} {rows : Rws} {K2 : Value → PH → R}
theorem cut39 {bv : Value} {c : Nat} {cs : List Nat} (hb : SlV S bv (bys (c :: cs))) (hcap : ∀ b o n c, bv = .slice (some ⟨b, o, none⟩) n c → CapOk n c) : ∃ v, acut Try.prog 39 bv (some (.int .i64 ((1 : Nat) : Int))) none none = some v ∧ SlV S v (bys cs) := by
  obtain ⟨inf, hu, hi', hsz⟩ := u39
  rcases hb with ⟨he, _⟩ | ⟨b, o, cp, cells, rfl, h1, h2, h3⟩
  · simp [bys] at he
  · have hc := hcap _ _ _ _ rfl
    rw [bys_len] at hc h2 ⊢
    have hcs : (c :: cs).length = cs.length + 1 := rfl
    rw [hcs] at hc h2 ⊢
    have e1 := acut_at (P := Try.prog) (T := 39) (e := 5) (b := b) (o := o) (n := cs.length + 1) (c := cp) (l := 1) (r := cs.length + 1) (lo := some (.int .i64 ((1 : Nat) : Int))) (hi := none) hu hi' hc rfl (bd_i (by omega) (by omega)) (by omega) (Nat.le_refl _)
    refine ⟨_, e1, .inr ⟨b, _, cp - 1, cells, by rw [bys_len]; rfl, h1, ?_, fun i x hx => ?_⟩⟩
    · rw [bys_len]; split
      · omega
      · rw [hsz]; omega
    · have hlt := (List.getElem?_eq_some_iff.1 hx).1
      rw [bys_len] at hlt
      have hcp := hc.1
      rw [if_neg (by omega), hsz]
      have := h3 (i + 1) x (by simpa [bys] using hx)
      have e : o + (i + 1) = o + 1 * 1 + i := by omega
      rw [e] at this; exact this
theorem c31g [OkH h] (hn : 4611686018427387904 ≤ n) {D : Nat} (hD : 1000000 ≤ D) (h104 : ∀ u v w x h, cl 104 [u, v, w, x] h = CLV n (D + 1) 104 [u, v, w, x] h) (h61 : ∀ u v h, cl 61 [u, v] h = F61 n cl' u v h) (hS : Vw.le S h.cells) {po : Po} {ps : List Value} (hp : PoV S po ps) (hin : po.In) (hfl : ∀ w ∈ po.follow, w.length ≤ 1000) (hfy : ∀ w ∈ po.follow, ∀ y ∈ w, y < 1000) (hf1 : po.first.length ≤ 1000)
    {bv : Value} {bs : List Nat} (hlen : xLenS bv = some (.int .i64 (bs.length : Nat))) (hb : bs ≠ [] → SlV S bv (bys bs)) (hcap : bs ≠ [] → ∀ b o n c, bv = .slice (some ⟨b, o, none⟩) n c → CapOk n c) (hbs : ∀ c ∈ bs, c < 256) (hbl : bs.length < 1000000) :
    ∃ bb : Bool, pcall (F31 n cl (.agg ⟨ps⟩) bv h) = some (.bool bb) ∧ (bb = true ↔ takesP po bs) := by
  have hps := hp.ps
  have key : Ret (F31 n cl (.agg ⟨ps⟩) bv h) fun v _ => ∃ bb : Bool, v = .bool bb ∧ (bb = true ↔ takesP po bs) := by
    unfold F31
    refine Ret.lbox (Sl.start h hS) fun h1 x st1 => ?_
    have st1 : Sl h h1 S OM.emp [(x, .row .own 1 ps)] := st1
    have la : xLdA 5 (pt x) h1 = some (.agg ⟨ps⟩) := st1.ldA (.head _) (by rw [List.drop_zero, ← hps.1, List.take_length]) (by rw [hps.1]; exact Nat.le_refl _)
    have hp0 := hp
    obtain ⟨sv, fv, lv, wv, ws, rfl, a1, a2, a3, a4, a5, a6⟩ := hp
    have l1 : xLd (.pointer (some ⟨x, 1, none⟩)) h1 = some (.bool po.null) := st1.ld (.head _) rfl
    have l2 : xLd (.pointer (some ⟨x, 2, none⟩)) h1 = some fv := st1.ld (.head _) rfl
    simp only [hlen, vb_some, vN_eq, xEq_i]
    match bs, hb, hcap, hbs, hbl, hlen with
    | [], _, _, _, _, _ =>
      have d : decide ((([] : List Nat).length : Int) = ((0 : Nat) : Int)) = true := by simp
      simp only [d, bite_t, F31_0, xFld_p, Nat.zero_add, l1, vb_some]
      exact Ret.of ⟨_, rfl, Iff.rfl⟩
    | c :: cs, hb, hcap, hbs, hbl, hlen =>
      have hb := hb (by simp)
      have hcap := hcap (by simp)
      have d : decide (((c :: cs).length : Int) = ((0 : Nat) : Int)) = false := by simp; omega
      obtain ⟨b1, o1, cs1, e1, e2, e3⟩ := hb.at (k := .i64) (i := 0) (x := .int .u8 (c : Nat)) (by simp [bys])
      have l3 := st1.ldS e2 e3
      obtain ⟨rb, e4, hrb⟩ := cut39 hb hcap
      have hc256 := hbs c (.head _)
      simp only [d, bite_f, F31_5, xFld_p, Nat.zero_add, la, l2, vb_some, vN_eq]
      refine Ret.vb e1 ?_
      simp only [l3, vb_some]
      have := st1.ok
      refine Ret.lfcall st1 (f58 (n := n) (cl := cl) (h := h1.fzn) (S := S) hn (fun b cs e => st1.leS b cs e) hp0 hin a2 (by omega) hc256) fun v4 h4 rows4 g4 st4 => ?_
      obtain ⟨S4, le4, st5, hv4⟩ := Gl.settle st4 g4
      have hlr := hrb.len
      rw [bys_len] at hlr
      simp only [e4, vb_some, hlr]
      have hloop := loop31 (n := n) (cl := cl) (cl' := cl') (h0 := h) hn hD h104 h61 hp0 hin hfl hfy hrb (fun c' h' => hbs c' (.tail _ h')) (by simp at hbl; omega) cs.length n 0 (fun i => i ∈ po.first ∧ takesB po c i = true) v4 (tk po c po.first) S4 h4 (by omega) (by simp at hbl; omega) (Nat.zero_le _) le4 st5 hv4.slv (fun y => by unfold tk; rw [List.mem_filter]) (by
        have : (tk po c po.first).length ≤ po.first.length := List.length_filter_le _ _
        omega)
      refine hloop.mono fun v h' ⟨bb, q1, q2⟩ => ⟨bb, q1, ?_⟩
      rw [List.drop_zero] at q2
      exact q2
  obtain ⟨v, h1, e, bb, rfl, hbb⟩ := key
  exact ⟨bb, by rw [e]; exact pcall_some rfl, hbb⟩
end
end Go.Am

set_option linter.unusedSimpArgs false
set_option linter.unusedVariables false
namespace Go.Am
open Go Go.RowKit Go.Proofs
section
variable {Q : Value → PH → Prop} {n : Nat} {cl cl' : CL} {h h0 : PH} {S : Vw} {m : OM} {rows : Rws} {K2 : Value → PH → R}
end
end Go.Am

set_option linter.unusedSimpArgs false
set_option linter.unusedVariables false
namespace Go.Am
open Go Go.RowKit Go.Proofs
section
variable {Q : Value → PH → Prop} {n : Nat} {cl cl' : CL} {h h0 : PH} {S S' : Vw} {m : OM} {rows : Rws} {K2 : Value → PH → R}
end
end Go.Am

set_option linter.unusedSimpArgs false
set_option linter.unusedVariables false
namespace Go.Am
open Go Go.RowKit Go.Proofs
def refP (po : Po) : (Nat → Prop) → List Nat → Prop
  | X, [] => False
  | X, [c] => ∃ y, (X y ∧ takesB po c y = true) ∧ y ∈ po.last
  | X, c :: c' :: cs => refP po (fun i => ∃ y, (X y ∧ takesB po c y = true) ∧ i ∈ po.follow.getD y []) (c' :: cs)
section
variable {Q : Value → PH → Prop} {n : Nat} {cl cl' : CL} {h h0 : PH} {S : Vw} {m : OM} {rows : Rws} {K2 : Value → PH → R}
end
end Go.Am

set_option linter.unusedSimpArgs false
set_option linter.unusedVariables false
namespace Go.Am
open Go Go.RowKit Go.Proofs
section
variable {Q : Value → PH → Prop} {n : Nat} {cl cl' : CL} {h h0 : PH} {S : Vw} {m : OM} {rows : Rws} {K2 : Value → PH → R}
end
end Go.Am

set_option linter.unusedSimpArgs false
set_option linter.unusedVariables false
namespace Go.Am
open Go Go.RowKit Go.Proofs
theorem Ret.fcall0 {Q : Value → PH → Prop} {h h0 : PH} {S : Vw} {K2 : Value → PH → R} (s : Sl h0 h S OM.emp []) {r : R} {P : Value → Vw → Prop}
    (a : Ret r fun v h1 => ∃ S', Vw.le S S' ∧ Sl h.fzn h1 S' OM.emp [] ∧ P v S') (hk : ∀ v h' S', Vw.le S S' → P v S' → Sl h0 h' S' OM.emp [] → Ret (K2 v h') Q) : Ret (Go.Am.hb (Go.Am.fcall h r) K2) Q := by
  obtain ⟨v, h1, rfl, S', le, s1, hp⟩ := a
  have ok := s.ok
  have e : Go.Am.fcall h (some (v, h1)) = some (v, h.back h1) := by
    show Bool.rec (motive := fun _ => R) none (some (v, h.back h1)) (Nat.ble h.fz h.n) = _
    rw [Nat.ble_eq_true_of_le ok.fz]
  rw [e]
  have kp := s1.sm.kp
  have hle : h.n ≤ h1.n := kp.le
  have le0 := s.sm.kp.le
  have hraw : ∀ b, (h.back h1).raw b = h1.raw b := fun b => rfl
  have hold : ∀ b, b < h.n → h1.raw b = h.raw b := fun b hb => kp.raw b hb
  refine hk v (h.back h1) S' le hp ⟨⟨⟨⟨by show h.fz ≤ h1.n; have := ok.fz; omega, kp.ok.full⟩, by show h0.n ≤ h1.n; omega, s.sm.kp.fz, fun b hb => ?_, opK_of fun b hb => ?_⟩, s.sm.fz, fun b o hb => ?_, fun b cs hb => ?_⟩, .nil, fun p hp => by cases hp⟩
  · rw [hraw, hold b (by omega)]; exact s.sm.kp.raw b hb
  · rw [hraw, hold b (by omega)]; exact s.sm.kp.raw b hb
  · cases hb
  · obtain ⟨h2, h3⟩ := s1.sm.see b cs hb
    refine ⟨?_, rfl⟩
    unfold PH.cells at h2 ⊢
    rw [hraw]; exact h2
structure BysV (V : Vw) (v : Value) (bs : List Nat) : Prop where
  slv : bs ≠ [] → SlV V v (bys bs)
  emp : bs = [] → v = nils ∨ ∃ b c, v = .slice (some ⟨b, 0, none⟩) 0 c
  cap : ∀ b n c, v = .slice (some b) n c → c = openCap
theorem BysV.mono {V W : Vw} {v : Value} {bs : List Nat} (hs : Vw.le V W) (h : BysV V v bs) : BysV W v bs := ⟨fun e => (h.slv e).mono hs, h.emp, h.cap⟩
theorem BysV.len {V : Vw} {v : Value} {bs : List Nat} (h : BysV V v bs) : xLenS v = some (.int .i64 (bs.length : Nat)) := by
  by_cases e : bs = []
  · subst e
    rcases h.emp rfl with rfl | ⟨b, c, rfl⟩ <;> simp [nils]
  · have := (h.slv e).len
    rwa [bys_len] at this
section
variable {Q : Value → PH → Prop} {n : Nat} {cl cl' : CL} {h h0 : PH} {S : Vw} {m : OM} {rows : Rws} {K2 : Value → PH → R}
end
end Go.Am

set_option linter.unusedSimpArgs false
set_option linter.unusedVariables false
namespace Go.Am
open Go Go.RowKit Go.Proofs
theorem clt104 {n d : Nat} {u v w x : Value} {h : PH} : CLT n d 104 [u, v, w, x] h = CLV n d 104 [u, v, w, x] h := rfl
theorem clt55 {n d : Nat} {u v : Value} {h : PH} : CLT n d 55 [u, v] h = CLV n d 55 [u, v] h := rfl
theorem clt61 {n d : Nat} {u v : Value} {h : PH} : CLT n (d + 1) 61 [u, v] h = F61 n (CLV n d) u v h := rfl
theorem abeq' {o1 o2 : Operand} {a b : Bool} : abin Try.prog .eql 4 o1 o2 (.bool a) (.bool b) = some (.bool (a == b)) := by cases a <;> cases b <;> kernel_rfl
theorem poOf_fol {x : Re} (hs : x.sets.length ≤ 150) : ∀ w ∈ (poOf x).follow, w.Pairwise (· < ·) ∧ w.length ≤ 150 ∧ ∀ y ∈ w, y < 150 := by
  intro w hw
  unfold poOf at hw
  simp only [List.mem_map] at hw
  obtain ⟨i, _, rfl⟩ := hw
  exact ⟨srt_sorted _ _, Nat.le_trans srt_len hs, fun y hy => by have := (mem_srt.1 hy).1; omega⟩
theorem poOf_fst {x : Re} (hs : x.sets.length ≤ 150) : (poOf x).first.length ≤ 150 := Nat.le_trans srt_len hs
section
variable {n : Nat} {h h0 : PH} {S : Vw}
end
end Go.Am

set_option linter.unusedSimpArgs false
set_option linter.unusedVariables false
namespace Go.Am
open Go Go.RowKit Go.Proofs Go.ChangeShapes Go.WideShapes
theorem wf8 {z : Int} (h : (Lit.int .u8 z).wf = true) : 0 ≤ z ∧ z < 256 := by
  simp [Lit.wf, IntKind.min, IntKind.max, IntKind.signed, IntKind.bits] at h
  omega
theorem opens_bytes {P : Program} {T e : TypeId} (hu : P.underlying T = some (.slice e)) (hsz : P.cellsOf e = 1) (he : P.underlying e = some (.int .u8)) {H : Type} {enc : TypeId × Value → H} {w : World} {ρ : RMap} {l : Heap} {fuel : Nat} {v : Value} {y : DataW H × List MemPlace} (m : Im w ρ l) (ht : DataW.trod enc P w 0 (fun _ => true) true fuel T [v] = some y) :
    ∃ (ρ' : RMap) (ext : Heap) (v' : Value) (bs : List Nat), Im w ρ' (l ++ ext) ∧ ρ.le ρ' ∧ VR ρ' v' v ∧ BysV (vl (l ++ ext)) v' bs ∧ ∀ c ∈ bs, c < 256 := by
  have hmx : maxLen = 9223372036854775807 := rfl
  have op : Opens P e (rI .u8) (fun z => (Lit.int .u8 z).wf = true) := opens_int he
  rcases Deep.open_slice hu ht with ⟨hcs, _⟩ | ⟨a, len, cap, mm, n, D, Pl, hcs, _, hlc, hm, hmm, _, hcell⟩
  · cases hcs
    exact ⟨ρ, [], nils, [], by rw [List.append_nil]; exact m, RMap.le_refl _, .snil _ _, ⟨fun h => absurd rfl h, fun _ => .inl rfl, fun b n c e => by cases e⟩, by simp⟩
  · cases hcs
    simp only [if_true] at hmm
    rw [hsz] at hcell
    cases hc0 : cap with
    | zero =>
      have hl0 : len = 0 := by omega
      subst hl0
      exact ⟨ρ, [], .slice (some ⟨0, 0, none⟩) 0 openCap, [], by rw [List.append_nil]; exact m, RMap.le_refl _, .slz m.zero (by decide) rfl, ⟨fun h => absurd rfl h, fun _ => .inr ⟨_, _, rfl⟩, fun b n c e => by cases e; rfl⟩, by simp⟩
    | succ cap' =>
      obtain ⟨cs0, hc, _⟩ := hcell 0 (by omega)
      obtain ⟨_, hlen0, hat0⟩ := World.cells?_some hc
      have hat0 := hat0 0 (by omega)
      have hx0 := List.getElem?_eq_getElem (l := cs0) (i := 0) (by omega)
      obtain ⟨hb, hs⟩ := cell_lt (v := cs0[0]'(by omega)) (by rw [hat0]; exact hx0)
      have hb : a.block < w.heap.size := by simpa [Addr.add] using hb
      have hs : a.spot = none := by simpa [Addr.add] using hs
      have ea : a = ⟨a.block, a.off, none⟩ := by cases a; simp_all
      obtain ⟨ρ1, ext, xs, cs, m1, le1, h1, h2, h3, h4, h5⟩ := Im.rowsK op m hs (fun i hi => let ⟨c, q1, q2⟩ := hcell i (by omega); ⟨c, q1, _, q2⟩) len (Nat.le_refl _)
      have h2 : cs.length = len * 1 := h2
      have m' := m1.row 1 a.block a.off cap cs hb h3
      have hnew : vl (l ++ (ext ++ [.row .ro 1 cs])) (l ++ ext).length = some cs := by
        unfold vl
        rw [← List.append_assoc, List.getElem?_append_right (Nat.le_refl _), Nat.sub_self]
        simp
      refine ⟨_, ext ++ [.row .ro 1 cs], .slice (some ⟨(l ++ ext).length, 0, none⟩) len openCap, xs.map Int.toNat, by rw [← List.append_assoc]; exact m', RMap.le_trans le1 (upR_le m1 _), ?_, ⟨fun _ => .inr ⟨(l ++ ext).length, 0, openCap, cs, by rw [bys_len, List.length_map, h1], hnew, by rw [bys_len, List.length_map, h1, h2]; omega, fun i x hx => ?_⟩, fun e => .inr ⟨(l ++ ext).length, openCap, ?_⟩, fun b n c e => by cases e; rfl⟩, ?_⟩
      · rw [ea]
        have e : upR ρ1 (l ++ ext).length ⟨a.block, a.off, cap⟩ (l ++ ext).length = some ⟨a.block, a.off, cap⟩ := by unfold upR; rw [if_pos rfl]
        rw [← hc0]
        exact VR.slo e (by decide) (Nat.add_comm _ _) hlc
      · unfold bys at hx
        rw [List.map_map, List.getElem?_map, Option.map_eq_some_iff] at hx
        obtain ⟨z, hz, rfl⟩ := hx
        have hlt := (List.getElem?_eq_some_iff.1 hz).1
        have q := h4 i z hz
        have q : (cs.drop (i * 1)).take 1 = [.int .u8 z] := q
        have hw := wf8 (h5 z (List.mem_of_getElem? hz))
        rw [Nat.mul_one, List.drop_eq_getElem_cons (by omega), List.take_succ_cons, List.take_zero] at q
        rw [Nat.zero_add, List.getElem?_eq_getElem (by omega)]
        refine congrArg some ((List.cons.inj q).1.trans ?_)
        show Value.int .u8 z = .int .u8 ((z.toNat : Nat) : Int)
        rw [Int.toNat_of_nonneg hw.1]
      · have : xs.length = 0 := by simpa using congrArg List.length e
        have hl : len = 0 := by omega
        rw [hl]
      · intro c hc
        rw [List.mem_map] at hc
        obtain ⟨z, hz, rfl⟩ := hc
        have := wf8 (h5 z hz); omega
theorem PH.abs_list {h : PH} {l : List AObj} (hn : h.n = l.length) (hz : h.fz = 0) (hr : ∀ b, h.raw b = l[b]?) : h.abs = l := by
  apply List.ext_getElem?
  intro i
  show ((List.range h.n).map fun i => frz (Nat.blt i h.fz) ((h.br.get i).getD .dead))[i]? = l[i]?
  rw [List.getElem?_map]
  by_cases hi : i < h.n
  · have hl : l[i]? = some l[i] := List.getElem?_eq_getElem (by omega)
    have hb : Nat.blt i h.fz = false := by rw [hz]; rfl
    have hg : h.br.get i = some l[i] := by rw [← PH.raw_lt hi, hr, hl]
    rw [List.getElem?_range hi, hl]
    simp only [Option.map_some, hb, hg, Option.getD_some, frz]
  · rw [List.getElem?_eq_none (by simp; omega), List.getElem?_eq_none (by omega)]; rfl
set_option maxRecDepth 100000 in
theorem law_tb {f : FuncId} {H : Type} {enc : TypeId × Value → H} {w : World} {r : _root_.Go.Reach} {b0 : Nat} {v0 v1 : Value} {T0 T1 e : TypeId} {d0 d1 : DataW H} {p0 p1 : List MemPlace} (hs : Try.prog.underlying T0 = some .string) (hu : Try.prog.underlying T1 = some (.slice e)) (hsz : Try.prog.cellsOf e = 1) (he : Try.prog.underlying e = some (.int .u8))
    (hv0 : Value.okWide Try.prog w r b0 T0 v0) (hv1 : Value.okWide Try.prog w r b0 T1 v1) (ht0 : DataW.Trod enc Try.prog w 0 (fun _ => true) true T0 v0 d0 p0) (ht1 : DataW.Trod enc Try.prog w 0 (fun _ => true) true T1 v1 d1 p1)
    (law : ∀ (h : PH) (t : ByteArray) (bv : Value) (bs : List Nat), OkH h → t.size < 9223372036854775808 → BysV h.cells bv bs → (∀ c ∈ bs, c < 256) → ∃ k, ACall Try.prog f [.string t, bv] h.abs fun u k' => u = .bool true ∧ k' = k) :
    Calls Try.prog f #[v0, v1] w fun e w' => e = .returned (.bool true) ∧ Below w.heap.size w w' := by
  obtain ⟨s1, rfl⟩ := okWide_string hs hv0
  obtain ⟨a1, l1, c1, rfl⟩ := okWide_slice hu hv1
  obtain ⟨f0, ht0⟩ := ht0
  obtain ⟨f1, ht1⟩ := ht1
  obtain ⟨s, e0, _, hsz0⟩ := DataW.trod_string hs ht0
  cases e0
  obtain ⟨ρ, ext, v', bs, m, le, hv, hb, h256⟩ := opens_bytes hu hsz he (Im.start w) ht1
  obtain ⟨h, ok, hhn, hz, hr⟩ := PH.of_list ([.dead] ++ ext)
  obtain ⟨k, hk⟩ := law h s1 v' bs ok (by have : maxLen = 9223372036854775807 := rfl; omega) (hb.mono (vl_ph hr)) h256
  rw [PH.abs_list hhn hz hr] at hk
  exact calls_rel (Q := fun k' => k' = k) m.rel (.cons (.string _) (.cons hv .nil)) rfl hk
end Go.Am
