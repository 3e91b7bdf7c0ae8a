import Derived.Test.YtdmfanikejcgjaaZW
import Derived.Test.YtdmfanikejcgjaaZU
set_option linter.unusedSimpArgs false
set_option linter.unusedVariables false
namespace Go.Am
open Go Go.RowKit Go.Proofs
instance okH00 : OkH h00 := ⟨Nat.le_refl _, rfl⟩
abbrev NN : Nat := 9223372036854775808
theorem cu_alive : pcall (F21 NN (CLV NN 1) h00.fzn) = some (.bool true) := by kernel_rfl
theorem law (a b : Int) (e : Bool) : ∃ k, F8 NN (CLV NN 1) (.int .i64 a) (.int .i64 b) (.bool e) h00 = some (.bool true, k) := by
  by_cases h1 : a < 2
  · refine ⟨h00, ?_⟩
    unfold F8
    rw [cu_alive]
    simp [h1]
  by_cases h2 : 20 < a
  · refine ⟨h00, ?_⟩
    unfold F8
    rw [cu_alive]
    simp [h1, h2]
  by_cases h3 : b < 1
  · refine ⟨h00, ?_⟩
    unfold F8
    rw [cu_alive]
    simp [h1, h2, h3]
  by_cases h4 : a ≤ b
  · refine ⟨h00, ?_⟩
    unfold F8
    rw [cu_alive]
    simp [h1, h2, h3, h4]
  obtain ⟨N, rfl⟩ : ∃ m : Nat, a = (m : Int) := ⟨a.toNat, by omega⟩
  obtain ⟨w, rfl⟩ : ∃ m : Nat, b = (m : Int) := ⟨b.toNat, by omega⟩
  have key : Ret (F8_11 NN (CLV NN 1) (.int .i64 N) (.int .i64 w) (.bool e) h00) fun v _ => v = .bool true := by
    show Ret (F8_11 NN (CLs NN CNo) _ _ _ _) _
    unfold F8_11
    simp only [vN_eq]
    refine Ret.vb ab27 ?_
    refine Ret.salloc (St.start _) z27 fun h2 b2 s2 => ?_
    refine Ret.sstA s2 (i := 0) rfl rfl (Nat.le_refl _) rfl fun h3 s3 => ?_
    exact loop8 (h0 := h00) (ex := []) (rvv := nils) (by decide) (by omega) (by omega) (by omega) (by omega) N 0 NN h3 (by omega) (by show N < 9223372036854775808; omega) (.inl ⟨rfl, rfl, s3⟩)
  obtain ⟨v, k, hk, rfl⟩ := key
  refine ⟨k, ?_⟩
  unfold F8
  rw [cu_alive]
  simp [h1, h2, h3, h4]
  exact hk
end Go.Am

set_option linter.unusedSimpArgs false
set_option linter.unusedVariables false
namespace Go.Am
open Go Go.RowKit Go.Proofs
/-! ### the grammars of CycleRings -/
def nxt (N i : Nat) : Nat := (i + 1) % N
def ringB (N : Nat) (bs : Bool) (i : Nat) : List Int := if (bs || decide (i = 0)) = true then [(N : Int), (nxt N i : Int), (N : Int)] else [(nxt N i : Int)]
def ringR (N : Nat) (bs tk : Bool) (w i : Nat) : List Int := ringB N bs i ++ if (tk && decide (i = w)) = true then [-1] else []
def rulesR (N : Nat) (bs tk : Bool) (w : Nat) : Nat → List Rl
  | 0 => []
  | j + 1 => rulesR N bs tk w j ++ [⟨(j : Int), ringR N bs tk w j, 0⟩]
abbrev gR (N : Nat) (bs tk : Bool) (w : Nat) : Gr := ⟨(N : Int) + 1, 1, 0, rulesR N bs tk w N ++ [⟨(N : Int), [], 0⟩, ⟨0, [-1], 0⟩], [], [], []⟩
theorem rulesR_len {N : Nat} {bs tk : Bool} {w : Nat} : ∀ j, (rulesR N bs tk w j).length = j
  | 0 => rfl
  | j + 1 => by unfold rulesR; rw [List.length_append, rulesR_len]; rfl
theorem mem_rulesR {N : Nat} {bs tk : Bool} {w : Nat} {r : Rl} : ∀ {j : Nat}, r ∈ rulesR N bs tk w j ↔ ∃ i, i < j ∧ r = ⟨(i : Int), ringR N bs tk w i, 0⟩
  | 0 => by simp [rulesR]
  | j + 1 => by
    unfold rulesR
    rw [List.mem_append, mem_rulesR]
    constructor
    · rintro (⟨i, h1, h2⟩ | h)
      · exact ⟨i, by omega, h2⟩
      · exact ⟨j, by omega, by simpa using h⟩
    · rintro ⟨i, h1, h2⟩
      by_cases e : i = j
      · subst e; right; simp [h2]
      · exact .inl ⟨i, by omega, h2⟩
section
variable {N : Nat} {bs tk : Bool} {w : Nat}
theorem mem_gR {r : Rl} : r ∈ (gR N bs tk w).rules ↔ (∃ i, i < N ∧ r = ⟨(i : Int), ringR N bs tk w i, 0⟩) ∨ r = ⟨(N : Int), [], 0⟩ ∨ r = ⟨0, [-1], 0⟩ := by
  show r ∈ rulesR N bs tk w N ++ [⟨(N : Int), [], 0⟩, ⟨0, [-1], 0⟩] ↔ _
  rw [List.mem_append, mem_rulesR]
  simp
theorem mem_ringR {i : Nat} {s : Int} (h : s ∈ ringR N bs tk w i) : s = N ∨ s = nxt N i ∨ (s = -1 ∧ tk = true ∧ i = w) := by
  unfold ringR ringB at h
  rw [List.mem_append] at h
  rcases h with h | h
  · split at h
    · simp at h; omega
    · simp at h; omega
  · split at h
    · rename_i hc
      simp at hc h
      exact .inr (.inr ⟨h, hc⟩)
    · simp at h
theorem nxt_mem {i : Nat} : (nxt N i : Int) ∈ ringR N bs tk w i := by
  unfold ringR ringB
  rw [List.mem_append]
  left
  split <;> simp
theorem nxt_lt (hN : 1 ≤ N) (i : Nat) : nxt N i < N := Nat.mod_lt _ hN
theorem ringR_len {i : Nat} : (ringR N bs tk w i).length ≤ 4 := by
  unfold ringR ringB
  rw [List.length_append]
  split <;> split <;> simp
theorem gR_nm {s : Int} : isName (gR N bs tk w).names s = true ↔ 0 ≤ s ∧ s ≤ N := by
  rw [isName_iff]; show 0 ≤ s ∧ s < (N : Int) + 1 ↔ _; omega
theorem gR_nm1 : isName (gR N bs tk w).names (-1) = false := by
  cases h : isName (gR N bs tk w).names (-1) with
  | false => rfl
  | true => have := gR_nm.1 h; omega
theorem gR_sym (hN : 1 ≤ N) {r : Rl} (hr : r ∈ (gR N bs tk w).rules) : ∀ s ∈ r.right, (0 ≤ s ∧ s ≤ N) ∨ s = -1 := by
  rcases mem_gR.1 hr with ⟨i, hi, rfl⟩ | rfl | rfl
  · intro s hs
    have := nxt_lt hN i
    rcases mem_ringR hs with h | h | h <;> omega
  · intro s hs; simp at hs
  · intro s hs; simp at hs; omega
theorem gR_rule (hN : 1 ≤ N) (h20 : N ≤ 20) {r : Rl} (hr : r ∈ (gR N bs tk w).rules) : ruleEr (gR N bs tk w) r = 0 := by
  have hs := gR_sym hN hr
  have hl : (0 ≤ r.left ∧ r.left ≤ N) ∧ r.right.length ≤ 4 ∧ r.dyn = 0 := by
    rcases mem_gR.1 hr with ⟨i, hi, rfl⟩ | rfl | rfl
    · exact ⟨by show 0 ≤ (i : Int) ∧ (i : Int) ≤ N; omega, ringR_len, rfl⟩
    · exact ⟨by show 0 ≤ (N : Int) ∧ (N : Int) ≤ N; omega, by simp, rfl⟩
    · exact ⟨by show 0 ≤ (0 : Int) ∧ (0 : Int) ≤ N; omega, by simp, rfl⟩
  obtain ⟨h1, h2, h3⟩ := hl
  have a1 : isName (gR N bs tk w).names r.left = true := gR_nm.2 h1
  have a2 : ∀ s ∈ r.right, isSym (gR N bs tk w).names (gR N bs tk w).kinds s = true := by
    intro s hs'
    unfold isSym
    rcases hs s hs' with h | rfl
    · rw [gR_nm.2 h, Bool.or_true]
    · rfl
  have a3 : r.right.all (isSym (gR N bs tk w).names (gR N bs tk w).kinds) = true := List.all_eq_true.2 a2
  have a3' : r.right.any (fun s => !isSym (gR N bs tk w).names (gR N bs tk w).kinds s) = false := by
    rw [List.any_eq_false]; intro s hs; rw [a2 s hs]; simp
  simp only [ruleEr, a1, a3, a3', h3]
  simp
  omega
theorem gR_good (hN : 1 ≤ N) (h20 : N ≤ 20) : goodB (gR N bs tk w) = true := by
  have hl : (gR N bs tk w).rules.length = N + 2 := by show (rulesR N bs tk w N ++ _).length = _; rw [List.length_append, rulesR_len]; rfl
  have a2 : isName (gR N bs tk w).names (gR N bs tk w).start = true := gR_nm.2 (by show 0 ≤ (0 : Int) ∧ (0 : Int) ≤ N; omega)
  have hw : wholeE (gR N bs tk w) = 0 := by
    unfold wholeE
    rw [if_neg (by rw [hl]; show ¬ ((N : Int) + 1 < 1 ∨ 40 < (N : Int) + 1 ∨ (1 : Int) < 0 ∨ 40 < (1 : Int) ∨ 60 < N + 2 ∨ 200 < 0); omega), a2, hl]
    simp [classesB]
    omega
  have hf : (gR N bs tk w).rules.findIdx? (fun r => decide (ruleEr (gR N bs tk w) r ≠ 0)) = none := by
    rw [List.findIdx?_eq_none_iff]
    intro r hr
    simp [gR_rule hN h20 hr]
  unfold goodB formE
  rw [if_neg (by simp [hw]), hf]
  simp
theorem gR_in (hN : 1 ≤ N) (h20 : N ≤ 20) : GIn (gR N bs tk w) := by
  have hl : (gR N bs tk w).rules.length = N + 2 := by show (rulesR N bs tk w N ++ _).length = _; rw [List.length_append, rulesR_len]; rfl
  have hr : ∀ r ∈ (gR N bs tk w).rules, inR r.left ∧ inR r.dyn ∧ (∀ s ∈ r.right, inR s) ∧ r.right.length < 9223372036854775808 := by
    intro r hr
    have hs := gR_sym hN hr
    refine ⟨?_, ?_, fun s h => ?_, ?_⟩
    · rcases mem_gR.1 hr with ⟨i, hi, rfl⟩ | rfl | rfl <;> (unfold inR; simp; try omega)
    · rcases mem_gR.1 hr with ⟨i, hi, rfl⟩ | rfl | rfl <;> simp [inR]
    · have := hs s h; unfold inR; omega
    · rcases mem_gR.1 hr with ⟨i, hi, rfl⟩ | rfl | rfl
      · exact Nat.lt_of_le_of_lt ringR_len (by decide)
      · simp
      · simp
  exact ⟨by simp only [inR]; omega, by simp [inR], by simp [inR], by omega, by simp, by simp, by simp, fun r h => (hr r h).1, fun r h => (hr r h).2.1, fun r h => (hr r h).2.2.1, fun r h => (hr r h).2.2.2, fun f h => by simp at h⟩
theorem gR_nul (hN : 1 ≤ N) {s : Int} (h : Nul (gR N bs tk w) s) : s = N := by
  induction h with
  | @mk r hr h1 h2 ih =>
    rcases mem_gR.1 hr with ⟨i, hi, rfl⟩ | rfl | rfl
    · have := ih _ nxt_mem
      have := nxt_lt hN i
      omega
    · rfl
    · have := ih (-1) (by simp)
      omega
theorem gR_nulN : Nul (gR N bs tk w) N := .mk (g := gR N bs tk w) (r := ⟨(N : Int), [], 0⟩) (mem_gR.2 (.inr (.inl rfl))) (by simp) (by simp)
theorem gR_ed (hN : 1 ≤ N) {i j : Nat} (h : Ed (gR N bs tk w) i j) : i < N ∧ j = nxt N i ∧ ¬ (tk = true ∧ i = w) := by
  obtain ⟨r, hr, hl, k, hk, hn, ho⟩ := h
  rcases mem_gR.1 hr with ⟨i', hi, rfl⟩ | rfl | rfl
  · have hl : (i' : Int) = i := hl
    have hl : i' = i := by omega
    subst hl
    have hk : (ringR N bs tk w i')[k]? = some (j : Int) := hk
    have ho : ∀ (m : Nat) x, m ≠ k → (ringR N bs tk w i')[m]? = some x → isName (gR N bs tk w).names x = true ∧ Nul (gR N bs tk w) x := ho
    have hlt := nxt_lt hN i'
    refine ⟨hi, ?_, ?_⟩
    · rcases mem_ringR (List.mem_of_getElem? hk) with h | h | h
      · -- the other one would have to be nothing
        obtain ⟨m, hm⟩ := List.getElem?_of_mem (nxt_mem (N := N) (bs := bs) (tk := tk) (w := w) (i := i'))
        by_cases e : m = k
        · subst e; rw [hk] at hm; simp at hm; omega
        · have := gR_nul hN (ho m _ e hm).2
          omega
      · omega
      · omega
    · rintro ⟨h1, h2⟩
      have hm : (-1 : Int) ∈ ringR N bs tk w i' := by
        unfold ringR
        rw [List.mem_append]; right
        simp [h1, h2]
      obtain ⟨m, hm⟩ := List.getElem?_of_mem hm
      by_cases e : m = k
      · subst e; rw [hk] at hm; simp at hm; try omega
      · have := gR_nul hN (ho m _ e hm).2
        omega
  · simp at hk
  · have := List.mem_of_getElem? hk
    simp at this; try omega
theorem gR_ed' (hN : 1 ≤ N) {i : Nat} (hi : i < N) (ht : ¬ (tk = true ∧ i = w)) : Ed (gR N bs tk w) i (nxt N i) := by
  have hlt := nxt_lt hN i
  have ht' : (tk && decide (i = w)) = false := by
    cases tk with
    | false => rfl
    | true => simpa using ht
  have hnm : isName (gR N bs tk w).names (nxt N i : Nat) = true := gR_nm.2 (by omega)
  have hnN : isName (gR N bs tk w).names (N : Nat) = true := gR_nm.2 (by omega)
  refine ⟨⟨(i : Int), ringR N bs tk w i, 0⟩, mem_gR.2 (.inl ⟨i, hi, rfl⟩), rfl, ?_⟩
  show ∃ k : Nat, (ringR N bs tk w i)[k]? = _ ∧ _ ∧ ∀ (m : Nat) x, m ≠ k → (ringR N bs tk w i)[m]? = some x → _
  by_cases hb : (bs || decide (i = 0)) = true
  · have e : ringR N bs tk w i = [(N : Int), (nxt N i : Int), (N : Int)] := by unfold ringR ringB; rw [if_pos hb, ht']; rfl
    rw [e]
    refine ⟨1, rfl, hnm, fun m x hm hx => ?_⟩
    match m, hm, hx with
    | 0, _, hx => cases hx; exact ⟨hnN, gR_nulN⟩
    | 2, _, hx => cases hx; exact ⟨hnN, gR_nulN⟩
    | m + 3, _, hx => simp at hx
  · have e : ringR N bs tk w i = [(nxt N i : Int)] := by unfold ringR ringB; rw [if_neg hb, ht']; rfl
    rw [e]
    refine ⟨0, rfl, hnm, fun m x hm hx => ?_⟩
    match m, hm, hx with
    | m + 1, _, hx => simp at hx
theorem ring_way (hN : 1 ≤ N) (ht : tk = false) {i : Nat} (hi : i < N) : ∀ k, Way (Ed (gR N bs tk w)) i ((i + 1 + k) % N)
  | 0 => .one (gR_ed' hN hi (by simp [ht]))
  | k + 1 => by
    have h := ring_way hN ht hi k
    refine .on h ?_
    have hlt : (i + 1 + k) % N < N := Nat.mod_lt _ hN
    have := gR_ed' (bs := bs) (tk := tk) (w := w) hN hlt (by simp [ht])
    have e : nxt N ((i + 1 + k) % N) = (i + 1 + (k + 1)) % N := by unfold nxt; rw [Nat.mod_add_mod]; rfl
    rw [e] at this
    exact this
theorem ring_self (hN : 1 ≤ N) (ht : tk = false) {i : Nat} (hi : i < N) : Way (Ed (gR N bs tk w)) i i := by
  have := ring_way (bs := bs) (w := w) hN ht hi (N - 1)
  have e : (i + 1 + (N - 1)) % N = i := by
    have : i + 1 + (N - 1) = i + N := by omega
    rw [this, Nat.add_mod_right, Nat.mod_eq_of_lt hi]
  rw [e] at this
  exact this
theorem way_lt (hN : 1 ≤ N) {i j : Nat} (h : Way (Ed (gR N bs tk w)) i j) : i < N ∧ j < N := by
  induction h with
  | one h => have := gR_ed hN h; have := nxt_lt hN; exact ⟨(gR_ed hN h).1, by rw [(gR_ed hN h).2.1]; exact nxt_lt hN _⟩
  | on _ h ih => exact ⟨ih.1, by rw [(gR_ed hN h).2.1]; exact nxt_lt hN _⟩
/-- How far it is to the name with the token. -/
def far (N w i : Nat) : Nat := if i ≤ w then w - i else w + N - i
theorem far_step (hw : w < N) (hN : 1 ≤ N) {i : Nat} (hi : i < N) (h : i ≠ w) : far N w (nxt N i) < far N w i := by
  unfold far nxt
  by_cases e : i + 1 = N
  · rw [e, Nat.mod_self]
    split <;> split <;> omega
  · rw [Nat.mod_eq_of_lt (by omega)]
    split <;> split <;> omega
theorem ring_none (hw : w < N) (hN : 1 ≤ N) (ht : tk = true) {i j : Nat} (h : Way (Ed (gR N bs tk w)) i j) : far N w j < far N w i := by
  induction h with
  | one h =>
    obtain ⟨h1, rfl, h3⟩ := gR_ed hN h
    exact far_step hw hN h1 (fun e => h3 ⟨ht, e⟩)
  | on _ h ih =>
    obtain ⟨h1, rfl, h3⟩ := gR_ed hN h
    exact Nat.lt_trans (far_step hw hN h1 (fun e => h3 ⟨ht, e⟩)) ih
theorem gR_cyc (hw : w < N) (hN : 1 ≤ N) {l : List Bool} (c : CycLs (gR N bs tk w) l) : l.length = N + 1 ∧ l[N]? = some false ∧ ∀ i, i < N → l[i]? = some (!tk) := by
  have hl : l.length = N + 1 := by have := c.len; show l.length = N + 1; rw [this]; show ((N : Int) + 1).toNat = _; omega
  have eN : (gR N bs tk w).names.toNat = N + 1 := by show ((N : Int) + 1).toNat = _; omega
  have key : ∀ i, i < N + 1 → ∀ b : Bool, (b = true ↔ Way (Ed (gR N bs tk w)) i i) → l[i]? = some b := by
    intro i hi b hb
    have ht := c.tells i (by omega)
    have hx := List.getElem?_eq_getElem (l := l) (i := i) (by omega)
    rw [hx] at ht ⊢
    simp only [Option.some.injEq] at ht ⊢
    exact Bool.eq_iff_iff.2 (ht.trans hb.symm)
  refine ⟨hl, key N (by omega) false ⟨fun h => (by cases h), fun h => ?_⟩, fun i hi => key i (by omega) _ ?_⟩
  · have := way_lt hN h; omega
  · cases ht : tk with
    | false =>
      subst ht
      exact ⟨fun _ => ring_self hN rfl hi, fun _ => rfl⟩
    | true =>
      subst ht
      exact ⟨fun h => (by cases h), fun h => by have := ring_none hw hN rfl h; omega⟩
theorem gR_reach (hN : 1 ≤ N) : ∀ i : Nat, i < N → Reach (gR N bs tk w) i
  | 0, _ => .start (g := gR N bs tk w)
  | i + 1, hi => by
    have h := gR_reach hN i (by omega)
    refine .step (r := ⟨(i : Int), ringR N bs tk w i, 0⟩) (mem_gR.2 (.inl ⟨i, by omega, rfl⟩)) h ?_ (gR_nm.2 (by omega))
    have e : nxt N i = i + 1 := Nat.mod_eq_of_lt hi
    have := nxt_mem (N := N) (bs := bs) (tk := tk) (w := w) (i := i)
    rw [e] at this
    exact this
theorem gR_reachN (hN : 1 ≤ N) : Reach (gR N bs tk w) N := by
  refine .step (r := ⟨0, ringR N bs tk w 0, 0⟩) (mem_gR.2 (.inl ⟨0, by omega, rfl⟩)) (.start (g := gR N bs tk w)) ?_ (gR_nm.2 (by omega))
  show (N : Int) ∈ ringR N bs tk w 0
  unfold ringR ringB
  simp
theorem longF_ne {g : Gr} {out : List Int} (ht : ∀ x ∈ out, -1 ≤ x) : ∀ (l : List Int) (n : Int), 0 ≤ n → (∀ s ∈ l, isName g.names s = true → s.toNat < out.length ∧ out.getD s.toNat 0 ≠ -1) → longF g out n l ≠ -1
  | [], n, h0, _ => by unfold longF; split <;> omega
  | s :: l, n, h0, h => by
    unfold longF
    split
    · rename_i hs
      obtain ⟨h1, h2⟩ := h s (.head _) hs
      rw [if_neg h2]
      have hm : out.getD s.toNat 0 ∈ out := by
        simp [List.getD, List.getElem?_eq_getElem h1]
      have := ht _ hm
      exact longF_ne ht l _ (by omega) fun s hs' => h s (.tail _ hs')
    · exact longF_ne ht l _ (by omega) fun s hs' => h s (.tail _ hs')
theorem gR_prod (hN : 1 ≤ N) {res : List Int} (h : Runs (gR N bs tk w) (none1 (gR N bs tk w)) res) (ht : TabS (gR N bs tk w) res) : ∀ i, i ≤ N → res.getD i 0 ≠ -1 := by
  have hl : res.length = N + 1 := by rw [ht.len]; show ((N : Int) + 1).toNat = _; omega
  have hlo : ∀ x ∈ res, -1 ≤ x := fun x hx => (ht.lo x hx).1
  have fix := h.fix
  have hN' : res.getD N 0 ≠ -1 := by
    intro e
    refine fix ⟨(N : Int), [], 0⟩ (mem_gR.2 (.inr (.inl rfl))) ⟨longF_ne hlo [] 0 (Int.le_refl _) (by simp), .inl ?_⟩
    show res.getD ((N : Int)).toNat 0 = -1
    rw [Int.toNat_natCast]; exact e
  have h0' : res.getD 0 0 ≠ -1 := by
    intro e
    refine fix ⟨0, [-1], 0⟩ (mem_gR.2 (.inr (.inr rfl))) ⟨longF_ne hlo [-1] 0 (Int.le_refl _) (fun s hs hn => ?_), .inl e⟩
    simp at hs; subst hs; rw [gR_nm1] at hn; cases hn
  have step : ∀ i, i < N → res.getD (nxt N i) 0 ≠ -1 → res.getD i 0 ≠ -1 := by
    intro i hi hx e
    refine fix ⟨(i : Int), ringR N bs tk w i, 0⟩ (mem_gR.2 (.inl ⟨i, hi, rfl⟩)) ⟨longF_ne hlo _ 0 (Int.le_refl _) (fun s hs hn => ?_), .inl ?_⟩
    · have hlt := nxt_lt hN i
      rcases mem_ringR hs with rfl | rfl | ⟨rfl, _⟩
      · rw [Int.toNat_natCast]; exact ⟨by omega, hN'⟩
      · rw [Int.toNat_natCast]; exact ⟨by omega, hx⟩
      · rw [gR_nm1] at hn; cases hn
    · show res.getD ((i : Int)).toNat 0 = -1
      rw [Int.toNat_natCast]; exact e
  have down : ∀ k i, i + k = N → res.getD i 0 ≠ -1 := by
    intro k
    induction k with
    | zero => intro i hi; rw [show i = N from by omega]; exact hN'
    | succ k ih =>
      intro i hi
      refine step i (by omega) ?_
      by_cases e : i + 1 = N
      · unfold nxt; rw [e, Nat.mod_self]; exact h0'
      · unfold nxt; rw [Nat.mod_eq_of_lt (by omega)]; exact ih (i + 1) (by omega)
  intro i hi
  exact down (N - i) i (by omega)
theorem gR_chk (hw : w < N) (hN : 1 ≤ N) (h20 : N ≤ 20) {x : Int × Int} (q : ChkQ (gR N bs tk w) x) : x = if tk = true then (-1, 0) else (0, 8) := by
  have hgood := gR_good (bs := bs) (tk := tk) (w := w) hN h20
  cases q with
  | bad h => rw [hgood] at h; cases h
  | @good a c p h ha hp hc =>
    have eN : (gR N bs tk w).names.toNat = N + 1 := by show ((N : Int) + 1).toNat = _; omega
    have hal := ha.len hgood
    have hpl := hp.len hgood
    have hno : idxF badB (a.zip (prodL p)) = -1 := by
      refine findIdx_none (Nat.le_refl _) fun k y hk hy => ?_
      rw [List.getElem?_zip_eq_some] at hy
      obtain ⟨h1, h2⟩ := hy
      have hkN : k < N + 1 := by have := (List.getElem?_eq_some_iff.1 h1).1; omega
      have e1 : y.1 = true := by
        rcases ha with ⟨h, _⟩ | ⟨_, _, hr⟩
        · rw [hgood] at h; cases h
        · have hrk : Reach (gR N bs tk w) k := by
            by_cases e : k = N
            · rw [e]; exact gR_reachN hN
            · exact gR_reach hN k (by omega)
          have := (hr k (gR_nm.2 (by omega))).2 hrk
          unfold marked at this
          rw [Int.toNat_natCast, h1] at this
          simpa using this
      have e2 : y.2 = true := by
        rcases hp with ⟨h, _⟩ | ⟨_, hr, ht⟩
        · rw [hgood] at h; cases h
        · have := gR_prod hN hr ht k (by omega)
          rw [List.getElem?_map, Option.map_eq_some_iff] at h2
          obtain ⟨z, hz, h2⟩ := h2
          rw [getD_of hz] at this
          rw [← h2]; simp [this]
      unfold badB; rw [e1, e2]; rfl
    obtain ⟨c1, c2, c3⟩ := gR_cyc hw hN hc
    unfold chkL
    rw [hno, if_neg (by decide)]
    cases ht : tk with
    | true =>
      subst ht
      have : idxF (fun x => x) c = -1 := by
        refine findIdx_none (p := fun x => x) (Nat.le_refl _) fun k y hk hy => ?_
        by_cases e : k = N
        · subst e; rw [c2] at hy; cases hy; rfl
        · rw [c3 k (by omega)] at hy; cases hy; rfl
      rw [this]; rfl
    | false =>
      subst ht
      have : idxF (fun x => x) c = ((0 : Nat) : Int) := findIdx_some (p := fun x => x) (c3 0 (by omega)) rfl (by omega)
      rw [this]; rfl
end
end Go.Am

set_option linter.unusedSimpArgs false
set_option linter.unusedVariables false
namespace Go.Am
open Go Go.RowKit Go.Proofs
/-- A slice that reads as numbers, of these rows. -/
def QV (qv : Value) (l : List Int) (ex : List (Nat × List Value)) : Prop := (l = [] ∧ qv = nils) ∨ ∃ b c, qv = .slice (some ⟨b, 0, none⟩) l.length c ∧ (b, iv l) ∈ ex
theorem QV.mono {qv : Value} {l : List Int} {ex ex' : List (Nat × List Value)} (q : QV qv l ex) (hs : ∀ p ∈ ex, p ∈ ex') : QV qv l ex' := by
  rcases q with h | ⟨b, c, h1, h2⟩
  · exact .inl h
  · exact .inr ⟨b, c, h1, hs _ h2⟩
theorem QV.one {qv : Value} {l : List Int} {ex : List (Nat × List Value)} (q : QV qv l ex) : qv.oneCell' = true := by
  rcases q with ⟨_, rfl⟩ | ⟨b, c, rfl, h2⟩ <;> rfl
theorem QV.rd {qv : Value} {l : List Int} {ex rows : List (Nat × List Value)} {h0 h : PH} (q : QV qv l ex) (s : St h0 h rows) (hs : ∀ p ∈ ex, p ∈ rows) : RdI h qv l := by
  rcases q with ⟨rfl, rfl⟩ | ⟨b, c, rfl, h2⟩
  · exact .inl ⟨rfl, _, _, rfl⟩
  · exact RdS.ofRow (s.row (hs _ h2))
section
variable {Q : Value → PH → Prop} {h0 h : PH} {K : Value → R} {K2 : Value → PH → R}
def RlE (r : Rl) (cs : List Value) (ex : List (Nat × List Value)) : Prop := ∃ qv, cs = [.int .i64 r.left, qv, .int .i64 r.dyn] ∧ QV qv r.right ex
/-- A grammar that grows; some rows beside. -/
def BH (h0 h : PH) (bg : Nat) (nm : Int) (rvv : Value) (rules : List Rl) (ex tmp : List (Nat × List Value)) : Prop :=
  (rules = [] ∧ rvv = nils ∧ St h0 h (tmp ++ (bg, bgC nm rvv) :: ex)) ∨
  ∃ br all, rvv = .slice (some ⟨br, 0, none⟩) rules.length openCap ∧ St h0 h (tmp ++ (bg, bgC nm rvv) :: (br, all) :: ex) ∧ Op h br 3 ∧ all.length = rules.length * 3 ∧ ∀ (i : Nat) r, rules[i]? = some r → RlE r ((all.drop (i * 3)).take 3) ex
variable {bg : Nat} {nm : Int} {rvv : Value} {rules : List Rl} {ex tmp : List (Nat × List Value)}
theorem BH.st (g : BH h0 h bg nm rvv rules ex tmp) : ∃ rows, St h0 h rows ∧ (bg, bgC nm rvv) ∈ rows ∧ (∀ p ∈ ex, p ∈ rows) ∧ ∀ p ∈ tmp, p ∈ rows := by
  rcases g with ⟨_, _, s⟩ | ⟨br, all, _, s, _⟩
  · exact ⟨_, s, List.mem_append_right _ (.head _), fun p hp => List.mem_append_right _ (.tail _ hp), fun p hp => List.mem_append_left _ hp⟩
  · exact ⟨_, s, List.mem_append_right _ (.head _), fun p hp => List.mem_append_right _ (.tail _ (.tail _ hp)), fun p hp => List.mem_append_left _ hp⟩
theorem BH.ok (g : BH h0 h bg nm rvv rules ex tmp) : OkH h := let ⟨_, s, _⟩ := g.st; s.ok
theorem BH.ld (g : BH h0 h bg nm rvv rules ex tmp) : xLd (.pointer (some ⟨bg, 3, none⟩)) h = some rvv := by
  obtain ⟨rows, s, hm, _⟩ := g.st
  exact xLd_at (s.row hm) rfl
theorem BH.drop (g : BH h0 h bg nm rvv rules ex tmp) : BH h0 h bg nm rvv rules ex [] := by
  rcases g with ⟨a, b, s⟩ | ⟨br, all, a, s, op, hl, hr⟩
  · exact .inl ⟨a, b, s.drop (List.sublist_append_right _ _)⟩
  · exact .inr ⟨br, all, a, s.drop (List.sublist_append_right _ _), op, hl, hr⟩
theorem Ret.bhs (g : BH h0 h bg nm rvv rules ex tmp) {row : Option (Nat × List Value)} {sz len : Nat} {cs : List Value} (e : row = some (sz, cs)) (hk : ∀ h' b, BH h0 h' bg nm rvv rules ex [(b, cs)] → Ret (K2 (.slice (some ⟨b, 0, none⟩) len len) h') Q) : Ret (Go.Am.hb (xBS len row h) K2) Q := by
  rcases g.drop with ⟨a, b, s⟩ | ⟨br, all, a, s, op, hl, hr⟩
  · exact Ret.sbs s e fun h2 b2 s2 ok2 => hk h2 b2 (.inl ⟨a, b, s2⟩)
  · exact Ret.sbs s e fun h2 b2 s2 ok2 => hk h2 b2 (.inr ⟨br, all, a, s2, ok2 _ _ (s.row (b := br) (.tail _ (.head _))).lt op, hl, hr⟩)
/-- A number is put behind a row beside. -/
theorem Ret.bha {bq : Nat} {l : List Int} {x : Int} (g : BH h0 h bg nm rvv rules ex [(bq, iv l)]) (hl : l.length ≤ 1000) (hk : ∀ h' b', BH h0 h' bg nm rvv rules ex [(b', iv (l ++ [x]))] → Ret (K2 (.slice (some ⟨b', 0, none⟩) (l.length + 1) openCap) h') Q) :
    Ret (Go.Am.hb (xBS 1 (bsRow Try.prog 25 1 [(0, .int .i64 x)]) h) fun v h => Go.Am.hb (xApp (appInfo Try.prog #[25, 25]) (.slice (some ⟨bq, 0, none⟩) l.length l.length) v h) K2) Q := by
  have hsz : (2 * (l.length + 1) + 512) * 8 ≤ 281474976710656 := by
    have h1 : 2 * (l.length + 1) + 512 ≤ 10000 := by omega
    exact Nat.le_trans (Nat.mul_le_mul_right 8 h1) (by decide)
  have e : iv (l ++ [x]) = (iv l).drop 0 ++ [.int .i64 x] := by simp
  rcases g with ⟨a, b, s⟩ | ⟨br, all, a, s, op, hl', hr⟩
  · refine Ret.sbs s bs25 fun h2 bs s2 ok2 => ?_
    rw [ai25]
    refine Ret.sapp s2 (i := 1) (o := 0) (n := 1) rfl ⟨by simp, .inl ⟨rfl, by omega⟩⟩ (by omega) (ptail_at (s2.mine _ (.head _)) rfl) (by omega) rfl hsz fun h3 b' s3 op3 _ => ?_
    refine hk h3 b' (.inl ⟨a, b, ?_⟩)
    rw [e]
    exact s3.drop (.cons_cons _ (.cons _ (List.Sublist.refl _)))
  · refine Ret.sbs s bs25 fun h2 bs s2 ok2 => ?_
    rw [ai25]
    have hbr := s2.row (b := br) (.tail _ (.tail _ (.tail _ (.head _))))
    have hne : br ≠ bq := by
      have nd := s.nd
      have nd : List.Pairwise (fun p q : Nat × List Value => p.1 ≠ q.1) ((bq, iv l) :: (bg, bgC nm rvv) :: (br, all) :: ex) := nd
      exact fun e => (List.pairwise_cons.1 nd).1 (br, all) (.tail _ (.head _)) e.symm
    refine Ret.sapp s2 (i := 1) (o := 0) (n := 1) rfl ⟨by simp, .inl ⟨rfl, by omega⟩⟩ (by omega) (ptail_at (s2.mine _ (.head _)) rfl) (by omega) rfl hsz fun h3 b' s3 op3 hop => ?_
    refine hk h3 b' (.inr ⟨br, all, a, ?_, hop _ _ hbr.lt hne (ok2 _ _ (s.row (b := br) (.tail _ (.tail _ (.head _)))).lt op), hl', hr⟩)
    rw [e]
    exact s3.drop (.cons_cons _ (.cons _ (List.Sublist.refl _)))
theorem rules_app {all ncs : List Value} {rules new : List Rl} {ex : List (Nat × List Value)} (hl : all.length = rules.length * 3) (hr : ∀ (i : Nat) r, rules[i]? = some r → RlE r ((all.drop (i * 3)).take 3) ex)
    (hn : ncs.length = new.length * 3) (hnr : ∀ (i : Nat) r, new[i]? = some r → RlE r ((ncs.drop (i * 3)).take 3) ex) : ∀ (i : Nat) r, (rules ++ new)[i]? = some r → RlE r (((all ++ ncs).drop (i * 3)).take 3) ex := by
  intro i r hi
  by_cases hlt : i < rules.length
  · rw [List.getElem?_append_left hlt] at hi
    rw [List.drop_append_of_le_length (by omega), List.take_append_of_le_length (by simp; omega)]
    exact hr i r hi
  · rw [List.getElem?_append_right (by omega)] at hi
    have e : i * 3 = all.length + (i - rules.length) * 3 := by omega
    rw [e, ← List.drop_drop, List.drop_left]
    exact hnr _ r hi
/-- Some rules are put behind. -/
theorem Ret.bhapp {K : PH → R} {k : Nat} {row : Option (Nat × List Value)} {new : List Rl} {ncs : List Value} (g : BH h0 h bg nm rvv rules ex tmp) (e : row = some (3, ncs)) (hk0 : new.length = k) (hk1 : 0 < k) (hk2 : k ≤ 2) (hn : ncs.length = k * 3) (hone : oneCells ncs = true) (hnr : ∀ (i : Nat) r, new[i]? = some r → RlE r ((ncs.drop (i * 3)).take 3) (tmp ++ ex)) (hlen : rules.length ≤ 60)
    (hk : ∀ h' rvv', BH h0 h' bg nm rvv' (rules ++ new) (tmp ++ ex) [] → Ret (K h') Q) :
    Ret (Go.Am.hb (xBS k row h) fun v68 h => Go.Am.hb (xApp (appInfo Try.prog #[23, 23]) rvv v68 h) fun v69 h => Go.Am.vb (xFld 3 (.pointer (some ⟨bg, 0, none⟩))) fun v70 => Go.Am.hb (xSt1 v70 v69 h) fun _ h => K h) Q := by
  have hsz : (2 * (rules.length + k) + 512) * 40 ≤ 281474976710656 := by
    have h1 : 2 * (rules.length + k) + 512 ≤ 1000 := by omega
    exact Nat.le_trans (Nat.mul_le_mul_right 40 h1) (by decide)
  have hsz0 : (2 * k + 512) * 40 ≤ 281474976710656 := by
    have h1 : 2 * k + 512 ≤ 1000 := by clear hsz; omega
    exact Nat.le_trans (Nat.mul_le_mul_right 40 h1) (by decide)
  rcases g with ⟨rfl, rfl, s⟩ | ⟨br, all, rfl, s, op, hl, hr⟩
  · have s : St h0 h ((bg, bgC nm nils) :: (tmp ++ ex)) := s.perm List.perm_middle
    refine Ret.sbs s e fun h2 bs s2 ok2 => ?_
    rw [ai23]
    refine Ret.sapp0 s2 (n := k) (ptail_at (s2.mine _ (.head _)) hn) hk1 hone hsz0 fun h3 b' s3 op3 ok3 => ?_
    simp only [xFld_p, Nat.zero_add, vb_some]
    refine Ret.sst1' s3 (i := 2) (b := bg) (o := 3) rfl (by show 3 < 7; omega) rfl fun h4 s4 ok4 => ?_
    have s4 : St h0 h4 ((b', ncs) :: (bs, ncs) :: (bg, bgC nm (.slice (some ⟨b', 0, none⟩) k openCap)) :: (tmp ++ ex)) := s4
    have op4 := ok4 _ _ (s3.row (b := b') (.head _)).lt op3
    refine hk h4 _ (.inr ⟨b', ncs, by rw [List.nil_append, hk0], (s4.drop (.cons_cons _ (.cons _ (List.Sublist.refl _)))).sw, op4, by rw [List.nil_append, hk0, hn], ?_⟩)
    rw [List.nil_append]; exact hnr
  · have s : St h0 h ((bg, bgC nm (.slice (some ⟨br, 0, none⟩) rules.length openCap)) :: (br, all) :: (tmp ++ ex)) := s.perm (List.perm_middle.trans (.cons _ List.perm_middle))
    refine Ret.sbs s e fun h2 bs s2 ok2 => ?_
    have op2 := ok2 _ _ (s.row (b := br) (.tail _ (.head _))).lt op
    rw [ai23]
    refine Ret.sapp s2 (i := 2) (o := 0) (n := k) rfl ⟨by rw [hl]; omega, .inr ⟨op2, Nat.le_refl _, by decide, by rw [Nat.sub_self, Nat.zero_mul]⟩⟩ (by omega) (ptail_at (s2.mine _ (.head _)) hn) hk1 hone hsz fun h3 b' s3 op3 _ => ?_
    simp only [xFld_p, Nat.zero_add, vb_some]
    refine Ret.sst1' s3 (i := 2) (b := bg) (o := 3) rfl (by show 3 < 7; omega) rfl fun h4 s4 ok4 => ?_
    have s4 : St h0 h4 ((b', all.drop 0 ++ ncs) :: (bs, ncs) :: (bg, bgC nm (.slice (some ⟨b', 0, none⟩) (rules.length + k) openCap)) :: (tmp ++ ex)) := s4
    rw [List.drop_zero] at s4
    have op4 := ok4 _ _ (s3.row (b := b') (.head _)).lt op3
    have hll : (rules ++ new).length = rules.length + k := by simp [hk0]
    refine hk h4 _ (.inr ⟨b', all ++ ncs, by rw [hll], (s4.drop (.cons_cons _ (.cons _ (List.Sublist.refl _)))).sw, op4, by rw [List.length_append, hl, hll, hn]; omega, ?_⟩)
    exact rules_app hl (fun i r hi => let ⟨qv, h1, h2⟩ := hr i r hi; ⟨qv, h1, h2.mono fun p hp => List.mem_append_right _ hp⟩) (by rw [hn, hk0]) hnr
/-- What was built is a grammar. -/
theorem BH.rd (g : BH h0 h bg nm rvv rules ex tmp) : RdG h (.agg ⟨bgC nm rvv⟩) ⟨nm, 1, 0, rules, [], [], []⟩ rvv nils nils nils := by
  refine ⟨rfl, ?_, .inl ⟨rfl, _, _, rfl⟩, .inl ⟨rfl, _, _, rfl⟩, .inl ⟨rfl, _, _, rfl⟩⟩
  rcases g.drop with ⟨rfl, rfl, s⟩ | ⟨br, all, rfl, s, op, hl, hr⟩
  · exact .inl ⟨rfl, _, _, rfl⟩
  · refine .inr ⟨br, 0, _, all, rfl, s.row (.tail _ (.head _)), fun i r hi => ?_⟩
    have hlt := (List.getElem?_eq_some_iff.1 hi).1
    have hlt : i < rules.length := hlt
    obtain ⟨qv, h1, h2⟩ := hr i r hi
    exact ⟨by omega, qv, by rw [Nat.zero_add]; exact h1, h2.rd s fun p hp => .tail _ (.tail _ hp)⟩
end
end Go.Am

set_option linter.unusedSimpArgs false
set_option linter.unusedVariables false
namespace Go.Am
open Go Go.RowKit Go.Proofs
theorem ab_rem {o1 o2 : Operand} {a : Int} {M : Nat} : abin Try.prog .rem 3 o1 o2 (.int .i64 a) (.int .i64 ((M + 1 : Nat) : Int)) = some (.int .i64 (Int.tmod a ((M + 1 : Nat) : Int))) := by kernel_rfl
theorem ab_eqb {o1 o2 : Operand} {a b : Bool} : abin Try.prog .eql 4 o1 o2 (.bool a) (.bool b) = some (.bool (a == b)) := by cases a <;> cases b <;> kernel_rfl
theorem bs25_3 {s t u : Int} : bsRow Try.prog 25 3 [(0, .int .i64 s), (1, .int .i64 t), (2, .int .i64 u)] = some (1, [.int .i64 s, .int .i64 t, .int .i64 u]) := by kernel_rfl
theorem ab29v {a : Int} {v : Value} (hv : v.oneCell' = true) : abuild Try.prog 29 [(0, .int .i64 a), (1, v)] = some (.agg ⟨[.int .i64 a, v, .int .i64 0]⟩) := by
  cases v <;> first | (simp [Value.oneCell'] at hv; done) | kernel_rfl
theorem ab29l {a : Int} : abuild Try.prog 29 [(0, .int .i64 a)] = some (.agg ⟨[.int .i64 a, nils, .int .i64 0]⟩) := by kernel_rfl
theorem bs23_2 {a : Int} {b c d : Nat} : bsRow Try.prog 23 2 [(0, .agg ⟨[.int .i64 a, nils, .int .i64 0]⟩), (1, .agg ⟨[.int .i64 0, .slice (some ⟨b, 0, none⟩) c d, .int .i64 0]⟩)] = some (3, [.int .i64 a, nils, .int .i64 0, .int .i64 0, .slice (some ⟨b, 0, none⟩) c d, .int .i64 0]) := by kernel_rfl
theorem rem_nxt {o1 o2 : Operand} {N i : Nat} (hN : 1 ≤ N) : abin Try.prog .rem 3 o1 o2 (.int .i64 ((i + 1 : Nat) : Int)) (.int .i64 (N : Int)) = some (.int .i64 (nxt N i : Int)) := by
  obtain ⟨M, rfl⟩ : ∃ M, N = M + 1 := ⟨N - 1, by omega⟩
  rw [ab_rem]
  congr 2
section
variable {n : Nat} {ih : CL} {h : PH}
theorem loop7e {N : Nat} {tk : Bool} {vl : Value} {l : List Bool} {x : Int × Int} (rl : RdS boolE 1 h vl l) (hl : l.length = N + 1) (h20 : N ≤ 20) (hc : ∀ i, i < N → l[i]? = some (!tk)) (hx : x = if tk = true then (-1, 0) else (0, 8)) :
    ∀ (k i m : Nat), i + k = N → k < m →
    Ret (lp m (F7_13 n (CLs n ih)) [.int .i64 N, .bool tk, vl, .int .i64 x.1, .int .i64 x.2, .int .i64 i] h) fun v _ => v = .bool true := by
  intro k
  induction k with
  | zero =>
    intro i m hi hm
    obtain ⟨m, rfl⟩ : ∃ q, m = q + 1 := ⟨m - 1, by omega⟩
    rw [lp_succ]
    have e : i = N := by omega
    subst e
    simp only [F7_13, ucons_cons, F7_12, xLt_i, Int.lt_irrefl, decide_false, vb_some, bite_f]
    subst hx
    cases tk with
    | true =>
      simp only [bite_t, F7_10, c26, vb_some, if_true, vN_eq, vM_eq, xEq_i, show (((0 : Nat) : Int)) = 0 from rfl, show Int.negSucc 0 = -1 from rfl, decide_true, isB_t, gd_true, xPick_t]
      exact Ret.of rfl
    | false =>
      simp only [bite_f, F7_11, c26, vb_some, vN_eq, xEq_i, show (((0 : Nat) : Int)) = 0 from rfl, show (((8 : Nat) : Int)) = 8 from rfl, Bool.false_eq_true, if_false, decide_true, isB_t, gd_true, xPick_t]
      exact Ret.of rfl
  | succ k ih' =>
    intro i m hi hm
    obtain ⟨m, rfl⟩ : ∃ q, m = q + 1 := ⟨m - 1, by omega⟩
    rw [lp_succ]
    have c : ((i : Int) < (N : Int)) := by omega
    simp only [F7_13, ucons_cons, F7_12, xLt_i, c, decide_true, vb_some, bite_t, F7_9]
    refine Ret.idx rl (by omega) (by omega) fun b o cs y hy s hle hE => ?_
    have hy : l[i]? = some y := by simpa using hy
    rw [hc i (by omega)] at hy
    cases hy
    have ly : xLd (.pointer (some ⟨b, o, none⟩)) h = some (.bool (!tk)) := xLdE s hle hE (j := 0) rfl
    have e : ((!tk) == tk) = false := by cases tk <;> rfl
    simp only [ly, vb_some, ab_eqb, e, bite_f, F7_8, vN_eq, xAdd_i, show (((1 : Nat) : Int)) = 1 from rfl, wrap1 (i := i) (by omega)]
    exact ih' (i + 1) m (by omega) (by omega)
theorem end7 {h0 : PH} {bg N w : Nat} {bs tk : Bool} {rvv : Value} {ex : List (Nat × List Value)} (hn : 9223372036854775808 ≤ n) (h1 : 1 ≤ N) (h20 : N ≤ 20) (hw : w < N) (g : BH h0 h bg ((N : Int) + 1) rvv (rulesR N bs tk w N) ex []) :
    Ret (F7_14 n (CLs n ih) (.pointer (some ⟨bg, 0, none⟩)) (.int .i64 N) (.bool tk) h) fun v _ => v = .bool true := by
  have un1 : isB false undef = false := rfl
  have hrl : (rulesR N bs tk w N).length = N := rulesR_len N
  unfold F7_14
  simp only [xFld_p, Nat.zero_add, vb_some, g.ld, ab29l, vM_eq, show Int.negSucc 0 = -1 from rfl]
  refine Ret.bhs g bs25 fun h2 bq g2 => ?_
  refine Ret.vb ab29f ?_
  refine Ret.bhapp (K := fun h => vb (xLdA 7 (.pointer (some ⟨bg, 0, none⟩)) h) fun v93 =>
      Go.Am.hb (fcall h (F24 n (CLs n ih) v93 (h.fzn))) fun v94 h =>
      vb (xLdA 7 (.pointer (some ⟨bg, 0, none⟩)) h) fun v95 =>
      vb (pcall (F22 n (CLs n ih) v95 (h.fzn))) fun v96 =>
      vb (xExt 0 v96) fun v97 =>
      vb (xExt 1 v96) fun v98 =>
      vb (xLenS v94) fun v99 =>
      vb (xAri Int.add (.int .i64 N) (vN 1)) fun v100 =>
      vb (xCmp ine v99 v100) fun v101 =>
      vb (gd (isB false v101) (some v94)) fun v102 =>
      vb (gd (isB false v101) (some (.int .i64 N))) fun v103 =>
      vb (gd (isB false v101) (xIdxS 1 v102 v103)) fun v104 =>
      vb (gd (isB false v101) (xLd v104 h)) fun v105 =>
      vb (xPick v101 tt v105) fun v106 =>
      bite v106 (some (ff, h)) (lp n (F7_13 n (CLs n ih)) [.int .i64 N, .bool tk, v94, v97, v98, (vN 0)] h)) g2 bs23_2 (k := 2) (new := [⟨(N : Int), [], 0⟩, ⟨0, [-1], 0⟩]) rfl (by omega) (by omega) rfl rfl (fun i r hi => ?_) (by omega) fun h4 rvv4 g4 => ?_
  · match i, hi with
    | 0, hi => cases hi; exact ⟨nils, rfl, .inl ⟨rfl, rfl⟩⟩
    | 1, hi => cases hi; exact ⟨_, rfl, .inr ⟨bq, 1, rfl, .head _⟩⟩
  · have := g4.ok
    obtain ⟨rows, s4, hm4, _⟩ := g4.st
    have lw : xLdA 7 (.pointer (some ⟨bg, 0, none⟩)) h4 = some (.agg ⟨bgC ((N : Int) + 1) rvv4⟩) := xLdA_at (s4.row hm4) rfl (Nat.le_refl _)
    have hgood := gR_good (bs := bs) (tk := tk) (w := w) h1 h20
    have hin := gR_in (bs := bs) (tk := tk) (w := w) h1 h20
    have rd4 : RdG h4 (.agg ⟨bgC ((N : Int) + 1) rvv4⟩) (gR N bs tk w) rvv4 nils nils nils := g4.rd
    simp only [lw, vb_some]
    refine Ret.fcall (c24 (n := n) (ih := ih) (h := h4) hn rd4 hin) fun v5 h5 q5 kp5 hraw5 => ?_
    obtain ⟨lc, hc, rc⟩ := q5.rd hraw5
    obtain ⟨hl, hcN, hci⟩ := gR_cyc hw h1 (hc.good hgood)
    have s5 := s4.on kp5
    have := s5.ok
    have lw5 : xLdA 7 (.pointer (some ⟨bg, 0, none⟩)) (h4.back h5) = some (.agg ⟨bgC ((N : Int) + 1) rvv4⟩) := xLdA_at (s5.row hm4) rfl (Nat.le_refl _)
    have rd5 : RdG (h4.back h5) (.agg ⟨bgC ((N : Int) + 1) rvv4⟩) (gR N bs tk w) rvv4 nils nils nils := rd4.mono fun b cs s => kp5.sees s s.lt
    obtain ⟨x, qx, ex⟩ := c22 (n := n) (ih := ih) (h := h4.back h5) hn rd5 hin
    have hx := gR_chk hw h1 h20 qx
    have hw1 : IntKind.i64.wrap ((N : Int) + 1) = ((N + 1 : Nat) : Int) := wrap1 (i := N) (by omega)
    have hl' : (lc.length : Int) = ((N + 1 : Nat) : Int) := by omega
    simp only [lw5, vb_some, ex, xExt_t, List.getElem?_cons_zero, List.getElem?_cons_succ, RdS.len rc, vN_eq, xAdd_i, show (((1 : Nat) : Int)) = 1 from rfl, hw1, xNe_i, hl', decide_true, Bool.not_true, isB_f, Bool.not_false, gd_true]
    refine Ret.idx rc (by omega) (by omega) fun b o cs y hy s hle hE => ?_
    have hy : lc[N]? = some y := by simpa using hy
    rw [hcN] at hy
    cases hy
    have ly : xLd (.pointer (some ⟨b, o, none⟩)) (h4.back h5) = some (.bool false) := xLdE s hle hE (j := 0) rfl
    simp only [ly, vb_some, xPick_f, bite_f, show (((0 : Nat) : Int)) = ((0 : Nat) : Int) from rfl]
    exact loop7e rc hl h20 hci hx N 0 n (by omega) (by omega)
theorem loop7 {h0 : PH} {bg N w : Nat} {bs tk : Bool} (hn : 9223372036854775808 ≤ n) (h1 : 1 ≤ N) (h20 : N ≤ 20) (hw : w < N) : ∀ (k i m : Nat) (rvv : Value) (ex : List (Nat × List Value)) (h : PH), i + k = N → k < m → BH h0 h bg ((N : Int) + 1) rvv (rulesR N bs tk w i) ex [] →
    Ret (lp m (F7_16 n (CLs n ih)) [.int .i64 N, .bool bs, .bool tk, .int .i64 w, .pointer (some ⟨bg, 0, none⟩), .int .i64 i] h) fun v _ => v = .bool true := by
  have un1 : isB false undef = false := rfl
  have un2 : isB true undef = false := rfl
  intro k
  induction k with
  | zero =>
    intro i m rvv ex h hi hm g
    obtain ⟨m, rfl⟩ : ∃ q, m = q + 1 := ⟨m - 1, by omega⟩
    rw [lp_succ]
    have e : i = N := by omega
    subst e
    simp only [F7_16, ucons_cons, F7_15, xLt_i, Int.lt_irrefl, decide_false, vb_some, bite_f]
    exact end7 hn h1 h20 hw g
  | succ k ih' =>
    intro i m rvv ex h hi hm g
    obtain ⟨m, rfl⟩ : ∃ q, m = q + 1 := ⟨m - 1, by omega⟩
    rw [lp_succ]
    have c : ((i : Int) < (N : Int)) := by omega
    have hri : (rulesR N bs tk w i).length = i := rulesR_len i
    have hw1 : IntKind.i64.wrap ((i : Int) + 1) = ((i + 1 : Nat) : Int) := wrap1 (i := i) (by omega)
    simp only [F7_16, ucons_cons, F7_15, xLt_i, c, decide_true, vb_some, bite_t, F7_7, vN_eq, xAdd_i, show (((1 : Nat) : Int)) = 1 from rfl, hw1, rem_nxt h1]
    -- the rule is put behind
    have last : ∀ (h : PH) (bq cq : Nat), BH h0 h bg ((N : Int) + 1) rvv (rulesR N bs tk w i) ex [(bq, iv (ringR N bs tk w i))] →
        Ret (F7_2 n (CLs n ih) (lp m (F7_16 n (CLs n ih))) [.int .i64 N, .bool bs, .bool tk, .int .i64 w, .pointer (some ⟨bg, 0, none⟩), .int .i64 i, .slice (some ⟨bq, 0, none⟩) (ringR N bs tk w i).length cq] h) fun v _ => v = .bool true := by
      intro h bq cq g
      simp only [F7_2, ucons_cons, F7_0, xFld_p, Nat.zero_add, vb_some, g.ld]
      refine Ret.vb (ab29v rfl) ?_
      refine Ret.bhapp (K := fun h => vb (xAri Int.add (.int .i64 i) (vN 1)) fun v72 => lp m (F7_16 n (CLs n ih)) [.int .i64 N, .bool bs, .bool tk, .int .i64 w, .pointer (some ⟨bg, 0, none⟩), v72] h) g (bs23 rfl) (k := 1) (new := [⟨(i : Int), ringR N bs tk w i, 0⟩]) rfl (by omega) (by omega) rfl rfl (fun j r hj => ?_) (by omega) fun h4 rvv4 g4 => ?_
      · match j, hj with
        | 0, hj => cases hj; exact ⟨_, rfl, .inr ⟨bq, cq, rfl, .head _⟩⟩
      · simp only [vN_eq, xAdd_i, vb_some, show (((1 : Nat) : Int)) = 1 from rfl, hw1]
        exact ih' (i + 1) m rvv4 _ h4 (by omega) (by omega) g4
    -- with or without the token
    have tok : ∀ (h : PH) (bq : Nat), BH h0 h bg ((N : Int) + 1) rvv (rulesR N bs tk w i) ex [(bq, iv (ringB N bs i))] →
        Ret (F7_5 n (CLs n ih) (lp m (F7_16 n (CLs n ih))) [.int .i64 N, .bool bs, .bool tk, .int .i64 w, .pointer (some ⟨bg, 0, none⟩), .int .i64 i, .slice (some ⟨bq, 0, none⟩) (ringB N bs i).length (ringB N bs i).length] h) fun v _ => v = .bool true := by
      intro h bq g
      have hb4 : (ringB N bs i).length ≤ 3 := by unfold ringB; split <;> simp
      have no : (tk && decide (i = w)) = false → Ret (F7_2 n (CLs n ih) (lp m (F7_16 n (CLs n ih))) [.int .i64 N, .bool bs, .bool tk, .int .i64 w, .pointer (some ⟨bg, 0, none⟩), .int .i64 i, .slice (some ⟨bq, 0, none⟩) (ringB N bs i).length (ringB N bs i).length] h) fun v _ => v = .bool true := by
        intro ht
        have e : ringR N bs tk w i = ringB N bs i := by unfold ringR; rw [ht]; simp
        have := last h bq (ringB N bs i).length (by rw [e]; exact g)
        rw [e] at this
        exact this
      simp only [F7_5, ucons_cons, jn_eq, F7_3]
      cases tk with
      | false =>
        simp only [isB_t, gd_false, vb_some, xPick_f, ff_eq, bite_f]
        exact no rfl
      | true =>
        simp only [isB_t, gd_true, vb_some, xEq_i, xPick_t]
        by_cases e : i = w
        · have e' : decide ((i : Int) = (w : Int)) = true := decide_eq_true (by omega)
          simp only [e', bite_t, F7_1, vM_eq, show Int.negSucc 0 = -1 from rfl]
          refine Ret.bha g (by omega) fun h2 b2 g2 => ?_
          have e2 : ringR N bs true w i = ringB N bs i ++ [-1] := by unfold ringR; rw [if_pos (by simp [e])]
          have := last h2 b2 openCap (by rw [e2]; exact g2)
          rw [e2] at this
          have el : (ringB N bs i ++ [-1]).length = (ringB N bs i).length + 1 := by simp
          rw [el] at this
          exact this
        · have e' : decide ((i : Int) = (w : Int)) = false := decide_eq_false (by omega)
          simp only [e', bite_f]
          exact no (by simp [e])
    refine Ret.bhs g bs25 fun h2 b2 g2 => ?_
    simp only [jn_eq, F7_6]
    have long : (bs || decide (i = 0)) = true → Ret (F7_4 n (CLs n ih) (.int .i64 i) (.int .i64 N) (F7_5 n (CLs n ih) (lp m (F7_16 n (CLs n ih)))) (.bool bs) (.bool tk) (.int .i64 w) (.pointer (some ⟨bg, 0, none⟩)) h2) fun v _ => v = .bool true := by
      intro hb
      have e : ringB N bs i = [(N : Int), (nxt N i : Int), (N : Int)] := by unfold ringB; rw [if_pos hb]
      simp only [F7_4, vN_eq, xAdd_i, vb_some, show (((1 : Nat) : Int)) = 1 from rfl, hw1, rem_nxt h1]
      refine Ret.bhs g2 bs25_3 fun h3 b3 g3 => ?_
      have := tok h3 b3 (by rw [e]; exact g3)
      rw [e] at this
      exact this
    cases bs with
    | true =>
      simp only [isB_f, Bool.not_true, gd_false, vb_some, xPick_t, tt_eq, bite_t]
      exact long rfl
    | false =>
      simp only [isB_f, Bool.not_false, gd_true, vb_some, vN_eq, xEq_i, show (((0 : Nat) : Int)) = 0 from rfl, xPick_f]
      by_cases e : i = 0
      · have e' : decide ((i : Int) = (0 : Int)) = true := decide_eq_true (by omega)
        simp only [e', bite_t]
        exact long (by simp [e])
      · have e' : decide ((i : Int) = (0 : Int)) = false := decide_eq_false (by omega)
        simp only [e', bite_f]
        have eb : ringB N false i = [(nxt N i : Int)] := by unfold ringB; rw [if_neg (by simp [e])]
        have := tok h2 b2 (by rw [eb]; exact g2)
        rw [eb] at this
        exact this
end
theorem law7 (a : Int) (b c : Bool) (d : Int) : ∃ k, F7 NN (CLV NN 1) (.int .i64 a) (.bool b) (.bool c) (.int .i64 d) h00 = some (.bool true, k) := by
  by_cases h1 : a < 1
  · refine ⟨h00, ?_⟩
    unfold F7
    rw [cu_alive]
    simp [h1]
  by_cases h2 : 20 < a
  · refine ⟨h00, ?_⟩
    unfold F7
    rw [cu_alive]
    simp [h1, h2]
  by_cases h3 : d < 0
  · refine ⟨h00, ?_⟩
    unfold F7
    rw [cu_alive]
    simp [h1, h2, h3]
  by_cases h4 : a ≤ d
  · refine ⟨h00, ?_⟩
    unfold F7
    rw [cu_alive]
    simp [h1, h2, h3, h4]
  obtain ⟨N, rfl⟩ : ∃ m : Nat, a = (m : Int) := ⟨a.toNat, by omega⟩
  obtain ⟨w, rfl⟩ : ∃ m : Nat, d = (m : Int) := ⟨d.toNat, by omega⟩
  have key : Ret (F7_17 NN (CLV NN 1) (.int .i64 N) (.bool b) (.bool c) (.int .i64 w) h00) fun v _ => v = .bool true := by
    show Ret (F7_17 NN (CLs NN CNo) _ _ _ _ _) _
    unfold F7_17
    have hw1 : IntKind.i64.wrap ((N : Int) + 1) = (N : Int) + 1 := wrap_in (by omega) (by omega)
    simp only [vN_eq, xAdd_i, vb_some, show (((1 : Nat) : Int)) = 1 from rfl, hw1]
    refine Ret.vb ab27 ?_
    refine Ret.salloc (St.start _) z27 fun h2 b2 s2 => ?_
    refine Ret.sstA s2 (i := 0) rfl rfl (Nat.le_refl _) rfl fun h3 s3 => ?_
    exact loop7 (h0 := h00) (by decide) (by omega) (by omega) (by omega) N 0 NN nils [] h3 (by omega) (by show N < 9223372036854775808; omega) (.inl ⟨rfl, rfl, s3⟩)
  obtain ⟨v, k, hk, rfl⟩ := key
  refine ⟨k, ?_⟩
  unfold F7
  rw [cu_alive]
  simp [h1, h2, h3, h4]
  exact hk
end Go.Am
