import Derived.Test.YtdmfanikejcgjaaZW
import Derived.Test.YtdmfanikejcgjaaProg
import Derived.Deep.Slices
import Derived.Test.YtdmfanikejcgjaaZV
set_option linter.unusedSimpArgs false
set_option linter.unusedVariables false
namespace Go.Am
open Go Go.RowKit Go.Proofs Go.ChangeShapes Go.WideShapes

/-! ### memory that is as told -/
theorem PH.of_fun (f : Nat → AObj) : ∀ n : Nat, ∃ h : PH, OkH h ∧ h.n = n ∧ h.fz = 0 ∧ ∀ b, h.raw b = if b < n then some (f b) else none
  | 0 => ⟨h00, ⟨Nat.le_refl _, rfl⟩, rfl, rfl, fun b => by rw [PH.raw_ge (by show ¬ b < 0; omega), if_neg (by omega)]⟩
  | n + 1 => by
    obtain ⟨h, k, hn, hz, hr⟩ := PH.of_fun f n
    obtain ⟨h', _, ok, hn', hz', hr'⟩ := push_ex h (f n)
    refine ⟨h', ok, by omega, hz'.trans hz, fun b => ?_⟩
    rw [hr', hn, hr]
    by_cases e : b = n
    · subst e; rw [if_pos rfl, if_pos (by omega)]
    · rw [if_neg e]
      by_cases hb : b < n
      · rw [if_pos hb, if_pos (by omega)]
      · rw [if_neg hb, if_neg (by omega)]
theorem PH.of_list (l : List AObj) : ∃ h : PH, OkH h ∧ h.n = l.length ∧ h.fz = 0 ∧ ∀ b, h.raw b = l[b]? := by
  obtain ⟨h, k, hn, hz, hr⟩ := PH.of_fun (fun b => (l[b]?).getD .dead) l.length
  refine ⟨h, k, hn, hz, fun b => ?_⟩
  rw [hr]
  split
  · rename_i e; rw [List.getElem?_eq_getElem e]; rfl
  · rename_i e; rw [List.getElem?_eq_none (by omega)]
theorem PH.fzn_list {h : PH} {l : List AObj} (hn : h.n = l.length) (hr : ∀ b, h.raw b = l[b]?) (hf : ∀ o ∈ l, freeze o = o) : h.fzn.abs = l := by
  apply List.ext_getElem?
  intro i
  show ((List.range h.n).map fun i => frz (Nat.blt i h.n) ((h.br.get i).getD .dead))[i]? = l[i]?
  rw [List.getElem?_map]
  by_cases hi : i < h.n
  · have hl : l[i]? = some l[i] := List.getElem?_eq_getElem (by omega)
    have hb : Nat.blt i h.n = true := Nat.ble_eq_true_of_le hi
    have hg : h.br.get i = some l[i] := by rw [← PH.raw_lt hi, hr, hl]
    rw [List.getElem?_range hi, hl]
    simp only [Option.map_some, hb, hg, Option.getD_some, frz]
    rw [hf _ (List.getElem_mem _)]
  · rw [List.getElem?_eq_none (by simp; omega), List.getElem?_eq_none (by omega)]; rfl

/-- A call over memory that is read, told of the true world. -/
theorem calls_rel {P : Program} {f : FuncId} {args rargs : List Value} {v : Value} {h : Heap} {ρ : RMap} {Q : Heap → Prop} {w : World} (hr : Rel w.heap.size w ρ h w) (hp : VRs ρ args rargs) (hv : plainV v = true) (hc : ACall P f args h (fun u k => u = v ∧ Q k)) :
    Calls P f ⟨rargs⟩ w fun e w' => e = .returned v ∧ Below w.heap.size w w' := by
  refine (hc w.heap.size w ρ rargs w hr hp).mono ?_
  rintro e w' ⟨u, v', h', ρ', rfl, ⟨rfl, _⟩, _, hr, hvr⟩
  exact ⟨by rw [hvr.plain_eq hv], hr.below⟩

/-! ### an argument's image -/
def upR (ρ : RMap) (n : Nat) (L : RLoc) : RMap := fun b => if b = n then some L else ρ b
structure Im (w : World) (ρ : RMap) (l : Heap) : Prop where
  rel : Rel w.heap.size w ρ l w
  fro : ∀ o ∈ l, freeze o = o
/-- There is a dead object at the beginning. -/
theorem Im.start (w : World) : Im w (upR (fun _ => none) 0 ⟨0, 0, 0⟩) [.dead] := by
  refine ⟨⟨Below.refl _ _, Nat.le_refl _, ?_, ?_, ?_, ?_⟩, by simp [freeze]⟩
  · intro b L hb; unfold upR at hb; split at hb
    · rename_i e; subst e; simp
    · cases hb
  · intro b L o hb ho hd
    have := List.mem_of_getElem? ho
    simp at this; exact absurd this hd
  · intro b o ho
    have hm := List.mem_of_getElem? ho
    simp at hm; subst hm
    have hb : b = 0 := by have := (List.getElem?_eq_some_iff.1 ho).1; simpa using this
    subst hb
    exact ⟨_, rfl, trivial⟩
  · intro b b' o o' L L' _ ho _ hw
    have hm := List.mem_of_getElem? ho
    simp at hm; subst hm
    simp [AObj.owned] at hw
section
variable {w : World} {ρ : RMap} {l : Heap}
theorem upR_le (m : Im w ρ l) (L : RLoc) : ρ.le (upR ρ l.length L) := by
  intro b L' hb
  have := m.rel.fin b L' hb
  unfold upR
  rw [if_neg (by omega)]; exact hb
theorem Im.row (m : Im w ρ l) (esz blk off cap : Nat) (cs : List Value) (hblk : blk < w.heap.size) (hc : ∀ (i : Nat) v, cs[i]? = some v → ∃ v', w.cell? ⟨blk, off + i, none⟩ = some v' ∧ VR ρ v v') : Im w (upR ρ l.length ⟨blk, off, cap⟩) (l ++ [.row .ro esz cs]) := by
  have hle := upR_le m ⟨blk, off, cap⟩
  have self : upR ρ l.length ⟨blk, off, cap⟩ l.length = some ⟨blk, off, cap⟩ := by unfold upR; rw [if_pos rfl]
  have cases' : ∀ (b : Nat) o, (l ++ [.row .ro esz cs])[b]? = some o → (l[b]? = some o ∧ b < l.length) ∨ (b = l.length ∧ o = .row .ro esz cs) := by
    intro b o ho
    by_cases hb : b < l.length
    · left; rw [List.getElem?_append_left hb] at ho; exact ⟨ho, hb⟩
    · right
      have := (List.getElem?_eq_some_iff.1 ho).1
      simp at this
      have e : b = l.length := by omega
      subst e
      simp at ho
      exact ⟨rfl, ho.symm⟩
  refine ⟨⟨m.rel.below, m.rel.base, ?_, ?_, ?_, ?_⟩, ?_⟩
  · intro b L hb; unfold upR at hb; split at hb
    · rename_i e; subst e; simp
    · have := m.rel.fin b L hb; simp; omega
  · intro b L o hb ho hd
    rcases cases' b o ho with ⟨h1, h2⟩ | ⟨rfl, rfl⟩
    · unfold upR at hb; rw [if_neg (by omega)] at hb; exact m.rel.lt b L o hb h1 hd
    · rw [self] at hb; cases hb; exact hblk
  · intro b o ho
    rcases cases' b o ho with ⟨h1, h2⟩ | ⟨rfl, rfl⟩
    · obtain ⟨L, hL, hO⟩ := m.rel.obj b o h1
      exact ⟨L, hle _ _ hL, hO.mono hle⟩
    · exact ⟨_, self, hblk, fun i v hv => let ⟨v', h1, h2⟩ := hc i v hv; ⟨v', h1, h2.mono hle⟩⟩
  · intro b b' o o' L L' hne h1 h2 hw1 hw2 hL hL'
    rcases cases' b o h1 with ⟨h1, hb⟩ | ⟨rfl, rfl⟩
    · rcases cases' b' o' h2 with ⟨h2, hb'⟩ | ⟨rfl, rfl⟩
      · unfold upR at hL hL'
        rw [if_neg (by omega)] at hL hL'
        exact m.rel.sep b b' o o' L L' hne h1 h2 hw1 hw2 hL hL'
      · simp [AObj.owned] at hw2
    · simp [AObj.owned] at hw1
  · intro o ho
    rcases List.mem_append.1 ho with h | h
    · exact m.fro o h
    · simp at h; subst h; rfl

/-- The slice v reads as xs, over memory told as a list. -/
def RdL {α : Type} (E : α → List Value → Prop) (sz : Nat) (l : Heap) (v : Value) (xs : List α) : Prop :=
  (xs = [] ∧ ∃ a c, v = .slice a 0 c) ∨ ∃ b o c cs esz, v = .slice (some ⟨b, o, none⟩) xs.length c ∧ l[b]? = some (.row .ro esz cs) ∧ ∀ (i : Nat) x, xs[i]? = some x → o + i * sz + sz ≤ cs.length ∧ E x ((cs.drop (o + i * sz)).take sz)
theorem RdL.app {α : Type} {E E' : α → List Value → Prop} {sz : Nat} {l : Heap} {v : Value} {xs : List α} (r : RdL E sz l v xs) (ext : Heap) (hE : ∀ x es, E x es → E' x es) : RdL E' sz (l ++ ext) v xs := by
  rcases r with h | ⟨b, o, c, cs, esz, h1, h2, h3⟩
  · exact .inl h
  · exact .inr ⟨b, o, c, cs, esz, h1, by rw [List.getElem?_append_left (List.getElem?_eq_some_iff.1 h2).1]; exact h2, fun i x hx => ⟨(h3 i x hx).1, hE _ _ (h3 i x hx).2⟩⟩
theorem RdL.toS {α : Type} {E E' : α → List Value → Prop} {sz : Nat} {l : Heap} {v : Value} {xs : List α} {h : PH} (hr : ∀ b, h.raw b = l[b]?) (r : RdL E sz l v xs) (hE : ∀ x es, E x es → E' x es) : RdS E' sz h v xs := by
  rcases r with h | ⟨b, o, c, cs, esz, h1, h2, h3⟩
  · exact .inl h
  · exact .inr ⟨b, o, c, cs, h1, by unfold Sees PH.cells; rw [hr, h2]; rfl, fun i x hx => ⟨(h3 i x hx).1, hE _ _ (h3 i x hx).2⟩⟩

theorem cell_lt {a : Addr} {v : Value} (h : w.cell? a = some v) : a.block < w.heap.size ∧ a.spot = none := by
  unfold World.cell? at h
  split at h
  · rename_i e
    refine ⟨(Array.getElem?_eq_some_iff.1 e).1, ?_⟩
    split at h
    · cases h
    · rename_i hs; simpa using hs
  · cases h
theorem add_eq {a : Addr} (h : a.spot = none) (n : Nat) : a.add n = ⟨a.block, a.off + n, none⟩ := by
  unfold Addr.add
  split
  · rename_i e; subst e; cases a; simp_all
  · rfl
variable {H : Type} {enc : TypeId × Value → H}
/-- A slice of numbers. -/
theorem Im.ints (m : Im w ρ l) (h0 : ρ 0 = some ⟨0, 0, 0⟩) {fuel : Nat} {v : Value} {x : DataW H × List MemPlace} (ht : DataW.trod enc Try.prog w 0 (fun _ => true) true fuel 25 [v] = some x) :
    ∃ ρ' ext rv xs, Im w ρ' (l ++ ext) ∧ ρ.le ρ' ∧ VR ρ' rv v ∧ RdL intE 1 (l ++ ext) rv xs ∧ xs.length < 9223372036854775808 ∧ ∀ z ∈ xs, inR z := by
  rcases open_ints Try.underlying25 Try.underlying3 (by kernel_rfl) ht with ⟨hcs, _⟩ | ⟨a, len, cap, zs, hcs, _, hl, hm, hz, _, hcell, hwf⟩
  · cases hcs
    exact ⟨ρ, [], nils, [], by rw [List.append_nil]; exact m, RMap.le_refl _, .snil _ _, .inl ⟨rfl, _, _, rfl⟩, by simp, by simp⟩
  · cases hcs
    simp only [if_true] at hz
    have hmx : maxLen = 9223372036854775807 := rfl
    have hin : ∀ z ∈ zs, inR z := by
      intro z hz
      have := hwf z hz
      simp [Lit.wf, IntKind.min, IntKind.max, IntKind.signed, IntKind.bits] at this
      unfold inR; omega
    cases hc0 : cap with
    | zero =>
      subst hc0
      have hl0 : len = 0 := by omega
      subst hl0
      refine ⟨ρ, [], .slice (some ⟨0, 0, none⟩) 0 openCap, [], by rw [List.append_nil]; exact m, RMap.le_refl _, .slz h0 (by decide) rfl, .inl ⟨rfl, _, _, rfl⟩, by simp, by simp⟩
    | succ cap' =>
      obtain ⟨hb, hs⟩ := cell_lt (hcell 0 (by omega))
      have hb : a.block < w.heap.size := by simpa [Addr.add] using hb
      have hs : a.spot = none := by simpa [Addr.add] using hs
      have ea : a = ⟨a.block, a.off, none⟩ := by cases a; simp_all
      have m' := m.row 1 a.block a.off cap (zs.map (.int .i64)) hb (fun i v hv => by
        rw [List.getElem?_map, Option.map_eq_some_iff] at hv
        obtain ⟨z, hz1, rfl⟩ := hv
        have hlt := (List.getElem?_eq_some_iff.1 hz1).1
        refine ⟨_, ?_, .int _ _⟩
        have := hcell i hlt
        rw [add_eq hs] at this
        rw [this]
        simp [List.getD, hz1])
      refine ⟨_, _, .slice (some ⟨l.length, 0, none⟩) len openCap, zs.take len, m', upR_le m _, ?_, .inr ⟨l.length, 0, openCap, zs.map (.int .i64), 1, ?_, by simp, fun i x hx => ?_⟩, ?_, fun z hz => hin z (List.mem_of_mem_take hz)⟩
      · rw [ea]
        have e : upR ρ l.length ⟨a.block, a.off, cap⟩ l.length = some ⟨a.block, a.off, cap⟩ := by unfold upR; rw [if_pos rfl]
        rw [← hc0]
        exact VR.slo e (by decide) (Nat.add_comm _ _) hl
      · simp; omega
      · rw [List.getElem?_take] at hx
        split at hx
        · have hlt := (List.getElem?_eq_some_iff.1 hx).1
          refine ⟨by simp; omega, ?_⟩
          show _ = _
          rw [Nat.zero_add, Nat.mul_one, List.drop_eq_getElem_cons (by simpa using hlt), List.take_succ_cons, List.take_zero, List.getElem_map]
          rw [(List.getElem?_eq_some_iff.1 hx).2]
        · cases hx
      · simp; omega
end
end Go.Am

set_option linter.unusedSimpArgs false
set_option linter.unusedVariables false
namespace Go.Am
open Go Go.RowKit Go.Proofs Go.ChangeShapes Go.WideShapes

def ruleL (l : Heap) (r : Rl) (es : List Value) : Prop := ∃ rv, es = [.int .i64 r.left, rv, .int .i64 r.dyn] ∧ RdL intE 1 l rv r.right
structure RIn (r : Rl) : Prop where
  left : inR r.left
  dyn : inR r.dyn
  len : r.right.length < 9223372036854775808
  right : ∀ s ∈ r.right, inR s
theorem inR_of {z : Int} (h : (Lit.int .i64 z).wf = true) : inR z := by
  simp [Lit.wf, IntKind.min, IntKind.max, IntKind.signed, IntKind.bits] at h
  unfold inR; omega
theorem ruleL.app {l : Heap} (ext : Heap) {r : Rl} {es : List Value} (h : ruleL l r es) : ruleL (l ++ ext) r es := let ⟨rv, e, q⟩ := h; ⟨rv, e, q.app ext fun _ _ e => e⟩
section
variable {w : World} {ρ : RMap} {l : Heap} {H : Type} {enc : TypeId × Value → H}
theorem three {l : List Value} (h : l.length = 3) : ∃ a b c, l = [a, b, c] := by
  match l, h with
  | [a, b, c], _ => exact ⟨a, b, c, rfl⟩
theorem drop_app3 {cs : List Value} {k i : Nat} {new : List Value} (hl : cs.length = k * 3) (hi : i < k) : ((cs ++ new).drop (i * 3)).take 3 = (cs.drop (i * 3)).take 3 := by
  rw [List.drop_append_of_le_length (by omega), List.take_append_of_le_length (by simp; omega)]
theorem Im.rulesK (m : Im w ρ l) (h0 : ρ 0 = some ⟨0, 0, 0⟩) {a : Addr} {len n : Nat} (hs : a.spot = none)
    (hcell : ∀ i, i < len → ∃ cs', w.cells? 0 (a.add (i * 3)) 3 = some cs' ∧ ∃ y, DataW.trod enc Try.prog w 0 (fun _ => true) true n 29 cs' = some y) :
    ∀ k, k ≤ len → ∃ (ρ' : RMap) (ext : Heap) (rls : List Rl) (cs : List Value), Im w ρ' (l ++ ext) ∧ ρ.le ρ' ∧ rls.length = k ∧ cs.length = k * 3 ∧ (∀ (i : Nat) v, cs[i]? = some v → ∃ v', w.cell? ⟨a.block, a.off + i, none⟩ = some v' ∧ VR ρ' v v') ∧ (∀ (i : Nat) r, rls[i]? = some r → ruleL (l ++ ext) r ((cs.drop (i * 3)).take 3)) ∧ ∀ r ∈ rls, RIn r
  | 0, _ => ⟨ρ, [], [], [], by rw [List.append_nil]; exact m, RMap.le_refl _, rfl, rfl, by simp, by simp, by simp⟩
  | k + 1, hk => by
    obtain ⟨ρ1, ext, rls, cs, m1, le1, h1, h2, h3, h4, h5⟩ := Im.rulesK m h0 hs hcell k (by omega)
    obtain ⟨cs', hc, y, ht⟩ := hcell k (by omega)
    obtain ⟨_, hlen, hat⟩ := World.cells?_some hc
    obtain ⟨c0, c1, c2, rfl⟩ := three hlen
    obtain ⟨xs, n', _, _, _, hxl, hf⟩ := DataW.trod_struct Try.underlying29 ht
    have C3 : Try.prog.cellsOf 3 = 1 := by kernel_rfl
    have C25 : Try.prog.cellsOf 25 = 1 := by kernel_rfl
    have f0 : DataW.trod enc Try.prog w 0 (fun _ => true) true n' 3 (([c0, c1, c2].drop 0).take (Try.prog.cellsOf 3)) = xs[0]? := hf 0 _ rfl
    have f1 : DataW.trod enc Try.prog w 0 (fun _ => true) true n' 25 (([c0, c1, c2].drop 1).take (Try.prog.cellsOf 25)) = xs[1]? := hf 1 _ rfl
    have f2 : DataW.trod enc Try.prog w 0 (fun _ => true) true n' 3 (([c0, c1, c2].drop 2).take (Try.prog.cellsOf 3)) = xs[2]? := hf 2 _ rfl
    have hx : ∀ j, j < 3 → xs[j]? = some (xs[j]!) := by
      intro j hj
      have : j < xs.length := by rw [hxl]; exact hj
      rw [List.getElem?_eq_getElem this, List.getElem!_eq_getElem?_getD, List.getElem?_eq_getElem this]; rfl
    rw [hx 0 (by omega)] at f0
    rw [hx 1 (by omega)] at f1
    rw [hx 2 (by omega)] at f2
    simp only [C3, C25, List.drop_zero, List.take_succ_cons, List.take_zero, List.drop_succ_cons] at f0 f1 f2
    obtain ⟨a0, e0, _, w0⟩ := DataW.trod_int Try.underlying3 f0
    obtain ⟨a2, e2, _, w2⟩ := DataW.trod_int Try.underlying3 f2
    cases e0
    cases e2
    obtain ⟨ρ2, ext2, rv, right, m2, le2, hv, hrd, hrl, hrin⟩ := m1.ints (le1 _ _ h0) f1
    have hbase : ∀ j, j < 3 → w.cell? ⟨a.block, a.off + (k * 3 + j), none⟩ = [Value.int .i64 a0, c1, Value.int .i64 a2][j]? := by
      intro j hj
      have := hat j hj
      rw [add_eq hs, add_eq rfl] at this
      rw [← this]
      show w.cell? ⟨a.block, a.off + (k * 3 + j), none⟩ = w.cell? ⟨a.block, a.off + k * 3 + j, none⟩
      rw [Nat.add_assoc]
    refine ⟨ρ2, ext ++ ext2, rls ++ [⟨a0, right, a2⟩], cs ++ [.int .i64 a0, rv, .int .i64 a2], by rw [← List.append_assoc]; exact m2, RMap.le_trans le1 le2, by simp [h1], by simp [h2]; omega, ?_, ?_, ?_⟩
    · intro i v hi
      by_cases hlt : i < cs.length
      · rw [List.getElem?_append_left hlt] at hi
        obtain ⟨v', e1, e2⟩ := h3 i v hi
        exact ⟨v', e1, e2.mono le2⟩
      · have hi3 : i - cs.length < 3 := by
          have := (List.getElem?_eq_some_iff.1 hi).1; simp at this; omega
        rw [List.getElem?_append_right (by omega)] at hi
        have hb := hbase (i - cs.length) hi3
        have e : k * 3 + (i - cs.length) = i := by omega
        rw [e] at hb
        rw [hb]
        generalize i - cs.length = j at hi hi3
        match j, hi3, hi with
        | 0, _, hi => cases hi; exact ⟨_, rfl, .int _ _⟩
        | 1, _, hi => cases hi; exact ⟨_, rfl, hv⟩
        | 2, _, hi => cases hi; exact ⟨_, rfl, .int _ _⟩
    · intro i r hi
      by_cases hlt : i < k
      · rw [List.getElem?_append_left (by omega)] at hi
        rw [drop_app3 h2 hlt, ← List.append_assoc]
        exact (h4 i r hi).app ext2
      · have hik : i = k := by
          have := (List.getElem?_eq_some_iff.1 hi).1; simp at this; omega
        subst hik
        rw [List.getElem?_append_right (by omega), h1] at hi
        simp at hi; subst hi
        rw [← h2, List.drop_left, ← List.append_assoc]
        exact ⟨rv, rfl, hrd⟩
    · intro r hr
      rcases List.mem_append.1 hr with h | h
      · exact h5 r h
      · simp at h; subst h; exact ⟨inR_of w0, inR_of w2, hrl, hrin⟩
theorem Im.rules (m : Im w ρ l) (h0 : ρ 0 = some ⟨0, 0, 0⟩) {fuel : Nat} {v : Value} {x : DataW H × List MemPlace} (ht : DataW.trod enc Try.prog w 0 (fun _ => true) true fuel 23 [v] = some x) :
    ∃ ρ' ext rv xs, Im w ρ' (l ++ ext) ∧ ρ.le ρ' ∧ VR ρ' rv v ∧ RdL (ruleL (l ++ ext)) 3 (l ++ ext) rv xs ∧ xs.length < 9223372036854775808 ∧ ∀ r ∈ xs, RIn r := by
  have C29 : Try.prog.cellsOf 29 = 3 := by kernel_rfl
  have hmx : maxLen = 9223372036854775807 := rfl
  rcases Deep.open_slice Try.underlying23 ht with ⟨hcs, _⟩ | ⟨a, len, cap, mm, n, D, Pl, hcs, _, hl, hm, hmm, _, hcell⟩
  · cases hcs
    exact ⟨ρ, [], nils, [], by rw [List.append_nil]; exact m, RMap.le_refl _, .snil _ _, .inl ⟨rfl, _, _, rfl⟩, by simp, by simp⟩
  · cases hcs
    simp only [if_true] at hmm
    rw [C29] at hcell
    cases hc0 : cap with
    | zero =>
      have hl0 : len = 0 := by omega
      subst hl0
      exact ⟨ρ, [], .slice (some ⟨0, 0, none⟩) 0 openCap, [], by rw [List.append_nil]; exact m, RMap.le_refl _, .slz h0 (by decide) rfl, .inl ⟨rfl, _, _, rfl⟩, by simp, by simp⟩
    | succ cap' =>
      obtain ⟨cs0, hc, _⟩ := hcell 0 (by omega)
      obtain ⟨_, hlen0, hat0⟩ := World.cells?_some hc
      obtain ⟨d0, d1, d2, rfl⟩ := three hlen0
      have hat0 := hat0 0 (by omega)
      obtain ⟨hb, hs⟩ := cell_lt (v := d0) (by rw [hat0]; rfl)
      have hb : a.block < w.heap.size := by simpa [Addr.add] using hb
      have hs : a.spot = none := by simpa [Addr.add] using hs
      have ea : a = ⟨a.block, a.off, none⟩ := by cases a; simp_all
      obtain ⟨ρ1, ext, rls, cs, m1, le1, h1, h2, h3, h4, h5⟩ := Im.rulesK m h0 hs (len := len) (n := n) (enc := enc) (fun i hi => let ⟨c, q1, q2⟩ := hcell i (by omega); ⟨c, q1, _, q2⟩) len (Nat.le_refl _)
      have m' := m1.row 3 a.block a.off cap cs hb h3
      refine ⟨_, ext ++ [.row .ro 3 cs], .slice (some ⟨(l ++ ext).length, 0, none⟩) len openCap, rls, by rw [← List.append_assoc]; exact m', RMap.le_trans le1 (upR_le m1 _), ?_, .inr ⟨(l ++ ext).length, 0, openCap, cs, 3, by rw [h1], by rw [← List.append_assoc]; simp, fun i x hx => ?_⟩, by omega, h5⟩
      · rw [ea]
        have e : upR ρ1 (l ++ ext).length ⟨a.block, a.off, cap⟩ (l ++ ext).length = some ⟨a.block, a.off, cap⟩ := by unfold upR; rw [if_pos rfl]
        rw [← hc0]
        exact VR.slo e (by decide) (Nat.add_comm _ _) hl
      · have hlt := (List.getElem?_eq_some_iff.1 hx).1
        refine ⟨by omega, ?_⟩
        rw [Nat.zero_add, ← List.append_assoc]
        exact (h4 i x hx).app _
end
end Go.Am

set_option linter.unusedSimpArgs false
set_option linter.unusedVariables false
namespace Go.Am
open Go Go.RowKit Go.Proofs Go.ChangeShapes Go.WideShapes

section
variable {w : World} {ρ : RMap} {l : Heap} {H : Type} {enc : TypeId × Value → H}
theorem some_at {α : Type} [Inhabited α] {xs : List α} {j : Nat} (h : j < xs.length) : xs[j]? = some (xs[j]!) := by
  rw [List.getElem?_eq_getElem h, List.getElem!_eq_getElem?_getD, List.getElem?_eq_getElem h]; rfl
theorem Im.forbK {a : Addr} {len n : Nat} (hs : a.spot = none)
    (hcell : ∀ i, i < len → ∃ cs', w.cells? 0 (a.add (i * 3)) 3 = some cs' ∧ ∃ y, DataW.trod enc Try.prog w 0 (fun _ => true) true n 49 cs' = some y) :
    ∀ k, k ≤ len → ∃ (fs : List (Int × Int × Int)) (cs : List Value), fs.length = k ∧ cs.length = k * 3 ∧ (∀ (i : Nat) v, cs[i]? = some v → ∃ v', w.cell? ⟨a.block, a.off + i, none⟩ = some v' ∧ VR ρ v v') ∧ (∀ (i : Nat) r, fs[i]? = some r → int3E r ((cs.drop (i * 3)).take 3)) ∧ ∀ f ∈ fs, inR f.1 ∧ inR f.2.1 ∧ inR f.2.2
  | 0, _ => ⟨[], [], rfl, rfl, by simp, by simp, by simp⟩
  | k + 1, hk => by
    obtain ⟨fs, cs, h1, h2, h3, h4, h5⟩ := Im.forbK hs hcell k (by omega)
    obtain ⟨cs', hc, y, ht⟩ := hcell k (by omega)
    obtain ⟨_, hlen, hat⟩ := World.cells?_some hc
    obtain ⟨c0, c1, c2, rfl⟩ := three hlen
    obtain ⟨xs, n', _, _, _, hxl, hf⟩ := DataW.trod_array Try.underlying49 ht
    have C3 : Try.prog.cellsOf 3 = 1 := by kernel_rfl
    have f0 := hf 0 (by omega)
    have f1 := hf 1 (by omega)
    have f2 := hf 2 (by omega)
    rw [List.getElem?_eq_getElem (by omega), C3] at f0 f1 f2
    simp only [Nat.zero_mul, Nat.one_mul, Nat.mul_one, List.drop_zero, List.take_succ_cons, List.take_zero, List.drop_succ_cons] at f0 f1 f2
    obtain ⟨a0, e0, _, w0⟩ := DataW.trod_int Try.underlying3 f0
    obtain ⟨a1, e1, _, w1⟩ := DataW.trod_int Try.underlying3 f1
    obtain ⟨a2, e2, _, w2⟩ := DataW.trod_int Try.underlying3 f2
    cases e0
    cases e1
    cases e2
    have hbase : ∀ j, j < 3 → w.cell? ⟨a.block, a.off + (k * 3 + j), none⟩ = [Value.int .i64 a0, Value.int .i64 a1, Value.int .i64 a2][j]? := by
      intro j hj
      have := hat j hj
      rw [add_eq hs, add_eq rfl] at this
      rw [← this]
      show w.cell? ⟨a.block, a.off + (k * 3 + j), none⟩ = w.cell? ⟨a.block, a.off + k * 3 + j, none⟩
      rw [Nat.add_assoc]
    refine ⟨fs ++ [(a0, a1, a2)], cs ++ [.int .i64 a0, .int .i64 a1, .int .i64 a2], by simp [h1], by simp [h2]; omega, ?_, ?_, ?_⟩
    · intro i v hi
      by_cases hlt : i < cs.length
      · rw [List.getElem?_append_left hlt] at hi
        exact h3 i v hi
      · have hi3 : i - cs.length < 3 := by
          have := (List.getElem?_eq_some_iff.1 hi).1; simp at this; omega
        rw [List.getElem?_append_right (by omega)] at hi
        have hb := hbase (i - cs.length) hi3
        have e : k * 3 + (i - cs.length) = i := by omega
        rw [e] at hb
        rw [hb]
        generalize i - cs.length = j at hi hi3
        match j, hi3, hi with
        | 0, _, hi => cases hi; exact ⟨_, rfl, .int _ _⟩
        | 1, _, hi => cases hi; exact ⟨_, rfl, .int _ _⟩
        | 2, _, hi => cases hi; exact ⟨_, rfl, .int _ _⟩
    · intro i r hi
      by_cases hlt : i < k
      · rw [List.getElem?_append_left (by omega)] at hi
        rw [drop_app3 h2 hlt]
        exact h4 i r hi
      · have hik : i = k := by
          have := (List.getElem?_eq_some_iff.1 hi).1; simp at this; omega
        subst hik
        rw [List.getElem?_append_right (by omega), h1] at hi
        simp at hi; subst hi
        rw [← h2, List.drop_left]
        rfl
    · intro r hr
      rcases List.mem_append.1 hr with h | h
      · exact h5 r h
      · simp at h; subst h; exact ⟨inR_of w0, inR_of w1, inR_of w2⟩
theorem Im.forb (m : Im w ρ l) (h0 : ρ 0 = some ⟨0, 0, 0⟩) {fuel : Nat} {v : Value} {x : DataW H × List MemPlace} (ht : DataW.trod enc Try.prog w 0 (fun _ => true) true fuel 24 [v] = some x) :
    ∃ (ρ' : RMap) (ext : Heap) (rv : Value) (xs : List (Int × Int × Int)), Im w ρ' (l ++ ext) ∧ ρ.le ρ' ∧ VR ρ' rv v ∧ RdL int3E 3 (l ++ ext) rv xs ∧ xs.length < 9223372036854775808 ∧ ∀ f ∈ xs, inR f.1 ∧ inR f.2.1 ∧ inR f.2.2 := by
  have C49 : Try.prog.cellsOf 49 = 3 := by kernel_rfl
  have hmx : maxLen = 9223372036854775807 := rfl
  rcases Deep.open_slice Try.underlying24 ht with ⟨hcs, _⟩ | ⟨a, len, cap, mm, n, D, Pl, hcs, _, hl, hm, hmm, _, hcell⟩
  · cases hcs
    exact ⟨ρ, [], nils, [], by rw [List.append_nil]; exact m, RMap.le_refl _, .snil _ _, .inl ⟨rfl, _, _, rfl⟩, by simp, by simp⟩
  · cases hcs
    simp only [if_true] at hmm
    rw [C49] at hcell
    cases hc0 : cap with
    | zero =>
      have hl0 : len = 0 := by omega
      subst hl0
      exact ⟨ρ, [], .slice (some ⟨0, 0, none⟩) 0 openCap, [], by rw [List.append_nil]; exact m, RMap.le_refl _, .slz h0 (by decide) rfl, .inl ⟨rfl, _, _, rfl⟩, by simp, by simp⟩
    | succ cap' =>
      obtain ⟨cs0, hc, _⟩ := hcell 0 (by omega)
      obtain ⟨_, hlen0, hat0⟩ := World.cells?_some hc
      obtain ⟨d0, d1, d2, rfl⟩ := three hlen0
      have hat0 := hat0 0 (by omega)
      obtain ⟨hb, hs⟩ := cell_lt (v := d0) (by rw [hat0]; rfl)
      have hb : a.block < w.heap.size := by simpa [Addr.add] using hb
      have hs : a.spot = none := by simpa [Addr.add] using hs
      have ea : a = ⟨a.block, a.off, none⟩ := by cases a; simp_all
      obtain ⟨fs, cs, h1, h2, h3, h4, h5⟩ := Im.forbK (ρ := ρ) hs (len := len) (n := n) (enc := enc) (fun i hi => let ⟨c, q1, q2⟩ := hcell i (by omega); ⟨c, q1, _, q2⟩) len (Nat.le_refl _)
      have m' := m.row 3 a.block a.off cap cs hb h3
      refine ⟨_, _, .slice (some ⟨l.length, 0, none⟩) len openCap, fs, m', upR_le m _, ?_, .inr ⟨l.length, 0, openCap, cs, 3, by rw [h1], by simp, fun i x hx => ?_⟩, by omega, h5⟩
      · rw [ea]
        have e : upR ρ l.length ⟨a.block, a.off, cap⟩ l.length = some ⟨a.block, a.off, cap⟩ := by unfold upR; rw [if_pos rfl]
        rw [← hc0]
        exact VR.slo e (by decide) (Nat.add_comm _ _) hl
      · have hlt := (List.getElem?_eq_some_iff.1 hx).1
        refine ⟨by omega, ?_⟩
        rw [Nat.zero_add]
        exact h4 i x hx
theorem seven {l : List Value} (h : l.length = 7) : ∃ a b c d e f g, l = [a, b, c, d, e, f, g] := by
  match l, h with
  | [a, b, c, d, e, f, g], _ => exact ⟨a, b, c, d, e, f, g, rfl⟩
/-- A grammar that came in. -/
theorem Im.gram {r : _root_.Go.Reach} {b0 : Nat} {v0 : Value} {d : DataW H} {p : List MemPlace} (hv : Value.okWide Try.prog w r b0 27 v0) (ht : DataW.Trod enc Try.prog w 0 (fun _ => true) true 27 v0 d p) :
    ∃ (ρ : RMap) (l : Heap) (v : Value) (g : Gr) (rv fv cv kv : Value), Im w ρ l ∧ VR ρ v v0 ∧ GIn g ∧ ∀ h : PH, (∀ b, h.raw b = l[b]?) → RdG h v g rv fv cv kv := by
  obtain ⟨⟨cs⟩, rfl, hsz⟩ := okWide_struct Try.underlying27 hv
  have C27 : Try.prog.cellsOf 27 = 7 := by kernel_rfl
  obtain ⟨c0, c1, c2, c3, c4, c5, c6, rfl⟩ := seven (hsz.trans C27)
  obtain ⟨fuel, ht⟩ := ht
  obtain ⟨xs, n, _, _, _, hxl, hf⟩ := DataW.trod_struct Try.underlying27 ht
  have hxl : xs.length = 7 := hxl
  have C3 : Try.prog.cellsOf 3 = 1 := by kernel_rfl
  have C23 : Try.prog.cellsOf 23 = 1 := by kernel_rfl
  have C24 : Try.prog.cellsOf 24 = 1 := by kernel_rfl
  have C25 : Try.prog.cellsOf 25 = 1 := by kernel_rfl
  have f0 : DataW.trod enc Try.prog w 0 (fun _ => true) true n 3 (([c0, c1, c2, c3, c4, c5, c6].drop 0).take (Try.prog.cellsOf 3)) = xs[0]? := hf 0 _ rfl
  have f1 : DataW.trod enc Try.prog w 0 (fun _ => true) true n 3 (([c0, c1, c2, c3, c4, c5, c6].drop 1).take (Try.prog.cellsOf 3)) = xs[1]? := hf 1 _ rfl
  have f2 : DataW.trod enc Try.prog w 0 (fun _ => true) true n 3 (([c0, c1, c2, c3, c4, c5, c6].drop 2).take (Try.prog.cellsOf 3)) = xs[2]? := hf 2 _ rfl
  have f3 : DataW.trod enc Try.prog w 0 (fun _ => true) true n 23 (([c0, c1, c2, c3, c4, c5, c6].drop 3).take (Try.prog.cellsOf 23)) = xs[3]? := hf 3 _ rfl
  have f4 : DataW.trod enc Try.prog w 0 (fun _ => true) true n 24 (([c0, c1, c2, c3, c4, c5, c6].drop 4).take (Try.prog.cellsOf 24)) = xs[4]? := hf 4 _ rfl
  have f5 : DataW.trod enc Try.prog w 0 (fun _ => true) true n 25 (([c0, c1, c2, c3, c4, c5, c6].drop 5).take (Try.prog.cellsOf 25)) = xs[5]? := hf 5 _ rfl
  have f6 : DataW.trod enc Try.prog w 0 (fun _ => true) true n 25 (([c0, c1, c2, c3, c4, c5, c6].drop 6).take (Try.prog.cellsOf 25)) = xs[6]? := hf 6 _ rfl
  rw [List.getElem?_eq_getElem (by omega)] at f0 f1 f2 f3 f4 f5 f6
  simp only [C3, C23, C24, C25, List.drop_zero, List.take_succ_cons, List.take_zero, List.drop_succ_cons] at f0 f1 f2 f3 f4 f5 f6
  obtain ⟨a0, e0, _, w0⟩ := DataW.trod_int Try.underlying3 f0
  obtain ⟨a1, e1, _, w1⟩ := DataW.trod_int Try.underlying3 f1
  obtain ⟨a2, e2, _, w2⟩ := DataW.trod_int Try.underlying3 f2
  cases e0
  cases e1
  cases e2
  have m0 := Im.start w
  have z0 : upR (fun _ => none) 0 ⟨0, 0, 0⟩ 0 = some ⟨0, 0, 0⟩ := rfl
  obtain ⟨ρ1, x1, rv, rules, m1, le1, v1, r1, b1, i1⟩ := m0.rules z0 f3
  obtain ⟨ρ2, x2, fv, fs, m2, le2, v2, r2, b2, i2⟩ := m1.forb (le1 _ _ z0) f4
  obtain ⟨ρ3, x3, cv, cs, m3, le3, v3', r3, b3, i3⟩ := m2.ints (le2 _ _ (le1 _ _ z0)) f5
  obtain ⟨ρ4, x4, kv, ks, m4, le4, v4, r4, b4, i4⟩ := m3.ints (le3 _ _ (le2 _ _ (le1 _ _ z0))) f6
  refine ⟨ρ4, _, .agg ⟨[.int .i64 a0, .int .i64 a1, .int .i64 a2, rv, fv, cv, kv]⟩, ⟨a0, a1, a2, rules, fs, cs, ks⟩, rv, fv, cv, kv, m4, .agg ?_, ?_, fun h hr => ?_⟩
  · exact .cons (.int _ _) (.cons (.int _ _) (.cons (.int _ _) (.cons (v1.mono (RMap.le_trans le2 (RMap.le_trans le3 le4))) (.cons (v2.mono (RMap.le_trans le3 le4)) (.cons (v3'.mono le4) (.cons v4 .nil))))))
  · exact ⟨inR_of w0, inR_of w1, inR_of w2, b1, b2, b3, b4, fun r h => (i1 r h).left, fun r h => (i1 r h).dyn, fun r h => (i1 r h).right, fun r h => (i1 r h).len, i2⟩
  · refine ⟨rfl, ?_, ?_, ?_, ?_⟩
    · have q := r1.app (E' := ruleL ([.dead] ++ x1)) (x2 ++ x3 ++ x4) fun _ _ e => e
      refine q.toS (h := h) (by intro b; rw [hr]; simp) fun x es hx => ?_
      obtain ⟨rv', e, q'⟩ := hx
      exact ⟨rv', e, (q'.app (E' := intE) (x2 ++ x3 ++ x4) fun _ _ e => e).toS (by intro b; rw [hr]; simp) fun _ _ e => e⟩
    · exact (r2.app (E' := int3E) (x3 ++ x4) fun _ _ e => e).toS (by intro b; rw [hr]; simp) fun _ _ e => e
    · exact (r3.app (E' := intE) x4 fun _ _ e => e).toS (by intro b; rw [hr]) fun _ _ e => e
    · exact r4.toS (by intro b; rw [hr]) fun _ _ e => e
end
end Go.Am

set_option linter.unusedSimpArgs false
set_option linter.unusedVariables false
namespace Go.Am
open Go Go.RowKit Go.Proofs Go.ChangeShapes Go.WideShapes
abbrev NM : Nat := 9223372036854775808
/-- A law of any grammar. -/
theorem law_of {f : FuncId} {F : Value → PH → R} (hF : ∀ {a : Value} {h h' : PH} {v : Value}, F a h = some (v, h') → ACall Try.prog f [a] h.abs (fun u k => u = v ∧ k = h'.abs))
    (hc : ∀ (h : PH) (g : Gr) (v rv fv cv kv : Value), OkH h → RdG h v g rv fv cv kv → GIn g → Ret (F v h.fzn) fun u _ => u = .bool true)
    {H : Type} {enc : TypeId × Value → H} {w : World} {r : _root_.Go.Reach} {b0 : Nat} {v0 : Value} {d : DataW H} {p : List MemPlace} (hv : Value.okWide Try.prog w r b0 27 v0) (ht : DataW.Trod enc Try.prog w 0 (fun _ => true) true 27 v0 d p) :
    Calls Try.prog f #[v0] w fun e w' => e = .returned (.bool true) ∧ Below w.heap.size w w' := by
  obtain ⟨ρ, l, v, g, rv, fv, cv, kv, im, hvr, hin, hrd⟩ := Im.gram hv ht
  obtain ⟨h, ok, hn, hz, hr⟩ := PH.of_list l
  obtain ⟨u, k, hk, hu⟩ := hc h g v rv fv cv kv ok (hrd h hr) hin
  subst hu
  have ha := hF hk
  rw [PH.fzn_list hn hr im.fro] at ha
  exact calls_rel im.rel (.cons hvr .nil) rfl ha
theorem lawRT {H : Type} {enc : TypeId × Value → H} {w : World} {r : _root_.Go.Reach} {b0 : Nat} {v0 : Value} {d : DataW H} {p : List MemPlace} (hv : Value.okWide Try.prog w r b0 27 v0) (ht : DataW.Trod enc Try.prog w 0 (fun _ => true) true 27 v0 d p) :
    Calls Try.prog 4 #[v0] w fun e w' => e = .returned (.bool true) ∧ Below w.heap.size w w' :=
  law_of (F := F4 NM (CLV NM 1)) (fun hx => (S4 (CLV_ok _ _) hx).1.2) (fun h g v rv fv cv kv ok r hg => c4 (n := NM) (ih := CNo) (h := h) (Nat.le_refl _) r hg) hv ht
end Go.Am
