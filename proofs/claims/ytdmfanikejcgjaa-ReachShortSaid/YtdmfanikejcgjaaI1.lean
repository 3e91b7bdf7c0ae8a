import Derived.Test.YtdmfanikejcgjaaW2
import Derived.Test.YtdmfanikejcgjaaProg
import Derived.Deep.Slices
set_option linter.unusedSimpArgs false
set_option linter.unusedVariables false
namespace Go.Am
open Go Go.RowKit Go.Proofs Go.ChangeShapes Go.WideShapes

/-! ### memory that is as told -/
theorem PH.of_fun (f : Nat → AObj) : ∀ n : Nat, ∃ h : PH, OkH h ∧ h.n = n ∧ h.fz = 0 ∧ ∀ b, h.raw b = if b < n then some (f b) else none
  | 0 => ⟨h00, ⟨Nat.le_refl _, rfl⟩, rfl, rfl, fun b => by rw [PH.raw_ge (by show ¬ b < 0; omega), if_neg (by omega)]⟩
  | n + 1 => by
    obtain ⟨h, k, hn, hz, hr⟩ := PH.of_fun f n
    obtain ⟨h', _, ok, hn', hz', hr'⟩ := push_ex h (f n)
    refine ⟨h', ok, by omega, hz'.trans hz, fun b => ?_⟩
    rw [hr', hn, hr]
    by_cases e : b = n
    · subst e; rw [if_pos rfl, if_pos (by omega)]
    · rw [if_neg e]
      by_cases hb : b < n
      · rw [if_pos hb, if_pos (by omega)]
      · rw [if_neg hb, if_neg (by omega)]
theorem PH.of_list (l : List AObj) : ∃ h : PH, OkH h ∧ h.n = l.length ∧ h.fz = 0 ∧ ∀ b, h.raw b = l[b]? := by
  obtain ⟨h, k, hn, hz, hr⟩ := PH.of_fun (fun b => (l[b]?).getD .dead) l.length
  refine ⟨h, k, hn, hz, fun b => ?_⟩
  rw [hr]
  split
  · rename_i e; rw [List.getElem?_eq_getElem e]; rfl
  · rename_i e; rw [List.getElem?_eq_none (by omega)]
theorem PH.fzn_list {h : PH} {l : List AObj} (hn : h.n = l.length) (hr : ∀ b, h.raw b = l[b]?) (hf : ∀ o ∈ l, freeze o = o) : h.fzn.abs = l := by
  apply List.ext_getElem?
  intro i
  show ((List.range h.n).map fun i => frz (Nat.blt i h.n) ((h.br.get i).getD .dead))[i]? = l[i]?
  rw [List.getElem?_map]
  by_cases hi : i < h.n
  · have hl : l[i]? = some l[i] := List.getElem?_eq_getElem (by omega)
    have hb : Nat.blt i h.n = true := Nat.ble_eq_true_of_le hi
    have hg : h.br.get i = some l[i] := by rw [← PH.raw_lt hi, hr, hl]
    rw [List.getElem?_range hi, hl]
    simp only [Option.map_some, hb, hg, Option.getD_some, frz]
    rw [hf _ (List.getElem_mem _)]
  · rw [List.getElem?_eq_none (by simp; omega), List.getElem?_eq_none (by omega)]; rfl

/-- A call over memory that is read, told of the true world. -/
theorem calls_rel {P : Program} {f : FuncId} {args rargs : List Value} {v : Value} {h : Heap} {ρ : RMap} {Q : Heap → Prop} {w : World} (hr : Rel w.heap.size w ρ h w) (hp : VRs ρ args rargs) (hv : plainV v = true) (hc : ACall P f args h (fun u k => u = v ∧ Q k)) :
    Calls P f ⟨rargs⟩ w fun e w' => e = .returned v ∧ Below w.heap.size w w' := by
  refine (hc w.heap.size w ρ rargs w hr hp).mono ?_
  rintro e w' ⟨u, v', h', ρ', rfl, ⟨rfl, _⟩, _, hr, hvr⟩
  exact ⟨by rw [hvr.plain_eq hv], hr.below⟩

/-! ### an argument's image -/
def upR (ρ : RMap) (n : Nat) (L : RLoc) : RMap := fun b => if b = n then some L else ρ b
structure Im (w : World) (ρ : RMap) (l : Heap) : Prop where
  rel : Rel w.heap.size w ρ l w
  fro : ∀ o ∈ l, freeze o = o
/-- There is a dead object at the beginning. -/
theorem Im.start (w : World) : Im w (upR (fun _ => none) 0 ⟨0, 0, 0⟩) [.dead] := by
  refine ⟨⟨Below.refl _ _, Nat.le_refl _, ?_, ?_, ?_, ?_⟩, by simp [freeze]⟩
  · intro b L hb; unfold upR at hb; split at hb
    · rename_i e; subst e; simp
    · cases hb
  · intro b L o hb ho hd
    have := List.mem_of_getElem? ho
    simp at this; exact absurd this hd
  · intro b o ho
    have hm := List.mem_of_getElem? ho
    simp at hm; subst hm
    have hb : b = 0 := by have := (List.getElem?_eq_some_iff.1 ho).1; simpa using this
    subst hb
    exact ⟨_, rfl, trivial⟩
  · intro b b' o o' L L' _ ho _ hw
    have hm := List.mem_of_getElem? ho
    simp at hm; subst hm
    simp [AObj.owned] at hw
section
variable {w : World} {ρ : RMap} {l : Heap}
theorem upR_le (m : Im w ρ l) (L : RLoc) : ρ.le (upR ρ l.length L) := by
  intro b L' hb
  have := m.rel.fin b L' hb
  unfold upR
  rw [if_neg (by omega)]; exact hb
theorem Im.row (m : Im w ρ l) (esz blk off cap : Nat) (cs : List Value) (hblk : blk < w.heap.size) (hc : ∀ (i : Nat) v, cs[i]? = some v → ∃ v', w.cell? ⟨blk, off + i, none⟩ = some v' ∧ VR ρ v v') : Im w (upR ρ l.length ⟨blk, off, cap⟩) (l ++ [.row .ro esz cs]) := by
  have hle := upR_le m ⟨blk, off, cap⟩
  have self : upR ρ l.length ⟨blk, off, cap⟩ l.length = some ⟨blk, off, cap⟩ := by unfold upR; rw [if_pos rfl]
  have cases' : ∀ (b : Nat) o, (l ++ [.row .ro esz cs])[b]? = some o → (l[b]? = some o ∧ b < l.length) ∨ (b = l.length ∧ o = .row .ro esz cs) := by
    intro b o ho
    by_cases hb : b < l.length
    · left; rw [List.getElem?_append_left hb] at ho; exact ⟨ho, hb⟩
    · right
      have := (List.getElem?_eq_some_iff.1 ho).1
      simp at this
      have e : b = l.length := by omega
      subst e
      simp at ho
      exact ⟨rfl, ho.symm⟩
  refine ⟨⟨m.rel.below, m.rel.base, ?_, ?_, ?_, ?_⟩, ?_⟩
  · intro b L hb; unfold upR at hb; split at hb
    · rename_i e; subst e; simp
    · have := m.rel.fin b L hb; simp; omega
  · intro b L o hb ho hd
    rcases cases' b o ho with ⟨h1, h2⟩ | ⟨rfl, rfl⟩
    · unfold upR at hb; rw [if_neg (by omega)] at hb; exact m.rel.lt b L o hb h1 hd
    · rw [self] at hb; cases hb; exact hblk
  · intro b o ho
    rcases cases' b o ho with ⟨h1, h2⟩ | ⟨rfl, rfl⟩
    · obtain ⟨L, hL, hO⟩ := m.rel.obj b o h1
      exact ⟨L, hle _ _ hL, hO.mono hle⟩
    · exact ⟨_, self, hblk, fun i v hv => let ⟨v', h1, h2⟩ := hc i v hv; ⟨v', h1, h2.mono hle⟩⟩
  · intro b b' o o' L L' hne h1 h2 hw1 hw2 hL hL'
    rcases cases' b o h1 with ⟨h1, hb⟩ | ⟨rfl, rfl⟩
    · rcases cases' b' o' h2 with ⟨h2, hb'⟩ | ⟨rfl, rfl⟩
      · unfold upR at hL hL'
        rw [if_neg (by omega)] at hL hL'
        exact m.rel.sep b b' o o' L L' hne h1 h2 hw1 hw2 hL hL'
      · simp [AObj.owned] at hw2
    · simp [AObj.owned] at hw1
  · intro o ho
    rcases List.mem_append.1 ho with h | h
    · exact m.fro o h
    · simp at h; subst h; rfl

/-- The slice v reads as xs, over memory told as a list. -/
def RdL {α : Type} (E : α → List Value → Prop) (sz : Nat) (l : Heap) (v : Value) (xs : List α) : Prop :=
  (xs = [] ∧ ∃ a c, v = .slice a 0 c) ∨ ∃ b o c cs esz, v = .slice (some ⟨b, o, none⟩) xs.length c ∧ l[b]? = some (.row .ro esz cs) ∧ ∀ (i : Nat) x, xs[i]? = some x → o + i * sz + sz ≤ cs.length ∧ E x ((cs.drop (o + i * sz)).take sz)
theorem RdL.app {α : Type} {E E' : α → List Value → Prop} {sz : Nat} {l : Heap} {v : Value} {xs : List α} (r : RdL E sz l v xs) (ext : Heap) (hE : ∀ x es, E x es → E' x es) : RdL E' sz (l ++ ext) v xs := by
  rcases r with h | ⟨b, o, c, cs, esz, h1, h2, h3⟩
  · exact .inl h
  · exact .inr ⟨b, o, c, cs, esz, h1, by rw [List.getElem?_append_left (List.getElem?_eq_some_iff.1 h2).1]; exact h2, fun i x hx => ⟨(h3 i x hx).1, hE _ _ (h3 i x hx).2⟩⟩
theorem RdL.toS {α : Type} {E E' : α → List Value → Prop} {sz : Nat} {l : Heap} {v : Value} {xs : List α} {h : PH} (hr : ∀ b, h.raw b = l[b]?) (r : RdL E sz l v xs) (hE : ∀ x es, E x es → E' x es) : RdS E' sz h v xs := by
  rcases r with h | ⟨b, o, c, cs, esz, h1, h2, h3⟩
  · exact .inl h
  · exact .inr ⟨b, o, c, cs, h1, by unfold Sees PH.cells; rw [hr, h2]; rfl, fun i x hx => ⟨(h3 i x hx).1, hE _ _ (h3 i x hx).2⟩⟩

theorem cell_lt {a : Addr} {v : Value} (h : w.cell? a = some v) : a.block < w.heap.size ∧ a.spot = none := by
  unfold World.cell? at h
  split at h
  · rename_i e
    refine ⟨(Array.getElem?_eq_some_iff.1 e).1, ?_⟩
    split at h
    · cases h
    · rename_i hs; simpa using hs
  · cases h
theorem add_eq {a : Addr} (h : a.spot = none) (n : Nat) : a.add n = ⟨a.block, a.off + n, none⟩ := by
  unfold Addr.add
  split
  · rename_i e; subst e; cases a; simp_all
  · rfl
variable {H : Type} {enc : TypeId × Value → H}
/-- A slice of numbers. -/
theorem Im.ints (m : Im w ρ l) (h0 : ρ 0 = some ⟨0, 0, 0⟩) {fuel : Nat} {v : Value} {x : DataW H × List MemPlace} (ht : DataW.trod enc Try.prog w 0 (fun _ => true) true fuel 25 [v] = some x) :
    ∃ ρ' ext rv xs, Im w ρ' (l ++ ext) ∧ ρ.le ρ' ∧ VR ρ' rv v ∧ RdL intE 1 (l ++ ext) rv xs ∧ xs.length < 9223372036854775808 ∧ ∀ z ∈ xs, inR z := by
  rcases open_ints Try.underlying25 Try.underlying3 (by kernel_rfl) ht with ⟨hcs, _⟩ | ⟨a, len, cap, zs, hcs, _, hl, hm, hz, _, hcell, hwf⟩
  · cases hcs
    exact ⟨ρ, [], nils, [], by rw [List.append_nil]; exact m, RMap.le_refl _, .snil _ _, .inl ⟨rfl, _, _, rfl⟩, by simp, by simp⟩
  · cases hcs
    simp only [if_true] at hz
    have hmx : maxLen = 9223372036854775807 := rfl
    have hin : ∀ z ∈ zs, inR z := by
      intro z hz
      have := hwf z hz
      simp [Lit.wf, IntKind.min, IntKind.max, IntKind.signed, IntKind.bits] at this
      unfold inR; omega
    cases hc0 : cap with
    | zero =>
      subst hc0
      have hl0 : len = 0 := by omega
      subst hl0
      refine ⟨ρ, [], .slice (some ⟨0, 0, none⟩) 0 openCap, [], by rw [List.append_nil]; exact m, RMap.le_refl _, .slz h0 (by decide) rfl, .inl ⟨rfl, _, _, rfl⟩, by simp, by simp⟩
    | succ cap' =>
      obtain ⟨hb, hs⟩ := cell_lt (hcell 0 (by omega))
      have hb : a.block < w.heap.size := by simpa [Addr.add] using hb
      have hs : a.spot = none := by simpa [Addr.add] using hs
      have ea : a = ⟨a.block, a.off, none⟩ := by cases a; simp_all
      have m' := m.row 1 a.block a.off cap (zs.map (.int .i64)) hb (fun i v hv => by
        rw [List.getElem?_map, Option.map_eq_some_iff] at hv
        obtain ⟨z, hz1, rfl⟩ := hv
        have hlt := (List.getElem?_eq_some_iff.1 hz1).1
        refine ⟨_, ?_, .int _ _⟩
        have := hcell i hlt
        rw [add_eq hs] at this
        rw [this]
        simp [List.getD, hz1])
      refine ⟨_, _, .slice (some ⟨l.length, 0, none⟩) len openCap, zs.take len, m', upR_le m _, ?_, .inr ⟨l.length, 0, openCap, zs.map (.int .i64), 1, ?_, by simp, fun i x hx => ?_⟩, ?_, fun z hz => hin z (List.mem_of_mem_take hz)⟩
      · rw [ea]
        have e : upR ρ l.length ⟨a.block, a.off, cap⟩ l.length = some ⟨a.block, a.off, cap⟩ := by unfold upR; rw [if_pos rfl]
        rw [← hc0]
        exact VR.slo e (by decide) (Nat.add_comm _ _) hl
      · simp; omega
      · rw [List.getElem?_take] at hx
        split at hx
        · have hlt := (List.getElem?_eq_some_iff.1 hx).1
          refine ⟨by simp; omega, ?_⟩
          show _ = _
          rw [Nat.zero_add, Nat.mul_one, List.drop_eq_getElem_cons (by simpa using hlt), List.take_succ_cons, List.take_zero, List.getElem_map]
          rw [(List.getElem?_eq_some_iff.1 hx).2]
        · cases hx
      · simp; omega
end
end Go.Am
