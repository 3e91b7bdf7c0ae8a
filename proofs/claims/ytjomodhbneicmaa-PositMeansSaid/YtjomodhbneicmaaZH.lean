import Derived.Test.YtjomodhbneicmaaZC
import Derived.Test.YtjomodhbneicmaaZW
set_option linter.unusedSimpArgs false
set_option linter.unusedVariables false
namespace Go.Am
open Go Go.RowKit Go.Proofs
def mrg : List Nat → List Nat → List Nat
  | [], b => b
  | x :: a, [] => x :: a
  | x :: a, y :: b => if x < y then x :: mrg a (y :: b) else if y < x then y :: mrg (x :: a) b else x :: mrg a b
termination_by a b => a.length + b.length
theorem ns_len {l : List Nat} : (ns l).length = l.length := by simp [ns]
theorem srt_len {N : Nat} {P : Nat → Bool} : (srt N P).length ≤ N := by
  have := List.length_filter_le P (List.range N)
  rw [List.length_range] at this
  exact this
section
variable {n : Nat} {cl : CL} {h h0 : PH} {S : Vw} {m : OM} {rows : Rws}
end
end Go.Am

set_option linter.unusedSimpArgs false
set_option linter.unusedVariables false
namespace Go.Am
open Go Go.RowKit Go.Proofs
section
variable {n : Nat} {cl : CL} {h h0 : PH} {S : Vw} {m : OM} {rows : Rws}
structure Mr (S : Vw) (m : OM) (bm N : Nat) (sv wv : Value) (sets : List (List Int)) (F : Nat → Nat → Bool) : Prop where
  main : m bm = some (.row .own 1 [sv, .bool false, nils, nils, wv])
  st4 : Gs m 4 sv sets.length (sets.flatMap u64s)
  fol : ∃ ws, Gs m 1 wv sets.length ws ∧ ∀ i, i < sets.length → ∃ w, ws[i]? = some w ∧ SlV S w (ns (srt N (F i)))
  sd : vBlk sv ≠ some bm
  wd : vBlk wv ≠ some bm
  sw : ∀ b, vBlk sv = some b → vBlk wv ≠ some b
end
end Go.Am

set_option linter.unusedSimpArgs false
set_option linter.unusedVariables false
namespace Go.Am
open Go Go.RowKit Go.Proofs
theorem CLV54 {n d : Nat} {a b : Value} {h : PH} : CLV n (d + 1) 54 [a, b] h = F54 n (CLV n d) a b h := rfl
structure PrV (S : Vw) (N : Nat) (p : Pt) (fv lv : Value) : Prop where
  f : SlV S fv (ns (srt N p.fst))
  l : SlV S lv (ns (srt N p.lst))
def Q54 (h0 : PH) (S : Vw) (rows : Rws) (bm N : Nat) (sets : List (List Int)) (F : Nat → Nat → Bool) (p : Pt) (v : Value) (h' : PH) : Prop :=
  ∃ S' m' sv' wv' fv lv, Vw.le S S' ∧ Sl h0 h' S' m' rows ∧ Mr S' m' bm N sv' wv' sets F ∧ v = .agg ⟨[.bool p.null, fv, lv]⟩ ∧ PrV S' N p fv lv
section
variable {n : Nat} {cl : CL} {h h0 : PH} {S : Vw} {m : OM} {rows : Rws}
def Ih54 (n : Nat) (cl : CL) (h0 : PH) (bm N : Nat) (x : Re) : Prop := ∀ (h : PH) (S : Vw) (m : OM) (rows : Rws) (sv wv : Value) (sets : List (List Int)) (F : Nat → Nat → Bool) (es : List Value), Sl h0 h S m rows → Mr S m bm N sv wv sets F → (∀ i j, F i j = true → i < sets.length) → sets.length + x.sets.length ≤ N → ReE S x es →
  Ret (cl 54 [.pointer (some ⟨bm, 0, none⟩), .agg ⟨es⟩] h) (Q54 h0 S rows bm N (sets ++ x.sets) (fun i j => F i j || (x.ev sets.length).fol i j) (x.ev sets.length))
end
end Go.Am

set_option linter.unusedSimpArgs false
set_option linter.unusedVariables false
namespace Go.Am
open Go Go.RowKit Go.Proofs
section
variable {n : Nat} {cl : CL} {h h0 : PH} {S : Vw} {m : OM} {rows : Rws}
end
end Go.Am

set_option linter.unusedSimpArgs false
set_option linter.unusedVariables false
namespace Go.Am
open Go Go.RowKit Go.Proofs
section
variable {n : Nat} {cl : CL} {h h0 : PH} {S : Vw} {m : OM} {rows : Rws}
end
end Go.Am

set_option linter.unusedSimpArgs false
set_option linter.unusedVariables false
namespace Go.Am
open Go Go.RowKit Go.Proofs
theorem CLV25 {n d : Nat} {v : Value} {h : PH} : CLV n (d + 1) 25 [v] h = F25 n (CLV n d) v h := rfl
theorem CLV53 {n d : Nat} {v : Value} {h : PH} : CLV n (d + 1) 53 [v] h = F53 n (CLV n d) v h := rfl
theorem pcall_ex {h : PH} {S : Vw} {r : R} {P : Value → Rws → Prop} (a : Fr h S r P) (hp : ∀ v rows, P v rows → plainV v = true) : ∃ v rows, P v rows ∧ pcall r = some v := by
  obtain ⟨v, h1, rfl, rows, s, p⟩ := a
  exact ⟨v, rows, p, pcall_some (hp v rows p)⟩
section
variable {n : Nat} {cl : CL} {h h0 : PH} {S : Vw} {m : OM} {rows : Rws}
def PlcOk (k w : Nat) : Prop := w ≤ k ∧ (k ≤ 150 → w = k) ∧ (150 < k → 150 < w)
end
end Go.Am

set_option linter.unusedSimpArgs false
set_option linter.unusedVariables false
namespace Go.Am
open Go Go.RowKit Go.Proofs
section
variable {n : Nat} {cl : CL} {h h0 : PH} {S : Vw} {m : OM} {rows : Rws}
def LsV (S : Vw) (v : Value) (ls : List (List Nat)) : Prop := ∃ ws, SlV S v ws ∧ ws.length = ls.length ∧ ∀ (i : Nat) l, ls[i]? = some l → ∃ w, ws[i]? = some w ∧ SlV S w (ns l)
theorem SlC.at {V : Vw} {sz k i : Nat} {v : Value} {cells : List Value} {kk : IntKind} (r : SlC V sz v k cells) (hi : i < k) : ∃ b o cs, xIdxS sz v (.int kk i) = some (.pointer (some ⟨b, o, none⟩)) ∧ V b = some cs ∧ o + sz ≤ cs.length ∧ (cs.drop o).take sz = (cells.drop (i * sz)).take sz := by
  rcases r with ⟨rfl, _⟩ | ⟨b, o, c, cs, rfl, h1, h2, rfl⟩
  · omega
  · have hle : i * sz + sz ≤ k * sz := by rw [← Nat.succ_mul]; exact Nat.mul_le_mul_right _ (by omega)
    refine ⟨b, o + i * sz, cs, ?_, h1, by omega, ?_⟩
    · have := xIdxS_at (sz := sz) (b := b) (o := o) (n := k) (c := c) (k := kk) (i := (i : Int)) (by omega) (by omega)
      simpa using this
    · rw [List.drop_take, List.drop_drop, List.take_take, Nat.min_eq_left (by omega)]
theorem sets_at {sets : List (List Int)} (hs : ∀ s ∈ sets, s.length = 4) {i : Nat} {s : List Int} (hi : sets[i]? = some s) : ((sets.flatMap u64s).drop (i * 4)).take 4 = u64s s := by
  induction sets generalizing i with
  | nil => simp at hi
  | cons x xs ih =>
    have hx := hs x (.head _)
    have hxl : (u64s x).length = 4 := by simp [u64s, hx]
    rw [List.flatMap_cons]
    cases i with
    | zero =>
      simp at hi; subst hi
      rw [Nat.zero_mul, List.drop_zero, List.take_left' hxl]
    | succ i =>
      simp at hi
      have e : (i + 1) * 4 = (u64s x).length + i * 4 := by rw [hxl]; omega
      rw [e, ← List.drop_drop, List.drop_left]
      exact ih (fun s h => hs s (.tail _ h)) hi
structure Po.In (po : Po) : Prop where
  s4 : ∀ s ∈ po.sets, s.length = 4
  sl : po.sets.length < 1000000
  fl : po.first.length < 1000000
  ll : po.last.length < 1000000
  wl : po.follow.length < 1000000
  wll : ∀ l ∈ po.follow, l.length < 1000000
end
end Go.Am

set_option linter.unusedSimpArgs false
set_option linter.unusedVariables false
namespace Go.Am
open Go Go.RowKit Go.Proofs
def zs4 : List Int := [0, 0, 0, 0]
def leaf1 : Re := .mk 1 zs4 []
theorem bs57 {a : Int} {s0 s1 s2 s3 : Int} {v : Value} (hv : v.oneCell' = true) : bsRow Try.prog 55 1 [(0, .agg ⟨[.int .i64 a, .int .u64 s0, .int .u64 s1, .int .u64 s2, .int .u64 s3, v]⟩)] = some (6, [.int .i64 a, .int .u64 s0, .int .u64 s1, .int .u64 s2, .int .u64 s3, v]) := by
  cases v <;> first | (simp [Value.oneCell'] at hv; done) | kernel_rfl
theorem ab57' {a : Int} {b n c : Nat} : abuild Try.prog 57 [(0, .int .i64 a), (2, .slice (some ⟨b, 0, none⟩) n c)] = some (.agg ⟨[.int .i64 a, .int .u64 0, .int .u64 0, .int .u64 0, .int .u64 0, .slice (some ⟨b, 0, none⟩) n c]⟩) := by kernel_rfl
theorem clt25 {n d : Nat} {v : Value} {h : PH} : CLT n d 25 [v] h = CLV n d 25 [v] h := rfl
theorem clt53 {n d : Nat} {v : Value} {h : PH} : CLT n d 53 [v] h = CLV n d 53 [v] h := rfl
theorem clt54 {n d : Nat} {u v : Value} {h : PH} : CLT n d 54 [u, v] h = CLV n d 54 [u, v] h := rfl
theorem PoV.mono {V W : Vw} {po : Po} {ps : List Value} (hs : Vw.le V W) (h : PoV V po ps) : PoV W po ps := by
  obtain ⟨sv, fv, lv, wv, ws, e, a1, a2, a3, a4, a5, a6⟩ := h
  exact ⟨sv, fv, lv, wv, ws, e, a1.mono hs, a2.mono hs, a3.mono hs, a4.mono hs, a5, fun i l hl => let ⟨w, q1, q2⟩ := a6 i l hl; ⟨w, q1, q2.mono hs⟩⟩
def po0 : Po := ⟨[], false, [], [], []⟩
theorem PoV.ps {V : Vw} {po : Po} {ps : List Value} (h : PoV V po ps) : ps.length = 5 ∧ oneCells ps = true := by
  obtain ⟨sv, fv, lv, wv, ws, rfl, q1, q2, q3, q4, _⟩ := h
  refine ⟨rfl, ?_⟩
  unfold oneCells
  simp only [List.all_cons, List.all_nil, q1.one, q2.one, q3.one, q4.one]; rfl
mutual
theorem ReE.s4 {V : Vw} : ∀ {x : Re} {es : List Value}, ReE V x es → ∀ s ∈ x.sets, s.length = 4
  | .mk op s ks, es, h => by
    obtain ⟨kv, _, hs, hk⟩ := ReE_mk.1 h
    rw [Re.sets_looked]
    split
    · intro t ht; simp at ht; subst ht; exact hs
    · have key : ∀ s ∈ reSets ks, s.length = 4 := by
        rcases hk with ⟨rfl, _⟩ | ⟨b, o, c, cs, _, _, _, _, hc⟩
        · intro t ht; simp [reSets] at ht
        · exact KidsC.s4 hc
      intro t ht
      refine key t ?_
      unfold looked at ht
      split at ht
      · exact ht
      · split at ht
        · cases ks with
          | nil => simp [reSets] at ht
          | cons k ks => simp [reSets] at ht ⊢; exact .inl ht
        · simp [reSets] at ht
theorem KidsC.s4 {V : Vw} : ∀ {ks : List Re} {cs : List Value}, KidsC V ks cs → ∀ s ∈ reSets ks, s.length = 4
  | [], cs, h => by intro t ht; simp [reSets] at ht
  | k :: ks, cs, h => by
    unfold KidsC at h
    intro t ht
    unfold reSets at ht
    rcases List.mem_append.1 ht with ht | ht
    · exact ReE.s4 h.1 t ht
    · exact KidsC.s4 h.2 t ht
end
theorem poOf_in {V : Vw} {x : Re} {es : List Value} (h : ReE V x es) (hs : x.sets.length ≤ 150) : (poOf x).In := by
  have hl : ∀ P : Nat → Bool, (srt x.sets.length P).length ≤ x.sets.length := fun P => srt_len
  refine ⟨h.s4, by unfold poOf; simp only; omega, by have := hl (x.ev 0).fst; unfold poOf; simp only; omega, by have := hl (x.ev 0).lst; unfold poOf; simp only; omega, by unfold poOf; simp; omega, fun l hm => ?_⟩
  unfold poOf at hm
  simp only [List.mem_map] at hm
  obtain ⟨i, _, rfl⟩ := hm
  have := hl ((x.ev 0).fol i); omega
def zv (l : List Int) : List Value := l.map fun z => .int .i64 z
theorem ns_snoc (l : List Nat) (i : Nat) : ns l ++ [.int .i64 (i : Nat)] = ns (l ++ [i]) := by simp [ns]
/-! ### a slice that grows from nothing keeps its cap -/
def Gc (v : Value) : Prop := v = nils ∨ ∃ b k, v = .slice (some ⟨b, 0, none⟩) k openCap
theorem growR_v {sz b k o n : Nat} {kill : Bool} {cs new : List Value} {h h' : PH} {v : Value} (hx : growR sz b k o kill cs new n h = some (v, h')) : ∃ b', v = .slice (some ⟨b', 0, none⟩) n openCap := by
  unfold growR at hx
  split at hx <;> try (cases hx; done)
  split at hx
  · split at hx <;> try (cases hx; done)
    rw [seqN_eq] at hx; cases hx; exact ⟨_, rfl⟩
  · rw [seqN_eq] at hx; cases hx; exact ⟨_, rfl⟩
theorem xApp_gc {ai : Option (Nat × Nat)} {v v' x : Value} {h h' : PH} (g : Gc v) (e : xApp ai v x h = some (v', h')) : Gc v' := by
  unfold xApp at e
  split at e <;> try (cases e; done)
  split at e <;> try (cases e; done)
  split at e <;> try (cases e; done)
  rcases g with rfl | ⟨b, k, rfl⟩
  · simp only [nils] at e
    split at e
    · cases e; exact .inl rfl
    · split at e <;> try (cases e; done)
      split at e <;> try (cases e; done)
      cases e; exact .inr ⟨_, _, rfl⟩
  · simp only at e
    split at e
    · split at e <;> try (cases e; done)
      cases e; exact .inr ⟨_, _, rfl⟩
    · split at e <;> try (cases e; done)
      split at e <;> try (cases e; done)
      split at e <;> try (cases e; done)
      split at e
      · split at e
        · split at e <;> try (cases e; done)
          split at e <;> try (cases e; done)
          exact .inr ⟨_, _, (stayR_ok e).1⟩
        · obtain ⟨_, q⟩ := growR_v e; exact .inr ⟨_, _, q⟩
      · split at e <;> try (cases e; done)
        split at e <;> try (cases e; done)
        split at e <;> try (cases e; done)
        split at e <;> try (cases e; done)
        split at e
        · exact .inr ⟨_, _, (stayR_ok e).1⟩
        · obtain ⟨_, q⟩ := growR_v e; exact .inr ⟨_, _, q⟩
section
variable {Q : Value → PH → Prop} {n : Nat} {cl : CL} {h h0 : PH} {S : Vw} {m : OM} {rows : Rws} {K2 : Value → PH → R}
theorem KidsC.more {V : Vw} : ∀ {ks : List Re} {cs : List Value} (k : Nat), KidsC V ks (cs.take k) → ks.length * 6 ≤ k → KidsC V ks cs
  | [], cs, k, h, _ => by simp [KidsC]
  | x :: ks, cs, k, h, hk => by
    unfold KidsC at h ⊢
    have hk : (ks.length + 1) * 6 ≤ k := hk
    rw [List.take_take, Nat.min_eq_left (by omega), List.drop_take] at h
    exact ⟨h.1, KidsC.more (k - 6) h.2 (by omega)⟩
theorem SlC.kids {V : Vw} {ks : List Re} {v : Value} {k : Nat} {cells : List Value} (r : SlC V 6 v k cells) (gc : Gc v) (hk : ks.length = k) (hk' : k ≤ 4611686018427387904) (hc : KidsC V ks cells) : KidsV V ks v := by
  rcases r with ⟨rfl, rfl, rfl⟩ | ⟨b, o, c, cs, rfl, h1, h2, rfl⟩
  · have hks : ks = [] := List.eq_nil_of_length_eq_zero hk
    subst hks
    exact .inl ⟨rfl, none, 0, rfl, CapOk.self (by omega), rfl⟩
  · rcases gc with e | ⟨b, k, e⟩
    · cases e
    · cases e
      subst hk
      exact .inr ⟨b, 0, openCap, cs, rfl, CapOk.opn hk', h1, h2, KidsC.more _ hc (Nat.le_refl _)⟩
end
theorem ai55 : appInfo Try.prog #[55, 55] = some (6, 64) := by kernel_rfl
theorem KidsC.snoc' {V : Vw} {x : Re} {es : List Value} (hx : ReE V x es) : ∀ {ks : List Re} {cs : List Value}, KidsC V ks cs → cs.length = ks.length * 6 → KidsC V (ks ++ [x]) (cs ++ es)
  | [], cs, _, hl => by
    have : cs = [] := List.eq_nil_of_length_eq_zero (by simpa using hl)
    subst this
    rw [List.nil_append, List.nil_append]
    unfold KidsC
    have := hx.len
    rw [List.take_of_length_le (by omega)]
    exact ⟨hx, by unfold KidsC; trivial⟩
  | k :: ks, cs, h, hl => by
    unfold KidsC at h
    rw [List.cons_append]
    unfold KidsC
    have hl : cs.length = (ks.length + 1) * 6 := hl
    rw [List.take_append_of_le_length (by omega), List.drop_append_of_le_length (by omega)]
    exact ⟨h.1, KidsC.snoc' hx h.2 (by simp; omega)⟩
end Go.Am
