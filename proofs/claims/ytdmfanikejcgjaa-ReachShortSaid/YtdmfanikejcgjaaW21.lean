import Derived.Test.YtdmfanikejcgjaaW20
set_option linter.unusedSimpArgs false
set_option linter.unusedVariables false
namespace Go.Am
open Go Go.RowKit Go.Proofs
theorem ab27a : abuild Try.prog 27 [(0, .int .i64 1)] = some (.agg ⟨[.int .i64 1, .int .i64 0, .int .i64 0, nils, nils, nils, nils]⟩) := by kernel_rfl
theorem ab27b {b c d : Nat} : abuild Try.prog 27 [(0, .int .i64 1), (1, .int .i64 1), (3, .slice (some ⟨b, 0, none⟩) c d)] = some (.agg ⟨[.int .i64 1, .int .i64 1, .int .i64 0, .slice (some ⟨b, 0, none⟩) c d, nils, nils, nils]⟩) := by kernel_rfl
abbrev gA : Gr := ⟨1, 0, 0, [], [], [], []⟩
abbrev gB : Gr := ⟨1, 1, 0, [⟨0, [-1, -1], 0⟩], [], [], []⟩
theorem gA_good : goodB gA = true := by decide
theorem gB_good : goodB gB = true := by decide
theorem gA_in : GIn gA := ⟨by simp [inR], by simp [inR], by simp [inR], by simp, by simp, by simp, by simp, by simp, by simp, by simp, by simp, by simp⟩
theorem gB_in : GIn gB := ⟨by simp [inR], by simp [inR], by simp [inR], by simp, by simp, by simp, by simp, by simp [inR], by simp [inR], by simp [inR], by simp, by simp⟩
theorem gB_runs : Runs gB [-1] [2] := .more (by decide) (by have e : (roundS gB [-1]).1 = [2] := by decide
                                                            rw [e]; have e2 : (roundS gB [2]).1 = [2] := by decide
                                                            have := Runs.stop (g := gB) (out := [2]) (by decide)
                                                            rw [e2] at this; exact this)
section
variable {n : Nat} {cl ih : CL} {h : PH}
theorem c10 [OkH h] (hn : 9223372036854775808 ≤ n) : pcall (F10 n (CLs n ih) h.fzn) = some (.bool true) := by
  refine pcall_of ?_ rfl
  unfold F10
  simp only [vN_eq, vM_eq, show (((1 : Nat) : Int)) = 1 from rfl, show Int.negSucc 0 = -1 from rfl]
  refine Ret.vb ab27a ?_
  have nl : ∀ (h : PH) {α : Type} (E : α → List Value → Prop) (sz : Nat), RdS E sz h nils [] := fun h α E sz => .inl ⟨rfl, _, _, rfl⟩
  have rA : RdG h.fzn (.agg ⟨[.int .i64 1, .int .i64 0, .int .i64 0, nils, nils, nils, nils]⟩) gA nils nils nils nils := ⟨rfl, nl _ _ _, nl _ _ _, nl _ _ _, nl _ _ _⟩
  refine Ret.fcall (c14 (h := h.fzn) hn rA gA_in) fun v2 h2 q kp hraw => ?_
  obtain ⟨out, b2, c2, ho, hR, rfl, hb2, hm2⟩ := q.good gA_good
  have st : St h.fzn (h.fzn.back h2) [] := (St.start h.fzn).on kp
  have hfz : h.fzn.fz = h.n := rfl
  have st : St h.fzn (h.fzn.back h2) [(b2, bv out)] := (St.start h.fzn).push kp (mine_back hm2 (hraw _) hb2) hb2
  have ho : out.length = 1 := ho
  have hout : out = [true] := by
    match out, ho, hR with
    | [x], _, hR =>
      have := (hR 0 (by decide)).2 .start
      simp [marked] at this
      rw [this]
  subst hout
  refine Ret.sbs st bs25_2 fun h3 b3 st3 _ => ?_
  refine Ret.vb ab29' ?_
  refine Ret.sbs st3 (bs23 rfl) fun h4 b4 st4 _ => ?_
  refine Ret.vb ab27b ?_
  have := st4.ok
  have rB : RdG h4 (.agg ⟨[.int .i64 1, .int .i64 1, .int .i64 0, .slice (some ⟨b4, 0, none⟩) 1 1, nils, nils, nils]⟩) gB (.slice (some ⟨b4, 0, none⟩) 1 1) nils nils nils := by
    refine ⟨rfl, .inr ⟨b4, 0, 1, _, rfl, st4.row (.head _), fun i x hx => ?_⟩, nl _ _ _, nl _ _ _, nl _ _ _⟩
    match i, hx with
    | 0, hx =>
      cases hx
      exact ⟨by simp, _, rfl, RdS.ofRow (e := Value.int .i64) (l := [-1, -1]) (st4.row (.tail _ (.head _)))⟩
  refine Ret.fcall (c11 (h := h4) hn rB gB_in) fun v5 h5 q5 kp5 hraw5 => ?_
  obtain ⟨res, b5, c5, hr, ht, rfl, hb5, hm5⟩ := q5.good gB_good
  have hres : res = [2] := hr.det gB_runs
  subst hres
  have hz := st4.kp.ok.fz
  have st5 := st4.push kp5 (mine_back hm5 (hraw5 _) (by show h4.fz ≤ b5; omega)) hb5
  have l2 : xLd (.pointer (some ⟨b2, 0, none⟩)) (h4.back h5) = some (.bool true) := xLd_at (st5.row (.tail _ (.tail _ (.tail _ (.head _))))) rfl
  have l5 : xLd (.pointer (some ⟨b5, 0, none⟩)) (h4.back h5) = some (.int .i64 2) := xLd_at (st5.row (.head _)) rfl
  have i2 : xIdxS 1 (.slice (some ⟨b2, 0, none⟩) 1 c2) (.int .i64 0) = some (.pointer (some ⟨b2, 0, none⟩)) := by rw [xIdxS_at (by omega) (by decide)]; rfl
  have i5 : xIdxS 1 (.slice (some ⟨b5, 0, none⟩) 1 c5) (.int .i64 0) = some (.pointer (some ⟨b5, 0, none⟩)) := by rw [xIdxS_at (by omega) (by decide)]; rfl
  have i2 : xIdxS 1 (.slice (some ⟨b2, 0, none⟩) (Int.toNat 1) c2) (.int .i64 0) = some (.pointer (some ⟨b2, 0, none⟩)) := i2
  have i5 : xIdxS 1 (.slice (some ⟨b5, 0, none⟩) (Int.toNat 1) c5) (.int .i64 0) = some (.pointer (some ⟨b5, 0, none⟩)) := i5
  simp only [xLenS_s, vb_some, xEq_i, show ((Int.toNat 1 : Nat) : Int) = 1 from rfl, decide_true, isB_t, gd_true, show (((0 : Nat) : Int)) = 0 from rfl, i2, l2, xPick_t, i5, l5, show (((2 : Nat) : Int)) = 2 from rfl]
  exact Ret.of rfl
theorem c4 [OkH h] {g : Gr} {v rv fv cv kv : Value} (hn : 9223372036854775808 ≤ n) (r : RdG h v g rv fv cv kv) (hg : GIn g) : Ret (F4 n (CLs n ih) v h.fzn) fun u _ => u = .bool true := by
  unfold F4
  rw [r.v]
  refine Ret.sbox (St.start _) (fun h1 b st => ?_)
  have := st.ok
  have sees : ∀ b cs, Sees h b cs → Sees h1 b cs := fun b cs s => st.sees s
  have lw : xLdA 7 (.pointer (some ⟨b, 0, none⟩)) h1 = some (.agg ⟨gcs g rv fv cv kv⟩) := xLdA_at (st.row (.head _)) rfl (Nat.le_refl _)
  have e12 := c12 (n := n) (cl := CLs n ih) (h := h1) (r.mono sees)
  rw [r.v] at e12
  simp only [c10 hn, vb_some, xNot_b, Bool.not_true, isB_f, Bool.not_false, gd_true, lw, e12, xPick_f]
  cases fewB g with
  | false => simp only [Bool.not_false, bite_t]; exact Ret.of rfl
  | true =>
    have blt : Nat.blt b h1.n = true := Nat.ble_eq_true_of_le (st.row (b := b) (.head _)).lt
    simp only [Bool.not_true, bite_f, F4_0, nb_eq, oldB, blt, lw, vb_some]
    have e := c14 (n := n) (ih := ih) (h := h1) hn (r.mono sees) hg
    rw [r.v] at e
    refine Ret.fcall e fun v1 k1 q1 p1 w1 => ?_
    obtain ⟨x1, y1, z1⟩ := q1.rd w1
    have st1 := st.on p1
    have := st1.ok
    have sees1 : ∀ b cs, Sees h b cs → Sees (h1.back k1) b cs := fun b cs s => st1.sees (show Sees h.fzn b cs from s)
    have e := c15 (n := n) (cl := CLs n ih) (h := h1.back k1) hn (r.mono sees1) hg
    rw [r.v] at e
    refine Ret.fcall e fun v2 k2 q2 p2 w2 => ?_
    obtain ⟨x2, y2, z2⟩ := q2.rd w2
    have st2 := st1.on p2
    have := st2.ok
    have sees2 : ∀ b cs, Sees h b cs → Sees ((h1.back k1).back k2) b cs := fun b cs s => st2.sees (show Sees h.fzn b cs from s)
    have z1' : RdS boolE 1 ((h1.back k1).back k2) v1 x2 := by rw [← y1.eq y2]; exact z1.mono (fun b cs s => p2.sees s s.lt) fun _ _ _ e => e
    have lw2 : xLdA 7 (.pointer (some ⟨b, 0, none⟩)) ((h1.back k1).back k2) = some (.agg ⟨gcs g rv fv cv kv⟩) := xLdA_at (st2.row (.head _)) rfl (Nat.le_refl _)
    rw [c13 hn z1' z2 y2.le]
    simp only [vb_some, isB_t, gd_true, lw2, gh_true]
    have e := c16 (n := n) (ih := ih) (h := (h1.back k1).back k2) hn (r.mono sees2) hg
    rw [r.v] at e
    refine Ret.fcall e fun v3 k3 q3 p3 w3 => ?_
    obtain ⟨x3, y3, z3⟩ := q3.rd w3
    have st3 := st2.on p3
    have := st3.ok
    have sees3 : ∀ b cs, Sees h b cs → Sees (((h1.back k1).back k2).back k3) b cs := fun b cs s => st3.sees (show Sees h.fzn b cs from s)
    have e := c17 (n := n) (cl := CLs n ih) (h := ((h1.back k1).back k2).back k3) hn (r.mono sees3) hg
    rw [r.v] at e
    refine Ret.fcall e fun v4 k4 q4 p4 w4 => ?_
    obtain ⟨x4, y4, z4⟩ := q4.rd w4
    have st4 := st3.on p4
    have := st4.ok
    have sees4 : ∀ b cs, Sees h b cs → Sees ((((h1.back k1).back k2).back k3).back k4) b cs := fun b cs s => st4.sees (show Sees h.fzn b cs from s)
    have z3' : RdS boolE 1 ((((h1.back k1).back k2).back k3).back k4) v3 (prodL x4) := by rw [← y3.eq y4]; exact z3.mono (fun b cs s => p4.sees s s.lt) fun _ _ _ e => e
    have lw4 : xLdA 7 (.pointer (some ⟨b, 0, none⟩)) ((((h1.back k1).back k2).back k3).back k4) = some (.agg ⟨gcs g rv fv cv kv⟩) := xLdA_at (st4.row (.head _)) rfl (Nat.le_refl _)
    rw [c13 hn z3' z4 (by have := y4.le; simpa using this)]
    simp only [vb_some, isB_t, gd_true, xPick_t, lw4, gh_true]
    have e := c11 (n := n) (ih := ih) (h := (((h1.back k1).back k2).back k3).back k4) hn (r.mono sees4) hg
    rw [r.v] at e
    refine Ret.fcall e fun v5 k5 q5 p5 w5 => ?_
    obtain ⟨x5, y5, z5⟩ := q5.rd w5
    have st5 := st4.on p5
    have := st5.ok
    have sees5 : ∀ b cs, Sees h b cs → Sees (((((h1.back k1).back k2).back k3).back k4).back k5) b cs := fun b cs s => st5.sees (show Sees h.fzn b cs from s)
    have e := c19 (n := n) (cl := CLs n ih) (h := ((((h1.back k1).back k2).back k3).back k4).back k5) hn (r.mono sees5) hg
    rw [r.v] at e
    refine Ret.fcall e fun v6 k6 q6 p6 w6 => ?_
    obtain ⟨x6, y6, z6⟩ := q6.rd w6
    have st6 := st5.on p6
    have := st6.ok
    have z5' : RdI ((((((h1.back k1).back k2).back k3).back k4).back k5).back k6) v5 x6 := by rw [← y5.eq y6]; exact z5.mono (fun b cs s => p6.sees s s.lt)
    rw [c18 hn z5' z6 y6.le]
    simp only [vb_some, isB_t, gd_true, xPick_t]
    exact Ret.of rfl
end
end Go.Am
