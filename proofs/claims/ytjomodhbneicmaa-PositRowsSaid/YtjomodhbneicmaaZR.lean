/- The law 'PositRows' is true of every input of which the given row speaks; no condition. -/
import Derived.Test.YtjomodhbneicmaaRows
import Derived.Test.YtjomodhbneicmaaZP
import Derived.Test.YtjomodhbneicmaaZW
namespace Go.Am
open Go Go.RowKit Go.Proofs Go.ChangeShapes Go.WideShapes
theorem PH.abs_list {h : PH} {l : List AObj} (hn : h.n = l.length) (hz : h.fz = 0) (hr : ∀ b, h.raw b = l[b]?) : h.abs = l := by
  apply List.ext_getElem?
  intro i
  show ((List.range h.n).map fun i => frz (Nat.blt i h.fz) ((h.br.get i).getD .dead))[i]? = l[i]?
  rw [List.getElem?_map]
  by_cases hi : i < h.n
  · have hl : l[i]? = some l[i] := List.getElem?_eq_getElem (by omega)
    have hb : Nat.blt i h.fz = false := by rw [hz]; rfl
    have hg : h.br.get i = some l[i] := by rw [← PH.raw_lt hi, hr, hl]
    rw [List.getElem?_range hi, hl]
    simp only [Option.map_some, hb, hg, Option.getD_some, frz]
  · rw [List.getElem?_eq_none (by simp; omega), List.getElem?_eq_none (by omega)]; rfl
theorem oI28 : Opens Try.prog 28 (rI .i64).sl (GLen inR) := opens_slice Try.underlying28 (by kernel_rfl) (by decide) (opens_i64 Try.underlying3)
theorem RdV.slv {V : Vw} {v : Value} {l : List Int} (r : RdV (rI .i64) V v l) : SlV V v (zv l) := by
  rcases r with ⟨rfl, a, c, rfl⟩ | ⟨b, o, c, cs, rfl, h1, h2⟩
  · exact .inl ⟨rfl, a, c, rfl⟩
  · refine .inr ⟨b, o, c, cs, by rw [zv_len], h1, fun i x hx => ?_⟩
    unfold zv at hx
    rw [List.getElem?_map, Option.map_eq_some_iff] at hx
    obtain ⟨z, hz, rfl⟩ := hx
    obtain ⟨q1, q2⟩ := h2 i z hz
    have q1 : o + i * 1 + 1 ≤ cs.length := q1
    have q2 : (cs.drop (o + i * 1)).take 1 = [.int .i64 z] := q2
    rw [Nat.mul_one] at q1 q2
    rw [List.drop_eq_getElem_cons (by omega), List.take_succ_cons, List.take_zero] at q2
    rw [List.getElem?_eq_getElem (by omega)]
    exact congrArg some (List.cons.inj q2).1
set_option maxRecDepth 100000 in
theorem lawKR {H : Type} {enc : TypeId × Value → H} {w : World} {r : _root_.Go.Reach} {b0 : Nat} {v0 : Value} {d0 : DataW H} {p0 : List MemPlace} (hv0 : Value.okWide Try.prog w r b0 28 v0)
    (ht0 : DataW.Trod enc Try.prog w 0 (fun _ => true) true 28 v0 d0 p0) :
    Calls Try.prog 11 #[v0] w fun e w' => e = .returned (.bool true) ∧ Below w.heap.size w w' := by
  obtain ⟨a1, l1, c1, rfl⟩ := okWide_slice Try.underlying28 hv0
  obtain ⟨f0, ht0⟩ := ht0
  obtain ⟨ρ, ext, es, x, m, le, hve, hE, hG⟩ := oI28 (Im.start w) (cs := [.slice a1 l1 c1]) rfl ht0
  obtain ⟨av, rfl, ha⟩ := hE
  obtain ⟨h, ok, hhn, hz, hr⟩ := PH.of_list ([.dead] ++ ext)
  have hw := vl_ph hr
  obtain ⟨u, k, hk, hu⟩ := law11 (n := 4611686018427387904) (h := h) (Nat.le_refl _) hw ha.slv hG.1
  subst hu
  have hA := (S11 (CLT_ok _ _) hk).1.2
  rw [PH.abs_list hhn hz hr] at hA
  obtain ⟨u1, hu1, hv1⟩ := VR.of1 hve
  cases hu1
  exact calls_rel m.rel (.cons hv1 .nil) rfl hA
end Go.Am
namespace Go.Proofs.Ytjomodhbneicmaa.positRows
open Go Go.ChangeShapes Go.WideShapes Go.ChangeAt Go.RowKit Go.Am
set_option linter.unusedVariables false      -- a walk need not use every 'w<i>' (that an integer argument fits its kind)

theorem own : ownKnob Try.prog.godebug = none := by kernel_rfl
theorem laidOut : laidOutB Try.prog = true := by kernel_rfl

set_option maxRecDepth 100000 in
theorem lifted (os : Os) (started : os.Started) (H : Type) (enc : TypeId × Value → H) :
    ReturnsInHanded {} Try.checked os 11 .any (Rows.positRowsSpec.pre6 enc Try.prog Try.f11 Rows.positRowsRow.domain false) (Rows.positRowsSpec.post enc Try.prog Try.f11 false true false false) := by
  refine returnsInHanded_of_change (C := Try.checked) own started (by kernel_rfl) Try.func11
    (ChangeSpec.witness6 (enc := enc) (C := Try.checked) false ⟨#[], #[.slice none 0 0], []⟩ 8 (by kernel_rfl) (by kernel_rfl) (by kernel_rfl) (by kernel_rfl)) ?_
  intro W base args ds gs before hval0 hW hcnd _
  have hval : ∀ (j : Nat) t v, Try.f11.params[j]? = some t → args[j]? = some v → Value.okWide Try.prog W .any base t v := hval0
  have hW' := hW
  obtain ⟨p, q, hA0, hV, rfl, hfz, hnd⟩ := hW
  have hA : DataW.TrodAll enc Try.prog W 0 (fun _ => true) true Try.f11.params.toList args.toList ds p := hA0
  rw [Try.params11] at hA hval
  obtain ⟨v0, vs0, d0, ds0, p0, q0, hargs, rfl, rfl, h0, r0⟩ := trodAll_cons hA
  obtain ⟨rfl, rfl, rfl⟩ := trodAll_nil r0
  obtain rfl : args = #[v0] := by cases args; simp_all
  obtain ⟨rfl, rfl⟩ := trodVars_none hV
  have lt0 : ∀ x ∈ p0, x.block < W.heap.size := by obtain ⟨m, hm⟩ := h0; exact DataW.trod_lt m _ _ _ hm
  have ok0 := hval 0 28 v0 rfl rfl
  clear hA0 hval0
  simp only [List.append_nil] at hW'
  refine (lawKR ok0 h0).mono fun e W' ⟨he, hg⟩ => ?_
  subst he
  exact ⟨_, rfl, post_of_below (pa := p0) (pv := []) hW' (fun _ _ _ => (trodAll_cons_mk (shut_bool Try.underlying4 _) trodAll_mk0))
    (fun sp hsp => by
      have t0 := WideElems.Trod_stays (sp' := sp) laidOut (by kernel_rfl) (of_decide_eq_true (by kernel_rfl)) h0 (fun x hx => hg.same (lt0 x hx)) (fun x hx => hsp x hx)
      have t2 := trodAll_cons_mk t0 (trodAll_mk0 (enc := enc) (P := Try.prog) (w := W') (base := 0) (spare := sp) (held := true))
      rw [List.append_nil] at t2
      exact t2)
    (fun _ _ => rfl) (by simp) hg (ok_one (by kernel_rfl) rfl (okWide_bool_mk Try.underlying4 _))⟩

theorem over : Rows.positRowsRow.holds Try.pinned (OpenSpec.ofChange Rows.positRowsSpec) :=
  OpenClaim.holds_of_wide 11 Try.f11 rfl rfl rfl rfl rfl rfl rfl ⟨rfl, rfl, rfl, rfl, rfl⟩ rfl rfl rfl rfl rfl (by kernel_rfl) Try.func11 (by kernel_rfl)
    (of_decide_eq_true (by kernel_rfl)) (by unfold Func.isWrapper; first | (rw [if_pos (by decide +kernel)]; kernel_rfl) | (rw [if_neg (by decide +kernel)]; exact ⟨rfl, rfl⟩))
    (fun os started H enc _ => lifted os started H enc)

/-- ████ THE STATEMENT ████ -/
theorem proved : Rows.PositRowsSaid :=
  over
#print axioms proved
end Go.Proofs.Ytjomodhbneicmaa.positRows
