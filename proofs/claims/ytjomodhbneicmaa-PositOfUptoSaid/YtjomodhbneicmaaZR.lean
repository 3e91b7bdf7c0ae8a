/- The law 'PositOf' is true of every input of bulk at most so much of which the given row speaks. -/
import Derived.Test.YtjomodhbneicmaaRows
import Derived.Test.YtjomodhbneicmaaZP
import Derived.WalkKit
import Derived.ProofKit
import Derived.OpenShut
import Derived.JoinedCond
namespace Go.Am
open Go Go.RowKit Go.Proofs Go.ChangeShapes Go.WideShapes
theorem PH.abs_list {h : PH} {l : List AObj} (hn : h.n = l.length) (hz : h.fz = 0) (hr : ∀ b, h.raw b = l[b]?) : h.abs = l := by
  apply List.ext_getElem?
  intro i
  show ((List.range h.n).map fun i => frz (Nat.blt i h.fz) ((h.br.get i).getD .dead))[i]? = l[i]?
  rw [List.getElem?_map]
  by_cases hi : i < h.n
  · have hl : l[i]? = some l[i] := List.getElem?_eq_getElem (by omega)
    have hb : Nat.blt i h.fz = false := by rw [hz]; rfl
    have hg : h.br.get i = some l[i] := by rw [← PH.raw_lt hi, hr, hl]
    rw [List.getElem?_range hi, hl]
    simp only [Option.map_some, hb, hg, Option.getD_some, frz]
  · rw [List.getElem?_eq_none (by simp; omega), List.getElem?_eq_none (by omega)]; rfl
set_option maxRecDepth 100000 in
theorem lawPO {H : Type} {enc : TypeId × Value → H} {w : World} {r : _root_.Go.Reach} {b0 : Nat} {v0 : Value} {d0 : DataW H} {p0 : List MemPlace} (hv0 : Value.okWide Try.prog w r b0 57 v0)
    (ht0 : DataW.Trod enc Try.prog w 0 (fun _ => true) true 57 v0 d0 p0) (hk : Ytjomodhbneicmaa.Rows.uptoSmall H [d0] = true) :
    Calls Try.prog 8 #[v0] w fun e w' => e = .returned (.bool true) ∧ Below w.heap.size w w' := by
  obtain ⟨⟨cs⟩, rfl, hsz⟩ := okWide_struct Try.underlying57 hv0
  have C57 : Try.prog.cellsOf 57 = 6 := by kernel_rfl
  have hb : Ytjomodhbneicmaa.Rows.uptoBulk d0 ≤ 1048576 := by
    have := of_decide_eq_true hk
    simp only [Ytjomodhbneicmaa.Rows.uptoBulkAll] at this
    omega
  obtain ⟨f0, ht0⟩ := ht0
  have hl0 : cs.length = 6 := hsz.trans C57
  obtain ⟨ρ, ext, es, x, m, le, hve, hE, hG⟩ := opRe _ (Im.start w) hl0 ht0 hb
  obtain ⟨h, ok, hhn, hz, hr⟩ := PH.of_list ([.dead] ++ ext)
  have hw := vl_ph hr
  have hG : x.size ≤ Ytjomodhbneicmaa.Rows.uptoBulk d0 := hG
  have hd : x.deep ≤ x.size := Re.deep_le x
  obtain ⟨u, k, hk, hu⟩ := law8 (n := 4611686018427387904) (h := h) (Nat.le_refl _) (D := x.size) hw hE hd (by omega)
  subst hu
  have hA := (S8 (CLT_ok _ _) hk).1.2
  rw [PH.abs_list hhn hz hr] at hA
  exact calls_rel m.rel (.cons (.agg hve) .nil) rfl hA
end Go.Am
namespace Go.Proofs.Ytjomodhbneicmaa.positOf
open Go Go.ChangeShapes Go.WideShapes Go.ChangeAt Go.RowKit Go.Am
set_option linter.unusedVariables false      -- a walk need not use every 'w<i>' (that an integer argument fits its kind)

theorem own : ownKnob Try.prog.godebug = none := by kernel_rfl
theorem laidOut : laidOutB Try.prog = true := by kernel_rfl

set_option maxRecDepth 100000 in
theorem contract (H : Type) (enc : TypeId × Value → H) (W : World) (base : Nat) (args : Array Value) (ds gs : List (DataW H)) (before : List MemPlace)
    (hval0 : ∀ (j : Nat) t v, Try.f8.params[j]? = some t → args[j]? = some v → Value.okWide Try.prog W .any base t v)
    (hW : DataW.Whole enc Try.prog Try.f8.params.toList Rows.positOfSpec.vars false W args.toList ds gs before) (hk : Rows.uptoSmall H (ds ++ gs) = true) :
    Calls Try.prog 8 args W fun e W' => ∃ v, e = .returned v ∧ Rows.positOfSpec.post enc Try.prog Try.f8 false true false false W args v W' := by
  have hval : ∀ (j : Nat) t v, Try.f8.params[j]? = some t → args[j]? = some v → Value.okWide Try.prog W .any base t v := hval0
  have hW' := hW
  obtain ⟨p, q, hA0, hV, rfl, hfz, hnd⟩ := hW
  have hA : DataW.TrodAll enc Try.prog W 0 (fun _ => true) true Try.f8.params.toList args.toList ds p := hA0
  rw [Try.params8] at hA hval
  obtain ⟨v0, vs0, d0, ds0, p0, q0, hargs, rfl, rfl, h0, r0⟩ := trodAll_cons hA
  obtain ⟨rfl, rfl, rfl⟩ := trodAll_nil r0
  obtain rfl : args = #[v0] := by cases args; simp_all
  obtain ⟨rfl, rfl⟩ := trodVars_none hV
  have lt0 : ∀ x ∈ p0, x.block < W.heap.size := by obtain ⟨m, hm⟩ := h0; exact DataW.trod_lt m _ _ _ hm
  have ok0 := hval 0 57 v0 rfl rfl
  clear hA0 hval0
  simp only [List.append_nil] at hW' hk
  refine (lawPO ok0 h0 hk).mono fun e W' ⟨he, hg⟩ => ?_
  subst he
  exact ⟨_, rfl, post_of_below (pa := p0) (pv := []) hW' (fun _ _ _ => (trodAll_cons_mk (shut_bool Try.underlying4 _) trodAll_mk0))
    (fun sp hsp => by
      have t0 := WideElems.Trod_stays (sp' := sp) laidOut (by kernel_rfl) (of_decide_eq_true (by kernel_rfl)) h0 (fun x hx => hg.same (lt0 x hx)) (fun x hx => hsp x hx)
      have t2 := trodAll_cons_mk t0 (trodAll_mk0 (enc := enc) (P := Try.prog) (w := W') (base := 0) (spare := sp) (held := true))
      rw [List.append_nil] at t2
      exact t2)
    (fun _ _ => rfl) (by simp) hg (ok_one (by kernel_rfl) rfl (okWide_bool_mk Try.underlying4 _))⟩

set_option maxRecDepth 100000 in
theorem lifted (os : Os) (started : os.Started) (H : Type) (enc : TypeId × Value → H) (F : Stop.Interp) :
    ReturnsInHanded {} Try.checked os 8 .any ((Rows.OpenSpec.upto Rows.positOfSpec).pre6 enc Try.prog Try.f8 Rows.positOfUptoRow.domain false) (((Rows.OpenSpec.upto Rows.positOfSpec).at F).post enc Try.prog Try.f8 false true false false) := by
  refine returnsInHanded_of_cond (C := Try.checked) (s := Rows.OpenSpec.upto Rows.positOfSpec) (k := Rows.uptoSmall) rfl own started (by kernel_rfl) Try.func8
    (OpenSpec.witness (enc := enc) (C := Try.checked) (s := Rows.OpenSpec.upto Rows.positOfSpec) (k := Rows.uptoSmall) rfl false ⟨#[], #[.agg #[.int .i64 0, .int .u64 0, .int .u64 0, .int .u64 0, .int .u64 0, .slice none 0 0]], []⟩ 8 (by kernel_rfl) (by kernel_rfl) (by kernel_rfl)
      (x := ([.agg [.lit (.int .i64 0), .agg [.lit (.int .u64 0), .lit (.int .u64 0), .lit (.int .u64 0), .lit (.int .u64 0)], .nil]], [], [])) (by kernel_rfl) rfl (by kernel_rfl)) ?_
  intro W base args ds gs before hval hW _ hk _
  exact contract H enc W base args ds gs before hval hW hk

theorem over : Rows.positOfUptoRow.holds Try.pinned (Rows.OpenSpec.upto Rows.positOfSpec) :=
  OpenClaim.holds_of_cond 8 Try.f8 rfl rfl rfl rfl rfl rfl rfl ⟨rfl, rfl, rfl, rfl, rfl⟩ rfl rfl rfl rfl rfl (by kernel_rfl) Try.func8 (by kernel_rfl)
    (of_decide_eq_true (by kernel_rfl)) (by unfold Func.isWrapper; first | (rw [if_pos (by decide +kernel)]; kernel_rfl) | (rw [if_neg (by decide +kernel)]; exact ⟨rfl, rfl⟩))
    (fun os started H enc _ F => lifted os started H enc F)

/-- ████ THE STATEMENT ████ -/
theorem proved : Rows.PositOfUptoSaid :=
  over
#print axioms proved
end Go.Proofs.Ytjomodhbneicmaa.positOf
