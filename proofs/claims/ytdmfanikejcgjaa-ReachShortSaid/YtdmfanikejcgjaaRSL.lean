import Derived.Test.YtdmfanikejcgjaaW23
import Derived.Test.YtdmfanikejcgjaaI3
set_option linter.unusedSimpArgs false
set_option linter.unusedVariables false
namespace Go.Am
open Go Go.RowKit Go.Proofs Go.ChangeShapes Go.WideShapes
abbrev NM : Nat := 9223372036854775808
/-- A law of any grammar. -/
theorem law_of {f : FuncId} {F : Value → PH → R} (hF : ∀ {a : Value} {h h' : PH} {v : Value}, F a h = some (v, h') → ACall Try.prog f [a] h.abs (fun u k => u = v ∧ k = h'.abs))
    (hc : ∀ (h : PH) (g : Gr) (v rv fv cv kv : Value), OkH h → RdG h v g rv fv cv kv → GIn g → Ret (F v h.fzn) fun u _ => u = .bool true)
    {H : Type} {enc : TypeId × Value → H} {w : World} {r : _root_.Go.Reach} {b0 : Nat} {v0 : Value} {d : DataW H} {p : List MemPlace} (hv : Value.okWide Try.prog w r b0 27 v0) (ht : DataW.Trod enc Try.prog w 0 (fun _ => true) true 27 v0 d p) :
    Calls Try.prog f #[v0] w fun e w' => e = .returned (.bool true) ∧ Below w.heap.size w w' := by
  obtain ⟨ρ, l, v, g, rv, fv, cv, kv, im, hvr, hin, hrd⟩ := Im.gram hv ht
  obtain ⟨h, ok, hn, hz, hr⟩ := PH.of_list l
  obtain ⟨u, k, hk, hu⟩ := hc h g v rv fv cv kv ok (hrd h hr) hin
  subst hu
  have ha := hF hk
  rw [PH.fzn_list hn hr im.fro] at ha
  exact calls_rel im.rel (.cons hvr .nil) rfl ha
theorem lawRS {H : Type} {enc : TypeId × Value → H} {w : World} {r : _root_.Go.Reach} {b0 : Nat} {v0 : Value} {d : DataW H} {p : List MemPlace} (hv : Value.okWide Try.prog w r b0 27 v0) (ht : DataW.Trod enc Try.prog w 0 (fun _ => true) true 27 v0 d p) :
    Calls Try.prog 5 #[v0] w fun e w' => e = .returned (.bool true) ∧ Below w.heap.size w w' :=
  law_of (F := F5 NM (CLV NM 1)) (fun hx => (S5 (CLV_ok _ _) hx).1.2) (fun h g v rv fv cv kv ok r hg => c5 (n := NM) (ih := CNo) (h := h) (Nat.le_refl _) r hg) hv ht
end Go.Am
