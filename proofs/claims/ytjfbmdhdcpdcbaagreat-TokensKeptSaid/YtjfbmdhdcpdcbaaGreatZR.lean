/- The law 'TokensKept' is true of every input of which the given row speaks; no condition. -/
import Derived.Test.YtjfbmdhdcpdcbaaGreatRows
import Derived.Test.YtjfbmdhdcpdcbaaGreatZG
import Derived.WalkKit
import Derived.ProofKit
import Derived.OpenShut
import Derived.JoinedCond
namespace Go.Proofs.YtjfbmdhdcpdcbaaGreat.tokensKept
open Go Go.ChangeShapes Go.WideShapes Go.ChangeAt Go.RowKit Go.Am
set_option linter.unusedVariables false
theorem own:ownKnob Tryz.prog.godebug=none:=by kernel_rfl
theorem laidOut:laidOutB Tryz.prog=true:=by kernel_rfl
set_option maxRecDepth 100000 in
theorem law{H:Type}{enc:TypeId×Value->H}{w:World}{r:_root_.Go.Reach}{b0:Nat}{v0:Value}{d0:DataW H}{p0:List MemPlace}
  (hv0:Value.okWide Tryz.prog w r b0 51 v0) (ht0:DataW.Trod enc Tryz.prog w 0 (fun _=>true) true 51 v0 d0 p0):
  Calls Tryz.prog 10 #[v0] w fun e w'=>e= .returned (.bool true)/\Below w.heap.size w w':=
 law_tk hv0 ht0 fun h v ts ok hr hem=>by
  obtain⟨u,k,hk,hu⟩:=law10 (n:=9223372036854775808) (h:=h) (D:=1000) (by omega) (CL8_dsp _ _) (Vw.le.refl _) hr hem;subst hu;exact⟨_,((S10 _ (CL8_ok _ _)).c1 hk).1.2⟩
set_option maxRecDepth 100000 in
theorem lifted(os:Os)(started:os.Started)(H:Type)(enc:TypeId×Value->H):
  ReturnsInHanded {} Tryz.checked os 10 .any (Rows.tokensKeptSpec.pre6 enc Tryz.prog Tryz.f10 Rows.tokensKeptRow.domain false) (Rows.tokensKeptSpec.post enc Tryz.prog Tryz.f10 false true false false):=by
 refine returnsInHanded_of_change (C:=Tryz.checked) own started (by kernel_rfl) Tryz.func10
  (ChangeSpec.witness6 (enc:=enc) (C:=Tryz.checked) false ⟨#[], #[.slice none 0 0],[]⟩ 8 (by kernel_rfl) (by kernel_rfl) (by kernel_rfl) (by kernel_rfl)) ?_
 intro W base args ds gs before hval0 hW hcnd _;have hval: ∀(j:Nat) t v,Tryz.f10.params[j]?=some t->args[j]?=some v->Value.okWide Tryz.prog W .any base t v:=hval0;have hW':=hW;obtain⟨p,q,hA0,hV,rfl,hfz,hnd⟩:=hW;have hA:DataW.TrodAll enc Tryz.prog W 0 (fun _=>true) true Tryz.f10.params.toList args.toList ds p:=hA0;rw[Tryz.params10]at hA hval;obtain⟨v0,vs0,d0,ds0,p0,q0,hargs,rfl,rfl,h0,r0⟩:=trodAll_cons hA;obtain⟨rfl,rfl,rfl⟩:=trodAll_nil r0;obtain rfl:args= #[v0]:=by cases args;simp_all
 obtain⟨rfl,rfl⟩:=trodVars_none hV;have lt0: ∀x∈p0,x.block<W.heap.size:=by obtain⟨m,hm⟩:=h0;exact DataW.trod_lt m _ _ _ hm
 have ok0:=hval 0 51 v0 rfl rfl
 clear hA0 hval0
 simp only[List.append_nil]at hW';refine(law ok0 h0).mono fun e W' ⟨he,hg⟩=>?_;subst he;exact⟨_,rfl,post_of_below (pa:=p0) (pv:=[]) hW' (fun _ _ _=>(trodAll_cons_mk (shut_bool Tryz.underlying4 _) trodAll_mk0))
  (fun sp hsp=>by
   have t0:=WideElems.Trod_stays (sp':=sp) laidOut (by kernel_rfl) (of_decide_eq_true (by kernel_rfl)) h0 (fun x hx=>hg.same (lt0 x hx)) (fun x hx=>hsp x hx);have t2:=trodAll_cons_mk t0 (trodAll_mk0 (enc:=enc) (P:=Tryz.prog) (w:=W') (base:=0) (spare:=sp) (held:=true));rw[List.append_nil]at t2;exact t2)
  (fun _ _=>rfl) (by simp) hg (ok_one (by kernel_rfl) rfl (okWide_bool_mk Tryz.underlying4 _))⟩
theorem over:Rows.tokensKeptRow.holds Tryz.pinned (OpenSpec.ofChange Rows.tokensKeptSpec):=
 OpenClaim.holds_of_wide 10 Tryz.f10 rfl rfl rfl rfl rfl rfl rfl ⟨rfl,rfl,rfl,rfl,rfl⟩ rfl rfl rfl rfl rfl (by kernel_rfl) Tryz.func10 (by kernel_rfl)
  (of_decide_eq_true (by kernel_rfl)) (by unfold Func.isWrapper;first|(rw[if_pos (by decide+kernel)];kernel_rfl)|(rw[if_neg (by decide+kernel)];exact⟨rfl,rfl⟩))
  (fun os started H enc _=>lifted os started H enc)
theorem proved:Rows.TokensKeptSaid:=
 over
#print axioms proved
end Go.Proofs.YtjfbmdhdcpdcbaaGreat.tokensKept
