/- The law 'DfaOf' is true of every input of bulk at most so much of which the given row speaks. -/
import Derived.Test.YtjomodhbneicmaaRows
import Derived.Test.YtjomodhbneicmaaZJ
import Derived.WalkKit
import Derived.ProofKit
import Derived.OpenShut
import Derived.JoinedCond
namespace Go.Proofs.Ytjomodhbneicmaa.dfaOf
open Go Go.ChangeShapes Go.WideShapes Go.ChangeAt Go.RowKit Go.Am
set_option linter.unusedVariables false
theorem own:ownKnob Try.prog.godebug=none:=by kernel_rfl
theorem laidOut:laidOutB Try.prog=true:=by kernel_rfl
set_option maxRecDepth 100000 in
theorem law{H:Type}{enc:TypeId×Value->H}{w:World}{r:_root_.Go.Reach}{b0:Nat}{v0:Value}{d0:DataW H}{p0:List MemPlace}(hv0:Value.okWide Try.prog w r b0 22 v0)
  (ht0:DataW.Trod enc Try.prog w 0 (fun _=>true) true 22 v0 d0 p0) (hk:Ytjomodhbneicmaa.Rows.uptoSmall H [d0]=true):
  Calls Try.prog 3 #[v0] w fun e w'=>e= .returned (.bool true)/\Below w.heap.size w w':=
 law_ts hv0 ht0 hk fun h av ts ok ha hl=>by
  obtain⟨u,k,hk,hu⟩:=law3 (n:=4611686018427387904) (h:=h) (Nat.le_refl _) (D:=1000) (Nat.le_refl _) (Vw.le.refl _) ha hl;subst hu;exact⟨_,((S3 _ (CLU_ok _ _)).c1 hk).1.2⟩
set_option maxRecDepth 100000 in
theorem contract(H:Type)(enc:TypeId×Value->H)(W:World)(base:Nat)(args:Array Value)(ds gs:List (DataW H))(before:List MemPlace)
  (hval0: ∀(j:Nat) t v,Try.f3.params[j]?=some t->args[j]?=some v->Value.okWide Try.prog W .any base t v)
  (hW:DataW.Whole enc Try.prog Try.f3.params.toList Rows.dfaOfSpec.vars false W args.toList ds gs before) (hk:Rows.uptoSmall H (ds++gs)=true):
  Calls Try.prog 3 args W fun e W'=> ∃v,e= .returned v/\Rows.dfaOfSpec.post enc Try.prog Try.f3 false true false false W args v W':=by
 have hval: ∀(j:Nat) t v,Try.f3.params[j]?=some t->args[j]?=some v->Value.okWide Try.prog W .any base t v:=hval0;have hW':=hW;obtain⟨p,q,hA0,hV,rfl,hfz,hnd⟩:=hW;have hA:DataW.TrodAll enc Try.prog W 0 (fun _=>true) true Try.f3.params.toList args.toList ds p:=hA0;rw[Try.params3]at hA hval;obtain⟨v0,vs0,d0,ds0,p0,q0,hargs,rfl,rfl,h0,r0⟩:=trodAll_cons hA;obtain⟨rfl,rfl,rfl⟩:=trodAll_nil r0;obtain rfl:args= #[v0]:=by cases args;simp_all
 obtain⟨rfl,rfl⟩:=trodVars_none hV;have lt0: ∀x∈p0,x.block<W.heap.size:=by obtain⟨m,hm⟩:=h0;exact DataW.trod_lt m _ _ _ hm
 have ok0:=hval 0 22 v0 rfl rfl
 clear hA0 hval0
 simp only[List.append_nil]at hW' hk;refine(law ok0 h0 hk).mono fun e W' ⟨he,hg⟩=>?_;subst he;exact⟨_,rfl,post_of_below (pa:=p0) (pv:=[]) hW' (fun _ _ _=>(trodAll_cons_mk (shut_bool Try.underlying4 _) trodAll_mk0))
  (fun sp hsp=>by
   have t0:=WideElems.Trod_stays (sp':=sp) laidOut (by kernel_rfl) (of_decide_eq_true (by kernel_rfl)) h0 (fun x hx=>hg.same (lt0 x hx)) (fun x hx=>hsp x hx);have t2:=trodAll_cons_mk t0 (trodAll_mk0 (enc:=enc) (P:=Try.prog) (w:=W') (base:=0) (spare:=sp) (held:=true));rw[List.append_nil]at t2;exact t2)
  (fun _ _=>rfl) (by simp) hg (ok_one (by kernel_rfl) rfl (okWide_bool_mk Try.underlying4 _))⟩
set_option maxRecDepth 100000 in
theorem lifted(os:Os)(started:os.Started)(H:Type)(enc:TypeId×Value->H)(F:Stop.Interp):
  ReturnsInHanded {} Try.checked os 3 .any ((Rows.OpenSpec.upto Rows.dfaOfSpec).pre6 enc Try.prog Try.f3 Rows.dfaOfUptoRow.domain false) (((Rows.OpenSpec.upto Rows.dfaOfSpec).at F).post enc Try.prog Try.f3 false true false false):=by
 refine returnsInHanded_of_cond (C:=Try.checked) (s:=Rows.OpenSpec.upto Rows.dfaOfSpec) (k:=Rows.uptoSmall) rfl own started (by kernel_rfl) Try.func3
  (OpenSpec.witness (enc:=enc) (C:=Try.checked) (s:=Rows.OpenSpec.upto Rows.dfaOfSpec) (k:=Rows.uptoSmall) rfl false ⟨#[], #[.slice none 0 0],[]⟩ 8 (by kernel_rfl) (by kernel_rfl) (by kernel_rfl)
   (x:=([.nil],[],[])) (by kernel_rfl) rfl (by kernel_rfl)) ?_
 intro W base args ds gs before hval hW _ hk _;exact contract H enc W base args ds gs before hval hW hk
theorem over:Rows.dfaOfUptoRow.holds Try.pinned (Rows.OpenSpec.upto Rows.dfaOfSpec):=
 OpenClaim.holds_of_cond 3 Try.f3 rfl rfl rfl rfl rfl rfl rfl ⟨rfl,rfl,rfl,rfl,rfl⟩ rfl rfl rfl rfl rfl (by kernel_rfl) Try.func3 (by kernel_rfl)
  (of_decide_eq_true (by kernel_rfl)) (by unfold Func.isWrapper;first|(rw[if_pos (by decide+kernel)];kernel_rfl)|(rw[if_neg (by decide+kernel)];exact⟨rfl,rfl⟩))
  (fun os started H enc _ F=>lifted os started H enc F)
theorem proved:Rows.DfaOfUptoSaid:=
 over
#print axioms proved
end Go.Proofs.Ytjomodhbneicmaa.dfaOf
