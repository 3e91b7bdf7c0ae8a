/- The law 'ViableEnds' is true of every input of which the given row speaks; no condition. -/
import Derived.Test.YthnhjgeneeflaaaRows
import Derived.Test.YthnhjgeneeflaaaZH
namespace Go.Proofs.Ythnhjgeneeflaaa.viableEnds
open Go Go.ChangeShapes Go.WideShapes Go.ChangeAt Go.RowKit Go.Am
set_option linter.unusedVariables false
theorem own:ownKnob Try.prog.godebug=none:=by kernel_rfl
theorem laidOut:laidOutB Try.prog=true:=by kernel_rfl
set_option maxRecDepth 100000 in
theorem law{H:Type}{enc:TypeId×Value->H}{w:World}{r:_root_.Go.Reach}{b0:Nat}{v0 v1:Value}{d0 d1:DataW H}{p0 p1:List MemPlace}
  (hv0:Value.okWide Try.prog w r b0 26 v0) (hv1:Value.okWide Try.prog w r b0 24 v1) (ht0:DataW.Trod enc Try.prog w 0 (fun _=>true) true 26 v0 d0 p0) (ht1:DataW.Trod enc Try.prog w 0 (fun _=>true) true 24 v1 d1 p1):
  Calls Try.prog 5 #[v0,v1] w fun e w'=>e= .returned (.bool true)/\Below w.heap.size w w':=
 law_gz hv0 hv1 ht0 ht1 fun h g rv fv cv kv kvs ks ok hG gv hi hveq hav=>by
  obtain⟨u,k,hk,hu⟩:=law5 (n:=9223372036854775808) (h:=h) (d:=65536) (Nat.le_refl _) (Nat.le_refl _) hG (Vw.le.refl _) gv hi hveq;subst hu;exact⟨_,((S5 _ (CLU_ok _ _)).c2 hk).1.2⟩
set_option maxRecDepth 100000 in
theorem lifted(os:Os)(started:os.Started)(H:Type)(enc:TypeId×Value->H):
  ReturnsInHanded {} Try.checked os 5 .any (Rows.viableEndsSpec.pre6 enc Try.prog Try.f5 Rows.viableEndsRow.domain false) (Rows.viableEndsSpec.post enc Try.prog Try.f5 false true false false):=by
 refine returnsInHanded_of_change (C:=Try.checked) own started (by kernel_rfl) Try.func5
  (ChangeSpec.witness6 (enc:=enc) (C:=Try.checked) false ⟨#[], #[.agg #[.int .i64 0,.int .i64 0,.int .i64 0,.slice none 0 0,.slice none 0 0,.slice none 0 0,.slice none 0 0],.slice none 0 0],[]⟩ 8 (by kernel_rfl) (by kernel_rfl) (by kernel_rfl) (by kernel_rfl)) ?_
 intro W base args ds gs before hval0 hW hcnd _;have hval: ∀(j:Nat) t v,Try.f5.params[j]?=some t->args[j]?=some v->Value.okWide Try.prog W .any base t v:=hval0;have hW':=hW;obtain⟨p,q,hA0,hV,rfl,hfz,hnd⟩:=hW;have hA:DataW.TrodAll enc Try.prog W 0 (fun _=>true) true Try.f5.params.toList args.toList ds p:=hA0;rw[Try.params5]at hA hval;obtain⟨v0,vs0,d0,ds0,p0,q0,hargs,rfl,rfl,h0,r0⟩:=trodAll_cons hA;obtain⟨v1,vs1,d1,ds1,p1,q1,rfl,rfl,rfl,h1,r1⟩:=trodAll_cons r0;obtain⟨rfl,rfl,rfl⟩:=trodAll_nil r1;obtain rfl:args= #[v0,v1]:=by cases args;simp_all
 obtain⟨rfl,rfl⟩:=trodVars_none hV;have lt0: ∀x∈p0,x.block<W.heap.size:=by obtain⟨m,hm⟩:=h0;exact DataW.trod_lt m _ _ _ hm
 have lt1: ∀x∈p1,x.block<W.heap.size:=by obtain⟨m,hm⟩:=h1;exact DataW.trod_lt m _ _ _ hm
 have ok0:=hval 0 26 v0 rfl rfl;have ok1:=hval 1 24 v1 rfl rfl
 clear hA0 hval0
 simp only[List.append_nil]at hW';refine(law ok0 ok1 h0 h1).mono fun e W' ⟨he,hg⟩=>?_;subst he;exact⟨_,rfl,post_of_below (pa:=p0++p1) (pv:=[]) hW' (fun _ _ _=>(trodAll_cons_mk (shut_bool Try.underlying4 _) trodAll_mk0))
  (fun sp hsp=>by
   have t0:=WideElems.Trod_stays (sp':=sp) laidOut (by kernel_rfl) (of_decide_eq_true (by kernel_rfl)) h0 (fun x hx=>hg.same (lt0 x hx)) (fun x hx=>hsp x (List.mem_append_left _ hx));have t1:=WideElems.Trod_stays (sp':=sp) laidOut (by kernel_rfl) (of_decide_eq_true (by kernel_rfl)) h1 (fun x hx=>hg.same (lt1 x hx)) (fun x hx=>hsp x (List.mem_append_right _ hx));have t2:=trodAll_cons_mk t0 (trodAll_cons_mk t1 (trodAll_mk0 (enc:=enc) (P:=Try.prog) (w:=W') (base:=0) (spare:=sp) (held:=true)));rw[List.append_nil]at t2;exact t2)
  (fun _ _=>rfl) (by simp) hg (ok_one (by kernel_rfl) rfl (okWide_bool_mk Try.underlying4 _))⟩
theorem over:Rows.viableEndsRow.holds Try.pinned (OpenSpec.ofChange Rows.viableEndsSpec):=
 OpenClaim.holds_of_wide 5 Try.f5 rfl rfl rfl rfl rfl rfl rfl ⟨rfl,rfl,rfl,rfl,rfl⟩ rfl rfl rfl rfl rfl (by kernel_rfl) Try.func5 (by kernel_rfl)
  (of_decide_eq_true (by kernel_rfl)) (by unfold Func.isWrapper;first|(rw[if_pos (by decide+kernel)];kernel_rfl)|(rw[if_neg (by decide+kernel)];exact⟨rfl,rfl⟩))
  (fun os started H enc _=>lifted os started H enc)
theorem proved:Rows.ViableEndsSaid:=
 over
#print axioms proved
end Go.Proofs.Ythnhjgeneeflaaa.viableEnds
