/- The law 'ChartJoins' is true of every input of which the given row speaks; the table is laid. -/
import Derived.Test.YtdobnnifjfbibaaDoorRows
import Derived.Test.YtdobnnifjfbibaaDoorCards
import Derived.Test.YtdobnnifjfbibaaDoorTie
import Derived.Test.YtdobnnifjfbibaaDoorZH
import Derived.Lib.LaidTab
import Derived.LaidHandle
import Derived.MakeChecks
import Derived.Handed
import Derived.SevenTiedAt
namespace Go.Proofs.YtdobnnifjfbibaaDoor.chartJoins
open Go Go.ChangeShapes Go.WideShapes Go.ChangeAt Go.RowKit Go.Am
set_option linter.unusedVariables false
theorem own:ownKnob Tryd.prog.godebug=none:=by kernel_rfl
theorem laidOut:laidOutB Tryd.prog=true:=by kernel_rfl
theorem gname:Tryd.prog.globalNamed "math/bits.deBruijn64tab" =some 0:=by kernel_rfl
theorem gtype:(Tryd.prog.globals[0]?).map (·.type)=some 99:=by kernel_rfl
theorem tdata:(Rows.laid_math_bits_deBruijn64tab:DataW Unit)=Lib.tabData .u8 (Lib.deBruijn64tab.map Int.ofNat):=by kernel_rfl
theorem tab65:Tryd.prog.underlying 99=some (.array 64 5):=by kernel_rfl
theorem und8:Tryd.prog.underlying 5=some (.int .u8):=by kernel_rfl
theorem cells8:Tryd.prog.cellsOf 5=1:=by kernel_rfl
theorem cells65:Tryd.prog.cellsOf 99=64:=by kernel_rfl
theorem glob_of{W:World}(h:laidMetH Tryd.prog Rows.chartJoinsRow.laid W):Glob W.heap.size W:=by
 have h':laidMet Tryd.prog [("math/bits.deBruijn64tab",Rows.laid_math_bits_deBruijn64tab)] W:=by
  exact h
 rw[tdata]at h';have t:=Lib.tabIs_of_head gname gtype tab65 und8 cells8 cells65 h';have hc: ∀j,j<Lib.deBruijn64tab.length->W.cell? ⟨0,j,none⟩=some (.int .u8 (Lib.deBruijn64tab.getD j 0)):=fun j hj=>by
  have:=t.cell gname j (by simpa using hj);simpa[List.getD_eq_getElem?_getD,hj]using this
 refine⟨?_,hc⟩;have h0:=hc 0 (by decide);exact World.block_lt_of_cell? W _ h0
set_option maxRecDepth 100000 in
theorem law{H:Type}{enc:TypeId×Value->H}{w:World}{r:_root_.Go.Reach}{b0:Nat}{v0 v1:Value}{d0 d1:DataW H}{p0 p1:List MemPlace}(gl:Glob w.heap.size w)
  (hv0:Value.okWide Tryd.prog w r b0 26 v0) (hv1:Value.okWide Tryd.prog w r b0 24 v1) (ht0:DataW.Trod enc Tryd.prog w 0 (fun _=>true) true 26 v0 d0 p0) (ht1:DataW.Trod enc Tryd.prog w 0 (fun _=>true) true 24 v1 d1 p1):
  Calls Tryd.prog 3 #[v0,v1] w fun e w'=>e= .returned (.bool true)/\Below w.heap.size w w':=
 law_gz gl hv0 hv1 ht0 ht1 fun h g rv fv cv kv kvs ks ok hG gv hi hveq hav=>by
  obtain⟨u,k,hk,hu⟩:=law3 (n:=9223372036854775808) (h:=h) (d:=30) (Nat.le_refl _) hG (Vw.le.refl _) gv hi hveq;subst hu;exact⟨_,((S3 _ (CLU_ok _ _)) [.agg ⟨gcs g rv fv cv kv⟩,kvs] h _ _ hk).1.2⟩
noncomputable def laidWorld(os:Os):World:=
 let w0:=World.holding Tryd.prog os ⟨#[], #[],[]⟩
 {w0 with heap:=w0.heap.modify 0 fun
   | .cells _ t frozen=>.cells (Lib.deBruijn64tab.map fun x=>Value.int .u8 (Int.ofNat x)).toArray t frozen
   |o=>o}
theorem laidWorld_met(os:Os)(args:Array Value):laidMetH Tryd.prog Rows.chartJoinsRow.laid ((laidWorld os).forCall (fun _ _=>0) ⟨#[],args,[]⟩).memory:=by
 have h:laidMet Tryd.prog [("math/bits.deBruijn64tab",Rows.laid_math_bits_deBruijn64tab)] ((laidWorld os).forCall (fun _ _=>0) ⟨#[],args,[]⟩).memory:=laidMet_of_run' 8 (by kernel_rfl) (by kernel_rfl);exact h
set_option maxRecDepth 100000 in
theorem lifted(os:Os)(started:os.Started)(H:Type)(enc:TypeId×Value->H):
  ReturnsInHanded {} Tryd.checked os 3 .any (fun w args=>(Rows.chartJoinsSpec.pre enc Tryd.prog Tryd.f3 [] false w args/\laidMetH Tryd.prog Rows.chartJoinsRow.laid w)/\sizedMet enc Tryd.prog Tryd.f3 (OpenSpec.ofChange Rows.chartJoinsSpec) false w args)
   (Rows.chartJoinsSpec.post enc Tryd.prog Tryd.f3 false true false false):=by
 refine returnsInHanded_of_change_and (C:=Tryd.checked) (X:=fun w _=>laidMetH Tryd.prog Rows.chartJoinsRow.laid w) (fun _ _ _ hh h=>h.of_heap hh) own started (by kernel_rfl) Tryd.func3
  (ChangeSpec.witness_at (enc:=enc) (C:=Tryd.checked) (os:=os) (X:=fun w _=>laidMetH Tryd.prog Rows.chartJoinsRow.laid w) false (laidWorld os) #[.agg #[.int .i64 0,.int .i64 0,.int .i64 0,.slice none 0 0,.slice none 0 0,.slice none 0 0,.slice none 0 0],.slice none 0 0] 8 rfl (by kernel_rfl) (by kernel_rfl) (by kernel_rfl) (by kernel_rfl) (by kernel_rfl) (laidWorld_met os _)) ?_
 intro W base args ds gs before hval0 hW hcnd _ hL _;have hval: ∀(j:Nat) t v,Tryd.f3.params[j]?=some t->args[j]?=some v->Value.okWide Tryd.prog W .any base t v:=hval0;have hW':=hW;obtain⟨p,q,hA0,hV,rfl,hfz,hnd⟩:=hW;have hA:DataW.TrodAll enc Tryd.prog W 0 (fun _=>true) true Tryd.f3.params.toList args.toList ds p:=hA0;rw[Tryd.params3]at hA hval;obtain⟨v0,vs0,d0,ds0,p0,q0,hargs,rfl,rfl,h0,r0⟩:=trodAll_cons hA;obtain⟨v1,vs1,d1,ds1,p1,q1,rfl,rfl,rfl,h1,r1⟩:=trodAll_cons r0;obtain⟨rfl,rfl,rfl⟩:=trodAll_nil r1;obtain rfl:args= #[v0,v1]:=by cases args;simp_all
 obtain⟨rfl,rfl⟩:=trodVars_none hV;have lt0: ∀x∈p0,x.block<W.heap.size:=by obtain⟨m,hm⟩:=h0;exact DataW.trod_lt m _ _ _ hm
 have lt1: ∀x∈p1,x.block<W.heap.size:=by obtain⟨m,hm⟩:=h1;exact DataW.trod_lt m _ _ _ hm
 have ok0:=hval 0 26 v0 rfl rfl;have ok1:=hval 1 24 v1 rfl rfl
 clear hA0 hval0
 simp only[List.append_nil]at hW';refine(law (glob_of hL) ok0 ok1 h0 h1).mono fun e W' ⟨he,hg⟩=>?_;subst he;exact⟨_,rfl,post_of_below (pa:=p0++p1) (pv:=[]) hW' (fun _ _ _=>(trodAll_cons_mk (shut_bool Tryd.underlying4 _) trodAll_mk0))
  (fun sp hsp=>by
   have t0:=WideElems.Trod_stays (sp':=sp) laidOut (by kernel_rfl) (of_decide_eq_true (by kernel_rfl)) h0 (fun x hx=>hg.same (lt0 x hx)) (fun x hx=>hsp x (List.mem_append_left _ hx));have t1:=WideElems.Trod_stays (sp':=sp) laidOut (by kernel_rfl) (of_decide_eq_true (by kernel_rfl)) h1 (fun x hx=>hg.same (lt1 x hx)) (fun x hx=>hsp x (List.mem_append_right _ hx));have t2:=trodAll_cons_mk t0 (trodAll_cons_mk t1 (trodAll_mk0 (enc:=enc) (P:=Tryd.prog) (w:=W') (base:=0) (spare:=sp) (held:=true)));simp only[List.append_nil]at t2;exact t2)
  (fun _ _=>rfl) (by simp) hg (ok_one (by kernel_rfl) rfl (okWide_bool_mk Tryd.underlying4 _))⟩
theorem over:Rows.ChartJoinsSaid:=
 OpenClaim.holds_of_wide 3 Tryd.f3 rfl rfl rfl rfl rfl rfl rfl ⟨rfl,rfl,rfl,rfl,rfl⟩ rfl rfl rfl rfl rfl (by kernel_rfl) Tryd.func3 (by kernel_rfl)
  (of_decide_eq_true (by kernel_rfl)) (by unfold Func.isWrapper;first|(rw[if_pos (by decide+kernel)];kernel_rfl)|(rw[if_neg (by decide+kernel)];exact⟨rfl,rfl⟩))
  (fun os started H enc _=>lifted os started H enc)
theorem proved:Rows.ChartJoinsCardSaid:=
 Claim7.holds_tied_plain_at .later [] [.data] true (true, "35c6c94ace3821846d75153fdb48b636edde7b280153202b34493635925c4fd2") false
  over (fun _ h=>by cases h) (by kernel_rfl) (fun _ h=>by cases h) chartJoins_row_tie rfl ⟨rfl,rfl⟩ (by kernel_rfl) rfl
  (fun f fn hf hfn=>by
   obtain rfl:f=3:=Option.some.inj ((show Tryd.prog.funcNamed "undergrowth/undergrowthlaw18.ChartJoins" =some 3 by kernel_rfl).symm.trans hf)|>.symm
   obtain rfl:fn=Tryd.f3:=(Option.some.inj (Tryd.func3.symm.trans hfn)).symm;exact⟨by kernel_rfl,fun j t ht=>by
    rw[Tryd.params3]at ht;rcases j with _|_|j
    ·simp at ht;subst ht;exact(show Tryd.prog.wantsStandIn 26=false by kernel_rfl)
    ·simp at ht;subst ht;exact(show Tryd.prog.wantsStandIn 24=false by kernel_rfl)
    ·simp at ht⟩)
  (by kernel_rfl)
#print axioms proved
end Go.Proofs.YtdobnnifjfbibaaDoor.chartJoins
