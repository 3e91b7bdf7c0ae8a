/- The law 'ChartRows' is true of every input of which the given row speaks; the table is laid. -/
import Derived.Test.YtdobnnifjfbibaaDoorRows
import Derived.Test.YtdobnnifjfbibaaDoorCards
import Derived.Test.YtdobnnifjfbibaaDoorTie
import Derived.Test.YtdobnnifjfbibaaDoorZH
import Derived.Lib.LaidTab
import Derived.LaidHandle
import Derived.MakeChecks
import Derived.Handed
import Derived.SevenTiedAt
namespace Go.Proofs.YtdobnnifjfbibaaDoor.chartRows
open Go Go.ChangeShapes Go.WideShapes Go.ChangeAt Go.RowKit Go.Am
set_option linter.unusedVariables false
theorem own:ownKnob Tryd.prog.godebug=none:=by kernel_rfl
theorem laidOut:laidOutB Tryd.prog=true:=by kernel_rfl
theorem gname:Tryd.prog.globalNamed "math/bits.deBruijn64tab" =some 0:=by kernel_rfl
theorem gtype:(Tryd.prog.globals[0]?).map (·.type)=some 99:=by kernel_rfl
theorem tdata:(Rows.laid_math_bits_deBruijn64tab:DataW Unit)=Lib.tabData .u8 (Lib.deBruijn64tab.map Int.ofNat):=by kernel_rfl
theorem tab65:Tryd.prog.underlying 99=some (.array 64 5):=by kernel_rfl
theorem und8:Tryd.prog.underlying 5=some (.int .u8):=by kernel_rfl
theorem cells8:Tryd.prog.cellsOf 5=1:=by kernel_rfl
theorem cells65:Tryd.prog.cellsOf 99=64:=by kernel_rfl
theorem glob_of{W:World}(h:laidMetH Tryd.prog Rows.chartRowsRow.laid W):Glob W.heap.size W:=by
 have h':laidMet Tryd.prog [("math/bits.deBruijn64tab",Rows.laid_math_bits_deBruijn64tab)] W:=by
  exact h
 rw[tdata]at h';have t:=Lib.tabIs_of_head gname gtype tab65 und8 cells8 cells65 h';have hc: ∀j,j<Lib.deBruijn64tab.length->W.cell? ⟨0,j,none⟩=some (.int .u8 (Lib.deBruijn64tab.getD j 0)):=fun j hj=>by
  have:=t.cell gname j (by simpa using hj);simpa[List.getD_eq_getElem?_getD,hj]using this
 refine⟨?_,hc⟩;have h0:=hc 0 (by decide);exact World.block_lt_of_cell? W _ h0
set_option maxRecDepth 100000 in
theorem law{w:World}{x y z:Int}(gl:Glob w.heap.size w):
  Calls Tryd.prog 4 #[.int .i64 x,.int .i64 y,.int .i64 z] w fun e w'=>e= .returned (.bool true)/\Below w.heap.size w w':=by
 obtain⟨h,ok,hhn,hz,hrw⟩:=PH.of_list [];have hk: ∃k,ACall Tryd.prog 4 [.int .i64 x,.int .i64 y,.int .i64 z] h.abs fun u k'=>u= .bool true/\k'=k:=by
  obtain⟨u,k,hk,hu⟩:=law4 (n:=9223372036854775808) (h:=h) (d:=30) (x:=x) (y:=y) (z:=z) (Nat.le_refl _);subst hu;exact⟨_,((S4 _ (CLU_ok _ _)) [.int .i64 x,.int .i64 y,.int .i64 z] h _ _ hk).1.2⟩
 obtain⟨k,hk⟩:=hk;rw[PH.abs_list hhn hz hrw]at hk;exact calls_rel (ρ:=fun _=>none) (Q:=fun k'=>k'=k) (rel0 w gl) (.cons (.int _ _) (.cons (.int _ _) (.cons (.int _ _) .nil))) rfl hk
noncomputable def laidWorld(os:Os):World:=
 let w0:=World.holding Tryd.prog os ⟨#[], #[],[]⟩
 {w0 with heap:=w0.heap.modify 0 fun
   | .cells _ t frozen=>.cells (Lib.deBruijn64tab.map fun x=>Value.int .u8 (Int.ofNat x)).toArray t frozen
   |o=>o}
theorem laidWorld_met(os:Os)(args:Array Value):laidMetH Tryd.prog Rows.chartRowsRow.laid ((laidWorld os).forCall (fun _ _=>0) ⟨#[],args,[]⟩).memory:=by
 have h:laidMet Tryd.prog [("math/bits.deBruijn64tab",Rows.laid_math_bits_deBruijn64tab)] ((laidWorld os).forCall (fun _ _=>0) ⟨#[],args,[]⟩).memory:=laidMet_of_run' 8 (by kernel_rfl) (by kernel_rfl);exact h
set_option maxRecDepth 100000 in
theorem lifted(os:Os)(started:os.Started)(H:Type)(enc:TypeId×Value->H):
  ReturnsInHanded {} Tryd.checked os 4 .any (fun w args=>(Rows.chartRowsSpec.pre enc Tryd.prog Tryd.f4 [] false w args/\laidMetH Tryd.prog Rows.chartRowsRow.laid w)/\sizedMet enc Tryd.prog Tryd.f4 (OpenSpec.ofChange Rows.chartRowsSpec) false w args)
   (Rows.chartRowsSpec.post enc Tryd.prog Tryd.f4 false true false false):=by
 refine returnsInHanded_of_change_and (C:=Tryd.checked) (X:=fun w _=>laidMetH Tryd.prog Rows.chartRowsRow.laid w) (fun _ _ _ hh h=>h.of_heap hh) own started (by kernel_rfl) Tryd.func4
  (ChangeSpec.witness_at (enc:=enc) (C:=Tryd.checked) (os:=os) (X:=fun w _=>laidMetH Tryd.prog Rows.chartRowsRow.laid w) false (laidWorld os) #[.int .i64 0,.int .i64 0,.int .i64 0] 8 rfl (by kernel_rfl) (by kernel_rfl) (by kernel_rfl) (by kernel_rfl) (by kernel_rfl) (laidWorld_met os _)) ?_
 intro W base args ds gs before hval0 hW hcnd _ hL _;have hval: ∀(j:Nat) t v,Tryd.f4.params[j]?=some t->args[j]?=some v->Value.okWide Tryd.prog W .any base t v:=hval0;have hW':=hW;obtain⟨p,q,hA0,hV,rfl,hfz,hnd⟩:=hW;have hA:DataW.TrodAll enc Tryd.prog W 0 (fun _=>true) true Tryd.f4.params.toList args.toList ds p:=hA0;rw[Tryd.params4]at hA hval;obtain⟨v2,vs2,d2,ds2,p2,q2,hargs,rfl,rfl,h2,r2⟩:=trodAll_cons hA;obtain⟨v3,vs3,d3,ds3,p3,q3,rfl,rfl,rfl,h3,r3⟩:=trodAll_cons r2;obtain⟨v4,vs4,d4,ds4,p4,q4,rfl,rfl,rfl,h4,r4⟩:=trodAll_cons r3;obtain⟨rfl,rfl,rfl⟩:=trodAll_nil r4;obtain rfl:args= #[v2,v3,v4]:=by cases args;simp_all
 obtain⟨rfl,rfl⟩:=trodVars_none hV;obtain⟨x,rfl,rfl,rfl,hx⟩:=open_int Tryd.underlying3 (hval 0 3 v2 rfl rfl) h2;obtain⟨y,rfl,rfl,rfl,hy⟩:=open_int Tryd.underlying3 (hval 1 3 v3 rfl rfl) h3;obtain⟨z,rfl,rfl,rfl,hz⟩:=open_int Tryd.underlying3 (hval 2 3 v4 rfl rfl) h4
 clear hA0 hval0
 simp only[List.append_nil]at hW';refine(law (glob_of hL)).mono fun e W' ⟨he,hg⟩=>?_;subst he;exact⟨_,rfl,post_of_below (pa:=[]) (pv:=[]) hW' (fun _ _ _=>(trodAll_cons_mk (shut_bool Tryd.underlying4 _) trodAll_mk0))
  (fun sp hsp=>(trodAll_cons_mk (shut_int Tryd.underlying3 hx) (trodAll_cons_mk (shut_int Tryd.underlying3 hy) (trodAll_cons_mk (shut_int Tryd.underlying3 hz) (trodAll_mk0 (enc:=enc) (P:=Tryd.prog) (w:=W') (base:=0) (spare:=sp) (held:=true))))))
  (fun _ _=>rfl) (by simp) hg (ok_one (by kernel_rfl) rfl (okWide_bool_mk Tryd.underlying4 _))⟩
theorem over:Rows.ChartRowsSaid:=
 OpenClaim.holds_of_wide 4 Tryd.f4 rfl rfl rfl rfl rfl rfl rfl ⟨rfl,rfl,rfl,rfl,rfl⟩ rfl rfl rfl rfl rfl (by kernel_rfl) Tryd.func4 (by kernel_rfl)
  (of_decide_eq_true (by kernel_rfl)) (by unfold Func.isWrapper;first|(rw[if_pos (by decide+kernel)];kernel_rfl)|(rw[if_neg (by decide+kernel)];exact⟨rfl,rfl⟩))
  (fun os started H enc _=>lifted os started H enc)
theorem proved:Rows.ChartRowsCardSaid:=
 Claim7.holds_tied_plain_at .later [] [.data] true (true, "35c6c94ace3821846d75153fdb48b636edde7b280153202b34493635925c4fd2") false
  over (fun _ h=>by cases h) (by kernel_rfl) (fun _ h=>by cases h) chartRows_row_tie rfl ⟨rfl,rfl⟩ (by kernel_rfl) rfl
  (fun f fn hf hfn=>by
   obtain rfl:f=4:=Option.some.inj ((show Tryd.prog.funcNamed "undergrowth/undergrowthlaw18.ChartRows" =some 4 by kernel_rfl).symm.trans hf)|>.symm
   obtain rfl:fn=Tryd.f4:=(Option.some.inj (Tryd.func4.symm.trans hfn)).symm;exact⟨by kernel_rfl,fun j t ht=>by
    rw[Tryd.params4]at ht;rcases j with _|_|_|j
    ·simp at ht;subst ht;exact(show Tryd.prog.wantsStandIn 3=false by kernel_rfl)
    ·simp at ht;subst ht;exact(show Tryd.prog.wantsStandIn 3=false by kernel_rfl)
    ·simp at ht;subst ht;exact(show Tryd.prog.wantsStandIn 3=false by kernel_rfl)
    ·simp at ht⟩)
  (by kernel_rfl)
#print axioms proved
end Go.Proofs.YtdobnnifjfbibaaDoor.chartRows
