import Derived.Test.YtjomodhbneicmaaZC
import Derived.Test.YtjomodhbneicmaaZW
set_option linter.unusedSimpArgs false
set_option linter.unusedVariables false
namespace Go.Am
open Go Go.RowKit Go.Proofs
def mrg:List Nat->List Nat->List Nat
 | [],b=>b
 |x::a,[]=>x::a
 |x::a,y::b=>if x<y then x::mrg a (y::b)else if y<x then y::mrg (x::a) b else x::mrg a b
termination_by a b=>a.length+b.length
theorem mem_mrg{i:Nat}: ∀{a b:List Nat},i∈mrg a b↔i∈a\/i∈b
 | [],b=>by rw[mrg];simp
 |x::a,[]=>by rw[mrg];simp
 |x::a,y::b=>by
  rw[mrg]
  split
  ·rw[List.mem_cons,mem_mrg (a:=a)];simp only[List.mem_cons]
   grind
  ·split
   ·rw[List.mem_cons,mem_mrg (a:=x::a)];simp only[List.mem_cons]
    grind
   ·have:x=y:=by omega
    subst this;rw[List.mem_cons,mem_mrg (a:=a)];simp only[List.mem_cons]
    grind
termination_by a b=>a.length+b.length
theorem mrg_sorted: ∀{a b:List Nat},a.Pairwise (· < ·)->b.Pairwise (· < ·)->(mrg a b).Pairwise (· < ·)
 | [],b,_,hb=>by rw[mrg];exact hb
 |x::a,[],ha,_=>by rw[mrg];exact ha
 |x::a,y::b,ha,hb=>by
  rw[mrg];have ha':=ha;have hb':=hb;rw[List.pairwise_cons]at ha' hb'
  split
  ·refine .cons (fun i hi=>?_) (mrg_sorted ha'.2 hb);rcases mem_mrg.1 hi with h|h
   ·exact ha'.1 _ h
   ·rcases List.mem_cons.1 h with h|h
    ·omega
    ·have:=hb'.1 _ h;omega
  ·split
   ·refine .cons (fun i hi=>?_) (mrg_sorted ha hb'.2);rcases mem_mrg.1 hi with h|h
    ·rcases List.mem_cons.1 h with h|h
     ·omega
     ·have:=ha'.1 _ h;omega
    ·exact hb'.1 _ h
   ·have:x=y:=by omega
    subst this;refine .cons (fun i hi=>?_) (mrg_sorted ha'.2 hb'.2);rcases mem_mrg.1 hi with h|h
    ·exact ha'.1 _ h
    ·exact hb'.1 _ h
termination_by a b=>a.length+b.length
theorem mrg_srt{N:Nat}{P Q:Nat->Bool}:mrg (srt N P) (srt N Q)=srt N fun i=>P i||Q i:=by
 refine rising_eq (mrg_sorted (srt_sorted _ _) (srt_sorted _ _)) (srt_sorted _ _) fun i=>?_;rw[mem_mrg,mem_srt,mem_srt,mem_srt,Bool.or_eq_true];constructor
 ·rintro(⟨a,b⟩|⟨a,b⟩)
  ·exact⟨a,.inl b⟩
  ·exact⟨a,.inr b⟩
 ·rintro⟨a,b|b⟩
  ·exact .inl ⟨a,b⟩
  ·exact .inr ⟨a,b⟩
theorem ns_get{l:List Nat}{i x:Nat}(h:l[i]?=some x):(ns l)[i]?=some (.int .i64 (x:Nat)):=by unfold ns;rw[List.getElem?_map,h];rfl
theorem ns_len{l:List Nat}:(ns l).length=l.length:=by simp[ns]
theorem srt_len{N:Nat}{P:Nat->Bool}:(srt N P).length<=N:=by
 have:=List.length_filter_le P (List.range N);rw[List.length_range]at this;exact this
section
variable {n:Nat}{cl:CL}{h h0:PH}{S:Vw}{m:OM}{rows:Rws}
theorem drop_get{l:List Nat}{i x:Nat}(h:l[i]?=some x):l.drop i=x::l.drop (i+1):=by
 obtain⟨hl,e⟩:=List.getElem?_eq_some_iff.1 h;rw[List.drop_eq_getElem_cons hl,e]
theorem loop45{av bv:Value}{la lb:List Nat}(ha:SlV S av (ns la))(hb:SlV S bv (ns lb))(hla:la.length<1000000)(hlb:lb.length<1000000):
  ∀(c q i k:Nat)(out:List Nat)(ex:Rws)(v:Value)(h:PH),(la.length-i)+(lb.length-k)<=c->c<q->i<=la.length->k<=lb.length->out.length<=i+k->Sl h0 h S OM.emp (ex++[])->Gl 1 v out.length (ns out) ex->
  Ret (lp q (F45_6 n cl) [av,bv,v,.int .i64 i,.int .i64 k] h) fun v h'=> ∃rows1,Sl h0 h' S OM.emp rows1/\Gl 1 v (out++mrg (la.drop i) (lb.drop k)).length (ns (out++mrg (la.drop i) (lb.drop k))) rows1:=by
 intro c
 induction c with
 |zero=>
  intro q i k out ex v h h1 h2 h3 h4 h5 st g;obtain⟨q,rfl⟩: ∃r,q=r+1:=⟨q-1,by omega⟩;have hi:i=la.length:=by omega
  have hk:k=lb.length:=by omega
  subst hi;subst hk;rw[lp_succ,List.drop_length,List.drop_length];have e:mrg [] []=[]:=by rw[mrg]
  rw[e,List.append_nil];have la':=ha.len;have lb':=hb.len;rw[ns_len]at la' lb';have d1:decide ((la.length:Int)<(la.length:Int))=false:=by simp
  have d2:decide ((lb.length:Int)<(lb.length:Int))=false:=by simp
  simp only[F45_6,F45_5,ucons_cons,la',lb',xLt_i,vb_some,d1,d2,isB_f,Bool.not_false,gd_some',if_true,gd_true,xPick_f,bite_f];rw[List.append_nil]at st;exact Ret.of ⟨ex,st,g⟩
 |succ c ih=>
  intro q i k out ex v h h1 h2 h3 h4 h5 st g
  by_cases hc:la.length-i+(lb.length-k)<=c
  ·exact ih q i k out ex v h hc (by omega) h3 h4 h5 st g
  obtain⟨q,rfl⟩: ∃r,q=r+1:=⟨q-1,by omega⟩;rw[lp_succ];generalize hL:lp q (F45_6 n cl)=LL;have la':=ha.len;have lb':=hb.len;rw[ns_len]at la' lb';have hwi:IntKind.i64.wrap ((i:Int)+((1:Nat):Int))=((i+1:Nat):Int):=by rw[wrap_in (by omega) (by omega)];omega
  have hwk:IntKind.i64.wrap ((k:Int)+((1:Nat):Int))=((k+1:Nat):Int):=by rw[wrap_in (by omega) (by omega)];omega
  have next: ∀(x i' k':Nat)(h:PH)(ex':Rws)(v':Value),(la.length-i')+(lb.length-k')<=c->i'<=la.length->k'<=lb.length->out.length+1<=i'+k'->mrg (la.drop i) (lb.drop k)=x::mrg (la.drop i') (lb.drop k')->Sl h0 h S OM.emp (ex'++[])->Gl 1 v' (out.length+1) (ns out++[.int .i64 (x:Nat)]) ex'->
    Ret (LL [av,bv,v',.int .i64 i',.int .i64 k'] h) fun v h'=> ∃rows1,Sl h0 h' S OM.emp rows1/\Gl 1 v (out++mrg (la.drop i) (lb.drop k)).length (ns (out++mrg (la.drop i) (lb.drop k))) rows1:=by
   intro x i' k' h ex' v' q1 q2 q3 q4 q5 st' g';have e:out++mrg (la.drop i) (lb.drop k)=(out++[x])++mrg (la.drop i') (lb.drop k'):=by rw[q5];simp
   rw[e, <-hL];exact ih q i' k' (out++[x]) ex' v' h q1 (by omega) q2 q3 (by simp;omega) st' (by simpa[ns]using g')
  have hsz:out.length<=2000000:=by omega
  by_cases ci:i<la.length
  ·have hx:=List.getElem?_eq_getElem ci;generalize la[i]=x at hx;obtain⟨b1,o1,cs1,e1,e2,e3⟩:=ha.at (k:=.i64) (ns_get hx);have lx:=st.ldS e2 e3;have da:=drop_get hx;have d1:decide ((i:Int)<(la.length:Int))=true:=by simp;omega
   have d1':decide (((la.length:Nat):Int)<=(i:Int))=false:=by simp;omega
   by_cases ck:k<lb.length
   ·have hy:=List.getElem?_eq_getElem ck;generalize lb[k]=y at hy;obtain⟨b2,o2,cs2,f1,f2,f3⟩:=hb.at (k:=.i64) (ns_get hy);have ly:=st.ldS f2 f3;have db:=drop_get hy;have d2:decide (((lb.length:Nat):Int)<=(k:Int))=false:=by simp;omega
    by_cases cxy:x<y
    ·have d3:decide ((x:Int)<(y:Int))=true:=by simp;omega
     simp only[F45_6,F45_5,F45_4,ucons_cons,la',lb',xLt_i,xGe_i,vb_some,d1,d1',d2,d3,isB_f,isB_t,isB_u,Bool.not_true,Bool.not_false,gd_some',if_true,if_false,Bool.false_eq_true,gd_true,gd_false,xPick_f,xPick_t,bite_t,bite_f,e1,f1,lx,ly,tt_eq,ff_eq,F45_0];refine Ret.gapp st g bs28 ai28 rfl rfl (sz_le hsz (by decide)) fun h' v' ex' st' g'=>?_;simp only[vN_eq,xAdd_i,vb_some,hwi];exact next x (i+1) k h' ex' v' (by omega) (by omega) (by omega) (by omega) (by rw[da,db,mrg,if_pos cxy]) st' g'
    ·have d3:decide ((x:Int)<(y:Int))=false:=by simp;omega
     by_cases cyx:y<x
     ·have d4:decide ((y:Int)<(x:Int))=true:=by simp;omega
      simp only[F45_6,F45_5,F45_4,F45_3,ucons_cons,la',lb',xLt_i,xGe_i,vb_some,d1,d1',d2,d3,d4,isB_f,isB_t,isB_u,Bool.not_true,Bool.not_false,gd_some',if_true,if_false,Bool.false_eq_true,gd_true,gd_false,xPick_f,xPick_t,bite_t,bite_f,e1,f1,lx,ly,tt_eq,ff_eq,F45_1];refine Ret.gapp st g bs28 ai28 rfl rfl (sz_le hsz (by decide)) fun h' v' ex' st' g'=>?_;simp only[vN_eq,xAdd_i,vb_some,hwk];exact next y i (k+1) h' ex' v' (by omega) (by omega) (by omega) (by omega) (by rw[da,db,mrg,if_neg cxy,if_pos cyx]) st' g'
     ·have d4:decide ((y:Int)<(x:Int))=false:=by simp;omega
      simp only[F45_6,F45_5,F45_4,F45_3,ucons_cons,la',lb',xLt_i,xGe_i,vb_some,d1,d1',d2,d3,d4,isB_f,isB_t,isB_u,Bool.not_true,Bool.not_false,gd_some',if_true,if_false,Bool.false_eq_true,gd_true,gd_false,xPick_f,xPick_t,bite_t,bite_f,e1,f1,lx,ly,tt_eq,ff_eq,F45_2];refine Ret.gapp st g bs28 ai28 rfl rfl (sz_le hsz (by decide)) fun h' v' ex' st' g'=>?_;simp only[vN_eq,xAdd_i,vb_some,hwi,hwk];exact next x (i+1) (k+1) h' ex' v' (by omega) (by omega) (by omega) (by omega) (by rw[da,db,mrg,if_neg cxy,if_neg cyx]) st' g'
   ·have d2:decide (((lb.length:Nat):Int)<=(k:Int))=true:=by simp;omega
    have db:lb.drop k=[]:=List.drop_eq_nil_of_le (by omega);simp only[F45_6,F45_5,F45_4,ucons_cons,la',lb',xLt_i,xGe_i,vb_some,d1,d2,isB_f,isB_t,isB_u,Bool.not_true,Bool.not_false,gd_some',if_true,if_false,Bool.false_eq_true,gd_true,gd_false,xPick_f,xPick_t,bite_t,bite_f,e1,lx,tt_eq,ff_eq,F45_0];refine Ret.gapp st g bs28 ai28 rfl rfl (sz_le hsz (by decide)) fun h' v' ex' st' g'=>?_;simp only[vN_eq,xAdd_i,vb_some,hwi];refine next x (i+1) k h' ex' v' (by omega) (by omega) (by omega) (by omega) ?_ st' g';rw[da,db,mrg];cases hq:la.drop (i+1)with
    |nil=>rw[mrg]
    |cons z zs=>rw[mrg]
  ·have ck:k<lb.length:=by omega
   have d1:decide ((i:Int)<(la.length:Int))=false:=by simp;omega
   have d1':decide (((la.length:Nat):Int)<=(i:Int))=true:=by simp;omega
   have hy:=List.getElem?_eq_getElem ck;generalize lb[k]=y at hy;obtain⟨b2,o2,cs2,f1,f2,f3⟩:=hb.at (k:=.i64) (ns_get hy);have ly:=st.ldS f2 f3;have db:=drop_get hy;have d0:decide ((k:Int)<(lb.length:Int))=true:=by simp;omega
   have d2:decide (((lb.length:Nat):Int)<=(k:Int))=false:=by simp;omega
   have da:la.drop i=[]:=List.drop_eq_nil_of_le (by omega);simp only[F45_6,F45_5,F45_4,F45_3,ucons_cons,la',lb',xLt_i,xGe_i,vb_some,d0,d1,d1',d2,isB_f,isB_t,isB_u,Bool.not_true,Bool.not_false,gd_some',if_true,if_false,Bool.false_eq_true,gd_true,gd_false,xPick_f,xPick_t,bite_t,bite_f,f1,ly,tt_eq,ff_eq,F45_1];refine Ret.gapp st g bs28 ai28 rfl rfl (sz_le hsz (by decide)) fun h' v' ex' st' g'=>?_;simp only[vN_eq,xAdd_i,vb_some,hwk];exact next y i (k+1) h' ex' v' (by omega) (by omega) (by omega) (by omega) (by rw[da,db,mrg,mrg]) st' g'
theorem c45[OkH h](hn:4611686018427387904<=n)(hS:Vw.le S h.cells){av bv:Value}{la lb:List Nat}(ha:SlV S av (ns la))(hb:SlV S bv (ns lb))(hla:la.length<1000000)(hlb:lb.length<1000000):
  Fr h S (F45 n cl av bv h) fun v rows1=>Gl 1 v (mrg la lb).length (ns (mrg la lb)) rows1:=by
 unfold Fr F45;have:=loop45 (n:=n) (cl:=cl) (h0:=h) ha hb hla hlb (la.length+lb.length) n 0 0 [] [] nils h (by omega) (by omega) (by omega) (by omega) (by simp) (Sl.start h hS) (by simpa[ns]using Gl.nil);simpa using this
end
theorem zc112:zcells Try.prog 112=some [.bool false,nils,nils]:=by kernel_rfl
theorem ab112{x:Bool}:abuild Try.prog 112 [(0,.bool x)]=some (.agg ⟨[.bool x,nils,nils]⟩):=by kernel_rfl
theorem ab112'{a b n c n' c':Nat}:abuild Try.prog 112 [(1,.slice (some ⟨a,0,none⟩) n c),(2,.slice (some ⟨b,0,none⟩) n' c')]=some (.agg ⟨[.bool false,.slice (some ⟨a,0,none⟩) n c,.slice (some ⟨b,0,none⟩) n' c']⟩):=by kernel_rfl
theorem Gs.idx{m:OM}{v:Value}{k i:Nat}{kk:IntKind}{cells:List Value}(g:Gs m 1 v k cells)(hi:i<k): ∃b o all,xIdxS 1 v (.int kk i)=some (.pointer (some ⟨b,o,none⟩))/\m b=some (.row .opn 1 all)/\vBlk v=some b/\o<all.length/\all[o]?=cells[i]?/\ ∀x,Gs (m.upd b (.row .opn 1 (all.set o x))) 1 v k (cells.set i x):=by
 rcases g with⟨rfl,_⟩|⟨b,o,cap,all,rfl,hb,rfl,hle,ho,hc1,hc2⟩
 ·omega
 ·rw[Nat.mul_one]at*;refine⟨b,o+i,all,?_,hb,rfl,by omega,?_,fun x=>.inr ⟨b,o,cap,all.set (o+i) x,rfl,OM.upd_self,?_,by rw[List.length_set,Nat.mul_one];exact hle,by rw[Nat.mul_one];exact ho,hc1,hc2⟩⟩
  ·have:=xIdxS_at (sz:=1) (b:=b) (o:=o) (n:=k) (c:=cap) (k:=kk) (i:=(i:Int)) (by omega) (by omega);simpa using this
  ·rw[List.getElem?_take,if_pos hi,List.getElem?_drop]
  ·rw[Nat.mul_one,List.drop_set,if_neg (by omega),Nat.add_sub_cancel_left,List.take_set]
section
variable {n:Nat}{cl:CL}{h h0:PH}{S:Vw}{m:OM}{rows:Rws}
structure Mr(S:Vw)(m:OM)(bm N:Nat)(sv wv:Value)(sets:List (List Int))(F:Nat->Nat->Bool):Prop where
 main:m bm=some (.row .own 1 [sv,.bool false,nils,nils,wv])
 st4:Gs m 4 sv sets.length (sets.flatMap u64s)
 fol: ∃ws,Gs m 1 wv sets.length ws/\ ∀i,i<sets.length-> ∃w,ws[i]?=some w/\SlV S w (ns (srt N (F i)))
 sd:vBlk sv≠some bm
 wd:vBlk wv≠some bm
 sw: ∀b,vBlk sv=some b->vBlk wv≠some b
theorem Mr.congr{bm N:Nat}{sv wv:Value}{sets:List (List Int)}{F G:Nat->Nat->Bool}(k:Mr S m bm N sv wv sets F)(h: ∀i,i<sets.length-> ∀j,j<N->F i j=G i j):Mr S m bm N sv wv sets G:=by
 obtain⟨a,b,⟨ws,c,d⟩,e,f,g⟩:=k;refine⟨a,b,⟨ws,c,fun i hi=>?_⟩,e,f,g⟩;rw[<-srt_congr (h i hi)];exact d i hi
theorem Mr.monoS{S':Vw}{bm N:Nat}{sv wv:Value}{sets:List (List Int)}{F:Nat->Nat->Bool}(k:Mr S m bm N sv wv sets F)(hs:Vw.le S S'):Mr S' m bm N sv wv sets F:=by
 obtain⟨a,b,⟨ws,c,d⟩,e,f,g⟩:=k;exact⟨a,b,⟨ws,c,fun i hi=>let⟨w,q1,q2⟩:=d i hi;⟨w,q1,q2.mono hs⟩⟩,e,f,g⟩
theorem Gs.off{sz k b:Nat}{v:Value}{cells:List Value}{o:AObj}(g:Gs m sz v k cells)(hb:vBlk v≠some b):Gs (m.upd b o) sz v k cells:=g.set hb
theorem loop81{N bm:Nat}{sv wv lv pv:Value}{sets:List (List Int)}{F:Nat->Nat->Bool}{L:Nat->Bool}{P:Nat->Bool}(hn:4611686018427387904<=n)(hN:N<1000000)(hL: ∀i,L i=true->i<sets.length)(hsl:sets.length<=N)(hlv:SlV S lv (ns (srt N L)))(hpv:SlV S pv (ns (srt N P))):
  ∀(k q i:Nat)(S':Vw)(m:OM)(h:PH),(srt N L).length-i<=k->k<q->i<=(srt N L).length->Vw.le S S'->Sl h0 h S' m rows->Mr S' m bm N sv wv sets (fun a b=>F a b||(decide (a∈(srt N L).take i)&&P b))->
  Ret (lp q (F81_2 n cl) [.pointer (some ⟨bm,0,none⟩),lv,pv,.int .i64 i] h) fun v h'=> ∃S' m',Vw.le S S'/\Sl h0 h' S' m' rows/\Mr S' m' bm N sv wv sets (fun a b=>F a b||(L a&&P b)):=by
 intro k
 induction k with
 |zero=>
  intro q i S' m h h1 h2 h3 hS st mk;obtain⟨q,rfl⟩: ∃r,q=r+1:=⟨q-1,by omega⟩;have hi:i=(srt N L).length:=by omega
  subst hi;rw[lp_succ];have hlen:=hlv.len;rw[ns_len]at hlen;have hc0:decide (((srt N L).length:Int)<((srt N L).length:Int))=false:=by simp
  simp only[F81_2,F81_1,ucons_cons,hlen,xLt_i,vb_some,hc0,bite_f];refine Ret.of ⟨S',m,hS,st,mk.congr fun a ha b hb=>?_⟩;rw[List.take_length];have:decide (a∈srt N L)=L a:=by
   rw[Bool.eq_iff_iff,decide_eq_true_eq,mem_srt];exact⟨fun h=>h.2,fun h=>⟨by omega,h⟩⟩
  rw[this]
 |succ k ih=>
  intro q i S' m h h1 h2 h3 hS st mk
  by_cases hi:i<(srt N L).length
  ·obtain⟨q,rfl⟩: ∃r,q=r+1:=⟨q-1,by omega⟩;rw[lp_succ];generalize hLL:lp q (F81_2 n cl)=LL;have hlen:=hlv.len;rw[ns_len]at hlen;have hx:=List.getElem?_eq_getElem hi;generalize(srt N L)[i]=x at hx;have hxm:=mem_srt.1 (List.mem_of_getElem? hx);have hxs:=hL x hxm.2;have hc1:decide ((i:Int)<((srt N L).length:Int))=true:=by simp;omega
   have hlt:(srt N L).length<1000000:=by have:=srt_len (N:=N) (P:=L);omega
   have hw2:IntKind.i64.wrap ((i:Int)+((1:Nat):Int))=((i+1:Nat):Int):=by rw[wrap_in (by omega) (by omega)];omega
   obtain⟨b1,o1,cs1,e1,e2,e3⟩:=(hlv.mono hS).at (k:=.i64) (ns_get hx);have lx:=st.ldS e2 e3;obtain⟨ws,gw,hws⟩:=mk.fol;obtain⟨w,hw1,hw⟩:=hws x hxs;obtain⟨b2,o2,all,f1,f2,f3,f4,f5,f6⟩:=gw.idx (kk:=.i64) hxs;have lw:xLd (.pointer (some ⟨bm,4,none⟩)) h=some wv:=st.ldB mk.main rfl;have lo:xLd (.pointer (some ⟨b2,o2,none⟩)) h=some w:=st.ldB f2 (by rw[f5,hw1]);simp only[F81_2,F81_1,F81_0,ucons_cons,hlen,xLt_i,vb_some,hc1,bite_t,xNil_p,xFld_p,Nat.zero_add,e1,lx,lw,f1,lo];have:=st.ok;refine Ret.lfcall st (c45 (h:=h.fzn) (S:=S') hn st.leS hw (hpv.mono hS) (by have:=srt_len (N:=N) (P:=fun b=>F x b||(decide (x∈(srt N L).take i)&&P b));omega) (by have:=srt_len (N:=N) (P:=P);omega)) fun u h2 rows1 gu st2=>?_;rw[mrg_srt]at gu;obtain⟨S2,le2,st3,hu⟩:=Gl.settle st2 gu;have lw':xLd (.pointer (some ⟨bm,4,none⟩)) h2=some wv:=st3.ldB mk.main rfl;have lx':xLd (.pointer (some ⟨b1,o1,none⟩)) h2=some (.int .i64 (x:Nat)):=st3.ldS (le2 _ _ e2) e3;have hv1:veq wv wv=true:=gw.veq;have hv2:veq (.int .i64 (x:Int)) (.int .i64 (x:Int))=true:=by unfold veq veq1;simp only[kb_self,ieq_eq];simp
   simp only[lw',lx',lchk_t hv1,lchk_t hv2];refine Ret.lst1B st3 f2 rfl f4 hu.one fun h4 st4=>?_;simp only[vN_eq,xAdd_i,vb_some,hw2];have hbm:b2≠bm:=fun e=>mk.wd (by rw[f3,e]);have hsb:vBlk sv≠some b2:=fun e=>mk.sw b2 e f3;have hwl:x<ws.length:=(List.getElem?_eq_some_iff.1 hw1).1;have mk4:Mr S2 (m.upd b2 (.row .opn 1 (all.set o2 u))) bm N sv wv sets (fun a b=>F a b||(decide (a∈(srt N L).take (i+1))&&P b)):=by
    refine⟨by rw[OM.upd_ne (fun e=>hbm e.symm)];exact mk.main,mk.st4.off hsb,⟨ws.set x u,f6 u,fun a ha=>?_⟩,mk.sd,mk.wd,mk.sw⟩;have htk:(srt N L).take (i+1)=(srt N L).take i++[x]:=by rw[List.take_add_one,hx];rfl
    by_cases e:a=x
    ·subst e;refine⟨u,List.getElem?_set_self hwl,?_⟩;have:=hu.slv;rw[srt_congr (Q:=fun b=>F a b||(decide (a∈(srt N L).take (i+1))&&P b)) fun b hb=>?_]at this
     ·exact this
     ·rw[htk];simp;cases F a b<;>cases P b<;>simp
    ·obtain⟨w',q1,q2⟩:=hws a ha;refine⟨w',by rw[List.getElem?_set_ne (fun h=>e h.symm)];exact q1,?_⟩;have:=q2.mono le2;rw[srt_congr (Q:=fun b=>F a b||(decide (a∈(srt N L).take (i+1))&&P b)) fun b hb=>?_]at this
     ·exact this
     ·rw[htk];simp[e]
   have:=ih q (i+1) S2 _ h4 (by omega) (by omega) (by omega) (hS.trans le2) st4 mk4;rw[hLL]at this;exact this
  ·exact ih q i S' m h (by omega) (by omega) h3 hS st mk
theorem c81{N bm:Nat}{sv wv lv pv:Value}{sets:List (List Int)}{F:Nat->Nat->Bool}{L P:Nat->Bool}(hn:4611686018427387904<=n)(hN:N<1000000)(hL: ∀i,L i=true->i<sets.length)(hsl:sets.length<=N)(hlv:SlV S lv (ns (srt N L)))(hpv:SlV S pv (ns (srt N P)))(st:Sl h0 h S m rows)(mk:Mr S m bm N sv wv sets F):
  Ret (F81 n cl (.pointer (some ⟨bm,0,none⟩)) lv pv h) fun v h'=> ∃S' m',Vw.le S S'/\Sl h0 h' S' m' rows/\Mr S' m' bm N sv wv sets (fun a b=>F a b||(L a&&P b)):=by
 unfold F81;have hlt:(srt N L).length<=N:=srt_len;exact loop81 hn hN hL hsl hlv hpv (srt N L).length n 0 S m h (by omega) (by omega) (by omega) (Vw.le.refl _) st (mk.congr fun a _ b _=>by simp)
end
theorem CLV54{n d:Nat}{a b:Value}{h:PH}:CLV n (d+1) 54 [a,b] h=F54 n (CLV n d) a b h:=rfl
structure PrV(S:Vw)(N:Nat)(p:Pt)(fv lv:Value):Prop where
 f:SlV S fv (ns (srt N p.fst))
 l:SlV S lv (ns (srt N p.lst))
theorem PrV.mono{S S':Vw}{N:Nat}{p:Pt}{fv lv:Value}(h:PrV S N p fv lv)(hs:Vw.le S S'):PrV S' N p fv lv:=⟨h.f.mono hs,h.l.mono hs⟩
def Q54(h0:PH)(S:Vw)(rows:Rws)(bm N:Nat)(sets:List (List Int))(F:Nat->Nat->Bool)(p:Pt)(v:Value)(h':PH):Prop:=
 ∃S' m' sv' wv' fv lv,Vw.le S S'/\Sl h0 h' S' m' rows/\Mr S' m' bm N sv' wv' sets F/\v= .agg ⟨[.bool p.null,fv,lv]⟩/\PrV S' N p fv lv
section
variable {n:Nat}{cl:CL}{h h0:PH}{S:Vw}{m:OM}{rows:Rws}
theorem lt_srt{N:Nat}{P:Nat->Bool}(h:N<1000000):(srt N P).length<1000000:=Nat.lt_of_le_of_lt srt_len h
theorem or_null{b c:Bool}:xPick (.bool b) (if b=true then .bool c else undef) ff=some (.bool (b&&c)):=by cases b<;>rfl
theorem or_null'{b c:Bool}:xPick (.bool b) tt (if b=true then undef else .bool c)=some (.bool (b||c)):=by cases b<;>rfl
def Ih54(n:Nat)(cl:CL)(h0:PH)(bm N:Nat)(x:Re):Prop:= ∀(h:PH)(S:Vw)(m:OM)(rows:Rws)(sv wv:Value)(sets:List (List Int))(F:Nat->Nat->Bool)(es:List Value),Sl h0 h S m rows->Mr S m bm N sv wv sets F->(∀i j,F i j=true->i<sets.length)->sets.length+x.sets.length<=N->ReE S x es->
 Ret (cl 54 [.pointer (some ⟨bm,0,none⟩),.agg ⟨es⟩] h) (Q54 h0 S rows bm N (sets++x.sets) (fun i j=>F i j||(x.ev sets.length).fol i j) (x.ev sets.length))
theorem sup_of{F0:Nat->Nat->Bool}{p:Pt}{b0 k:Nat}(hcnt:p.cnt=k)(hin:p.In b0)(hF0: ∀i j,F0 i j=true->i<b0): ∀i j,(F0 i j||p.fol i j)=true->i<k:=by
 intro i j h;rw[Bool.or_eq_true]at h;rcases h with h|h
 ·have:=hF0 i j h;have:=hin.le;omega
 ·have:=(hin.fol i j h).1;omega
theorem step54c{N bm x24 x2 x1 b0 i:Nat}{sv wv fv lv kv:Value}{sets:List (List Int)}{F0:Nat->Nat->Bool}{p:Pt}{c2 es:List Value}{tl:List Value}{ks:List Re}{x:Re}{L:Kt}{Q:Value->PH->Prop}(hn:4611686018427387904<=n)(hN:N<1000000)(hi:i<4611686018427387904)
  (hes:es[5]?=some kv) (hk:KidsV S ks kv) (hx:ks[i]?=some x) (ih:Ih54 n cl h0 bm N x) (hcnt:p.cnt=sets.length) (hin:p.In b0) (hF0: ∀i j,F0 i j=true->i<b0) (hlen:sets.length+x.sets.length<=N)
  (st:Sl h0 h S m ((x24,.row .own 1 [.bool p.null,fv,lv])::(x2,.row .own 1 c2)::(x1,.row .own 1 es)::rows)) (mk:Mr S m bm N sv wv sets (fun i j=>F0 i j||p.fol i j)) (hp:PrV S N p fv lv)
  (next: ∀(h:PH)(S':Vw)(m:OM)(sv wv fv lv:Value),Vw.le S S'->Sl h0 h S' m ((x24,.row .own 1 [.bool (p.cat (x.ev p.cnt)).null,fv,lv])::(x2,.row .own 1 c2)::(x1,.row .own 1 es)::rows)->Mr S' m bm N sv wv (sets++x.sets) (fun i j=>F0 i j||(p.cat (x.ev p.cnt)).fol i j)->PrV S' N (p.cat (x.ev p.cnt)) fv lv->Ret (L [.pointer (some ⟨bm,0,none⟩),.pointer (some ⟨x1,0,none⟩),.pointer (some ⟨x2,0,none⟩),.pointer (some ⟨x24,0,none⟩),.int .i64 ((i+1:Nat):Int)] h) Q):
  Ret (F54_8 n cl (.pointer (some ⟨x1,0,none⟩)) (.int .i64 i) (.pointer (some ⟨bm,0,none⟩)) (.pointer (some ⟨x24,0,none⟩)) L (.pointer (some ⟨x2,0,none⟩)) h) Q:=by
 have l5:xLd (.pointer (some ⟨x1,5,none⟩)) h=some kv:=st.ld (.tail _ (.tail _ (.head _))) hes;obtain⟨b,o,cs,xs,e1,e2,e3,e4,e5⟩:=hk.at hx;have ld:=st.ldSA e2 e3 e4;have hw2:IntKind.i64.wrap ((i:Int)+((1:Nat):Int))=((i+1:Nat):Int):=by rw[wrap_in (by omega) (by omega)];omega
 have hsup:=sup_of hcnt hin hF0;simp only[F54_8,xFld_p,Nat.zero_add,vb_some,l5,e1,ld];rw[hcnt]at next;refine Ret.hb (ih h S m _ sv wv sets _ xs st mk hsup hlen e5) fun v1 h1 ⟨S1,m1,sv1,wv1,f1,l1,le1,st1,mk1,hv1,hp1⟩=>?_;subst hv1;refine Ret.lalloc st1 zc112 fun h2 x37 st2=>?_;have hone:oneCells [.bool (x.ev sets.length).null,f1,l1]=true:=by
  unfold oneCells;simp only[List.all_cons,List.all_nil,hp1.f.one,hp1.l.one];rfl
 refine Ret.lstA st2 0 rfl rfl rfl (by simp) hone fun h3 st3=>?_;have st3:Sl h0 h3 S1 m1 ((x37,.row .own 1 [.bool (x.ev sets.length).null,f1,l1])::(x24,.row .own 1 [.bool p.null,fv,lv])::(x2,.row .own 1 c2)::(x1,.row .own 1 es)::rows):=st3;have a1:xLd (.pointer (some ⟨x24,2,none⟩)) h3=some lv:=st3.ld (.tail _ (.head _)) rfl;have a2:xLd (.pointer (some ⟨x37,1,none⟩)) h3=some f1:=st3.ld (.head _) rfl;simp only[xFld_p,Nat.zero_add,vb_some,a1,a2];have hsl:(sets++x.sets).length<=N:=by rw[List.length_append];exact hlen
 refine Ret.hb (c81 hn hN (L:=p.lst) (P:=(x.ev sets.length).fst) (fun i hi=>by have:=hin.lst i hi;rw[List.length_append];omega) hsl (hp.l.mono le1) hp1.f st3 mk1) fun v4 h4 ⟨S4,m4,le4,st4,mk4⟩=>?_;have hp4:=hp1.mono le4;have hpp:=hp.mono (le1.trans le4);have mk5:Mr S4 m4 bm N sv1 wv1 (sets++x.sets) (fun i j=>F0 i j||(p.cat (x.ev sets.length)).fol i j):=mk4.congr fun a _ b _=>by
  show(((F0 a b||p.fol a b)||(x.ev sets.length).fol a b)||(p.lst a&&(x.ev sets.length).fst b))=(F0 a b||((p.fol a b||(x.ev sets.length).fol a b)||(p.lst a&&(x.ev sets.length).fst b)))
  simp[Bool.or_assoc]
 have fin: ∀(S':Vw)(h:PH)(fv' lv':Value),Vw.le S4 S'->Sl h0 h S' m4 ((x37,.row .own 1 [.bool (x.ev sets.length).null,f1,l1])::(x24,.row .own 1 [.bool p.null,fv',lv'])::(x2,.row .own 1 c2)::(x1,.row .own 1 es)::rows)->PrV S' N (p.cat (x.ev sets.length)) fv' lv'->
   Ret (F54_0 n cl (.pointer (some ⟨x24,0,none⟩)) (.pointer (some ⟨x37,0,none⟩)) (.int .i64 i) L (.pointer (some ⟨bm,0,none⟩)) (.pointer (some ⟨x1,0,none⟩)) (.pointer (some ⟨x2,0,none⟩)) h) Q:=by
  intro S' h fv' lv' le st hp;have b1:xLd (.pointer (some ⟨x24,0,none⟩)) h=some (.bool p.null):=st.ld (.tail _ (.head _)) rfl;have b2:xLd (.pointer (some ⟨x37,0,none⟩)) h=some (.bool (x.ev sets.length).null):=st.ld (.head _) rfl;have g2:gd p.null (xLd (if p.null=true then .pointer (some ⟨x37,0,none⟩)else undef) h)=some (if p.null=true then .bool (x.ev sets.length).null else undef):=by
   cases p.null with
   |true=>simp[b2]
   |false=>rfl
  simp only[F54_0,xFld_p,Nat.zero_add,vb_some,b1,isB_t,gd_some',g2,or_null];refine Ret.lst1 st 1 rfl rfl (by simp) rfl fun h' st'=>?_;have st':Sl h0 h' S' m4 ((x37,.row .own 1 [.bool (x.ev sets.length).null,f1,l1])::(x24,.row .own 1 [.bool (p.cat (x.ev sets.length)).null,fv',lv'])::(x2,.row .own 1 c2)::(x1,.row .own 1 es)::rows):=st';simp only[vN_eq,xAdd_i,vb_some,hw2];exact next h' S' m4 sv1 wv1 fv' lv' ((le1.trans le4).trans le) (st'.drop (List.sublist_cons_self _ _)) (mk5.monoS le) hp
 have second: ∀(S':Vw)(h:PH)(fv':Value),Vw.le S4 S'->Sl h0 h S' m4 ((x37,.row .own 1 [.bool (x.ev sets.length).null,f1,l1])::(x24,.row .own 1 [.bool p.null,fv',lv])::(x2,.row .own 1 c2)::(x1,.row .own 1 es)::rows)->SlV S' fv' (ns (srt N (p.cat (x.ev sets.length)).fst))->
   Ret (F54_4 n cl (.pointer (some ⟨x37,0,none⟩)) (.pointer (some ⟨x24,0,none⟩)) (.pointer (some ⟨bm,0,none⟩)) (.pointer (some ⟨x1,0,none⟩)) (.pointer (some ⟨x2,0,none⟩)) (.int .i64 i) h (F54_3 n cl L)) Q:=by
  intro S' h fv' le st hf;have b2:xLd (.pointer (some ⟨x37,0,none⟩)) h=some (.bool (x.ev sets.length).null):=st.ld (.head _) rfl;simp only[F54_4,xFld_p,Nat.zero_add,vb_some,b2];have c3:xLd (.pointer (some ⟨x37,2,none⟩)) h=some l1:=st.ld (.head _) rfl;cases hkn:(x.ev sets.length).null with
  |false=>
   simp only[bite_f,F54_2,xFld_p,Nat.zero_add,vb_some,c3];refine Ret.lst1 st 1 rfl rfl (by simp) hp4.l.one fun h' st'=>?_;simp only[F54_3,ucons_cons];refine fin S' h' fv' l1 le st' ⟨hf,?_⟩;rw[srt_congr (Q:=(x.ev sets.length).lst) fun i hi=>by simp[Pt.cat,hkn]];exact hp4.l.mono le
  |true=>
   have c4:xLd (.pointer (some ⟨x24,2,none⟩)) h=some lv:=st.ld (.tail _ (.head _)) rfl;simp only[bite_t,F54_1,xFld_p,Nat.zero_add,vb_some,c3,c4];have:=st.ok;refine Ret.lfcall st (c45 (h:=h.fzn) (S:=S') hn st.leS (hpp.l.mono le) (hp4.l.mono le) (lt_srt hN) (lt_srt hN)) fun u h6 rows1 gu st6=>?_;rw[mrg_srt]at gu;obtain⟨S6,le6,st7,hu⟩:=Gl.settle st6 gu;refine Ret.lst1 st7 1 rfl rfl (by simp) hu.one fun h' st'=>?_;simp only[F54_3,ucons_cons];refine fin S6 h' fv' u (le.trans le6) st' ⟨hf.mono le6,?_⟩;rw[srt_congr (Q:=fun i=>p.lst i||(x.ev sets.length).lst i) fun i hi=>by simp[Pt.cat,hkn,Bool.or_comm]];exact hu.slv
 have b1:xLd (.pointer (some ⟨x24,0,none⟩)) h4=some (.bool p.null):=st4.ld (.tail _ (.head _)) rfl;simp only[jn_eq,F54_7,xFld_p,Nat.zero_add,vb_some,b1];cases hpn:p.null with
 |false=>
  simp only[bite_f,F54_6,ucons_cons,jn_eq];refine second S4 h4 fv (Vw.le.refl _) st4 ?_;rw[srt_congr (Q:=p.fst) fun i hi=>by simp[Pt.cat,hpn]];exact hpp.f
 |true=>
  have c1:xLd (.pointer (some ⟨x24,1,none⟩)) h4=some fv:=st4.ld (.tail _ (.head _)) rfl;have c2:xLd (.pointer (some ⟨x37,1,none⟩)) h4=some f1:=st4.ld (.head _) rfl;simp only[bite_t,F54_5,xFld_p,Nat.zero_add,vb_some,c1,c2];have:=st4.ok;refine Ret.lfcall st4 (c45 (h:=h4.fzn) (S:=S4) hn st4.leS hpp.f hp4.f (lt_srt hN) (lt_srt hN)) fun u h6 rows1 gu st6=>?_;rw[mrg_srt]at gu;obtain⟨S6,le6,st7,hu⟩:=Gl.settle st6 gu;refine Ret.lst1 st7 1 rfl rfl (by simp) hu.one fun h' st'=>?_;simp only[F54_6,ucons_cons,jn_eq];refine second S6 h' u le6 st' ?_;rw[srt_congr (Q:=fun i=>p.fst i||(x.ev sets.length).fst i) fun i hi=>by simp[Pt.cat,hpn]];exact hu.slv
theorem step54a{N bm x24 x2 x1 b0 i:Nat}{sv wv fv lv kv:Value}{sets:List (List Int)}{F0:Nat->Nat->Bool}{p:Pt}{c2 es:List Value}{ks:List Re}{x:Re}{L:Kt}{Q:Value->PH->Prop}(hn:4611686018427387904<=n)(hN:N<1000000)(hi:i<4611686018427387904)
  (hes:es[5]?=some kv) (hk:KidsV S ks kv) (hx:ks[i]?=some x) (ih:Ih54 n cl h0 bm N x) (hcnt:p.cnt=sets.length) (hin:p.In b0) (hF0: ∀i j,F0 i j=true->i<b0) (hlen:sets.length+x.sets.length<=N)
  (st:Sl h0 h S m ((x24,.row .own 1 [.bool p.null,fv,lv])::(x2,.row .own 1 c2)::(x1,.row .own 1 es)::rows)) (mk:Mr S m bm N sv wv sets (fun i j=>F0 i j||p.fol i j)) (hp:PrV S N p fv lv)
  (next: ∀(h:PH)(S':Vw)(m:OM)(sv wv fv lv:Value),Vw.le S S'->Sl h0 h S' m ((x24,.row .own 1 [.bool (p.alt (x.ev p.cnt)).null,fv,lv])::(x2,.row .own 1 c2)::(x1,.row .own 1 es)::rows)->Mr S' m bm N sv wv (sets++x.sets) (fun i j=>F0 i j||(p.alt (x.ev p.cnt)).fol i j)->PrV S' N (p.alt (x.ev p.cnt)) fv lv->Ret (L [.pointer (some ⟨bm,0,none⟩),.pointer (some ⟨x1,0,none⟩),.pointer (some ⟨x2,0,none⟩),.pointer (some ⟨x24,0,none⟩),.int .i64 ((i+1:Nat):Int)] h) Q):
  Ret (F54_13 n cl (.pointer (some ⟨x1,0,none⟩)) (.int .i64 i) (.pointer (some ⟨bm,0,none⟩)) (.pointer (some ⟨x24,0,none⟩)) L (.pointer (some ⟨x2,0,none⟩)) h) Q:=by
 have l5:xLd (.pointer (some ⟨x1,5,none⟩)) h=some kv:=st.ld (.tail _ (.tail _ (.head _))) hes;obtain⟨b,o,cs,xs,e1,e2,e3,e4,e5⟩:=hk.at hx;have ld:=st.ldSA e2 e3 e4;have hw2:IntKind.i64.wrap ((i:Int)+((1:Nat):Int))=((i+1:Nat):Int):=by rw[wrap_in (by omega) (by omega)];omega
 have hsup:=sup_of hcnt hin hF0;simp only[F54_13,xFld_p,Nat.zero_add,vb_some,l5,e1,ld];rw[hcnt]at next;refine Ret.hb (ih h S m _ sv wv sets _ xs st mk hsup hlen e5) fun v1 h1 ⟨S1,m1,sv1,wv1,f1,l1,le1,st1,mk1,hv1,hp1⟩=>?_;subst hv1;refine Ret.lalloc st1 zc112 fun h2 x37 st2=>?_;have hone:oneCells [.bool (x.ev sets.length).null,f1,l1]=true:=by
  unfold oneCells;simp only[List.all_cons,List.all_nil,hp1.f.one,hp1.l.one];rfl
 refine Ret.lstA st2 0 rfl rfl rfl (by simp) hone fun h3 st3=>?_;have st3:Sl h0 h3 S1 m1 ((x37,.row .own 1 [.bool (x.ev sets.length).null,f1,l1])::(x24,.row .own 1 [.bool p.null,fv,lv])::(x2,.row .own 1 c2)::(x1,.row .own 1 es)::rows):=st3;have a1:xLd (.pointer (some ⟨x24,1,none⟩)) h3=some fv:=st3.ld (.tail _ (.head _)) rfl;have a2:xLd (.pointer (some ⟨x37,1,none⟩)) h3=some f1:=st3.ld (.head _) rfl;have hpp:=hp.mono le1;have mk5:Mr S1 m1 bm N sv1 wv1 (sets++x.sets) (fun i j=>F0 i j||(p.alt (x.ev sets.length)).fol i j):=mk1.congr fun a _ b _=>by
  show((F0 a b||p.fol a b)||(x.ev sets.length).fol a b)=(F0 a b||(p.fol a b||(x.ev sets.length).fol a b))
  simp[Bool.or_assoc]
 simp only[xFld_p,Nat.zero_add,vb_some,a1,a2];have:=st3.ok;refine Ret.lfcall st3 (c45 (h:=h3.fzn) (S:=S1) hn st3.leS hpp.f hp1.f (lt_srt hN) (lt_srt hN)) fun u h6 rows1 gu st6=>?_;rw[mrg_srt]at gu;obtain⟨S6,le6,st7,hu⟩:=Gl.settle st6 gu;refine Ret.lst1 st7 1 rfl rfl (by simp) hu.one fun h8 st8=>?_;have st8:Sl h0 h8 S6 m1 ((x37,.row .own 1 [.bool (x.ev sets.length).null,f1,l1])::(x24,.row .own 1 [.bool p.null,u,lv])::(x2,.row .own 1 c2)::(x1,.row .own 1 es)::rows):=st8;have a3:xLd (.pointer (some ⟨x24,2,none⟩)) h8=some lv:=st8.ld (.tail _ (.head _)) rfl;have a4:xLd (.pointer (some ⟨x37,2,none⟩)) h8=some l1:=st8.ld (.head _) rfl;simp only[a3,a4,vb_some];have:=st8.ok;refine Ret.lfcall st8 (c45 (h:=h8.fzn) (S:=S6) hn st8.leS (hpp.l.mono le6) (hp1.l.mono le6) (lt_srt hN) (lt_srt hN)) fun w h9 rows2 gw st9=>?_;rw[mrg_srt]at gw;obtain⟨S9,le9,st10,hw⟩:=Gl.settle st9 gw;refine Ret.lst1 st10 1 rfl rfl (by simp) hw.one fun h11 st11=>?_;have st11:Sl h0 h11 S9 m1 ((x37,.row .own 1 [.bool (x.ev sets.length).null,f1,l1])::(x24,.row .own 1 [.bool p.null,u,w])::(x2,.row .own 1 c2)::(x1,.row .own 1 es)::rows):=st11;have b1:xLd (.pointer (some ⟨x24,0,none⟩)) h11=some (.bool p.null):=st11.ld (.tail _ (.head _)) rfl;have b2:xLd (.pointer (some ⟨x37,0,none⟩)) h11=some (.bool (x.ev sets.length).null):=st11.ld (.head _) rfl;have g2:gd (!p.null) (xLd (if(!p.null)=true then .pointer (some ⟨x37,0,none⟩)else undef) h11)=some (if p.null=true then undef else .bool (x.ev sets.length).null):=by
  cases p.null with
  |true=>rfl
  |false=>simp[b2]
 simp only[b1,vb_some,isB_f,gd_some',g2,or_null'];refine Ret.lst1 st11 1 rfl rfl (by simp) rfl fun h12 st12=>?_;have st12:Sl h0 h12 S9 m1 ((x37,.row .own 1 [.bool (x.ev sets.length).null,f1,l1])::(x24,.row .own 1 [.bool (p.alt (x.ev sets.length)).null,u,w])::(x2,.row .own 1 c2)::(x1,.row .own 1 es)::rows):=st12;simp only[vN_eq,xAdd_i,vb_some,hw2];exact next h12 S9 m1 sv1 wv1 u w ((le1.trans le6).trans le9) (st12.drop (List.sublist_cons_self _ _)) (mk5.monoS (le6.trans le9)) ⟨(hu.slv).mono le9,hw.slv⟩
end
section
variable {n:Nat}{cl:CL}{h h0:PH}{S:Vw}{m:OM}{rows:Rws}
theorem Q54.monoS{S S':Vw}{bm N:Nat}{sets:List (List Int)}{F:Nat->Nat->Bool}{p:Pt}{v:Value}(hs:Vw.le S S')(q:Q54 h0 S' rows bm N sets F p v h):Q54 h0 S rows bm N sets F p v h:=by
 obtain⟨S2,m',sv,wv,fv,lv,le,q⟩:=q;exact⟨S2,m',sv,wv,fv,lv,hs.trans le,q⟩
theorem loop54c{N bm x24 x2 x1 b0:Nat}{kv:Value}{F0:Nat->Nat->Bool}{c2 es:List Value}{ks:List Re}{pE:Pt}{sE:List (List Int)}(hn:4611686018427387904<=n)(hN:N<1000000)(hkl:ks.length<4611686018427387904)(h2l:c2.length=3)(hes:es[5]?=some kv)(hE:sE.length<=N)(hF0: ∀i j,F0 i j=true->i<b0)(ih: ∀x∈ks,Ih54 n cl h0 bm N x):
  ∀(k q i:Nat)(S:Vw)(m:OM)(h:PH)(p:Pt)(fv lv sv wv:Value)(sets:List (List Int)),ks.length-i<=k->k<q->i<=ks.length->KidsV S ks kv->pE=evCat (ks.drop i) p->sE=sets++reSets (ks.drop i)->p.cnt=sets.length->p.In b0->
   Sl h0 h S m ((x24,.row .own 1 [.bool p.null,fv,lv])::(x2,.row .own 1 c2)::(x1,.row .own 1 es)::rows)->Mr S m bm N sv wv sets (fun i j=>F0 i j||p.fol i j)->PrV S N p fv lv->
   Ret (lp q (F54_11 n cl) [.pointer (some ⟨bm,0,none⟩),.pointer (some ⟨x1,0,none⟩),.pointer (some ⟨x2,0,none⟩),.pointer (some ⟨x24,0,none⟩),.int .i64 i] h) (Q54 h0 S rows bm N sE (fun i j=>F0 i j||pE.fol i j) pE):=by
 intro k
 induction k with
 |zero=>
  intro q i S m h p fv lv sv wv sets h1 h2 h3 hk hp hs hcnt hin st mk hpv;obtain⟨q,rfl⟩: ∃r,q=r+1:=⟨q-1,by omega⟩;have hi:i=ks.length:=by omega
  subst hi;rw[List.drop_length]at hp hs;have hp:pE=p:=hp;have hs:sE=sets:=by rw[hs];simp[reSets]
  subst hp;subst hs;rw[lp_succ];have l5:xLd (.pointer (some ⟨x1,5,none⟩)) h=some kv:=st.ld (.tail _ (.tail _ (.head _))) hes;have hlen:=hk.len;have hc0:decide ((ks.length:Int)<(ks.length:Int))=false:=by simp
  have la:xLdA 3 (.pointer (some ⟨x24,0,none⟩)) h=some (.agg ⟨[.bool pE.null,fv,lv]⟩):=st.ldA (.head _) rfl (by simp);simp only[F54_11,F54_10,ucons_cons,xFld_p,Nat.zero_add,vb_some,l5,hlen,xLt_i,hc0,bite_f,F54_9,la];have hone:oneCells [.bool pE.null,fv,lv]=true:=by
   unfold oneCells;simp only[List.all_cons,List.all_nil,hpv.f.one,hpv.l.one];rfl
  refine Ret.lstA st 1 rfl rfl rfl (by rw[h2l];decide) hone fun h4 st4=>?_;rw[setsL_all (by rw[h2l];rfl)]at st4;have st4:Sl h0 h4 S m ((x24,.row .own 1 [.bool pE.null,fv,lv])::(x2,.row .own 1 [.bool pE.null,fv,lv])::(x1,.row .own 1 es)::rows):=st4;have lb:xLdA 3 (.pointer (some ⟨x2,0,none⟩)) h4=some (.agg ⟨[.bool pE.null,fv,lv]⟩):=st4.ldA (.tail _ (.head _)) rfl (by simp);simp only[lb,vb_some];exact Ret.of ⟨S,m,sv,wv,fv,lv,Vw.le.refl _,st4.drop (.cons _ (.cons _ (.cons _ (List.Sublist.refl _)))),mk,rfl,hpv⟩
 |succ k ihk=>
  intro q i S m h p fv lv sv wv sets h1 h2 h3 hk hp hs hcnt hin st mk hpv
  by_cases hi:i<ks.length
  ·obtain⟨q,rfl⟩: ∃r,q=r+1:=⟨q-1,by omega⟩;rw[lp_succ];generalize hL:lp q (F54_11 n cl)=LL;have hx:=List.getElem?_eq_getElem hi;have hd:ks.drop i=ks[i]::ks.drop (i+1):=List.drop_eq_getElem_cons hi;generalize ks[i]=x at hx hd;have hmem:=List.mem_of_getElem? hx;rw[hd]at hp hs;have hs':sE=(sets++x.sets)++reSets (ks.drop (i+1)):=by rw[hs];simp[reSets]
   have hlen:sets.length+x.sets.length<=N:=by
    rw[hs']at hE;simp only[List.length_append]at hE;omega
   have l5:xLd (.pointer (some ⟨x1,5,none⟩)) h=some kv:=st.ld (.tail _ (.tail _ (.head _))) hes;have hkl':=hk.len;have hc1:decide ((i:Int)<(ks.length:Int))=true:=by simp;omega
   simp only[F54_11,F54_10,ucons_cons,xFld_p,Nat.zero_add,vb_some,l5,hkl',xLt_i,hc1,bite_t];refine step54c (b0:=b0) (tl:=[]) hn hN (by omega) hes hk hx (ih x hmem) hcnt hin hF0 hlen st mk hpv fun h' S' m' sv' wv' fv' lv' le st' mk' hpv'=>?_;have hc3:(p.cat (x.ev p.cnt)).cnt=(sets++x.sets).length:=by
    show(x.ev p.cnt).cnt=_
    rw[Re.cnt,hcnt,List.length_append]
   have:=ihk q (i+1) S' m' h' (p.cat (x.ev p.cnt)) fv' lv' sv' wv' (sets++x.sets) (by omega) (by omega) (by omega) (by
    rcases hk with hk|⟨b,o,c,cs,q1,q2,q3,q4,q5⟩
    ·exact .inl hk
    ·exact .inr ⟨b,o,c,cs,q1,q2,le _ _ q3,q4,KidsC.mono le q5⟩) hp hs' hc3 (hin.cat (Re.inn x _)) st' mk' hpv'
   rw[hL]at this;exact Ret.mono this fun v h hq=>hq.monoS le
  ·exact ihk q i S m h p fv lv sv wv sets (by omega) (by omega) h3 hk hp hs hcnt hin st mk hpv
theorem loop54a{N bm x24 x2 x1 b0:Nat}{kv:Value}{F0:Nat->Nat->Bool}{c2 es:List Value}{ks:List Re}{pE:Pt}{sE:List (List Int)}(hn:4611686018427387904<=n)(hN:N<1000000)(hkl:ks.length<4611686018427387904)(h2l:c2.length=3)(hes:es[5]?=some kv)(hE:sE.length<=N)(hF0: ∀i j,F0 i j=true->i<b0)(ih: ∀x∈ks,Ih54 n cl h0 bm N x):
  ∀(k q i:Nat)(S:Vw)(m:OM)(h:PH)(p:Pt)(fv lv sv wv:Value)(sets:List (List Int)),ks.length-i<=k->k<q->i<=ks.length->KidsV S ks kv->pE=evAlt (ks.drop i) p->sE=sets++reSets (ks.drop i)->p.cnt=sets.length->p.In b0->
   Sl h0 h S m ((x24,.row .own 1 [.bool p.null,fv,lv])::(x2,.row .own 1 c2)::(x1,.row .own 1 es)::rows)->Mr S m bm N sv wv sets (fun i j=>F0 i j||p.fol i j)->PrV S N p fv lv->
   Ret (lp q (F54_16 n cl) [.pointer (some ⟨bm,0,none⟩),.pointer (some ⟨x1,0,none⟩),.pointer (some ⟨x2,0,none⟩),.pointer (some ⟨x24,0,none⟩),.int .i64 i] h) (Q54 h0 S rows bm N sE (fun i j=>F0 i j||pE.fol i j) pE):=by
 intro k
 induction k with
 |zero=>
  intro q i S m h p fv lv sv wv sets h1 h2 h3 hk hp hs hcnt hin st mk hpv;obtain⟨q,rfl⟩: ∃r,q=r+1:=⟨q-1,by omega⟩;have hi:i=ks.length:=by omega
  subst hi;rw[List.drop_length]at hp hs;have hp:pE=p:=hp;have hs:sE=sets:=by rw[hs];simp[reSets]
  subst hp;subst hs;rw[lp_succ];have l5:xLd (.pointer (some ⟨x1,5,none⟩)) h=some kv:=st.ld (.tail _ (.tail _ (.head _))) hes;have hlen:=hk.len;have hc0:decide ((ks.length:Int)<(ks.length:Int))=false:=by simp
  have la:xLdA 3 (.pointer (some ⟨x24,0,none⟩)) h=some (.agg ⟨[.bool pE.null,fv,lv]⟩):=st.ldA (.head _) rfl (by simp);simp only[F54_16,F54_15,ucons_cons,xFld_p,Nat.zero_add,vb_some,l5,hlen,xLt_i,hc0,bite_f,F54_14,la];have hone:oneCells [.bool pE.null,fv,lv]=true:=by
   unfold oneCells;simp only[List.all_cons,List.all_nil,hpv.f.one,hpv.l.one];rfl
  refine Ret.lstA st 1 rfl rfl rfl (by rw[h2l];decide) hone fun h4 st4=>?_;rw[setsL_all (by rw[h2l];rfl)]at st4;have st4:Sl h0 h4 S m ((x24,.row .own 1 [.bool pE.null,fv,lv])::(x2,.row .own 1 [.bool pE.null,fv,lv])::(x1,.row .own 1 es)::rows):=st4;have lb:xLdA 3 (.pointer (some ⟨x2,0,none⟩)) h4=some (.agg ⟨[.bool pE.null,fv,lv]⟩):=st4.ldA (.tail _ (.head _)) rfl (by simp);simp only[lb,vb_some];exact Ret.of ⟨S,m,sv,wv,fv,lv,Vw.le.refl _,st4.drop (.cons _ (.cons _ (.cons _ (List.Sublist.refl _)))),mk,rfl,hpv⟩
 |succ k ihk=>
  intro q i S m h p fv lv sv wv sets h1 h2 h3 hk hp hs hcnt hin st mk hpv
  by_cases hi:i<ks.length
  ·obtain⟨q,rfl⟩: ∃r,q=r+1:=⟨q-1,by omega⟩;rw[lp_succ];generalize hL:lp q (F54_16 n cl)=LL;have hx:=List.getElem?_eq_getElem hi;have hd:ks.drop i=ks[i]::ks.drop (i+1):=List.drop_eq_getElem_cons hi;generalize ks[i]=x at hx hd;have hmem:=List.mem_of_getElem? hx;rw[hd]at hp hs;have hs':sE=(sets++x.sets)++reSets (ks.drop (i+1)):=by rw[hs];simp[reSets]
   have hlen:sets.length+x.sets.length<=N:=by
    rw[hs']at hE;simp only[List.length_append]at hE;omega
   have l5:xLd (.pointer (some ⟨x1,5,none⟩)) h=some kv:=st.ld (.tail _ (.tail _ (.head _))) hes;have hkl':=hk.len;have hc1:decide ((i:Int)<(ks.length:Int))=true:=by simp;omega
   simp only[F54_16,F54_15,ucons_cons,xFld_p,Nat.zero_add,vb_some,l5,hkl',xLt_i,hc1,bite_t];refine step54a (b0:=b0) hn hN (by omega) hes hk hx (ih x hmem) hcnt hin hF0 hlen st mk hpv fun h' S' m' sv' wv' fv' lv' le st' mk' hpv'=>?_;have hc3:(p.alt (x.ev p.cnt)).cnt=(sets++x.sets).length:=by
    show(x.ev p.cnt).cnt=_
    rw[Re.cnt,hcnt,List.length_append]
   have:=ihk q (i+1) S' m' h' (p.alt (x.ev p.cnt)) fv' lv' sv' wv' (sets++x.sets) (by omega) (by omega) (by omega) (by
    rcases hk with hk|⟨b,o,c,cs,q1,q2,q3,q4,q5⟩
    ·exact .inl hk
    ·exact .inr ⟨b,o,c,cs,q1,q2,le _ _ q3,q4,KidsC.mono le q5⟩) hp hs' hc3 (hin.alt (Re.inn x _)) st' mk' hpv'
   rw[hL]at this;exact Ret.mono this fun v h hq=>hq.monoS le
  ·exact ihk q i S m h p fv lv sv wv sets (by omega) (by omega) h3 hk hp hs hcnt hin st mk hpv
theorem unitPrV{S:Vw}{N:Nat}{p:Pt}(hf: ∀i,p.fst i=false)(hl: ∀i,p.lst i=false):PrV S N p nils nils:=by
 have e: ∀P:Nat->Bool,(∀i,P i=false)->srt N P=[]:=fun P h=>by
  unfold srt;rw[List.filter_eq_nil_iff];intro i _;simp[h i]
 exact⟨by rw[e _ hf];exact .inl ⟨rfl,rfl⟩,by rw[e _ hl];exact .inl ⟨rfl,rfl⟩⟩
theorem srt_one{N b:Nat}(h:b<N):srt N (fun i=>decide (i=b))=[b]:=by
 refine rising_eq (srt_sorted _ _) (List.pairwise_singleton _ _) fun i=>?_;rw[mem_srt,decide_eq_true_eq,List.mem_singleton];constructor
 ·exact fun h=>h.2
 ·rintro rfl;exact⟨h,rfl⟩
theorem Mr.setsUp{bm N:Nat}{sv wv sv':Value}{sets:List (List Int)}{F:Nat->Nat->Bool}{m1:OM}{s:List Int}(k:Mr S m bm N sv wv sets F)(g:Grew S m m1 4 sv sv' (sets.length+1) (sets.flatMap u64s++u64s s)):
  ∃ws,Gs (m1.upd bm (.row .own 1 [sv',.bool false,nils,nils,wv])) 1 wv sets.length ws/\(∀i,i<sets.length-> ∃w,ws[i]?=some w/\SlV S w (ns (srt N (F i))))/\Gs (m1.upd bm (.row .own 1 [sv',.bool false,nils,nils,wv])) 4 sv' (sets++[s]).length ((sets++[s]).flatMap u64s)/\vBlk sv'≠some bm/\(∀b,vBlk sv'=some b->vBlk wv≠some b):=by
 obtain⟨a,b,⟨ws,c,d⟩,e,f,hsw⟩:=k;have k1:=g.keep _ _ a e;have hw: ∀b,vBlk wv=some b->vBlk sv≠some b:=fun b hb hs=>hsw b hs hb;have e1:(sets++[s]).length=sets.length+1:=by simp
 have e2:(sets++[s]).flatMap u64s=sets.flatMap u64s++u64s s:=by simp
 refine⟨ws,?_,d,?_,k1.2,fun b hb hwb=>?_⟩
 ·refine c.mono fun b o hb ho=>?_;rw[OM.upd_ne (fun h=>f (by rw[<-h];exact hb))];exact(g.keep b o ho (hw b hb)).1
 ·rw[e1,e2];exact g.gs.set k1.2
 ·obtain⟨o,ho⟩:=c.has hwb;exact(g.keep b o ho (hw b hwb)).2 hb
end
section
variable {n:Nat}{cl:CL}{h h0:PH}{S:Vw}{m:OM}{rows:Rws}
theorem c54p{N bm x1 x2:Nat}{sv wv:Value}{sets:List (List Int)}{F:Nat->Nat->Bool}{op:Int}{s:List Int}{kv:Value}{c2:List Value}(hN:N<1000000)(h2l:c2.length=3)(hs:s.length=4)(hle:sets.length+1<=N)(hsup: ∀i j,F i j=true->i<sets.length)
  (st:Sl h0 h S m ((x2,.row .own 1 c2)::(x1,.row .own 1 (.int .i64 op::(u64s s++[kv])))::rows)) (mk:Mr S m bm N sv wv sets F):
  Ret (F54_35 n cl (.pointer (some ⟨bm,0,none⟩)) (.pointer (some ⟨x1,0,none⟩)) (.pointer (some ⟨x2,0,none⟩)) h) (Q54 h0 S rows bm N (sets++[s]) F (Pt.one sets.length)):=by
 obtain⟨s0,s1,s2,s3,rfl⟩: ∃a b c d,s=[a,b,c,d]:=by
  match s,hs with
  | [a,b,c,d],_=>exact⟨a,b,c,d,rfl⟩
 have a1:xLd (.pointer (some ⟨bm,0,none⟩)) h=some sv:=st.ldB mk.main rfl;have a2:=mk.st4.len;have la:xLdA 4 (.pointer (some ⟨x1,1,none⟩)) h=some (.agg ⟨[.int .u64 s0,.int .u64 s1,.int .u64 s2,.int .u64 s3]⟩):=st.ldA (.tail _ (.head _)) rfl (by simp[u64s]);have hsz:(2*(sets.length+1)+512)*32<=281474976710656:=sz_le (c:=1000000) (by omega) (by decide);have hsz':(2*(sets.length+1)+512)*24<=281474976710656:=sz_le (c:=1000000) (by omega) (by decide);simp only[F54_35,xNil_p,xFld_p,Nat.zero_add,vb_some,a1,a2,la];refine Ret.lbs st bs41 fun h3 x3 st3=>?_;rw[ai41];have hx:=st3.ptail (n:=1) (sz:=4) (c:=1) (.head _) rfl;refine Ret.lappB st3 mk.st4 hx rfl (by omega) rfl hsz fun h4 m4 sv' st4 gr=>?_;have hmain:=(gr.keep _ _ mk.main mk.sd).1;refine Ret.lst1B st4 hmain rfl (by simp) gr.gs.one fun h5 st5=>?_;obtain⟨ws,gw,hws,gsv,hsd,hsw⟩:=mk.setsUp (s:=[s0,s1,s2,s3]) gr;have st5:Sl h0 h5 S (m4.upd bm (.row .own 1 [sv',.bool false,nils,nils,wv])) ((x3,.row .own 4 [.int .u64 s0,.int .u64 s1,.int .u64 s2,.int .u64 s3])::(x2,.row .own 1 c2)::(x1,.row .own 1 (.int .i64 op::(u64s [s0,s1,s2,s3]++[kv])))::rows):=st5;have b1:xLd (.pointer (some ⟨bm,4,none⟩)) h5=some wv:=st5.ldB OM.upd_self rfl;simp only[b1,vb_some];refine Ret.lbs st5 (bs27 rfl) fun h6 x6 st6=>?_;rw[ai27];have hx:=st6.ptail (n:=1) (sz:=1) (c:=1) (.head _) rfl;refine Ret.lappB st6 gw hx rfl (by omega) rfl hsz' fun h7 m7 wv' st7 gr7=>?_;have hmain7:=(gr7.keep _ _ OM.upd_self mk.wd).1;refine Ret.lst1B st7 hmain7 rfl (by simp) gr7.gs.one fun h8 st8=>?_;have st8:Sl h0 h8 S (m7.upd bm (.row .own 1 [sv',.bool false,nils,nils,wv'])) ((x6,.row .own 1 [nils])::(x3,.row .own 4 [.int .u64 s0,.int .u64 s1,.int .u64 s2,.int .u64 s3])::(x2,.row .own 1 c2)::(x1,.row .own 1 (.int .i64 op::(u64s [s0,s1,s2,s3]++[kv])))::rows):=st8;have hwd7:vBlk wv'≠some bm:=(gr7.keep _ _ OM.upd_self mk.wd).2;have mk8:Mr S (m7.upd bm (.row .own 1 [sv',.bool false,nils,nils,wv'])) bm N sv' wv' (sets++[[s0,s1,s2,s3]]) F:=by
  have hlen:(sets++[[s0,s1,s2,s3]]).length=sets.length+1:=by simp
  have hwl:ws.length=sets.length:=by have:=gw.length;omega
  refine⟨OM.upd_self,?_,⟨ws++[nils],by rw[hlen];exact gr7.gs.set hwd7,fun i hi=>?_⟩,hsd,hwd7,fun b hb hw=>?_⟩
  ·refine gsv.mono fun b o hb ho=>?_;rw[OM.upd_ne (fun e=>hsd (by rw[<-e];exact hb))];exact(gr7.keep b o ho (hsw b hb)).1
  ·by_cases e:i=sets.length
   ·subst e;refine⟨nils,by rw[List.getElem?_append_right (by omega),hwl,Nat.sub_self];rfl,?_⟩;have:srt N (F sets.length)=[]:=by
     unfold srt;rw[List.filter_eq_nil_iff];intro j _ hj;have:=hsup _ _ hj;omega
    rw[this];exact .inl ⟨rfl,rfl⟩
   ·rw[hlen]at hi;obtain⟨w,q1,q2⟩:=hws i (by omega);exact⟨w,by rw[List.getElem?_append_left (by omega)];exact q1,q2⟩
  ·obtain⟨o,ho⟩:=gsv.has hb;exact(gr7.keep b o ho (hsw b hb)).2 hw
 refine Ret.lbs st8 bs28 fun h9 x9 st9=>?_;refine Ret.lbs st9 bs28 fun h10 x10 st10=>?_;refine Ret.vb ab112' ?_;refine Ret.lstA st10 4 rfl rfl rfl (by rw[h2l];decide) rfl fun h11 st11=>?_;rw[setsL_all (by rw[h2l];rfl)]at st11;have st11:Sl h0 h11 S (m7.upd bm (.row .own 1 [sv',.bool false,nils,nils,wv'])) ((x10,.row .own 1 [.int .i64 sets.length])::(x9,.row .own 1 [.int .i64 sets.length])::(x6,.row .own 1 [nils])::(x3,.row .own 4 [.int .u64 s0,.int .u64 s1,.int .u64 s2,.int .u64 s3])::(x2,.row .own 1 [.bool false,.slice (some ⟨x9,0,none⟩) 1 1,.slice (some ⟨x10,0,none⟩) 1 1])::(x1,.row .own 1 (.int .i64 op::(u64s [s0,s1,s2,s3]++[kv])))::rows):=st11;have lb:xLdA 3 (.pointer (some ⟨x2,0,none⟩)) h11=some (.agg ⟨[.bool false,.slice (some ⟨x9,0,none⟩) 1 1,.slice (some ⟨x10,0,none⟩) 1 1]⟩):=st11.ldA (.tail _ (.tail _ (.tail _ (.tail _ (.head _))))) rfl (by simp);simp only[lb,vb_some];obtain⟨st12,hS1⟩:=st11.settle (i:=0) rfl;have st12:Sl h0 h11 (S.put x10 [.int .i64 sets.length]) (m7.upd bm (.row .own 1 [sv',.bool false,nils,nils,wv'])) ((x9,.row .own 1 [.int .i64 sets.length])::(x6,.row .own 1 [nils])::(x3,.row .own 4 [.int .u64 s0,.int .u64 s1,.int .u64 s2,.int .u64 s3])::(x2,.row .own 1 [.bool false,.slice (some ⟨x9,0,none⟩) 1 1,.slice (some ⟨x10,0,none⟩) 1 1])::(x1,.row .own 1 (.int .i64 op::(u64s [s0,s1,s2,s3]++[kv])))::rows):=st12;obtain⟨st13,hS2⟩:=st12.settle (i:=0) rfl;have le1:=Vw.le_put (cs:=[Value.int .i64 (sets.length:Int)]) hS1;have le2:=Vw.le_put (cs:=[Value.int .i64 (sets.length:Int)]) hS2;refine Ret.of ⟨_,_,sv',wv',_,_,le1.trans le2,st13.drop (.cons _ (.cons _ (.cons _ (.cons _ (List.Sublist.refl _))))),mk8.monoS (le1.trans le2),rfl,⟨?_,?_⟩⟩
 ·have e:srt N (Pt.one sets.length).fst=[sets.length]:=srt_one (by omega);rw[e];refine .inr ⟨x9,0,1,_,rfl,Vw.put_self,by simp[ns],fun i x hx=>?_⟩;rw[Nat.zero_add];exact hx
 ·have e:srt N (Pt.one sets.length).lst=[sets.length]:=srt_one (by omega);rw[e];refine .inr ⟨x10,0,1,_,rfl,le2 _ _ Vw.put_self,by simp[ns],fun i x hx=>?_⟩;rw[Nat.zero_add];exact hx
theorem c54u{N bm x2 b:Nat}{sv wv:Value}{sets:List (List Int)}{F:Nat->Nat->Bool}{c2:List Value}{R1:Rws}(h2l:c2.length=3)(st:Sl h0 h S m ((x2,.row .own 1 c2)::(R1++rows)))(mk:Mr S m bm N sv wv sets F):
  Ret (vb (abuild Try.prog 112 [(0,tt)]) fun v=>Go.Am.hb (xStA 3 (.pointer (some ⟨x2,0,none⟩)) v h) fun _ h=>vb (xLdA 3 (.pointer (some ⟨x2,0,none⟩)) h) fun u=>some (u,h)) (Q54 h0 S rows bm N sets F (Pt.unit b)):=by
 rw[tt_eq];refine Ret.vb ab112 ?_;refine Ret.lstA st 0 rfl rfl rfl (by rw[h2l];decide) rfl fun h4 st4=>?_;rw[setsL_all (by rw[h2l];rfl)]at st4;have lb:xLdA 3 (.pointer (some ⟨x2,0,none⟩)) h4=some (.agg ⟨[.bool true,nils,nils]⟩):=st4.ldA (.head _) rfl (by simp);simp only[lb,vb_some];exact Ret.of ⟨S,m,sv,wv,nils,nils,Vw.le.refl _,(st4.drop (List.sublist_cons_self _ _)).drop (List.sublist_append_right _ _),mk,rfl,unitPrV (fun _=>rfl) (fun _=>rfl)⟩
theorem c54o{N bm x1 x2:Nat}{sv wv kv:Value}{sets:List (List Int)}{F:Nat->Nat->Bool}{c2 es:List Value}{op:Int}{x:Re}{ks:List Re}{tl:List Value}(hn:4611686018427387904<=n)(hN:N<1000000)(h2l:c2.length=3)(hes:es= .int .i64 op::tl)(hes5:es[5]?=some kv)(hk:KidsV S (x::ks) kv)(ih:Ih54 n cl h0 bm N x)(hle:sets.length+x.sets.length<=N)(hsup: ∀i j,F i j=true->i<sets.length)
  (st:Sl h0 h S m ((x2,.row .own 1 c2)::(x1,.row .own 1 es)::rows)) (mk:Mr S m bm N sv wv sets F):
  Ret (F54_26 n cl (.pointer (some ⟨x1,0,none⟩)) (.pointer (some ⟨bm,0,none⟩)) (.pointer (some ⟨x2,0,none⟩)) h) (Q54 h0 S rows bm N (sets++x.sets) (fun i j=>F i j||((x.ev sets.length).rep op).fol i j) ((x.ev sets.length).rep op)):=by
 have l5:xLd (.pointer (some ⟨x1,5,none⟩)) h=some kv:=st.ld (.tail _ (.head _)) hes5;obtain⟨b,o,cs,xs,e1,e2,e3,e4,e5⟩:=hk.at (i:=0) rfl;have ld:=st.ldSA e2 e3 e4;have e1:xIdxS 6 kv (.int .i64 ((0:Nat):Int))=some (.pointer (some ⟨b,o,none⟩)):=e1;simp only[F54_26,xFld_p,Nat.zero_add,vb_some,l5,vN_eq,e1,ld];refine Ret.hb (ih h S m _ sv wv sets _ xs st mk hsup hle e5) fun v1 h1 ⟨S1,m1,sv1,wv1,f1,l1,le1,st1,mk1,hv1,hp1⟩=>?_;subst hv1;refine Ret.lalloc st1 zc112 fun h2 x37 st2=>?_;have hone:oneCells [.bool (x.ev sets.length).null,f1,l1]=true:=by
  unfold oneCells;simp only[List.all_cons,List.all_nil,hp1.f.one,hp1.l.one];rfl
 refine Ret.lstA st2 0 rfl rfl rfl (by simp) hone fun h3 st3=>?_;have st3:Sl h0 h3 S1 m1 ((x37,.row .own 1 [.bool (x.ev sets.length).null,f1,l1])::(x2,.row .own 1 c2)::(x1,.row .own 1 es)::rows):=st3;have last: ∀(S':Vw)(m':OM)(h:PH)(nl:Bool),Vw.le S1 S'->Sl h0 h S' m' ((x37,.row .own 1 [.bool nl,f1,l1])::(x2,.row .own 1 c2)::(x1,.row .own 1 es)::rows)->Mr S' m' bm N sv1 wv1 (sets++x.sets) (fun i j=>F i j||((x.ev sets.length).rep op).fol i j)->nl=((x.ev sets.length).rep op).null->
   Ret (F54_19 n cl (.pointer (some ⟨x37,0,none⟩)) (.pointer (some ⟨x2,0,none⟩)) h) (Q54 h0 S rows bm N (sets++x.sets) (fun i j=>F i j||((x.ev sets.length).rep op).fol i j) ((x.ev sets.length).rep op)):=by
  intro S' m' h nl le st mk hnl;have la:xLdA 3 (.pointer (some ⟨x37,0,none⟩)) h=some (.agg ⟨[.bool nl,f1,l1]⟩):=st.ldA (.head _) rfl (by simp);have hone:oneCells [.bool nl,f1,l1]=true:=by
   unfold oneCells;simp only[List.all_cons,List.all_nil,hp1.f.one,hp1.l.one];rfl
  simp only[F54_19,la,vb_some];refine Ret.lstA st 1 rfl rfl rfl (by rw[h2l];decide) hone fun h4 st4=>?_;rw[setsL_all (by rw[h2l];rfl)]at st4;have lb:xLdA 3 (.pointer (some ⟨x2,0,none⟩)) h4=some (.agg ⟨[.bool nl,f1,l1]⟩):=st4.ldA (.tail _ (.head _)) rfl (by simp);simp only[lb,vb_some];refine Ret.of ⟨S',m',sv1,wv1,f1,l1,le1.trans le,st4.drop (.cons _ (.cons _ (.cons _ (List.Sublist.refl _)))),mk,by rw[hnl],⟨hp1.f.mono le,hp1.l.mono le⟩⟩
 have nulls: ∀(S':Vw)(m':OM)(h:PH),Vw.le S1 S'->Sl h0 h S' m' ((x37,.row .own 1 [.bool (x.ev sets.length).null,f1,l1])::(x2,.row .own 1 c2)::(x1,.row .own 1 es)::rows)->Mr S' m' bm N sv1 wv1 (sets++x.sets) (fun i j=>F i j||((x.ev sets.length).rep op).fol i j)->
   Ret (F54_22 n cl (.pointer (some ⟨x1,0,none⟩)) (.pointer (some ⟨x37,0,none⟩)) (.pointer (some ⟨x2,0,none⟩)) h) (Q54 h0 S rows bm N (sets++x.sets) (fun i j=>F i j||((x.ev sets.length).rep op).fol i j) ((x.ev sets.length).rep op)):=by
  intro S' m' h le st mk;have a1:xLd (.pointer (some ⟨x1,0,none⟩)) h=some (.int .i64 op):=st.ld (.tail _ (.tail _ (.head _))) (by rw[hes];rfl);simp only[F54_22,jn_eq,F54_21,xFld_p,Nat.zero_add,vb_some,a1,vN_eq,xNe_i]
  by_cases h5:op=5
  ·have d:(!decide (op=((5:Nat):Int)))=false:=by simp[h5]
   simp only[d,bite_f,ucons_cons];exact last S' m' h _ le st mk (by show _=(if op=5 then _ else true);rw[if_pos h5])
  ·have d:(!decide (op=((5:Nat):Int)))=true:=by simp;omega
   simp only[d,bite_t,F54_20,xFld_p,Nat.zero_add,vb_some,tt_eq];refine Ret.lst1 st 0 rfl rfl (by simp) rfl fun h' st'=>?_;simp only[ucons_cons];exact last S' m' h' true le st' mk (by show _=(if op=5 then _ else true);rw[if_neg h5])
 have a1:xLd (.pointer (some ⟨x1,0,none⟩)) h3=some (.int .i64 op):=st3.ld (.tail _ (.tail _ (.head _))) (by rw[hes];rfl);simp only[jn_eq,F54_25,xFld_p,Nat.zero_add,vb_some,a1,vN_eq,xNe_i]
 by_cases h6:op=6
 ·have d:(!decide (op=((6:Nat):Int)))=false:=by simp[h6]
  simp only[d,bite_f,F54_24,ucons_cons];refine nulls S1 m1 h3 (Vw.le.refl _) st3 (mk1.congr fun a _ b _=>?_)
  show _=(F a b||((x.ev sets.length).fol a b||(decide (op≠6)&&_)))
  have:decide (op≠6)=false:=by simp[h6]
  rw[this];simp
 ·have d:(!decide (op=((6:Nat):Int)))=true:=by simp;omega
  have c1:xLd (.pointer (some ⟨x37,1,none⟩)) h3=some f1:=st3.ld (.head _) rfl;have c2':xLd (.pointer (some ⟨x37,2,none⟩)) h3=some l1:=st3.ld (.head _) rfl;simp only[d,bite_t,F54_23,xFld_p,Nat.zero_add,vb_some,c1,c2'];have hin:=Re.inn x sets.length;have hcn:=Re.cnt x sets.length;refine Ret.hb (c81 hn hN (L:=(x.ev sets.length).lst) (P:=(x.ev sets.length).fst) (fun i hi=>by have:=hin.lst i hi;rw[List.length_append];omega) (by rw[List.length_append];exact hle) hp1.l hp1.f st3 mk1) fun v4 h4 ⟨S4,m4,le4,st4,mk4⟩=>?_;simp only[F54_24,ucons_cons];refine nulls S4 m4 h4 le4 st4 (mk4.congr fun a _ b _=>?_)
  show _=(F a b||((x.ev sets.length).fol a b||(decide (op≠6)&&_)))
  have:decide (op≠6)=true:=by simp[h6]
  rw[this];simp[Bool.or_assoc]
theorem c54{N bm:Nat}(hn:4611686018427387904<=n)(hN:N<1000000): ∀(d:Nat)(x:Re),x.deep<=d->x.size<4611686018427387904->Ih54 n (CLV n d) h0 bm N x:=by
 intro d
 induction d with
 |zero=>intro x hx;have:=x.deep_pos;omega
 |succ d ihd=>
  intro x hx hsz h S m rows sv wv sets F es st mk hsup hle he;obtain⟨op,s,ks⟩:=x;rw[Re.deep_looked]at hx;obtain⟨kv,rfl,hs,hk⟩:=ReE_mk.1 he;have hes:=he.len;have hes5:(Value.int .i64 op::(u64s s++[kv]))[5]?=some kv:=by
   rw[List.getElem?_cons_succ,List.getElem?_append_right (by simp[u64s,hs])];simp[u64s,hs]
  rw[CLV54];unfold F54;refine Ret.lbox st fun h1 x1 st1=>?_;refine Ret.lalloc st1 zc112 fun h2 x2 st2=>?_;have st2:Sl h0 h2 S m ((x2,.row .own 1 [.bool false,nils,nils])::(x1,.row .own 1 (.int .i64 op::(u64s s++[kv])))::rows):=st2;have l0:xLd (.pointer (some ⟨x1,0,none⟩)) h2=some (.int .i64 op):=st2.ld (.tail _ (.head _)) rfl;have l5:xLd (.pointer (some ⟨x1,5,none⟩)) h2=some kv:=st2.ld (.tail _ (.head _)) hes5;have hlen:=hk.len;have hszk:sizeL ks+1<4611686018427387904:=hsz;have hkl:=sizeL_len ks;have hsub: ∀y∈looked op ks,y.size<4611686018427387904/\y.deep<=d:=fun y hy=>by
   have h1:=sizeL_mem (looked_mem hy);have h2:=deepL_mem hy;omega
  simp only[jn_eq,F54_41,xFld_p,Nat.zero_add,vb_some,l0,vN_eq,xEq_i]
  by_cases h1':op=1
  ·have d1:decide (op=((1:Nat):Int))=true:=by simp[h1']
   have e1:(Re.mk op s ks).sets=[s]:=by unfold Re.sets;rw[if_pos h1']
   have e2:(Re.mk op s ks).ev sets.length=Pt.one sets.length:=by rw[Re.ev_mk,if_pos h1']
   rw[e1]at hle ⊢;rw[e2];simp only[d1,bite_t];have:=c54p (n:=n) (cl:=CLV n d) hN rfl hs (by simpa using hle) hsup st2 mk;refine Ret.mono this fun v h ⟨S',m',sv',wv',fv,lv,q1,q2,q3,q4⟩=>⟨S',m',sv',wv',fv,lv,q1,q2,q3.congr fun i _ j _=>by simp[Pt.one],q4⟩
  have d1:decide (op=((1:Nat):Int))=false:=by simp;exact h1'
  simp only[d1,bite_f,F54_40,xEq_i,vb_some,vN_eq]
  by_cases h2':op=2
  ·subst h2';have d2:decide ((2:Int)=((2:Nat):Int))=true:=by simp
   have hl:looked 2 ks=ks:=by simp[looked]
   have e1:(Re.mk 2 s ks).sets=reSets ks:=by rw[Re.sets_looked];simp[hl]
   have e2:(Re.mk 2 s ks).ev sets.length=evCat ks (Pt.unit sets.length):=by rw[Re.ev_mk];simp
   rw[e1]at hle ⊢;rw[e2];rw[hl]at hsub hx;simp only[d2,bite_t,F54_39,ucons_cons,F54_37,xFld_p,Nat.zero_add,vb_some,l5,hlen,vN_eq,xEq_i];cases hks:ks with
   |nil=>
    subst hks;have d0:decide ((([]:List Re).length:Int)=((0:Nat):Int))=true:=by simp
    simp only[d0,bite_t,F54_36];have:=c54u (R1:=[(x1,.row .own 1 (.int .i64 2::(u64s s++[kv])))]) (b:=sets.length) rfl st2 mk;have e3:sets++reSets []=sets:=by simp[reSets]
    rw[e3];refine Ret.mono this fun v h ⟨S',m',sv',wv',fv,lv,q1,q2,q3,q4⟩=>⟨S',m',sv',wv',fv,lv,q1,q2,q3.congr fun i _ j _=>by simp[Pt.unit,evCat],q4⟩
   |cons k0 ks0=>
    rw[<-hks];have d0:decide (((ks.length:Nat):Int)=((0:Nat):Int))=false:=by simp[hks];omega
    simp only[d0,bite_f,F54_34,xFld_p,Nat.zero_add,vb_some,l0,vN_eq,xEq_i,d2,bite_t,F54_12,tt_eq];refine Ret.vb ab112 ?_;refine Ret.lalloc st2 zc112 fun h3 x24 st3=>?_;refine Ret.lstA st3 0 rfl rfl rfl (by simp) rfl fun h4 st4=>?_;have:=loop54c (n:=n) (cl:=CLV n d) (h0:=h0) (rows:=rows) (bm:=bm) (x24:=x24) (x2:=x2) (x1:=x1) (b0:=sets.length) (F0:=F) (ks:=ks) (c2:=[.bool false,nils,nils]) (pE:=evCat ks (Pt.unit sets.length)) (sE:=sets++reSets ks) hn hN (by omega) rfl hes5 (by rw[List.length_append];exact hle) hsup (fun y hy=>ihd y (hsub y hy).2 (hsub y hy).1) ks.length n 0 S m h4 (Pt.unit sets.length) nils nils sv wv sets (by omega) (by omega) (by omega) hk rfl rfl rfl (Pt.In.unit _) st4 (mk.congr fun i _ j _=>by simp[Pt.unit]) (unitPrV (fun _=>rfl) (fun _=>rfl));exact this
  have d2:decide (op=((2:Nat):Int))=false:=by simp;exact h2'
  simp only[d2,bite_f,F54_38,xEq_i,vb_some,vN_eq]
  by_cases h3':op=3
  ·subst h3';have d3:decide ((3:Int)=((3:Nat):Int))=true:=by simp
   have hl:looked 3 ks=ks:=by simp[looked]
   have e1:(Re.mk 3 s ks).sets=reSets ks:=by rw[Re.sets_looked];simp[hl]
   rw[e1]at hle ⊢;rw[hl]at hsub hx;simp only[d3,F54_39,ucons_cons,bite_t,F54_37,xFld_p,Nat.zero_add,vb_some,l5,hlen,vN_eq,xEq_i];cases hks:ks with
   |nil=>
    subst hks;have d0:decide ((([]:List Re).length:Int)=((0:Nat):Int))=true:=by simp
    have e2:(Re.mk 3 s []).ev sets.length=Pt.unit sets.length:=by rw[Re.ev_mk];simp
    rw[e2];simp only[d0,bite_t,F54_36];have:=c54u (R1:=[(x1,.row .own 1 (.int .i64 3::(u64s s++[kv])))]) (b:=sets.length) rfl st2 mk;have e3:sets++reSets []=sets:=by simp[reSets]
    rw[e3];refine Ret.mono this fun v h ⟨S',m',sv',wv',fv,lv,q1,q2,q3,q4⟩=>⟨S',m',sv',wv',fv,lv,q1,q2,q3.congr fun i _ j _=>by simp[Pt.unit],q4⟩
   |cons k0 ks0=>
    have e2:(Re.mk 3 s ks).ev sets.length=evAlt ks (Pt.zero sets.length):=by rw[Re.ev_mk];simp[hks]
    rw[<-hks,e2];have d0:decide (((ks.length:Nat):Int)=((0:Nat):Int))=false:=by simp[hks];omega
    have d2':decide ((3:Int)=((2:Nat):Int))=false:=by simp
    simp only[d0,bite_f,F54_34,xFld_p,Nat.zero_add,vb_some,l0,vN_eq,xEq_i,d2',d3,bite_t,F54_33,F54_17];refine Ret.lalloc st2 zc112 fun h4 x24 st4=>?_;have:=loop54a (n:=n) (cl:=CLV n d) (h0:=h0) (rows:=rows) (bm:=bm) (x24:=x24) (x2:=x2) (x1:=x1) (b0:=sets.length) (F0:=F) (ks:=ks) (c2:=[.bool false,nils,nils]) (pE:=evAlt ks (Pt.zero sets.length)) (sE:=sets++reSets ks) hn hN (by omega) rfl hes5 (by rw[List.length_append];exact hle) hsup (fun y hy=>ihd y (hsub y hy).2 (hsub y hy).1) ks.length n 0 S m h4 (Pt.zero sets.length) nils nils sv wv sets (by omega) (by omega) (by omega) hk rfl rfl rfl (Pt.In.zero _) st4 (mk.congr fun i _ j _=>by simp[Pt.zero]) (unitPrV (fun _=>rfl) (fun _=>rfl));exact this
  have d3:decide (op=((3:Nat):Int))=false:=by simp;exact h3'
  simp only[d3,F54_39,ucons_cons,bite_f,F54_34,xFld_p,Nat.zero_add,vb_some,l0,vN_eq,xEq_i,d2,F54_33,jn_eq]
  by_cases h4':4<=op/\op<=6
  ·have hl:looked op ks=ks.take 1:=by unfold looked;rw[if_neg (by omega),if_pos h4']
   have e1:(Re.mk op s ks).sets=reSets (ks.take 1):=by rw[Re.sets_looked,if_neg h1',hl]
   have e2:(Re.mk op s ks).ev sets.length=evOne op ks sets.length:=by rw[Re.ev_mk,if_neg h1',if_neg h2',if_neg h3',if_pos h4']
   rw[e1]at hle ⊢;rw[e2];rw[hl]at hsub hx;have key:Ret (F54_27 n (CLV n d) (.pointer (some ⟨x1,0,none⟩)) (.pointer (some ⟨x2,0,none⟩)) (.pointer (some ⟨bm,0,none⟩)) h2) (Q54 h0 S rows bm N (sets++reSets (ks.take 1)) (fun i j=>F i j||(evOne op ks sets.length).fol i j) (evOne op ks sets.length)):=by
    simp only[F54_27,xFld_p,Nat.zero_add,vb_some,l5,hlen,vN_eq,xEq_i];cases hks:ks with
    |nil=>
     subst hks;have d0:decide ((([]:List Re).length:Int)=((0:Nat):Int))=true:=by simp
     simp only[d0,bite_t,F54_18];have:=c54u (R1:=[(x1,.row .own 1 (.int .i64 op::(u64s s++[kv])))]) (b:=sets.length) rfl st2 mk;have e3:sets++reSets (List.take 1 [])=sets:=by simp[reSets]
     rw[e3];refine Ret.mono this fun v h ⟨S',m',sv',wv',fv,lv,q1,q2,q3,q4⟩=>⟨S',m',sv',wv',fv,lv,q1,q2,q3.congr fun i _ j _=>by simp[Pt.unit,evOne],q4⟩
    |cons k0 ks0=>
     subst hks;have d0:decide ((((k0::ks0).length:Nat):Int)=((0:Nat):Int))=false:=by simp;omega
     simp only[d0,bite_f];have e3:reSets (List.take 1 (k0::ks0))=k0.sets:=by simp[reSets]
     rw[e3]at hle ⊢;have hm:k0∈List.take 1 (k0::ks0):=by simp
     exact c54o (n:=n) (cl:=CLV n d) hn hN rfl rfl hes5 hk (ihd k0 (hsub k0 hm).2 (hsub k0 hm).1) hle hsup st2 mk
   have:op=4\/op=5\/op=6:=by omega
   rcases this with h|h|h
   ·have d4:decide (op=((4:Nat):Int))=true:=by simp[h]
    simp only[F54_32,xEq_i,vb_some,vN_eq,d4,bite_t,F54_31,ucons_cons];exact key
   ·have d4:decide (op=((4:Nat):Int))=false:=by simp[h]
    have d5:decide (op=((5:Nat):Int))=true:=by simp[h]
    simp only[F54_32,F54_30,xEq_i,vb_some,vN_eq,d4,d5,bite_t,bite_f,F54_31,ucons_cons];exact key
   ·have d4:decide (op=((4:Nat):Int))=false:=by simp[h]
    have d5:decide (op=((5:Nat):Int))=false:=by simp[h]
    have d6:decide (op=((6:Nat):Int))=true:=by simp[h]
    simp only[F54_32,F54_30,F54_29,xEq_i,vb_some,vN_eq,d4,d5,d6,bite_t,bite_f,F54_31,ucons_cons];exact key
  ·have hl:looked op ks=[]:=by unfold looked;rw[if_neg (by omega),if_neg h4']
   have e1:(Re.mk op s ks).sets=[]:=by rw[Re.sets_looked,if_neg h1',hl];rfl
   have e2:(Re.mk op s ks).ev sets.length=Pt.unit sets.length:=by rw[Re.ev_mk,if_neg h1',if_neg h2',if_neg h3',if_neg h4']
   rw[e1,e2];have d4:decide (op=((4:Nat):Int))=false:=by simp;omega
   have d5:decide (op=((5:Nat):Int))=false:=by simp;omega
   have d6:decide (op=((6:Nat):Int))=false:=by simp;omega
   simp only[F54_32,F54_30,F54_29,xEq_i,vb_some,vN_eq,d4,d5,d6,bite_t,bite_f,F54_31,ucons_cons,F54_28];have:=c54u (R1:=[(x1,.row .own 1 (.int .i64 op::(u64s s++[kv])))]) (b:=sets.length) rfl st2 mk;rw[List.append_nil];refine Ret.mono this fun v h ⟨S',m',sv',wv',fv,lv,q1,q2,q3,q4⟩=>⟨S',m',sv',wv',fv,lv,q1,q2,q3.congr fun i _ j _=>by simp[Pt.unit],q4⟩
end
theorem CLV25{n d:Nat}{v:Value}{h:PH}:CLV n (d+1) 25 [v] h=F25 n (CLV n d) v h:=rfl
theorem CLV53{n d:Nat}{v:Value}{h:PH}:CLV n (d+1) 53 [v] h=F53 n (CLV n d) v h:=rfl
theorem ab110:abuild Try.prog 110 []=some (.agg ⟨[nils,.bool false,nils,nils,nils]⟩):=by kernel_rfl
theorem pcall_ex{h:PH}{S:Vw}{r:R}{P:Value->Rws->Prop}(a:Fr h S r P)(hp: ∀v rows,P v rows->plainV v=true): ∃v rows,P v rows/\pcall r=some v:=by
 obtain⟨v,h1,rfl,rows,s,p⟩:=a;exact⟨v,rows,p,pcall_some (hp v rows p)⟩
section
variable {n:Nat}{cl:CL}{h h0:PH}{S:Vw}{m:OM}{rows:Rws}
theorem loop25{x1:Nat}{op:Int}{tl:List Value}{ks:List Re}{kv:Value}{es:List Value}(hn:4611686018427387904<=n)(hk:KidsV S ks kv)(hsz:sizeL ks<1099511627776)(h0e:es[0]?=some (.int .i64 op))(h5e:es[5]?=some kv)
  (ih: ∀x∈looked op ks, ∀(h:PH)[OkH h],Vw.le S h.cells-> ∀es,ReE S x es->Fr h S (cl 25 [.agg ⟨es⟩] h) fun v _=>v= .int .i64 x.deep):
  ∀(k q i D:Nat)(h:PH),(looked op ks).length-i<=k->k<q->i<=(looked op ks).length->D<=sizeL ks->Sl h0 h S OM.emp [(x1,.row .own 1 es)]->
  Ret (lp q (F25_5 n cl) [.pointer (some ⟨x1,0,none⟩),.int .i64 D,.int .i64 i] h) (fun v h1=> ∃rows,Sl h0 h1 S OM.emp rows/\v= .int .i64 (max D (deepL ((looked op ks).drop i))+1:Nat)):=by
 have hlk:(looked op ks).length<=ks.length/\(2<=op->op<=3->looked op ks=ks)/\(4<=op->op<=6->looked op ks=ks.take 1)/\((op<2\/6<op)->looked op ks=[]):=by
  unfold looked;refine⟨?_,fun h1 h2=>by rw[if_pos (by omega)],fun h1 h2=>by rw[if_neg (by omega),if_pos ⟨h1,h2⟩],fun h=>by rw[if_neg (by omega),if_neg (by omega)]⟩
  split
  ·exact Nat.le_refl _
  ·split
   ·exact List.length_take_le' _ _
   ·exact Nat.zero_le _
 have hkl:=sizeL_len ks;have cond: ∀i:Nat,i<=(looked op ks).length->(((decide ((i:Int)<(ks.length:Int))&&decide (((2:Nat):Int)<=op))&&decide (op<=((6:Nat):Int)))&&(decide ((i:Int)=((0:Nat):Int))||decide (op<=((3:Nat):Int))))=decide (i<(looked op ks).length):=by
  intro i hi;obtain⟨q0,q1,q2,q3⟩:=hlk;rw[Bool.eq_iff_iff];simp only[Bool.and_eq_true,Bool.or_eq_true,decide_eq_true_eq];constructor
  ·rintro⟨⟨⟨a,b⟩,c⟩,d⟩
   by_cases h3:op<=3
   ·rw[q1 b h3];omega
   ·rw[q2 (by omega) c,List.length_take];omega
  ·intro hlt
   by_cases h2:op<2\/6<op
   ·rw[q3 h2]at hlt;simp at hlt
   ·by_cases h3:op<=3
    ·rw[q1 (by omega) h3]at hlt;omega
    ·rw[q2 (by omega) (by omega),List.length_take]at hlt;omega
 have more: ∀(i D:Nat)(h:PH)(LL:Kt),i<=(looked op ks).length->Sl h0 h S OM.emp [(x1,.row .own 1 es)]->F25_5 n cl LL [.pointer (some ⟨x1,0,none⟩),.int .i64 D,.int .i64 i] h=if i<(looked op ks).length then F25_2 n cl (.pointer (some ⟨x1,0,none⟩)) (.int .i64 i) (.int .i64 D) h (F25_1 n cl LL)else F25_3 n cl (.int .i64 D) h:=by
  intro i D h LL hi st;have hc:=cond i hi;have l0:xLd (.pointer (some ⟨x1,0,none⟩)) h=some (.int .i64 op):=st.ld (.head _) h0e;have l5:xLd (.pointer (some ⟨x1,5,none⟩)) h=some kv:=st.ld (.head _) h5e;have hlen:=hk.len;have e: ∀x y:R,(if i<(looked op ks).length then x else y)=bif decide (i<(looked op ks).length)then x else y:=fun x y=>by
   by_cases hq:i<(looked op ks).length<;>simp[hq]
  rw[e, <-hc];cases hA:decide ((i:Int)<(ks.length:Int))<;>cases hB:decide (((2:Nat):Int)<=op)<;>cases hC:decide (op<=((6:Nat):Int))<;>cases hZ:decide ((i:Int)=((0:Nat):Int))<;>cases hT:decide (op<=((3:Nat):Int))<;>
   simp only[F25_5,F25_4,ucons_cons,xFld_p,Nat.zero_add,vb_some,l0,l5,hlen,xLt_i,xGe_i,xLe_i,xEq_i,vN_eq,hA,hB,hC,hZ,hT,isB_t,isB_f,isB_u,Bool.not_true,Bool.not_false,gd_some',if_true,if_false,Bool.false_eq_true,gd_true,gd_false,xPick_f,xPick_t,bite_t,bite_f,tt_eq,ff_eq,jn_eq,Bool.and_true,Bool.and_false,Bool.true_and,Bool.false_and,Bool.or_true,Bool.or_false,cond_true,cond_false]
 intro k
 induction k with
 |zero=>
  intro q i D h h1 h2 h3 h4 st;obtain⟨q,rfl⟩: ∃r,q=r+1:=⟨q-1,by omega⟩;have hi:i=(looked op ks).length:=by omega
  rw[lp_succ,more i D h _ h3 st,if_neg (by omega),hi,List.drop_length];have hw:IntKind.i64.wrap ((D:Int)+((1:Nat):Int))=((D+1:Nat):Int):=by rw[wrap_in (by omega) (by omega)];omega
  simp only[F25_3,vN_eq,xAdd_i,vb_some,hw];exact Fr.ret st (by simp[deepL])
 |succ k ihk=>
  intro q i D h h1 h2 h3 h4 st
  by_cases hi:i<(looked op ks).length
  ·obtain⟨q,rfl⟩: ∃r,q=r+1:=⟨q-1,by omega⟩;rw[lp_succ,more i D h _ h3 st,if_pos hi];generalize hL:lp q (F25_5 n cl)=LL;have l5:xLd (.pointer (some ⟨x1,5,none⟩)) h=some kv:=st.ld (.head _) h5e;have hx:=List.getElem?_eq_getElem hi;have hd:(looked op ks).drop i=(looked op ks)[i]::(looked op ks).drop (i+1):=List.drop_eq_getElem_cons hi;generalize(looked op ks)[i]=x at hx hd;have hmem:=List.mem_of_getElem? hx;have hxk:ks[i]?=some x:=looked_get hx;obtain⟨b,o,cs,xs,e1,e2,e3,e4,e5⟩:=hk.at hxk;have ld:=st.ldSA e2 e3 e4;have:=st.ok;have hp:=pcall_fr (ih x hmem h.fzn (fun b cs e=>st.leS b cs e) xs e5) rfl;have hxz:=sizeL_mem (looked_mem hmem);have hxd:=x.deep_le;have hw2:IntKind.i64.wrap ((i:Int)+((1:Nat):Int))=((i+1:Nat):Int):=by rw[wrap_in (by omega) (by omega)];omega
   have:=ihk q (i+1) (max D x.deep) h (by omega) (by omega) (by omega) (by omega) st;rw[hL]at this;have e:F25_2 n cl (.pointer (some ⟨x1,0,none⟩)) (.int .i64 i) (.int .i64 D) h (F25_1 n cl LL)=LL [.pointer (some ⟨x1,0,none⟩),.int .i64 (max D x.deep:Nat),.int .i64 ((i+1:Nat):Int)] h:=by
    have e1': ∀z:Nat,F25_1 n cl LL [.pointer (some ⟨x1,0,none⟩),.int .i64 z,.int .i64 i] h=LL [.pointer (some ⟨x1,0,none⟩),.int .i64 z,.int .i64 ((i+1:Nat):Int)] h:=fun z=>by
     simp only[F25_1,F25_0,ucons_cons,vN_eq,xAdd_i,vb_some,hw2]
    simp only[F25_2,xFld_p,Nat.zero_add,vb_some,l5,e1,ld,hp,xGt_i]
    by_cases hlt:(D:Int)<(x.deep:Int)
    ·have hdl:decide ((D:Int)<(x.deep:Int))=true:=by simpa using hlt
     rw[hdl,show max D x.deep=x.deep by omega];simp only[bite_t];exact e1' _
    ·have hdl:decide ((D:Int)<(x.deep:Int))=false:=by simpa using hlt
     rw[hdl,show max D x.deep=D by omega];simp only[bite_f];exact e1' _
   rw[e];refine Ret.mono this fun v h1 ⟨rows,q1,q2⟩=>⟨rows,q1,?_⟩;rw[q2,hd];simp only[deepL];have a2:max (max D x.deep) (deepL ((looked op ks).drop (i+1)))=max D (max x.deep (deepL ((looked op ks).drop (i+1)))):=by omega
   rw[a2]
  ·exact ihk q i D h (by omega) (by omega) h3 h4 st
theorem c25(hn:4611686018427387904<=n): ∀(d:Nat)(x:Re),x.deep<=d->x.size<1099511627776-> ∀(h:PH)[OkH h]{S:Vw},Vw.le S h.cells-> ∀es,ReE S x es->Fr h S (CLV n d 25 [.agg ⟨es⟩] h) fun v _=>v= .int .i64 x.deep:=by
 intro d
 induction d with
 |zero=>intro x hx;have:=x.deep_pos;omega
 |succ d ihd=>
  intro x hx hsz h _ S hS es he;obtain⟨op,s,ks⟩:=x;rw[Re.deep_looked]at hx ⊢;obtain⟨kv,rfl,hs,hk⟩:=ReE_mk.1 he;have hszk:sizeL ks+1<1099511627776:=hsz;have hes5:(Value.int .i64 op::(u64s s++[kv]))[5]?=some kv:=by
   rw[List.getElem?_cons_succ,List.getElem?_append_right (by simp[u64s,hs])];simp[u64s,hs]
  have hlen:(looked op ks).length<=ks.length:=by
   unfold looked
   split
   ·exact Nat.le_refl _
   ·split
    ·exact List.length_take_le' _ _
    ·exact Nat.zero_le _
  have hkl:=sizeL_len ks;rw[CLV25];unfold Fr F25;refine Ret.lbox (Sl.start h hS) fun h1 b st=>?_;have:=loop25 (n:=n) (cl:=CLV n d) (h0:=h) (x1:=b) (tl:=[]) hn hk (by omega) rfl hes5 (fun x hm h _ hS es he=>ihd x (by have:=deepL_mem hm;omega) (by have:=sizeL_mem (looked_mem hm);omega) h hS es he) (looked op ks).length n 0 0 h1 (by omega) (by omega) (by omega) (by omega) st;simpa using this
def PlcOk(k w:Nat):Prop:=w<=k/\(k<=150->w=k)/\(150<k->150<w)
theorem loop53{x1:Nat}{op:Int}{ks:List Re}{kv:Value}{es:List Value}(hn:4611686018427387904<=n)(hop:2<=op/\op<=6)(hk:KidsV S ks kv)(hsz:sizeL ks<1099511627776)(h0e:es[0]?=some (.int .i64 op))(h5e:es[5]?=some kv)
  (ih: ∀x∈looked op ks, ∀(h:PH)[OkH h],Vw.le S h.cells-> ∀es,ReE S x es->Fr h S (cl 53 [.agg ⟨es⟩] h) fun v _=> ∃w:Nat,v= .int .i64 w/\PlcOk x.sets.length w):
  ∀(k q i W:Nat)(h:PH),(looked op ks).length-i<=k->k<q->i<=(looked op ks).length->PlcOk (reSets ((looked op ks).take i)).length W->Sl h0 h S OM.emp [(x1,.row .own 1 es)]->
  Ret (lp q (F53_2 n cl) [.pointer (some ⟨x1,0,none⟩),.int .i64 W,.int .i64 i] h) (fun v h1=> ∃rows,Sl h0 h1 S OM.emp rows/\ ∃w:Nat,v= .int .i64 w/\PlcOk (reSets (looked op ks)).length w):=by
 have hlk:(looked op ks).length<=ks.length/\(op<=3->looked op ks=ks)/\(4<=op->looked op ks=ks.take 1):=by
  unfold looked;refine⟨?_,fun h2=>by rw[if_pos (by omega)],fun h1=>by rw[if_neg (by omega),if_pos (by omega)]⟩
  split
  ·exact Nat.le_refl _
  ·split
   ·exact List.length_take_le' _ _
   ·exact Nat.zero_le _
 have hkl:=sizeL_len ks;have htot: ∀i,(reSets ((looked op ks).take i)).length<=(reSets (looked op ks)).length/\(reSets ((looked op ks).take i)).length<1099511627776:=by
  intro i;have h1:=reSets_le ((looked op ks).take i);have h2:=sizeL_take (ks:=looked op ks) (n:=i);have h3:sizeL (looked op ks)<=sizeL ks:=by
   unfold looked
   split
   ·exact Nat.le_refl _
   ·split
    ·exact sizeL_take
    ·simp[sizeL]
  have h4:reSets (looked op ks)=reSets ((looked op ks).take i)++reSets ((looked op ks).drop i):=by rw[<-reSets_append,List.take_append_drop]
  rw[h4,List.length_append];exact⟨by omega,by omega⟩
 have cond: ∀i W:Nat,i<=(looked op ks).length->(((decide ((i:Int)<(ks.length:Int)))&&(decide ((i:Int)=((0:Nat):Int))||decide (op<=((3:Nat):Int))))&&decide ((W:Int)<=((150:Nat):Int)))=decide (i<(looked op ks).length/\W<=150):=by
  intro i W hi;obtain⟨q0,q1,q2⟩:=hlk;rw[Bool.eq_iff_iff];simp only[Bool.and_eq_true,Bool.or_eq_true,decide_eq_true_eq];constructor
  ·rintro⟨⟨a,b⟩,c⟩;refine⟨?_,by omega⟩
   by_cases h3:op<=3
   ·rw[q1 h3];omega
   ·rw[q2 (by omega),List.length_take];omega
  ·rintro⟨hlt,hw⟩;refine⟨?_,by omega⟩
   by_cases h3:op<=3
   ·rw[q1 h3]at hlt;exact⟨by omega,.inr h3⟩
   ·rw[q2 (by omega),List.length_take]at hlt;exact⟨by omega,.inl (by omega)⟩
 have more: ∀(i W:Nat)(h:PH)(LL:Kt),i<=(looked op ks).length->Sl h0 h S OM.emp [(x1,.row .own 1 es)]->F53_2 n cl LL [.pointer (some ⟨x1,0,none⟩),.int .i64 W,.int .i64 i] h=if i<(looked op ks).length/\W<=150 then F53_0 n cl (.pointer (some ⟨x1,0,none⟩)) (.int .i64 i) (.int .i64 W) LL h else some (.int .i64 W,h):=by
  intro i W h LL hi st;have hc:=cond i W hi;have l0:xLd (.pointer (some ⟨x1,0,none⟩)) h=some (.int .i64 op):=st.ld (.head _) h0e;have l5:xLd (.pointer (some ⟨x1,5,none⟩)) h=some kv:=st.ld (.head _) h5e;have hlen:=hk.len;have e: ∀x y:R,(if i<(looked op ks).length/\W<=150 then x else y)=bif decide (i<(looked op ks).length/\W<=150)then x else y:=fun x y=>by
   by_cases hq:i<(looked op ks).length/\W<=150<;>simp[hq]
  rw[e, <-hc];cases hA:decide ((i:Int)<(ks.length:Int))<;>cases hZ:decide ((i:Int)=((0:Nat):Int))<;>cases hT:decide (op<=((3:Nat):Int))<;>cases hW:decide ((W:Int)<=((150:Nat):Int))<;>
   simp only[F53_2,F53_1,ucons_cons,xFld_p,Nat.zero_add,vb_some,l0,l5,hlen,xLt_i,xGe_i,xLe_i,xEq_i,vN_eq,hA,hZ,hT,hW,isB_t,isB_f,isB_u,Bool.not_true,Bool.not_false,gd_some',if_true,if_false,Bool.false_eq_true,gd_true,gd_false,xPick_f,xPick_t,bite_t,bite_f,tt_eq,ff_eq,jn_eq,Bool.and_true,Bool.and_false,Bool.true_and,Bool.false_and,Bool.or_true,Bool.or_false,cond_true,cond_false]
 intro k
 induction k with
 |zero=>
  intro q i W h h1 h2 h3 h4 st;obtain⟨q,rfl⟩: ∃r,q=r+1:=⟨q-1,by omega⟩;have hi:i=(looked op ks).length:=by omega
  rw[lp_succ,more i W h _ h3 st,if_neg (by omega)];rw[hi,List.take_length]at h4;exact Fr.ret st ⟨W,rfl,h4⟩
 |succ k ihk=>
  intro q i W h h1 h2 h3 h4 st
  by_cases hi:i<(looked op ks).length
  ·obtain⟨q,rfl⟩: ∃r,q=r+1:=⟨q-1,by omega⟩;rw[lp_succ,more i W h _ h3 st]
   by_cases hW:W<=150
   ·rw[if_pos ⟨hi,hW⟩];generalize hL:lp q (F53_2 n cl)=LL;have l5:xLd (.pointer (some ⟨x1,5,none⟩)) h=some kv:=st.ld (.head _) h5e;have hx:=List.getElem?_eq_getElem hi;generalize(looked op ks)[i]=x at hx;have hmem:=List.mem_of_getElem? hx;have hxk:ks[i]?=some x:=looked_get hx;obtain⟨b,o,cs,xs,e1,e2,e3,e4,e5⟩:=hk.at hxk;have ld:=st.ldSA e2 e3 e4;have:=st.ok;obtain⟨v,rows,⟨w,rfl,hw⟩,hp⟩:=pcall_ex (ih x hmem h.fzn (fun b cs e=>st.leS b cs e) xs e5) (fun v _ ⟨w,e,_⟩=>by rw[e];rfl);have hw2:IntKind.i64.wrap ((i:Int)+((1:Nat):Int))=((i+1:Nat):Int):=by rw[wrap_in (by omega) (by omega)];omega
    have hxs:x.sets.length<1099511627776:=by have:=x.sets_le;have:=sizeL_mem (looked_mem hmem);omega
    have hw1:=hw.1;have hw3:IntKind.i64.wrap ((W:Int)+(w:Int))=((W+w:Nat):Int):=by rw[wrap_in (by omega) (by omega)];omega
    have htk:(reSets ((looked op ks).take (i+1))).length=(reSets ((looked op ks).take i)).length+x.sets.length:=by
     rw[List.take_add_one,hx,reSets_append];simp[reSets]
    have:=ihk q (i+1) (W+w) h (by omega) (by omega) (by omega) (by
     obtain⟨a1,a2,a3⟩:=h4;obtain⟨b1,b2,b3⟩:=hw;rw[htk];exact⟨by omega,fun h=>by rw[a2 (by omega),b2 (by omega)],fun h=>by
      by_cases hq:150<(reSets ((looked op ks).take i)).length
      ·have:=a3 hq;omega
      ·rw[a2 (by omega)]
       by_cases hq2:150<x.sets.length
       ·have:=b3 hq2;omega
       ·rw[b2 (by omega)];omega⟩) st
    rw[hL]at this;simp only[F53_0,xFld_p,Nat.zero_add,vb_some,l5,e1,ld,hp,xAdd_i,hw3,vN_eq,hw2];exact this
   ·rw[if_neg (by omega)];have:=htot i;exact Fr.ret st ⟨W,rfl,by have:=h4.1;omega,fun h=>by have:=h4.1;omega,fun _=>by omega⟩
  ·exact ihk q i W h (by omega) (by omega) h3 h4 st
theorem c53(hn:4611686018427387904<=n): ∀(d:Nat)(x:Re),x.deep<=d->x.size<1099511627776-> ∀(h:PH)[OkH h]{S:Vw},Vw.le S h.cells-> ∀es,ReE S x es->Fr h S (CLV n d 53 [.agg ⟨es⟩] h) fun v _=> ∃w:Nat,v= .int .i64 w/\PlcOk x.sets.length w:=by
 intro d
 induction d with
 |zero=>intro x hx;have:=x.deep_pos;omega
 |succ d ihd=>
  intro x hx hsz h _ S hS es he;obtain⟨op,s,ks⟩:=x;rw[Re.deep_looked]at hx;obtain⟨kv,rfl,hs,hk⟩:=ReE_mk.1 he;have hszk:sizeL ks+1<1099511627776:=hsz;have hes5:(Value.int .i64 op::(u64s s++[kv]))[5]?=some kv:=by
   rw[List.getElem?_cons_succ,List.getElem?_append_right (by simp[u64s,hs])];simp[u64s,hs]
  have hlen:(looked op ks).length<=ks.length:=by
   unfold looked
   split
   ·exact Nat.le_refl _
   ·split
    ·exact List.length_take_le' _ _
    ·exact Nat.zero_le _
  have hkl:=sizeL_len ks;rw[CLV53];unfold Fr F53;refine Ret.lbox (Sl.start h hS) fun h1 b st=>?_;have l0:xLd (.pointer (some ⟨b,0,none⟩)) h1=some (.int .i64 op):=st.ld (.head _) rfl;simp only[xFld_p,Nat.zero_add,vb_some,l0,vN_eq,xEq_i]
  by_cases h1':op=1
  ·have d1:decide (op=((1:Nat):Int))=true:=by simp[h1']
   simp only[d1,bite_t];refine Fr.ret st ⟨1,rfl,?_⟩;rw[Re.sets_looked,if_pos h1'];exact⟨by simp,fun _=>rfl,fun h=>by simp at h⟩
  have d1:decide (op=((1:Nat):Int))=false:=by simp;exact h1'
  have hsets:(Re.mk op s ks).sets=reSets (looked op ks):=by rw[Re.sets_looked,if_neg h1']
  rw[hsets];simp only[d1,bite_f,F53_3,xFld_p,Nat.zero_add,vb_some,l0,vN_eq,xLt_i,xGt_i,tt_eq]
  by_cases h2':2<=op/\op<=6
  ·have d2:decide (op<((2:Nat):Int))=false:=by simp;omega
   have d3:decide (((6:Nat):Int)<op)=false:=by simp;omega
   simp only[d2,d3,isB_f,Bool.not_false,gd_some',if_true,gd_true,vb_some,l0,xGt_i,xPick_f,bite_f];have:=loop53 (n:=n) (cl:=CLV n d) (h0:=h) (x1:=b) hn h2' hk (by omega) rfl hes5 (fun x hm h _ hS es he=>ihd x (by have:=deepL_mem hm;omega) (by have:=sizeL_mem (looked_mem hm);omega) h hS es he) (looked op ks).length n 0 0 h1 (by omega) (by omega) (by omega) (by simp[reSets,PlcOk]) st;exact this
  ·have hl:looked op ks=[]:=by unfold looked;rw[if_neg (by omega),if_neg (by omega)]
   rw[hl];have fin:Ret (some ((Value.int .i64 ((0:Nat):Int)),h1)) (fun v h1=> ∃rows,Sl h h1 S OM.emp rows/\ ∃w:Nat,v= .int .i64 w/\PlcOk (reSets []).length w):=Fr.ret st ⟨0,rfl,by simp[reSets,PlcOk]⟩
   by_cases h3:op<2
   ·have d2:decide (op<((2:Nat):Int))=true:=by simp;omega
    simp only[d2,isB_f,Bool.not_true,gd_some',if_false,Bool.false_eq_true,gd_false,vb_some,xPick_t,bite_t];exact fin
   ·have d2:decide (op<((2:Nat):Int))=false:=by simp;omega
    have d3:decide (((6:Nat):Int)<op)=true:=by simp;omega
    simp only[d2,d3,isB_f,Bool.not_false,gd_some',if_true,gd_true,vb_some,l0,xGt_i,xPick_f,bite_t];exact fin
end
section
variable {n:Nat}{cl:CL}{h h0:PH}{S:Vw}{m:OM}{rows:Rws}
theorem c27(hn:4611686018427387904<=n){d:Nat}(h25: ∀v h,cl 25 [v] h=CLV n d 25 [v] h)(h53: ∀v h,cl 53 [v] h=CLV n d 53 [v] h)(h54: ∀u v h,cl 54 [u,v] h=CLV n d 54 [u,v] h){x:Re}{es:List Value}(hd:x.deep<=d)(hsz:x.size<1099511627776)(st:Sl h0 h S OM.emp rows)(he:ReE S x es):
  Ret (F27 n cl (.agg ⟨es⟩) h) fun v h'=> ∃S' ps e,Vw.le S S'/\Sl h0 h' S' OM.emp rows/\v= .tuple ⟨[.agg ⟨ps⟩,.int .i64 e]⟩/\
   ((150<x.sets.length/\e=3/\ps=[nils,.bool false,nils,nils,nils])\/(x.sets.length<=150/\200<x.deep/\e=4/\ps=[nils,.bool false,nils,nils,nils])\/(x.sets.length<=150/\x.deep<=200/\e=0/\PoV S' (poOf x) ps)):=by
 have hes:=he.len;unfold F27;refine Ret.lbox st fun h1 x1 st1=>?_;refine Ret.lalloc st1 zc43 fun h2 x2 st2=>?_;have st2:Sl h0 h2 S OM.emp ((x2,.row .own 1 [nils,.bool false,nils,nils,nils])::(x1,.row .own 1 es)::rows):=st2;have la:xLdA 6 (.pointer (some ⟨x1,0,none⟩)) h2=some (.agg ⟨es⟩):=st2.ldA (.tail _ (.head _)) (by rw[List.drop_zero, <-hes,List.take_length]) (by omega);have:=st2.ok;obtain⟨v1,_,⟨w,rfl,hw⟩,hp1⟩:=pcall_ex (c53 hn d x hd hsz h2.fzn (fun b cs e=>st2.leS b cs e) es he) (fun v _ ⟨w,e,_⟩=>by rw[e];rfl);have hp2:=pcall_fr (c25 hn d x hd hsz h2.fzn (fun b cs e=>st2.leS b cs e) es he) rfl;simp only[la,vb_some,h53,hp1,vN_eq,xGt_i]
 by_cases c1:150<x.sets.length
 ·have hd1:decide (((150:Nat):Int)<(w:Int))=true:=by have:=hw.2.2 c1;simp;omega
  simp only[hd1,bite_t,F27_0];refine Ret.vb ab43 ?_;refine Ret.lstA st2 0 rfl rfl rfl (by decide) rfl fun h3 st3=>?_;have st3:Sl h0 h3 S OM.emp ((x2,.row .own 1 [nils,.bool false,nils,nils,nils])::(x1,.row .own 1 es)::rows):=st3;have lb:xLdA 5 (.pointer (some ⟨x2,0,none⟩)) h3=some (.agg ⟨[nils,.bool false,nils,nils,nils]⟩):=st3.ldA (.head _) rfl (by simp);simp only[lb,vb_some,vN_eq];exact Ret.of ⟨S,_,3,Vw.le.refl _,st3.drop (.cons _ (.cons _ (List.Sublist.refl _))),rfl,.inl ⟨c1,rfl,rfl⟩⟩
 have hd1:decide (((150:Nat):Int)<(w:Int))=false:=by have:=hw.1;simp;omega
 simp only[hd1,bite_f,F27_3,vN_eq,xGt_i,vb_some,la,h25,hp2]
 by_cases c2:200<x.deep
 ·have hd2:decide (((200:Nat):Int)<((x.deep:Nat):Int))=true:=by simp;omega
  simp only[hd2,bite_t,F27_1];refine Ret.vb ab43 ?_;refine Ret.lstA st2 0 rfl rfl rfl (by decide) rfl fun h3 st3=>?_;have st3:Sl h0 h3 S OM.emp ((x2,.row .own 1 [nils,.bool false,nils,nils,nils])::(x1,.row .own 1 es)::rows):=st3;have lb:xLdA 5 (.pointer (some ⟨x2,0,none⟩)) h3=some (.agg ⟨[nils,.bool false,nils,nils,nils]⟩):=st3.ldA (.head _) rfl (by simp);simp only[lb,vb_some,vN_eq];exact Ret.of ⟨S,_,4,Vw.le.refl _,st3.drop (.cons _ (.cons _ (List.Sublist.refl _))),rfl,.inr (.inl ⟨by omega,c2,rfl,rfl⟩)⟩
 have hd2:decide (((200:Nat):Int)<((x.deep:Nat):Int))=false:=by simp;omega
 simp only[hd2,bite_f,F27_2];refine Ret.vb ab110 ?_;refine Ret.lbox st2 fun h3 bm st3=>?_;have st3:Sl h0 h3 S OM.emp ((bm,.row .own 1 [nils,.bool false,nils,nils,nils])::(x2,.row .own 1 [nils,.bool false,nils,nils,nils])::(x1,.row .own 1 es)::rows):=st3;obtain⟨st4,_⟩:=st3.sink (i:=0) rfl;have st4:Sl h0 h3 S (OM.emp.upd bm (.row .own 1 [nils,.bool false,nils,nils,nils])) ((x2,.row .own 1 [nils,.bool false,nils,nils,nils])::(x1,.row .own 1 es)::rows):=st4;have la4:xLdA 6 (.pointer (some ⟨x1,0,none⟩)) h3=some (.agg ⟨es⟩):=st4.ldA (.tail _ (.head _)) (by rw[List.drop_zero, <-hes,List.take_length]) (by omega);simp only[la4,vb_some,h54];have mk0:Mr S (OM.emp.upd bm (.row .own 1 [nils,.bool false,nils,nils,nils])) bm x.sets.length nils nils [] (fun _ _=>false):=
  ⟨OM.upd_self,Gs.nil,⟨[],Gs.nil,fun i hi=>by simp at hi⟩,(fun e=>by cases e),(fun e=>by cases e),fun b hb=>by cases hb⟩
 refine Ret.hb (c54 (h0:=h0) hn (by omega) d x hd (by omega) h3 S _ _ nils nils [] _ es st4 mk0 (fun i j h=>by cases h) (by simp) he) fun v5 h5 ⟨S5,m5,sv,wv,fv,lv,le5,st5,mk5,hv5,hp5⟩=>?_;subst hv5;have hev:x.ev ([]:List (List Int)).length=x.ev 0:=rfl;rw[hev]at*;have mk5:Mr S5 m5 bm x.sets.length sv wv x.sets (x.ev 0).fol:=by
  have:=mk5;simp only[List.nil_append,Bool.false_or]at this;exact this
 refine Ret.lalloc st5 zc112 fun h6 x17 st6=>?_;have hone:oneCells [.bool (x.ev 0).null,fv,lv]=true:=by
  unfold oneCells;simp only[List.all_cons,List.all_nil,hp5.f.one,hp5.l.one];rfl
 refine Ret.lstA st6 0 rfl rfl rfl (by simp) hone fun h7 st7=>?_;have st7:Sl h0 h7 S5 m5 ((x17,.row .own 1 [.bool (x.ev 0).null,fv,lv])::(x2,.row .own 1 [nils,.bool false,nils,nils,nils])::(x1,.row .own 1 es)::rows):=st7;have a0:xLd (.pointer (some ⟨x17,0,none⟩)) h7=some (.bool (x.ev 0).null):=st7.ld (.head _) rfl;simp only[xFld_p,Nat.zero_add,vb_some,a0,xNil_p];refine Ret.lst1B st7 mk5.main rfl (by simp) rfl fun h8 st8=>?_;have a1:xLd (.pointer (some ⟨x17,1,none⟩)) h8=some fv:=st8.ld (.head _) rfl;simp only[a1,vb_some];refine Ret.lst1B st8 OM.upd_self rfl (by simp) hp5.f.one fun h9 st9=>?_;have a2:xLd (.pointer (some ⟨x17,2,none⟩)) h9=some lv:=st9.ld (.head _) rfl;simp only[a2,vb_some];refine Ret.lst1B st9 OM.upd_self rfl (by simp) hp5.l.one fun h10 st10=>?_;rw[OM.upd_upd,OM.upd_upd]at st10;have st10:Sl h0 h10 S5 (m5.upd bm (.row .own 1 [sv,.bool (x.ev 0).null,fv,lv,wv])) ((x17,.row .own 1 [.bool (x.ev 0).null,fv,lv])::(x2,.row .own 1 [nils,.bool false,nils,nils,nils])::(x1,.row .own 1 es)::rows):=st10;have lc:xLdA 5 (.pointer (some ⟨bm,0,none⟩)) h10=some (.agg ⟨[sv,.bool (x.ev 0).null,fv,lv,wv]⟩):=st10.ldBA OM.upd_self rfl (by simp);obtain⟨ws,gw,hws⟩:=mk5.fol;have hone2:oneCells [sv,.bool (x.ev 0).null,fv,lv,wv]=true:=by
  unfold oneCells;simp only[List.all_cons,List.all_nil,hp5.f.one,hp5.l.one,mk5.st4.one,gw.one];rfl
 simp only[lc,vb_some];refine Ret.lstA st10 1 rfl rfl rfl (by simp) hone2 fun h11 st11=>?_;have st11:Sl h0 h11 S5 (m5.upd bm (.row .own 1 [sv,.bool (x.ev 0).null,fv,lv,wv])) ((x17,.row .own 1 [.bool (x.ev 0).null,fv,lv])::(x2,.row .own 1 [sv,.bool (x.ev 0).null,fv,lv,wv])::(x1,.row .own 1 es)::rows):=st11;have ld:xLdA 5 (.pointer (some ⟨x2,0,none⟩)) h11=some (.agg ⟨[sv,.bool (x.ev 0).null,fv,lv,wv]⟩):=st11.ldA (.tail _ (.head _)) rfl (by simp);simp only[ld,vb_some,vN_eq];have gs2:=mk5.st4.set (o:=.row .own 1 [sv,.bool (x.ev 0).null,fv,lv,wv]) mk5.sd;have gw2:=gw.set (o:=.row .own 1 [sv,.bool (x.ev 0).null,fv,lv,wv]) mk5.wd;obtain⟨S12,m12,le12,st12,hsv,keep12⟩:=Gs.settle st11 gs2;have gw3:Gs m12 1 wv x.sets.length ws:=gw2.mono fun b o hb ho=>keep12 b o ho fun e=>mk5.sw b e hb;obtain⟨S13,m13,le13,st13,hwv,_⟩:=Gs.settle st12 gw3;refine Ret.of ⟨S13,_,0,(le5.trans le12).trans le13,(st13.drop (.cons _ (.cons _ (.cons _ (List.Sublist.refl _))))).weakM (fun b o hb=>by cases hb),rfl,.inr (.inr ⟨by omega,by omega,rfl,⟨sv,fv,lv,wv,ws,rfl,hsv.mono le13,hp5.f.mono (le12.trans le13),hp5.l.mono (le12.trans le13),hwv.slv,?_,fun i l hl=>?_⟩⟩)⟩
 ·have:=gw.length;unfold poOf;simp;omega
 ·unfold poOf at hl;simp only at hl;rw[List.getElem?_map]at hl
  by_cases hi:i<x.sets.length
  ·rw[List.getElem?_range hi]at hl;cases hl;obtain⟨w,q1,q2⟩:=hws i hi;exact⟨w,q1,q2.mono (le12.trans le13)⟩
  ·rw[List.getElem?_eq_none (by simpa using hi)]at hl;cases hl
def LsV(S:Vw)(v:Value)(ls:List (List Nat)):Prop:= ∃ws,SlV S v ws/\ws.length=ls.length/\ ∀(i:Nat) l,ls[i]?=some l-> ∃w,ws[i]?=some w/\SlV S w (ns l)
theorem SlC.at{V:Vw}{sz k i:Nat}{v:Value}{cells:List Value}{kk:IntKind}(r:SlC V sz v k cells)(hi:i<k): ∃b o cs,xIdxS sz v (.int kk i)=some (.pointer (some ⟨b,o,none⟩))/\V b=some cs/\o+sz<=cs.length/\(cs.drop o).take sz=(cells.drop (i*sz)).take sz:=by
 rcases r with⟨rfl,_⟩|⟨b,o,c,cs,rfl,h1,h2,rfl⟩
 ·omega
 ·have hle:i*sz+sz<=k*sz:=by rw[<-Nat.succ_mul];exact Nat.mul_le_mul_right _ (by omega)
  refine⟨b,o+i*sz,cs,?_,h1,by omega,?_⟩
  ·have:=xIdxS_at (sz:=sz) (b:=b) (o:=o) (n:=k) (c:=c) (k:=kk) (i:=(i:Int)) (by omega) (by omega);simpa using this
  ·rw[List.drop_take,List.drop_drop,List.take_take,Nat.min_eq_left (by omega)]
theorem sets_at{sets:List (List Int)}(hs: ∀s∈sets,s.length=4){i:Nat}{s:List Int}(hi:sets[i]?=some s):((sets.flatMap u64s).drop (i*4)).take 4=u64s s:=by
 induction sets generalizing i with
 |nil=>simp at hi
 |cons x xs ih=>
  have hx:=hs x (.head _);have hxl:(u64s x).length=4:=by simp[u64s,hx]
  rw[List.flatMap_cons];cases i with
  |zero=>
   simp at hi;subst hi;rw[Nat.zero_mul,List.drop_zero,List.take_left' hxl]
  |succ i=>
   simp at hi;have e:(i+1)*4=(u64s x).length+i*4:=by rw[hxl];omega
   rw[e, <-List.drop_drop,List.drop_left];exact ih (fun s h=>hs s (.tail _ h)) hi
structure Po.In(po:Po):Prop where
 s4: ∀s∈po.sets,s.length=4
 sl:po.sets.length<1000000
 fl:po.first.length<1000000
 ll:po.last.length<1000000
 wl:po.follow.length<1000000
 wll: ∀l∈po.follow,l.length<1000000
end
def zs4:List Int:=[0,0,0,0]
def leaf1:Re:=.mk 1 zs4 []
theorem bs57{a:Int}{s0 s1 s2 s3:Int}{v:Value}(hv:v.oneCell'=true):bsRow Try.prog 55 1 [(0,.agg ⟨[.int .i64 a,.int .u64 s0,.int .u64 s1,.int .u64 s2,.int .u64 s3,v]⟩)]=some (6,[.int .i64 a,.int .u64 s0,.int .u64 s1,.int .u64 s2,.int .u64 s3,v]):=by
 cases v<;>first|(simp[Value.oneCell']at hv;done)|kernel_rfl
theorem ab57'{a:Int}{b n c:Nat}:abuild Try.prog 57 [(0,.int .i64 a),(2,.slice (some ⟨b,0,none⟩) n c)]=some (.agg ⟨[.int .i64 a,.int .u64 0,.int .u64 0,.int .u64 0,.int .u64 0,.slice (some ⟨b,0,none⟩) n c]⟩):=by kernel_rfl
theorem clt25{n d:Nat}{v:Value}{h:PH}:CLT n d 25 [v] h=CLV n d 25 [v] h:=rfl
theorem clt53{n d:Nat}{v:Value}{h:PH}:CLT n d 53 [v] h=CLV n d 53 [v] h:=rfl
theorem clt54{n d:Nat}{u v:Value}{h:PH}:CLT n d 54 [u,v] h=CLV n d 54 [u,v] h:=rfl
theorem PoV.mono{V W:Vw}{po:Po}{ps:List Value}(hs:Vw.le V W)(h:PoV V po ps):PoV W po ps:=by
 obtain⟨sv,fv,lv,wv,ws,e,a1,a2,a3,a4,a5,a6⟩:=h;exact⟨sv,fv,lv,wv,ws,e,a1.mono hs,a2.mono hs,a3.mono hs,a4.mono hs,a5,fun i l hl=>let⟨w,q1,q2⟩:=a6 i l hl;⟨w,q1,q2.mono hs⟩⟩
def po0:Po:=⟨[],false,[],[],[]⟩
theorem PoV.ps{V:Vw}{po:Po}{ps:List Value}(h:PoV V po ps):ps.length=5/\oneCells ps=true:=by
 obtain⟨sv,fv,lv,wv,ws,rfl,q1,q2,q3,q4,_⟩:=h;refine⟨rfl,?_⟩;unfold oneCells;simp only[List.all_cons,List.all_nil,q1.one,q2.one,q3.one,q4.one];rfl
mutual
theorem ReE.s4{V:Vw}: ∀{x:Re}{es:List Value},ReE V x es-> ∀s∈x.sets,s.length=4
 | .mk op s ks,es,h=>by
  obtain⟨kv,_,hs,hk⟩:=ReE_mk.1 h;rw[Re.sets_looked]
  split
  ·intro t ht;simp at ht;subst ht;exact hs
  ·have key: ∀s∈reSets ks,s.length=4:=by
    rcases hk with⟨rfl,_⟩|⟨b,o,c,cs,_,_,_,_,hc⟩
    ·intro t ht;simp[reSets]at ht
    ·exact KidsC.s4 hc
   intro t ht;refine key t ?_;unfold looked at ht
   split at ht
   ·exact ht
   ·split at ht
    ·cases ks with
     |nil=>simp[reSets]at ht
     |cons k ks=>simp[reSets]at ht ⊢;exact .inl ht
    ·simp[reSets]at ht
theorem KidsC.s4{V:Vw}: ∀{ks:List Re}{cs:List Value},KidsC V ks cs-> ∀s∈reSets ks,s.length=4
 | [],cs,h=>by intro t ht;simp[reSets]at ht
 |k::ks,cs,h=>by
  unfold KidsC at h;intro t ht;unfold reSets at ht;rcases List.mem_append.1 ht with ht|ht
  ·exact ReE.s4 h.1 t ht
  ·exact KidsC.s4 h.2 t ht
end
def zv(l:List Int):List Value:=l.map fun z=>.int .i64 z
theorem zv_get{l:List Int}{i:Nat}{z:Int}(h:l[i]?=some z):(zv l)[i]?=some (.int .i64 z):=by simp[zv,h]
theorem zv_len(l:List Int):(zv l).length=l.length:=by simp[zv]
def Gc(v:Value):Prop:=v=nils\/ ∃b k,v= .slice (some ⟨b,0,none⟩) k openCap
theorem growR_v{sz b k o n:Nat}{kill:Bool}{cs new:List Value}{h h':PH}{v:Value}(hx:growR sz b k o kill cs new n h=some (v,h')): ∃b',v= .slice (some ⟨b',0,none⟩) n openCap:=by
 unfold growR at hx
 split at hx<;>try (cases hx;done)
 split at hx
 ·split at hx<;>try (cases hx;done)
  rw[seqN_eq]at hx;cases hx;exact⟨_,rfl⟩
 ·rw[seqN_eq]at hx;cases hx;exact⟨_,rfl⟩
theorem xApp_gc{ai:Option (Nat×Nat)}{v v' x:Value}{h h':PH}(g:Gc v)(e:xApp ai v x h=some (v',h')):Gc v':=by
 unfold xApp at e
 split at e<;>try (cases e;done)
 split at e<;>try (cases e;done)
 split at e<;>try (cases e;done)
 rcases g with rfl|⟨b,k,rfl⟩
 ·simp only[nils]at e
  split at e
  ·cases e;exact .inl rfl
  ·split at e<;>try (cases e;done)
   split at e<;>try (cases e;done)
   cases e;exact .inr ⟨_,_,rfl⟩
 ·simp only at e
  split at e
  ·split at e<;>try (cases e;done)
   cases e;exact .inr ⟨_,_,rfl⟩
  ·split at e<;>try (cases e;done)
   split at e<;>try (cases e;done)
   split at e<;>try (cases e;done)
   split at e
   ·split at e
    ·split at e<;>try (cases e;done)
     split at e<;>try (cases e;done)
     exact .inr ⟨_,_,(stayR_ok e).1⟩
    ·obtain⟨_,q⟩:=growR_v e;exact .inr ⟨_,_,q⟩
   ·split at e<;>try (cases e;done)
    split at e<;>try (cases e;done)
    split at e<;>try (cases e;done)
    split at e<;>try (cases e;done)
    split at e
    ·exact .inr ⟨_,_,(stayR_ok e).1⟩
    ·obtain⟨_,q⟩:=growR_v e;exact .inr ⟨_,_,q⟩
section
variable {Q:Value->PH->Prop}{n:Nat}{cl:CL}{h h0:PH}{S:Vw}{m:OM}{rows:Rws}{K2:Value->PH->R}
theorem KidsC.more{V:Vw}: ∀{ks:List Re}{cs:List Value}(k:Nat),KidsC V ks (cs.take k)->ks.length*6<=k->KidsC V ks cs
 | [],cs,k,h,_=>by simp[KidsC]
 |x::ks,cs,k,h,hk=>by
  unfold KidsC at h ⊢;have hk:(ks.length+1)*6<=k:=hk;rw[List.take_take,Nat.min_eq_left (by omega),List.drop_take]at h;exact⟨h.1,KidsC.more (k-6) h.2 (by omega)⟩
theorem SlC.kids{V:Vw}{ks:List Re}{v:Value}{k:Nat}{cells:List Value}(r:SlC V 6 v k cells)(gc:Gc v)(hk:ks.length=k)(hk':k<=4611686018427387904)(hc:KidsC V ks cells):KidsV V ks v:=by
 rcases r with⟨rfl,rfl,rfl⟩|⟨b,o,c,cs,rfl,h1,h2,rfl⟩
 ·have hks:ks=[]:=List.eq_nil_of_length_eq_zero hk;subst hks;exact .inl ⟨rfl,none,0,rfl,CapOk.self (by omega),rfl⟩
 ·rcases gc with e|⟨b,k,e⟩
  ·cases e
  ·cases e;subst hk;exact .inr ⟨b,0,openCap,cs,rfl,CapOk.opn hk',h1,h2,KidsC.more _ hc (Nat.le_refl _)⟩
end
theorem ai55:appInfo Try.prog #[55,55]=some (6,64):=by kernel_rfl
theorem KidsC.snoc'{V:Vw}{x:Re}{es:List Value}(hx:ReE V x es): ∀{ks:List Re}{cs:List Value},KidsC V ks cs->cs.length=ks.length*6->KidsC V (ks++[x]) (cs++es)
 | [],cs,_,hl=>by
  have:cs=[]:=List.eq_nil_of_length_eq_zero (by simpa using hl);subst this;rw[List.nil_append,List.nil_append];unfold KidsC;have:=hx.len;rw[List.take_of_length_le (by omega)];exact⟨hx,by unfold KidsC;trivial⟩
 |k::ks,cs,h,hl=>by
  unfold KidsC at h;rw[List.cons_append];unfold KidsC;have hl:cs.length=(ks.length+1)*6:=hl;rw[List.take_append_of_le_length (by omega),List.drop_append_of_le_length (by omega)];exact⟨h.1,KidsC.snoc' hx h.2 (by simp;omega)⟩
end Go.Am
