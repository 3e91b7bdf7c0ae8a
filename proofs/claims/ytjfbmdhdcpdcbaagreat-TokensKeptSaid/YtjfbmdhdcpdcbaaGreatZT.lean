import Derived.Test.YtjfbmdhdcpdcbaaGreatZD
import Derived.Test.YtjfbmdhdcpdcbaaGreatZC
import Derived.Tactics
import Derived.Tactics2
import Derived.Defers
import Derived.Laws.Pointers
import Derived.Laws.LoneSync
import Derived.RegionTactic
import Derived.RegionCalls
import Derived.ChangeAlike
import Derived.Laws.NewBlocks
set_option linter.unusedSimpArgs false
set_option linter.unusedVariables false
namespace Go.Am
open Go Go.RowKit Go.Proofs
def Byt(w:List Nat):Prop:= ∀c∈w,c<256
structure Canon(d:Dfa):Prop where
 pos:0<d.next.length
 al:d.acc.length=d.next.length
 rl: ∀r∈d.next,r.length=256
 rng: ∀(i c:Nat),i<d.next.length->c<256->dstep d i c= -1\/ ∃k:Nat,k<d.next.length/\dstep d i c=k
 live: ∀(i c:Nat),i<d.next.length->c<256->dstep d i c≠ -1-> ∃w,Byt w/\dacc d (drun d (dstep d i c) w)≠ -1
 dis: ∀(i j:Nat),i<d.next.length->j<d.next.length->(∀w,Byt w->dacc d (drun d i w)=dacc d (drun d j w))->i=j
 o: ∀k,1<=k->k<d.next.length-> ∃i c,i<k/\c<256/\dstep d (i:Nat) c=((k:Nat):Int)
 d: ∀(i c j k:Nat),i<d.next.length->c<256->dstep d i c=(j:Int)->1<=k->k<j-> ∃i' c',Bef i' c' i c/\c'<256/\dstep d (i':Nat) c'=((k:Nat):Int)
theorem dstep_neg{d:Dfa}{c:Nat}:dstep d (-1) c= -1:=rfl
theorem drun_neg{d:Dfa}: ∀(w:List Nat),drun d (-1) w= -1
 | []=>rfl
 |c::w=>drun_neg w
theorem drun_cons{d:Dfa}{i:Int}{c:Nat}{w:List Nat}:drun d i (c::w)=drun d (dstep d i c) w:=rfl
def Alk(d d':Dfa)(i j:Int):Prop:= ∀w,Byt w->dacc d (drun d i w)=dacc d' (drun d' j w)
section
variable {d d' d'':Dfa}{i j:Int}
end
section
variable {s:Ss}{cls:List Int}{d:Dfa}{st:List Nat}{nr:List Int}
def Slk(s:Ss)(j k:Nat):Prop:= ∀w,Byt w->accv s (runm s j w)=accv s (runm s k w)
theorem runm_cons{q c:Nat}{w:List Nat}:runm s q (c::w)=runm s (mv s q c) w:=rfl
theorem Slk.bisim:Bisim s (Slk s):=fun j k _ _ h=>⟨h [] (fun _ h=>by cases h),fun c hc w hw=>h (c::w) (fun x hx=>by
  rcases List.mem_cons.1 hx with rfl|hx
  ·exact hc
  ·exact hw x hx)⟩
theorem ClsOk.slk(ck:ClsOk s cls){j k:Nat}(hj:j<=s.alls.length)(hk:k<=s.alls.length)(h:Slk s j k):cls.getD j 0=cls.getD k 0:=ck.coarse _ Slk.bisim j k hj hk h
theorem runm_n: ∀(w:List Nat),runm s s.alls.length w=s.alls.length
 | []=>rfl
 |c::w=>by rw[runm_cons,mv_n];exact runm_n w
theorem NumD.canon(hf:s.Fin)(ck:ClsOk s cls)(hd:NumD s cls d):Canon d/\ ∀w,Byt w->dacc d (drun d 0 w)=accv s (runm s 0 w):=by
 obtain⟨st,nr,nb,hl⟩:=hd;have run: ∀(i u:Nat) w,st[i]?=some u->Byt w->dacc d (drun d i w)=accv s (runm s u w):=by
  intro i u w hi hw;have hu:=nb.stl u (List.mem_of_getElem? hi);have h:=RelD.run hf ck nb hl w (i:=i) (q:=u) (by omega) hw (.inr ⟨i,u,rfl,hi,rfl⟩);exact h.acc hf ck nb hl (runm_le hf (by omega))
 have at': ∀(i c:Nat),i<d.next.length->c<256-> ∃u,st[i]?=some u/\Ent s cls st u c (dstep d i c)/\Tb d.next nr 0 i c (dstep d i c):=by
  intro i c hi hc;obtain⟨r,z,h1,h2,h3,h4⟩:=nb.tb (k:=i) hl (by omega) hc;have e:dstep d i c=z:=by unfold dstep;rw[if_neg (by omega)];exact h3
  obtain⟨u,h5,h6⟩:=nb.e i c z h4;exact⟨u,h5,by rw[e];exact h6,by rw[e];exact h4⟩
 have back: ∀(i c:Nat) z,Tb d.next nr 0 i c z->i<d.next.length/\c<256/\dstep d i c=z:=by
  rintro i c z (⟨r,h1,h2⟩|⟨_,h,_⟩)
  ·have hi:=(List.getElem?_eq_some_iff.1 h1).1;have hr:=nb.rl r (List.mem_of_getElem? h1);have hc:=(List.getElem?_eq_some_iff.1 h2).1;refine⟨hi,by omega,?_⟩;unfold dstep;rw[if_neg (by omega),show((i:Nat):Int).toNat=i from rfl,List.getD_eq_getElem?_getD (l:=d.next),h1]
   show r.getD c (-1)=z
   rw[List.getD_eq_getElem?_getD,h2];rfl
  ·omega
 have hst0:=nb.st0;have hpos:0<st.length:=(List.getElem?_eq_some_iff.1 hst0).1;refine⟨⟨by omega,nb.al,nb.rl,?_,?_,?_,?_,?_⟩,fun w hw=>run 0 0 w hst0 hw⟩
 ·intro i c hi hc;obtain⟨u,h1,h2,_⟩:=at' i c hi hc;rcases h2 with⟨_,h⟩|⟨_,j,h,v,h3,_⟩
  ·exact .inl h
  ·exact .inr ⟨j,by rw[hl];exact(List.getElem?_eq_some_iff.1 h3).1,h⟩
 ·intro i c hi hc hne;obtain⟨u,h1,h2,_⟩:=at' i c hi hc;rcases h2 with⟨_,h⟩|⟨h4,j,h,v,h3,h5⟩
  ·exact absurd h hne
  ·rw[h];refine Classical.byContradiction fun hno=>?_;have hv:=nb.stl v (List.mem_of_getElem? h3);refine h4 ?_;rw[<-h5];refine ck.slk (by omega) (Nat.le_refl _) fun w hw=>?_;rw[runm_n,accv_n hf, <-run j v w h3 hw];exact Classical.byContradiction fun hx=>hno ⟨w,hw,hx⟩
 ·intro i j hi hj h;have ui:=List.getElem?_eq_getElem (l:=st) (i:=i) (by omega);have uj:=List.getElem?_eq_getElem (l:=st) (i:=j) (by omega);refine nb.dis i j _ _ ui uj (ck.slk ?_ ?_ fun w hw=>?_)
  ·have:=nb.stl _ (List.mem_of_getElem? ui);omega
  ·have:=nb.stl _ (List.mem_of_getElem? uj);omega
  ·rw[<-run i _ w ui hw, <-run j _ w uj hw];exact h w hw
 ·intro k h1 h2;obtain⟨i,c,h3,h4⟩:=nb.o k h1 (by omega);obtain⟨b1,b2,b3⟩:=back i c _ h4;exact⟨i,c,h3,b2,b3⟩
 ·intro i c j k hi hc he h1 h2;obtain⟨u,_,_,h3⟩:=at' i c hi hc;rw[he]at h3;obtain⟨i',c',h4,h5⟩:=nb.d i c j k h3 h1 h2;obtain⟨b1,b2,b3⟩:=back i' c' _ h5;exact⟨i',c',h4,b2,b3⟩
end
abbrev Spt:=Nat×Int
def spc1(z:Spt):List Value:=[.int .i64 (z.1:Nat),.int .i64 z.2]
def spc(l:List Spt):List Value:=l.flatMap spc1
def SpL(V:Vw)(v:Value)(l:List Spt):Prop:=(l=[]/\v=nils)\/ ∃b cs,v= .slice (some ⟨b,0,none⟩) l.length openCap/\V b=some cs/\l.length*2<=cs.length/\cs.take (l.length*2)=spc l
noncomputable def fs127:Array Field:=match Tryz.prog.underlying 189 with
 |some (.struct fs)=>fs
 |_=> #[]
section
variable {Q:Value->PH->Prop}{n:Nat}{cl:CL}{h h0:PH}{S:Vw}{m:OM}{rows:Rws}{K2:Value->PH->R}
end
def lessS(y z:Spt):Prop:=y.1<z.1\/(y.1=z.1/\y.2<z.2)
instance:DecidableRel lessS:=fun y z=>by unfold lessS;infer_instance
section
variable {Q:Value->PH->Prop}{n:Nat}{cl:CL}{h h0:PH}{S:Vw}{m:OM}{rows:Rws}{K2:Value->PH->R}
def AddQ(h:PH)(S:Vw)(v:Value)(l:List Spt)(x:Spt)(u:Value)(h1:PH):Prop:= ∃S' l',Sl h h1 S' OM.emp []/\l'.Pairwise lessS/\(∀z,z∈l'↔z∈l\/z=x)/\(SpL (Nw h S') u l'\/(u=v/\l'=l))
end
structure PoB(po:Po):Prop where
 inn:po.In
 fl:po.follow.length=po.sets.length
 f1: ∀y∈po.first,y<po.sets.length
 fy: ∀w∈po.follow, ∀y∈w,y<po.sets.length
 n:po.sets.length<1000
def nextP(po:Po)(a:Int):List Nat:=if a<0 then po.first else po.follow.getD a.toNat []
def Ctr(l:List Po)(c:Nat)(z0 z:Spt):Prop:= ∃po y,l[z0.1]?=some po/\y∈nextP po z0.2/\takesB po c y=true/\z=(z0.1,((y:Nat):Int))
def StepS(l:List Po)(c:Nat)(s:List Spt)(z:Spt):Prop:= ∃z0∈s,Ctr l c z0 z
def ValS(l:List Po)(z:Spt):Prop:= ∃po,l[z.1]?=some po/\(z.2= -1\/ ∃a:Nat,z.2=a/\a<po.sets.length)
def BdS(z:Spt):Prop:=z.1<41/\ -1<=z.2/\z.2<1000
section
variable {Q:Value->PH->Prop}{n:Nat}{cl:CL}{h h0:PH}{S:Vw}{m:OM}{rows:Rws}{K2:Value->PH->R}
def StepQ(l:List Po)(c:Nat)(s:List Spt)(h0:PH)(u:Value)(h1:PH):Prop:= ∃S' l',Sl h0 h1 S' OM.emp []/\SpL (Nw h0 S') u l'/\l'.Pairwise lessS/\ ∀z,z∈l'↔StepS l c s z
end
def AccP(po:Po)(a:Int):Prop:=(a<0/\po.null=true)\/(0<=a/\a.toNat∈po.last)
section
variable {Q:Value->PH->Prop}{n:Nat}{cl:CL}{h h0:PH}{S:Vw}{m:OM}{rows:Rws}{K2:Value->PH->R}
end
def LeadR(l:List Po)(all:List (List Spt))(s:List Spt)(c:Nat)(z:Int):Prop:=
 (z= -1/\ ∀x, ¬ StepS l c s x)\/ ∃(k:Nat) (t:List Spt),z=k/\all[k]?=some t/\(∃x,x∈t)/\ ∀x,x∈t↔StepS l c s x
theorem get_sn{α:Type}{a:List α}{i:Nat}{t y:α}(h:(a++[t])[i]?=some y):a[i]?=some y\/(i=a.length/\y=t):=by
 by_cases hlt:i<a.length
 ·rw[List.getElem?_append_left hlt]at h;exact .inl h
 ·rw[List.getElem?_append_right (by omega)]at h;have hi0:i-a.length=0:=by
   have:=(List.getElem?_eq_some_iff.1 h).1;simp at this;omega
  rw[hi0]at h;exact .inr ⟨by omega,by simpa using h.symm⟩
structure SubI(l:List Po)(all:List (List Spt))(nxs:List (List Int))(oks:List Int):Prop where
 a0: ∃f,all[0]?=some f/\ ∀x:Spt,x∈f↔x.2= -1/\x.1<l.length
 so: ∀t∈all,t.Pairwise lessS/\ ∀z∈t,BdS z/\ValS l z
 ds: ∀(i j:Nat) t,all[i]?=some t->all[j]?=some t->i=j
 sz:all.length<=400
 nl:nxs.length<=all.length
 ol:oks.length=nxs.length
 row: ∀(i:Nat) r,nxs[i]?=some r->r.length=256/\ ∀(c:Nat) z,r[c]?=some z-> ∃s,all[i]?=some s/\LeadR l all s c z
 acc: ∀(i:Nat) s z,all[i]?=some s->oks[i]?=some z->FstI l.length (fun k=> ∃a po,(k,a)∈s/\l[k]?=some po/\AccP po a) z
def RowI(l:List Po)(all:List (List Spt))(s:List Spt)(nr:List Int)(c:Nat):Prop:=nr.length=256/\ ∀(c':Nat) z,c'<c->nr[c']?=some z->LeadR l all s c' z
def sl256(b:Nat):Value:=.slice (some ⟨b,0,none⟩) 256 256
def nrows(rbs:List Nat)(nxs:List (List Int)):Rws:=(rbs.zip nxs).map fun p=>(p.1,AObj.row .own 1 (zv p.2))
def Sb(S:Vw)(rows rest:Rws)(bx:Nat)(av:Value)(all:List (List Spt))(nxs:List (List Int))(oks:List Int)(rbs:List Nat):Prop:= ∃nv ov exA exN exO cA,
 rows=(bx,.row .own 1 [nv,ov,.bool false])::(exA++(exN++(exO++rest)))/\Gq av all.length cA exA/\(∀(i:Nat) t,all[i]?=some t-> ∃x,cA[i]?=some x/\SpL S x t)/\Gl 1 nv nxs.length (rbs.map sl256) exN/\Gl 1 ov oks.length (zv oks) exO
section
variable {rows rest:Rws}{bx:Nat}{av:Value}{all:List (List Spt)}{nxs:List (List Int)}{oks:List Int}{rbs:List Nat}
variable {Q:Value->PH->Prop}{n:Nat}{cl:CL}{h h0:PH}{S:Vw}{m:OM}{K2:Value->PH->R}
end
def RawV(ex:Rws)(u:Value)(nxs:List (List Int))(oks:List Int)(rbs:List Nat):Prop:= ∃nv ov exN exO,ex=exN++(exO++nrows rbs nxs)/\u= .agg ⟨[nv,ov,.bool false]⟩/\Gl 1 nv nxs.length (rbs.map sl256) exN/\Gl 1 ov oks.length (zv oks) exO/\rbs.length=nxs.length
def SubQ(l:List Po)(u:Value)(ex:Rws):Prop:=(∃a b,u= .agg ⟨[a,b,tt]⟩/\a.oneCell'=true/\b.oneCell'=true)\/ ∃all nxs oks rbs,RawV ex u nxs oks rbs/\SubI l all nxs oks/\nxs.length=all.length
section
variable {Q:Value->PH->Prop}{n:Nat}{cl:CL}{h h0:PH}{m:OM}{K2:Value->PH->R}{rows rest:Rws}{bx:Nat}{nxs:List (List Int)}{oks:List Int}{rbs:List Nat}
end
def entZ(nxs:List (List Int))(i c:Nat):Int:=(nxs.getD i []).getD c (-1)
structure NxOk(N:Nat)(nxs:List (List Int)):Prop where
 len:nxs.length=N
 row: ∀(i:Nat) r,nxs[i]?=some r->r.length=256/\ ∀(c:Nat) z,r[c]?=some z->z= -1\/(0<=z/\z<N)
inductive Live(nxs:List (List Int))(oks:List Int):Nat->Prop
 |acc (i:Nat):0<=oks.getD i (-1)->Live nxs oks i
 |step (i c k:Nat):c<256->entZ nxs i c=((k:Nat):Int)->Live nxs oks k->Live nxs oks i
def RwR(V:Vw)(es:List Value)(nxs:List (List Int))(oks:List Int):Prop:= ∃nv ov x vs,es=[nv,ov,x]/\x.oneCell'=true/\SlV V nv vs/\(∀(i:Nat) r,nxs[i]?=some r-> ∃y,vs[i]?=some y/\SlV V y (zv r))/\SlV V ov (zv oks)
def Good(nxs:List (List Int))(oks:List Int)(bs:List Bool)(i:Nat):Prop:=0<=oks.getD i (-1)\/ ∃c k:Nat,c<256/\entZ nxs i c=((k:Nat):Int)/\bs[k]?=some true
section
variable {Q:Value->PH->Prop}{n:Nat}{cl:CL}{h h0:PH}{S:Vw}{m:OM}{rows:Rws}{K2:Value->PH->R}
end
section
open Classical in
noncomputable def npt(E:Nat->Nat->Prop):Nat->Nat
 |0=>0
 |N+1=>npt E N+(if∀k,k<N-> ¬ E N k then 1 else 0)
end
def EqC(cls:List Int)(i k:Nat):Prop:=cls.getD i 0=cls.getD k 0
def AlkC(nxs:List (List Int))(cls:List Int)(i k:Nat):Prop:=cls.getD i 0=cls.getD k 0/\ ∀c,c<256->(entZ nxs i c<0↔entZ nxs k c<0)/\(0<=entZ nxs i c->cls.getD (entZ nxs i c).toNat 0=cls.getD (entZ nxs k c).toNat 0)
section
variable {Q:Value->PH->Prop}{n:Nat}{cl:CL}{h h0:PH}{S:Vw}{m:OM}{rows:Rws}{K2:Value->PH->R}
end
structure NgI(nxs:List (List Int))(cls nx:List Int)(cnt i N:Nat):Prop where
 len:nx.length=N
 num: ∀j,j<i-> ∃t:Nat,t<cnt/\nx[j]?=some ((t:Nat):Int)
 eq: ∀j k,j<i->k<i->(nx.getD j 0=nx.getD k 0↔AlkC nxs cls j k)
 cnt:cnt=npt (AlkC nxs cls) i
def RBis(nxs:List (List Int))(oks:List Int)(N:Nat)(R:Nat->Nat->Prop):Prop:= ∀j k,j<N->k<N->R j k->oks.getD j (-1)=oks.getD k (-1)/\ ∀c,c<256->(entZ nxs j c<0↔entZ nxs k c<0)/\(0<=entZ nxs j c->R (entZ nxs j c).toNat (entZ nxs k c).toNat)
structure CI(nxs:List (List Int))(oks cls:List Int)(N:Nat):Prop where
 len:cls.length=N
 acc: ∀j k,j<N->k<N->cls.getD j 0=cls.getD k 0->oks.getD j (-1)=oks.getD k (-1)
 coarse: ∀R,RBis nxs oks N R-> ∀j k,j<N->k<N->R j k->cls.getD j 0=cls.getD k 0
structure ClsR(nxs:List (List Int))(oks nx:List Int)(N:Nat):Prop where
 ci:CI nxs oks nx N
 num: ∀j,j<N-> ∃t:Nat,t<N/\nx[j]?=some ((t:Nat):Int)
 stab: ∀j k,j<N->k<N->nx.getD j 0=nx.getD k 0-> ∀c,c<256->(entZ nxs j c<0↔entZ nxs k c<0)/\(0<=entZ nxs j c->nx.getD (entZ nxs j c).toNat 0=nx.getD (entZ nxs k c).toNat 0)
section
variable {Q:Value->PH->Prop}{n:Nat}{cl:CL}{h h0:PH}{S:Vw}{K2:Value->PH->R}
end
def rawS(N:Nat)(nxs:List (List Int))(oks:List Int):Ss:=⟨List.replicate N [],nxs,oks⟩
def prn(bs:List Bool)(z:Int):Int:=if 0<=z/\bs[z.toNat]?≠some true then -1 else z
structure Prn(N:Nat)(nxs nx2:List (List Int))(bs:List Bool):Prop where
 ok:NxOk N nxs
 ok2:NxOk N nx2
 ent: ∀i c,i<N->c<256->entZ nx2 i c=prn bs (entZ nxs i c)
section
variable {N:Nat}{nxs nx2:List (List Int)}{bs:List Bool}{oks cls:List Int}
def cls2(N:Nat)(bs:List Bool)(cls:List Int):List Int:=(List.range N).map (fun i=>if bs[i]?=some true then cls.getD i 0 else(N:Int))++[(N:Int)]
end
section
variable {l:List Po}{all:List (List Spt)}{nxs nx2:List (List Int)}{oks:List Int}{bs:List Bool}
def SpotW(l:List Po)(w:List Nat)(x:Spt):Prop:= ∃po,l[x.1]?=some po/\(if w=[]then x.2= -1 else∃y:Nat,x.2=y/\DP po w y)
end
structure PrI(N:Nat)(nxs nx2:List (List Int))(bs:List Bool)(i c:Nat):Prop where
 ok2:NxOk N nx2
 done: ∀i' c',i'<N->c'<256->Bef i' c' i c->entZ nx2 i' c'=prn bs (entZ nxs i' c')
 todo: ∀i' c',i'<N->c'<256-> ¬ Bef i' c' i c->entZ nx2 i' c'=entZ nxs i' c'
section
variable {Q:Value->PH->Prop}{n:Nat}{cl:CL}{h h0:PH}{S:Vw}{m:OM}{rest:Rws}{K2:Value->PH->R}
end
def Om(h0:PH)(S:Vw)(rows rest:Rws)(d2:Nat)(sv:Value)(st:List Nat)(nxs:List (List Int))(accs:List Int):Prop:= ∃nv av exS exN exA cN,
 rows=(d2,.row .own 1 [nv,av])::(exS++(exN++(exA++rest)))/\Gq sv st.length (ns st) exS/\Gq nv nxs.length cN exN/\(∀(i:Nat) r,nxs[i]?=some r-> ∃x,cN[i]?=some x/\SlV (Nw h0 S) x (zv r))/\Gq av accs.length (zv accs) exA
section
variable {h0:PH}{rows rest:Rws}{d2:Nat}{sv:Value}{st:List Nat}{nxs:List (List Int)}{accs:List Int}
variable {Q:Value->PH->Prop}{n:Nat}{cl:CL}{h:PH}{S:Vw}{m:OM}{K2:Value->PH->R}
end
section
variable {Q:Value->PH->Prop}{n:Nat}{cl:CL}{h h0:PH}{S:Vw}{m:OM}{rows rest rows0:Rws}{d2:Nat}{K2:Value->PH->R}
def RefV(l:List Po)(V:Vw)(v:Value):Prop:=
 (40<l.length/\v= .tuple ⟨[.agg ⟨[nils,nils]⟩,.int .i64 3,tt]⟩)\/(l.length<=40/\(v= .tuple ⟨[.agg ⟨[nils,nils]⟩,.int .i64 0,ff]⟩\/
  ∃d dv all nxs oks,v= .tuple ⟨[dv,.int .i64 0,tt]⟩/\DfV V dv d/\Canon d/\(∀w,Byt w->FstI l.length (fun k=> ∃po,l[k]?=some po/\takesP po w) (dacc d (drun d 0 w)))/\SubI l all nxs oks/\nxs.length=all.length))
end
section
variable {l:List Po}{p:Pp}{a0:Int}{s:Ss}
def SetW(l:List Po)(w:List Nat)(ws:List Nat):Prop:= ∀g,hs ws g=true↔ ∃k po y,l[k]?=some po/\g=off l k+y/\DP po w y
end
theorem clv158{n d:Nat}{v:Value}{h:PH}:LV n (d+1) 158 [v] h=F158 n (LV n d) v h:=rfl
section
variable {Q:Value->PH->Prop}{n:Nat}{cl:CL}{h h0:PH}{S:Vw}{m:OM}{rows:Rws}{K2:Value->PH->R}
def LsZ(S:Vw)(v:Value)(ls:List (List Int)):Prop:= ∃ws,SlV S v ws/\ws.length=ls.length/\ ∀(i:Nat) l,ls[i]?=some l-> ∃w,ws[i]?=some w/\SlV S w (zv l)
end
def rT:Rdr ByteArray:=⟨1,fun _ t es=>es=[.string t],fun _ h=>h,fun h=>by rw[h];rfl,fun h=>by rw[h];rfl⟩
section
open Go.ChangeShapes Go.WideShapes
end
end Go.Am
namespace Go.Am
open Go Go.RowKit Go.Proofs
def isSl(v:Value):Prop:=v=nils\/ ∃b o n c,v= .slice (some ⟨b,o,none⟩) n c
theorem SlV.isSl{V:Vw}{v:Value}{vs:List Value}(h:SlV V v vs):isSl v:=by
 rcases h with⟨_,rfl⟩|⟨b,o,c,cs,rfl,_⟩
 ·exact .inl rfl
 ·exact .inr ⟨_,_,_,_,rfl⟩
theorem SlC.isSl{V:Vw}{sz k:Nat}{v:Value}{cells:List Value}(h:SlC V sz v k cells):isSl v:=by
 rcases h with⟨_,_,rfl⟩|⟨b,o,c,cs,rfl,_⟩
 ·exact .inl rfl
 ·exact .inr ⟨_,_,_,_,rfl⟩
theorem bs80{a c d e:Value}{b:Bool}(ha:isSl a)(hc:isSl c)(hd:isSl d)(he:isSl e):bsRow Tryz.prog 80 1 [(0,.agg ⟨[a,.bool b,c,d,e]⟩)]=some (5,[a,.bool b,c,d,e]):=by
 rcases ha with rfl|⟨_,_,_,_,rfl⟩<;>rcases hc with rfl|⟨_,_,_,_,rfl⟩<;>rcases hd with rfl|⟨_,_,_,_,rfl⟩<;>rcases he with rfl|⟨_,_,_,_,rfl⟩<;>kernel_rfl
theorem bsPo{V:Vw}{po:Po}{ps:List Value}(h:PoV V po ps):bsRow Tryz.prog 80 1 [(0,.agg ⟨ps⟩)]=some (5,ps):=by
 obtain⟨sv,fv,lv,wv,ws,rfl,q1,q2,q3,q4,_⟩:=h.h;exact bs80 q1.isSl q2.isSl q3.isSl q4.isSl
theorem ai80:appInfo Tryz.prog #[80,80]=some (5,104):=by kernel_rfl
def PoG(po:Po):Prop:= ∃x:Re,po=poOf x/\x.sets.length<=150/\po.In
theorem PoG.ok{po:Po}(h:PoG po):PoB po:=by
 obtain⟨x,rfl,h1,h2⟩:=h;have hs:(poOf x).sets.length=x.sets.length:=rfl;refine⟨h2,by rw[hs];unfold poOf;simp,fun y hy=>?_,fun w hw y hy=>?_,by omega⟩
 ·rw[hs];exact(mem_srt.1 hy).1
 ·unfold poOf at hw;simp only[List.mem_map]at hw;obtain⟨i,_,rfl⟩:=hw;rw[hs];exact(mem_srt.1 hy).1
theorem tot_le: ∀{l:List Po},(∀po∈l,PoG po)->tot l<=l.length*150
 | [],_=>by simp[tot]
 |po::l,h=>by
  have h1:=tot_le (l:=l) fun p hp=>h p (.tail _ hp);obtain⟨x,rfl,h2,_⟩:=h po (.head _);have hs:(poOf x).sets.length=x.sets.length:=rfl
  show(poOf x).sets.length+tot l<=(l.length+1)*150
  omega
section
variable {Q:Value->PH->Prop}{n:Nat}{cl:CL}{h h0:PH}{S:Vw}{m:OM}{rows:Rws}{K2:Value->PH->R}
def PatQ(h0:PH)(S:Vw)(k:Nat)(v:Value)(h1:PH):Prop:= ∃S',Vw.le S S'/\Sl h0 h1 S' OM.emp []/\(v= .tuple ⟨[nils,ff]⟩\/ ∃pv l,v= .tuple ⟨[pv,tt]⟩/\PoL S' pv l/\l.length=k/\ ∀po∈l,PoG po)
end
theorem DfV.agg{V:Vw}{v:Value}{d:Dfa}(h:DfV V v d): ∃nv av,v= .agg ⟨[nv,av]⟩/\nv.oneCell'=true/\av.oneCell'=true:=by
 obtain⟨nv,av,vs,rfl,a1,_,_,a4⟩:=h;exact⟨nv,av,rfl,a1.one,a4.one⟩
theorem one2{a b:Value}(ha:a.oneCell'=true)(hb:b.oneCell'=true):oneCells [a,b]=true:=by unfold oneCells;simp[ha,hb]
section
variable {n:Nat}{h h0:PH}{S:Vw}
end
theorem max48{x:Int}:(if plainV.plainVs [(vM 0),(.int .i64 x)]then prun Tryz.prog (Builtin.max_ #[3,3] 3 ⟨[(vM 0),(.int .i64 x)]⟩)else none)=some (.int .i64 (if(-1:Int)<x then x else -1)):=by kernel_rfl
theorem xConvI_i{k k':IntKind}{x:Int}:xConvI k (.int k' x)=some (.int k (k.wrap x)):=by simp only[xConvI,mkI_eq,wr_eq]
def rowR(d:Dfa)(s:Int):Value:=if s= -1 then .tuple ⟨[.int .i64 (-1),ff]⟩else .tuple ⟨[.int .i64 (if(-1:Int)<dacc d s then dacc d s else -1),tt]⟩
section
variable {n:Nat}{cl:CL}{h h0:PH}{S:Vw}{m:OM}{rows:Rws}{dv bv:Value}{d:Dfa}
theorem c105[OkH h](hS:Vw.le S h.cells){s:Int}(hd:DfV S dv d)(al:d.acc.length=d.next.length):pcall (F105 n cl dv (.int .i64 s) h)=some (.bool (decide (0<=s/\s<(d.next.length:Int)))):=by
 refine pcall_fr (h:=h) (S:=S) ?_ rfl;obtain⟨nv,av,vs,rfl,a1,a2,a3,a4⟩:=hd;unfold Fr F105;refine Ret.lbox (Sl.start h hS) fun h1 x st1=>?_;have st1:Sl h h1 S OM.emp [(x,.row .own 1 [nv,av])]:=st1;have l0:xLd (.pointer (some ⟨x,0,none⟩)) h1=some nv:=st1.ld (.head _) rfl;have l1:xLd (.pointer (some ⟨x,1,none⟩)) h1=some av:=st1.ld (.head _) rfl;have n0:=a1.len;have n1:=a4.len;rw[a2]at n0;rw[zv_len,al]at n1
 by_cases c1:0<=s<;>by_cases c2:s<(d.next.length:Int)<;>simp[c1,c2,l0,l1,n0,n1]<;>exact Ret.of ⟨⟨_,st1⟩,rfl⟩
theorem c76[OkH h](hS:Vw.le S h.cells){k c:Nat}(hd:DfV S dv d)(hc:Canon d)(hk:k<d.next.length)(h256:c<256)(hl:d.next.length<1000000):pcall (F76 n cl dv (.int .i64 (k:Nat)) (.int .u8 (c:Nat)) h)=some (.int .i64 (dstep d (k:Nat) c)):=by
 refine pcall_fr (h:=h) (S:=S) ?_ rfl;have hd0:=hd;obtain⟨nv,av,vs,rfl,a1,a2,a3,a4⟩:=hd;unfold Fr F76;refine Ret.lbox (Sl.start h hS) fun h1 x st1=>?_;have st1:Sl h h1 S OM.emp [(x,.row .own 1 [nv,av])]:=st1;have okh:=st1.ok;have l0:xLd (.pointer (some ⟨x,0,none⟩)) h1=some nv:=st1.ld (.head _) rfl;have la:xLdA 2 (.pointer (some ⟨x,0,none⟩)) h1=some (.agg ⟨[nv,av]⟩):=st1.ldA (.head _) rfl (by simp);have hF: ∀s,pcall (F105 n cl (.agg ⟨[nv,av]⟩) (.int .i64 s) h1.fzn)=some (.bool (decide (0<=s/\s<(d.next.length:Int)))):=fun s=>c105 (h:=h1.fzn) (fun b cs e=>st1.leS b cs e) hd0 hc.al;have hr:=List.getElem?_eq_getElem hk;generalize d.next[k]=r at hr;have hrl:=hc.rl r (List.mem_of_getElem? hr);obtain⟨w,e1,e2⟩:=a3 k r hr;obtain⟨b1,o1,cs1,f1,f2,f3⟩:=a1.at (k:=.i64) e1;have l1:=st1.ldS f2 f3;have nr:=e2.len;rw[zv_len,hrl]at nr;have hx:=List.getElem?_eq_getElem (l:=r) (i:=c) (by omega);generalize hxt:r[c]'(by omega)=t at hx;obtain⟨b2,o2,cs2,g1,g2,g3⟩:=e2.at (k:=.u8) (zv_get hx);have l2:=st1.ldS g2 g3;have hds:dstep d (k:Nat) c=t:=by
  unfold dstep;rw[if_neg (by omega)];simp only[List.getD_eq_getElem?_getD,Int.toNat_natCast,hr,hx,Option.getD_some]
 have hw:IntKind.i64.wrap ((c:Nat):Int)=(c:Nat):=wrap_in (by omega) (by omega);have h0:decide (0<=((k:Nat):Int)/\((k:Nat):Int)<(d.next.length:Int))=true:=by simp;omega
 have h1':decide (((256:Nat):Int)<=((c:Nat):Int))=false:=by simp;omega
 simp only[la,vb_some,hF,h0,xNot_b,Bool.not_true,isB_f,Bool.not_false,gd_true,xConvI_i,hw,xFld_p,Nat.zero_add,l0,f1,l1,nr,xGe_i,h1',xPick_f,g1,l2];rcases hc.rng k c hk h256 with h|⟨j,hj,h⟩
 ·rw[hds]at h;subst h;have d2:decide (0<=(-1:Int)/\(-1:Int)<(d.next.length:Int))=false:=by simp
  simp only[d2,Bool.not_false,bite_t];exact Fr.ret st1 (by rw[hds];rfl)
 ·rw[hds]at h;subst h;have d2:decide (0<=((j:Nat):Int)/\((j:Nat):Int)<(d.next.length:Int))=true:=by simp;omega
  simp only[d2,Bool.not_true,bite_f,F76_0,xFld_p,Nat.zero_add,l0,vb_some,f1,l1,g1,l2];exact Fr.ret st1 (by rw[hds])
theorem c77[OkH h](hS:Vw.le S h.cells){k:Nat}(hd:DfV S dv d)(hc:Canon d)(hk:k<d.next.length):pcall (F77 n cl dv (.int .i64 (k:Nat)) h)=some (.int .i64 (if(-1:Int)<dacc d (k:Nat)then dacc d (k:Nat)else -1)):=by
 refine pcall_fr (h:=h) (S:=S) ?_ rfl;have hd0:=hd;obtain⟨nv,av,vs,rfl,a1,a2,a3,a4⟩:=hd;unfold Fr F77;refine Ret.lbox (Sl.start h hS) fun h1 x st1=>?_;have st1:Sl h h1 S OM.emp [(x,.row .own 1 [nv,av])]:=st1;have okh:=st1.ok;have l0:xLd (.pointer (some ⟨x,1,none⟩)) h1=some av:=st1.ld (.head _) rfl;have la:xLdA 2 (.pointer (some ⟨x,0,none⟩)) h1=some (.agg ⟨[nv,av]⟩):=st1.ldA (.head _) rfl (by simp);have hF: ∀s,pcall (F105 n cl (.agg ⟨[nv,av]⟩) (.int .i64 s) h1.fzn)=some (.bool (decide (0<=s/\s<(d.next.length:Int)))):=fun s=>c105 (h:=h1.fzn) (fun b cs e=>st1.leS b cs e) hd0 hc.al;have hal:=hc.al;have hr:=List.getElem?_eq_getElem (l:=d.acc) (i:=k) (by omega);generalize d.acc[k]'(by omega)=t at hr;obtain⟨b1,o1,cs1,f1,f2,f3⟩:=a4.at (k:=.i64) (zv_get hr);have l1:=st1.ldS f2 f3;have hda:dacc d (k:Nat)=t:=by
  unfold dacc;rw[if_neg (by omega)];simp only[List.getD_eq_getElem?_getD,Int.toNat_natCast,hr,Option.getD_some]
 have h0:decide (0<=((k:Nat):Int)/\((k:Nat):Int)<(d.next.length:Int))=true:=by simp;omega
 simp only[la,vb_some,hF,h0,xNot_b,Bool.not_true,bite_f,F77_0,xFld_p,Nat.zero_add,l0,f1,l1,max48];exact Fr.ret st1 (by rw[hda])
end
theorem ab201{e a:Nat}:abuild Tryz.prog 201 [(0,.int .i64 ((e:Nat):Int)),(1,.int .i64 ((a:Nat):Int))]=some (.agg ⟨[.int .i64 ((e:Nat):Int),.int .i64 ((a:Nat):Int)]⟩):=by kernel_rfl
theorem wrN{x:Nat}(h:x<1000000):IntKind.i64.wrap (((x:Nat):Int)+((1:Nat):Int))=((x+1:Nat):Int):=by rw[wrap_in (by omega) (by omega)];omega
theorem wrM{x:Nat}(h:x<1000000):IntKind.i64.wrap (((x+1:Nat):Int)-((1:Nat):Int))=((x:Nat):Int):=by rw[wrap_in (by omega) (by omega)];omega
section
variable {Q:Value->PH->Prop}{n:Nat}{cl:CL}{h h0:PH}{S:Vw}{m:OM}{rows:Rws}{br a e b:Nat}{t:ByteArray}
theorem c110[OkH h](hr:h.cells br=some [.string t,.int .i64 (a:Nat),.int .i64 (e:Nat),.int .i64 (b:Nat)]):pcall (F110 n cl (pt br) h)=some (.bool (!decide (e=0))):=by
 refine pcall_fr (h:=h) (S:=h.cells) ?_ rfl;unfold Fr F110;have st:=Sl.start h (S:=h.cells) (Vw.le.refl _);have l2:xLd (.pointer (some ⟨br,2,none⟩)) h=some (.int .i64 (e:Nat)):=st.ldS hr rfl;have hd:decide (((e:Nat):Int)=((0:Nat):Int))=decide (e=0):=by
  rw[Bool.eq_iff_iff,decide_eq_true_eq,decide_eq_true_eq];omega
 simp only[xNil_p,xFld_p,Nat.zero_add,Nat.add_zero,vb_some,l2,vN_eq,xNe_i,hd];exact Fr.ret st rfl
theorem c152[OkH h](hr:h.cells br=some [.string t,.int .i64 (a:Nat),.int .i64 (e:Nat),.int .i64 (b:Nat)]){c:Nat}(hc:c<256):pcall (F152 n cl (pt br) (.int .u8 (.ofNat c)) h)=some (.bool (decide (e=0/\bt t a=c))):=by
 have st:=Sl.start h (S:=h.cells) (Vw.le.refl _);have l1:xLd (.pointer (some ⟨br,1,none⟩)) h=some (.int .i64 (a:Nat)):=st.ldS hr rfl;have l0:xLd (.pointer (some ⟨br,0,none⟩)) h=some (.string t):=st.ldS hr rfl;have h2:=c110 (n:=n) (cl:=cl) (h:=h.fzn) hr
 by_cases he:e=0
 ·have d:decide (e=0)=true:=by simp[he]
  by_cases ha:t.size<=a
  ·have db:decide (e=0/\bt t a=c)=false:=by rw[bt_ge ha];simp;omega
   have dl:decide (((a:Nat):Int)<((t.size:Nat):Int))=false:=by simp;omega
   rw[db];refine pcall_fr (h:=h) (S:=h.cells) ?_ rfl;unfold Fr F152;simp only[h2,d,vb_some,xNot_b,Bool.not_true,Bool.not_false,isB_t,gd_true,gd_false,xNil_p,xFld_p,Nat.zero_add,l1,l0,xLenT_s,xLt_i,dl,xPick_t,xPick_f];exact Ret.of ⟨[],st,rfl⟩
  ·obtain⟨hc',hi⟩:=ai9 (t:=t) (a:=a) (by omega);have db:(bt t a==c)=decide (e=0/\bt t a=c):=by
    rw[Bool.eq_iff_iff,decide_eq_true_eq,beq_iff_eq];exact⟨fun h=>⟨he,h⟩,fun h=>h.2⟩
   have dl:decide (((a:Nat):Int)<((t.size:Nat):Int))=true:=by simp;omega
   rw[<-db];refine pcall_fr (h:=h) (S:=h.cells) ?_ rfl;unfold Fr F152;simp only[h2,d,vb_some,xNot_b,Bool.not_true,Bool.not_false,isB_t,gd_true,xNil_p,xFld_p,Nat.zero_add,l1,l0,xLenT_s,xLt_i,dl,xPick_t,hi,xEq_i,dcI];exact Ret.of ⟨[],st,rfl⟩
 ·have d:decide (e=0)=false:=by simp[he]
  have db:decide (e=0/\bt t a=c)=false:=by simp[he]
  rw[db];refine pcall_fr (h:=h) (S:=h.cells) ?_ rfl;unfold Fr F152;simp only[h2,d,vb_some,xNot_b,Bool.not_true,Bool.not_false,isB_t,gd_true,gd_false,xPick_f];exact Ret.of ⟨[],st,rfl⟩
theorem c152z[OkH h](hr:h.cells br=some [.string t,.int .i64 (a:Nat),.int .i64 ((0:Nat):Int),.int .i64 (b:Nat)]){c:Nat}(hc:c<256):pcall (F152 n cl (pt br) (.int .u8 (.ofNat c)) h)=some (.bool (decide (bt t a=c))):=by
 rw[c152 hr hc]
 congr 2
 rw[Bool.eq_iff_iff,decide_eq_true_eq,decide_eq_true_eq];exact⟨fun h=>h.2,fun h=>⟨rfl,h⟩⟩
theorem c109(st:Sl h0 h S (RM br t a e b) rows){e1:Nat}:Ret (F109 n cl (pt br) (.int .i64 ((e1:Nat):Int)) h) fun v h'=> ∃e' b',e'=(if e=0 then e1 else e)/\Sl h0 h' S (RM br t a e' b') rows:=by
 have l2:xLd (.pointer (some ⟨br,2,none⟩)) h=some (.int .i64 (e:Nat)):=st.ldB RM_at rfl;have l1:xLd (.pointer (some ⟨br,1,none⟩)) h=some (.int .i64 (a:Nat)):=st.ldB RM_at rfl;unfold F109;simp only[xNil_p,xFld_p,Nat.zero_add,Nat.add_zero,vb_some,l2,vN_eq,xEq_i]
 by_cases hz:e=0
 ·have d:decide (((e:Nat):Int)=((0:Nat):Int))=true:=by simp[hz]
  simp only[d,bite_t,F109_0,xNil_p,xFld_p,Nat.zero_add,vb_some,l1,ab201];refine Ret.lstAB st RM_at rfl rfl (by simp) rfl fun h1 st1=>?_;rw[RM,OM.upd_upd]at st1;exact Ret.of ⟨e1,a,by rw[if_pos hz],st1⟩
 ·have d:decide (((e:Nat):Int)=((0:Nat):Int))=false:=by simp[hz]
  simp only[d,bite_f];exact Ret.of ⟨e,b,by rw[if_neg hz],st⟩
theorem c129(ht:t.size<100000)(st:Sl h0 h S (RM br t a e b) rows){c:Nat}(hc:c<256):Ret (F129 n cl (pt br) (.int .u8 (.ofNat c)) h) fun v h'=> ∃a',v= .bool (decide (e=0/\bt t a=c))/\a'=(if e=0/\bt t a=c then a+1 else a)/\Sl h0 h' S (RM br t a' e b) rows:=by
 have:=st.ok;have hp:=c152 (n:=n) (cl:=cl) (h:=h.fzn) st.rd hc;have l1:xLd (.pointer (some ⟨br,1,none⟩)) h=some (.int .i64 (a:Nat)):=st.ldB RM_at rfl;unfold F129;simp only[hp,vb_some,jn_eq]
 by_cases hy:e=0/\bt t a=c
 ·have hlt:a<t.size:=bt_lt.1 (by omega);have d:decide (e=0/\bt t a=c)=true:=decide_eq_true hy;rw[d,if_pos hy];simp only[bite_t,F129_0,xNil_p,xFld_p,Nat.zero_add,vb_some,l1,vN_eq,xAdd_i,wrN (show a<1000000 by omega)];refine Ret.step st fun h2 st2=>?_;simp only[ucons_cons];exact Ret.of ⟨a+1,rfl,rfl,st2⟩
 ·have d:decide (e=0/\bt t a=c)=false:=decide_eq_false hy;rw[d,if_neg hy];simp only[bite_f,ucons_cons];exact Ret.of ⟨a,rfl,rfl,st⟩
theorem c129z(ht:t.size<100000)(st:Sl h0 h S (RM br t a 0 b) rows){c:Nat}(hc:c<256):Ret (F129 n cl (pt br) (.int .u8 (.ofNat c)) h) fun v h'=> ∃a',v= .bool (decide (bt t a=c))/\a'=(if bt t a=c then a+1 else a)/\Sl h0 h' S (RM br t a' 0 b) rows:=by
 refine Ret.mono (c129 ht st hc) fun v h' ⟨a',hv,ha,st'⟩=>⟨a',?_,?_,st'⟩
 ·rw[hv]
  congr 1
  rw[Bool.eq_iff_iff,decide_eq_true_eq,decide_eq_true_eq];exact⟨fun h=>h.2,fun h=>⟨rfl,h⟩⟩
 ·rw[ha]
  by_cases h:bt t a=c
  ·rw[if_pos ⟨rfl,h⟩,if_pos h]
  ·rw[if_neg (fun q=>h q.2),if_neg h]
theorem c186(ht:t.size<100000)(st:Sl h0 h S (RM br t a e b) rows):Ret (F186 n cl (pt br) h) fun v h'=> ∃a' e' b' c,Sl h0 h' S (RM br t a' e' b') rows/\v= .int .i64 ((c:Nat):Int)/\c<256/\((e=0/\a<t.size/\e'=0/\a'=a+1/\c=bt t a)\/(¬(e=0/\a<t.size)/\a'=a/\e'=(if e=0 then 2 else e))):=by
 have:=st.ok;have hp:=c110 (n:=n) (cl:=cl) (h:=h.fzn) st.rd;have l1:xLd (.pointer (some ⟨br,1,none⟩)) h=some (.int .i64 (a:Nat)):=st.ldB RM_at rfl;have l0:xLd (.pointer (some ⟨br,0,none⟩)) h=some (.string t):=st.ldB RM_at rfl;unfold F186;simp only[hp,vb_some];have fail: ¬(e=0/\a<t.size)->Ret (F186_0 n cl (pt br) h) fun v h'=> ∃a' e' b' c,Sl h0 h' S (RM br t a' e' b') rows/\v= .int .i64 ((c:Nat):Int)/\c<256/\((e=0/\a<t.size/\e'=0/\a'=a+1/\c=bt t a)\/(¬(e=0/\a<t.size)/\a'=a/\e'=(if e=0 then 2 else e))):=by
  intro hno;simp only[F186_0,vN_eq];refine Ret.hb (c109 st) fun v h1 ⟨e',b',he,st1⟩=>?_;exact Ret.of ⟨a,e',b',0,st1,rfl,by decide,.inr ⟨hno,rfl,he⟩⟩
 by_cases he:e=0
 ·have d:decide (e=0)=true:=by simp[he]
  by_cases ha:a<t.size
  ·have dl:decide (((t.size:Nat):Int)<=((a:Nat):Int))=false:=by simp;omega
   simp only[d,Bool.not_true,isB_f,Bool.not_false,gd_true,vb_some,xNil_p,xFld_p,Nat.zero_add,l1,l0,xLenT_s,xGe_i,dl,xPick_f,bite_f,F186_1,vN_eq,xAdd_i,wrN (show a<1000000 by omega)];refine Ret.step st fun h2 st2=>?_;have l1':xLd (.pointer (some ⟨br,1,none⟩)) h2=some (.int .i64 ((a+1:Nat):Int)):=st2.ldB RM_at rfl;have l0':xLd (.pointer (some ⟨br,0,none⟩)) h2=some (.string t):=st2.ldB RM_at rfl;obtain⟨hc',hi⟩:=ai9 (t:=t) (a:=a) ha;have hwc:IntKind.i64.wrap ((bt t a:Nat):Int)=((bt t a:Nat):Int):=wrap_in (by omega) (by omega);simp only[l1',l0',vb_some,xSub_i,wrM (show a<1000000 by omega),hi,xConvI_i',hwc];exact Ret.of ⟨a+1,e,b,bt t a,st2,rfl,hc',.inl ⟨he,ha,he,rfl,rfl⟩⟩
  ·have dl:decide (((t.size:Nat):Int)<=((a:Nat):Int))=true:=by simp;omega
   have:=fail (fun h=>ha h.2);simp only[d,Bool.not_true,isB_f,Bool.not_false,gd_true,vb_some,xNil_p,xFld_p,Nat.zero_add,l1,l0,xLenT_s,xGe_i,dl,xPick_f,bite_t];exact this
 ·have d:decide (e=0)=false:=by simp[he]
  have:=fail (fun h=>he h.1);simp only[d];simpa[gd_some']using this
end
section
variable {Q:Value->PH->Prop}{n:Nat}{cl:CL}{h h0:PH}{S:Vw}{m:OM}{rows:Rws}{br a e b b2:Nat}{t:ByteArray}{s:List Int}
theorem c189(st:Sl h0 h S m ((b2,.row .own 1 (u64s s))::rows))(hs:s.length=4){c:Nat}(hc:c<256):Ret (F189 n cl (pt b2) (.int .i64 ((c:Nat):Int)) h) fun v h'=>Sl h0 h' S m ((b2,.row .own 1 (u64s (addS s c)))::rows):=by
 have hj:c / 64<4:=by omega
 have hx:=List.getElem?_eq_getElem (l:=s) (i:=c / 64) (by omega);have l1:xLd (.pointer (some ⟨b2,0+c / 64*1,none⟩)) h=some (.int .u64 s[c / 64]):=st.ld (.head _) (by rw[Nat.zero_add,Nat.mul_one];simp[u64s,hx]);have e1:xQuo (.int .i64 ((c:Nat):Int)) (.int .i64 ((64:Nat):Int))=some (.int .i64 ((c / 64:Nat):Int)):=xQuo_n (by decide) (by omega);have e2:xRem (.int .i64 ((c:Nat):Int)) (.int .i64 ((64:Nat):Int))=some (.int .i64 ((c % 64:Nat):Int)):=xRem_n (by decide) (by omega);have e3:=xShl_ex (k:=.u64) (k':=.i64) (x:=.ofNat 1) (s:=c % 64) (by show c % 64<=64;omega);unfold F189;simp only[vN_eq,e1,e2,e3,vb_some,xNil_p,xIdxA_at' hj,l1,xBit_ex];refine Ret.lst1 st 0 rfl rfl (by simp[u64s,hs];omega) rfl fun h3 st3=>?_;rw[Nat.zero_add,Nat.mul_one]at st3;have hy:addS s c=s.set (c / 64) (IntKind.u64.wrap ((Nat.lor (bitN .u64 s[c / 64]) (bitN .u64 (IntKind.u64.wrap (Int.mul (.ofNat 1) (.ofNat (Nat.pow 2 (c % 64)))))):Nat):Int)):=by
  unfold addS;rw[List.getD_eq_getElem?_getD,hx];rfl
 have st3:Sl h0 h3 S m ((b2,.row .own 1 (u64s (addS s c)))::rows):=by
  rw[hy];unfold u64s;rw[List.map_set];exact st3
 exact Ret.of st3
def MemP(t:ByteArray)(br:Nat)(h0:PH)(S:Vw)(rows:Rws)(a:Nat)(v:Value)(h':PH):Prop:=
 ∃a' e' b' c,Sl h0 h' S (RM br t a' e' b') rows/\v= .int .i64 ((c:Nat):Int)/\c<256/\a<=a'/\a'<=t.size/\((e'=0/\a<a'/\bt t a≠93/\memT t a=some (c,a'))\/(e'=2/\(bt t a=93\/memT t a=none)))
theorem c193(ht:t.size<100000)(st:Sl h0 h S (RM br t a 0 b) rows)(ha:a<=t.size):Ret (F193 n cl (pt br) h) (MemP t br h0 S rows a):=by
 unfold F193;refine Ret.hb (c129z ht st (c:=92) (by decide)) fun v h1 ⟨a1,hv,ha1,st1⟩=>?_;subst hv
 by_cases h92:bt t a=92
 ·have hlt:a<t.size:=bt_lt.1 (by omega);rw[if_pos h92]at ha1;subst ha1;have d:decide (bt t a=92)=true:=decide_eq_true h92;have hm:memT t a=if a+1<t.size then some (bt t (a+1),a+2)else none:=by unfold memT;rw[if_pos h92]
  simp only[d,bite_t,F193_0];refine Ret.hb (c186 ht st1) fun v h2 ⟨a2,e2,b2,c,st2,hv,hc,hr⟩=>?_;rcases hr with⟨_,q2,q3,q4,q5⟩|⟨q1,q2,q3⟩
  ·rw[if_pos q2]at hm;exact Ret.of ⟨a2,e2,b2,c,st2,hv,hc,by omega,by omega,.inl ⟨q3,by omega,by omega,by rw[hm,q5,q4]⟩⟩
  ·rw[if_neg (fun h=>q1 ⟨rfl,h⟩)]at hm;rw[if_pos rfl]at q3;exact Ret.of ⟨a2,e2,b2,c,st2,hv,hc,by omega,by omega,.inr ⟨q3,.inr hm⟩⟩
 ·rw[if_neg h92]at ha1;subst ha1;have d:decide (bt t a1=92)=false:=decide_eq_false h92;have hm:memT t a1=if a1<t.size then some (bt t a1,a1+1)else none:=by unfold memT;rw[if_neg h92]
  have:=st1.ok;have hp:=c152z (n:=n) (cl:=cl) (h:=h1.fzn) st1.rd (c:=93) (by decide);simp only[d,bite_f,jn_eq,F193_3,hp,vb_some]
  by_cases h93:bt t a1=93
  ·have d:decide (bt t a1=93)=true:=decide_eq_true h93;simp only[d,bite_t,F193_2,vN_eq];refine Ret.hb (c109 st1) fun v h2 ⟨e2,b2,he2,st2⟩=>?_;simp only[ucons_cons,F193_1];rw[if_pos rfl]at he2;refine Ret.hb (c186 ht st2) fun v h3 ⟨a3,e3,b3,c,st3,hv,hc,hr⟩=>?_;rcases hr with⟨q1,_⟩|⟨q1,q2,q3⟩
   ·omega
   ·rw[if_neg (by omega)]at q3;exact Ret.of ⟨a3,e3,b3,c,st3,hv,hc,by omega,by omega,.inr ⟨by omega,.inl h93⟩⟩
  ·have d:decide (bt t a1=93)=false:=decide_eq_false h93;simp only[d,bite_f,ucons_cons,F193_1];refine Ret.hb (c186 ht st1) fun v h2 ⟨a2,e2,b2,c,st2,hv,hc,hr⟩=>?_;rcases hr with⟨_,q2,q3,q4,q5⟩|⟨q1,q2,q3⟩
   ·rw[if_pos q2]at hm;exact Ret.of ⟨a2,e2,b2,c,st2,hv,hc,by omega,by omega,.inl ⟨q3,by omega,h93,by rw[hm,q5,q4]⟩⟩
   ·rw[if_neg (fun h=>q1 ⟨rfl,h⟩)]at hm;rw[if_pos rfl]at q3;exact Ret.of ⟨a2,e2,b2,c,st2,hv,hc,by omega,by omega,.inr ⟨q3,.inr hm⟩⟩
def Btw(t:ByteArray)(a:Nat):Prop:=bt t a=45/\a+1<t.size/\bt t (a+1)≠93
instance:Decidable (Btw t a):=by unfold Btw;exact inferInstance
theorem c194[OkH h](ht:t.size<100000)(hr:h.cells br=some [.string t,.int .i64 (a:Nat),.int .i64 (e:Nat),.int .i64 (b:Nat)]):pcall (F194 n cl (pt br) h)=some (.bool (decide (e=0/\Btw t a))):=by
 have st:=Sl.start h (S:=h.cells) (Vw.le.refl _);have l1:xLd (.pointer (some ⟨br,1,none⟩)) h=some (.int .i64 (a:Nat)):=st.ldS hr rfl;have l0:xLd (.pointer (some ⟨br,0,none⟩)) h=some (.string t):=st.ldS hr rfl;have h2:=c152 (n:=n) (cl:=cl) (h:=h.fzn) hr (c:=45) (by decide)
 by_cases h45:e=0/\bt t a=45
 ·have d:decide (e=0/\bt t a=45)=true:=decide_eq_true h45;have hlt:a<t.size:=bt_lt.1 (by omega)
  by_cases ha:a+1<t.size
  ·obtain⟨hc',hi⟩:=ai9 (t:=t) (a:=a+1) ha;have dl:decide (((a+1:Nat):Int)<((t.size:Nat):Int))=true:=by simp;omega
   have db:(!(bt t (a+1)==93))=decide (e=0/\Btw t a):=by
    rw[Bool.eq_iff_iff,decide_eq_true_eq];constructor
    ·intro h;exact⟨h45.1,h45.2,ha,by simpa using h⟩
    ·intro h;simpa using h.2.2.2
   rw[<-db];refine pcall_fr (h:=h) (S:=h.cells) ?_ rfl;unfold Fr F194;simp only[h2,d,vb_some,isB_t,gd_true,xNil_p,xFld_p,Nat.zero_add,l1,l0,xLenT_s,vN_eq,xAdd_i,wrN (show a<1000000 by omega),xLt_i,dl,xPick_t,hi,xNe_i,dcI];exact Ret.of ⟨[],st,rfl⟩
  ·have dl:decide (((a+1:Nat):Int)<((t.size:Nat):Int))=false:=by simp;omega
   have db:decide (e=0/\Btw t a)=false:=decide_eq_false fun h=>ha h.2.2.1;rw[db];refine pcall_fr (h:=h) (S:=h.cells) ?_ rfl;unfold Fr F194;simp only[h2,d,vb_some,isB_t,gd_true,xNil_p,xFld_p,Nat.zero_add,l1,l0,xLenT_s,vN_eq,xAdd_i,wrN (show a<1000000 by omega),xLt_i,dl,xPick_t,xPick_f,gd_false];exact Ret.of ⟨[],st,rfl⟩
 ·have d:decide (e=0/\bt t a=45)=false:=decide_eq_false h45;have db:decide (e=0/\Btw t a)=false:=decide_eq_false fun h=>h45 ⟨h.1,h.2.1⟩;rw[db];refine pcall_fr (h:=h) (S:=h.cells) ?_ rfl;unfold Fr F194;simp only[h2,d,vb_some,isB_t,gd_false,xPick_f];exact Ret.of ⟨[],st,rfl⟩
theorem c194z[OkH h](ht:t.size<100000)(hr:h.cells br=some [.string t,.int .i64 (a:Nat),.int .i64 ((0:Nat):Int),.int .i64 (b:Nat)]):pcall (F194 n cl (pt br) h)=some (.bool (decide (Btw t a))):=by
 rw[c194 ht hr]
 congr 2
 rw[Bool.eq_iff_iff,decide_eq_true_eq,decide_eq_true_eq];exact⟨fun h=>h.2,fun h=>⟨rfl,h⟩⟩
end
theorem zc242:zcells Tryz.prog 242=some (u64s [0,0,0,0]):=by kernel_rfl
section
variable {Q:Value->PH->Prop}{n:Nat}{cl:CL}{h h0:PH}{S:Vw}{m:OM}{rows rest:Rws}{br a e b b1 b2:Nat}{t:ByteArray}{s:List Int}
theorem loop191(hn:4611686018427387904<=n){to:Nat}(hto:to<256):
  ∀(k q i:Nat)(s:List Int)(h:PH),to+1-i<=k->k<q->i<=256->s.length=4->Sl h0 h S (RM br t a e b) ((b2,.row .own 1 (u64s s))::rest)->
  Ret (lp q (F191_2 n cl) [pt br,pt b2,.int .i64 ((to:Nat):Int),.int .i64 ((i:Nat):Int)] h) fun v h'=> ∃s',s'.length=4/\s'=(if e=0 then rangeS s i (to+1-i)else s)/\Sl h0 h' S (RM br t a e b) ((b2,.row .own 1 (u64s s'))::rest):=by
 intro k
 induction k with
 |zero=>
  intro q i s h h1 h2 h3 hs st;obtain⟨q,rfl⟩: ∃r,q=r+1:=⟨q-1,by omega⟩;rw[lp_succ];have d:decide (((i:Nat):Int)<=((to:Nat):Int))=false:=by simp;omega
  simp only[F191_2,ucons_cons,F191_1,xLe_i,vb_some,d,isB_t,gd_false,xPick_f,ff_eq,bite_f];refine Ret.of ⟨s,hs,?_,st⟩;rw[show to+1-i=0 by omega]
  split<;>rfl
 |succ k ih=>
  intro q i s h h1 h2 h3 hs st
  by_cases hi:i<=to
  ·obtain⟨q,rfl⟩: ∃r,q=r+1:=⟨q-1,by omega⟩;rw[lp_succ];generalize hL:lp q (F191_2 n cl)=LL;have d:decide (((i:Nat):Int)<=((to:Nat):Int))=true:=by simp;omega
   have:=st.ok;have hp:=c110 (n:=n) (cl:=cl) (h:=h.fzn) st.rd;simp only[F191_2,ucons_cons,F191_1,xLe_i,vb_some,d,isB_t,gd_true,hp,xNot_b,Bool.not_not,xPick_t]
   by_cases he:e=0
   ·have de:decide (e=0)=true:=by simp[he]
    simp only[de,bite_t,F191_0];refine Ret.hb (c189 st hs (by omega)) fun v h3 st3=>?_;simp only[vN_eq,xAdd_i,wrN (show i<1000000 by omega),vb_some];rw[<-hL];refine Ret.mono (ih q (i+1) (addS s i) h3 (by omega) (by omega) (by omega) (adds4 hs i) st3) fun v h' ⟨s',q1,q2,q3⟩=>⟨s',q1,?_,q3⟩;rw[q2,if_pos he,if_pos he,show to+1-i=(to+1-(i+1))+1 by omega];rfl
   ·have de:decide (e=0)=false:=by simp[he]
    simp only[de,bite_f];exact Ret.of ⟨s,hs,by rw[if_neg he],st⟩
  ·exact ih q i s h (by omega) (by omega) h3 hs st
def ItP(t:ByteArray)(br:Nat)(h0:PH)(S:Vw)(b2:Nat)(rest:Rws)(s:List Int)(a:Nat)(h':PH):Prop:=
 ∃a' e' b' s',s'.length=4/\Sl h0 h' S (RM br t a' e' b') ((b2,.row .own 1 (u64s s'))::rest)/\a<=a'/\a'<=t.size/\((e'=0/\a<a'/\itemT t s a=some (s',a'))\/(e'=2/\itemT t s a=none))
theorem c191(ht:t.size<100000)(hn:4611686018427387904<=n)(hs:s.length=4)(ha:a<=t.size)(st:Sl h0 h S (RM br t a 0 b) ((b2,.row .own 1 (u64s s))::rest)):Ret (F191 n cl (pt br) (pt b2) h) fun v h'=>ItP t br h0 S b2 rest s a h':=by
 unfold F191;refine Ret.hb (c193 ht st ha) fun v h1 ⟨a1,e1,b1,c,st1,hv,hc,h11,h12,h13⟩=>?_;subst hv;simp only[jn_eq];have fin: ∀(a' e' b' hi:Nat)(h':PH),hi<256->a<=a'->a'<=t.size->((e'=0/\a<a'/\itemT t s a=some (rangeS s c (hi+1-c),a'))\/(e'=2/\itemT t s a=none))->Sl h0 h' S (RM br t a' e' b') ((b2,.row .own 1 (u64s s))::rest)->
   Ret (F191_5 n cl [pt br,pt b2,.int .i64 ((c:Nat):Int),.int .i64 ((hi:Nat):Int)] h') fun v h'=>ItP t br h0 S b2 rest s a h':=by
  intro a' e' b' hi h' hhi q1 q2 q3 st';simp only[F191_5,ucons_cons];refine Ret.mono (loop191 hn hhi 300 n c s h' (by omega) (by omega) (by omega) hs st') fun v h2 ⟨s',r1,r2,r3⟩=>?_;refine⟨a',e',b',s',r1,r3,q1,q2,?_⟩;rcases q3 with⟨w1,w2,w3⟩|w
  ·rw[if_pos w1]at r2;exact .inl ⟨w1,w2,by rw[w3,r2]⟩
  ·exact .inr w
 have:=st1.ok;rcases h13 with⟨he1,hlt,h93,hm⟩|⟨he1,hm⟩
 ·subst he1;have hp:=c194z (n:=n) (cl:=cl) (h:=h1.fzn) ht st1.rd;simp only[F191_6,hp,vb_some]
  by_cases hb:Btw t a1
  ·have d:decide (Btw t a1)=true:=decide_eq_true hb;have hlt1:=hb.2.1;have l1:xLd (.pointer (some ⟨br,1,none⟩)) h1=some (.int .i64 (a1:Nat)):=st1.ldB RM_at rfl;simp only[d,bite_t,F191_4,xNil_p,xFld_p,Nat.zero_add,vb_some,l1,vN_eq,xAdd_i,wrN (show a1<1000000 by omega)];refine Ret.step st1 fun h2 st2=>?_;have l1':xLd (.pointer (some ⟨br,1,none⟩)) h2=some (.int .i64 ((a1+1:Nat):Int)):=st2.ldB RM_at rfl;simp only[l1',vb_some];refine Ret.hb (c193 ht st2 (by omega)) fun v h3 ⟨a3,e3,b3,c3,st3,hv,hc3,h31,h32,h33⟩=>?_;subst hv;have:=st3.ok;have hp3:=c110 (n:=n) (cl:=cl) (h:=h3.fzn) st3.rd;simp only[hp3,vb_some,xNot_b,Bool.not_not];rcases h33 with⟨he3,hlt3,_,hm3⟩|⟨he3,hm3⟩
   ·have de:decide (e3=0)=true:=by simp[he3]
    have hit:=itemT_rng (s:=s) h93 hm hb hm3;simp only[de,isB_t,gd_true,vb_some,xLt_i,xPick_t]
    by_cases hlt5:c3<c
    ·have dq:decide (((c3:Nat):Int)<((c:Nat):Int))=true:=by simp;omega
     rw[if_pos hlt5]at hit;simp only[dq,bite_t,F191_3,xNil_p,xFld_p,Nat.zero_add,vb_some,vN_eq];refine Ret.step st3 fun h4 st4=>?_;refine Ret.hb (c109 st4) fun v h5 ⟨e5,b5,he5,st5⟩=>?_;rw[if_pos he3]at he5;exact fin (a1+1) e5 b5 c3 h5 hc3 (by omega) (by omega) (.inr ⟨he5,hit⟩) st5
    ·have dq:decide (((c3:Nat):Int)<((c:Nat):Int))=false:=by simp;omega
     rw[if_neg hlt5]at hit;simp only[dq,bite_f];exact fin a3 e3 b3 c3 h3 hc3 (by omega) (by omega) (.inl ⟨he3,by omega,hit⟩) st3
   ·have de:decide (e3=0)=false:=by simp;omega
    have hit:itemT t s a=none:=by
     rcases hm3 with h|h
     ·exact absurd h hb.2.2
     ·exact itemT_rngn h93 hm hb h
    have:=fin a3 e3 b3 c3 h3 hc3 (by omega) (by omega) (.inr ⟨he3,hit⟩) st3;simp only[de,isB_t,gd_false,vb_some,xPick_f,ff_eq,bite_f];exact this
  ·have d:decide (Btw t a1)=false:=decide_eq_false hb;simp only[d,bite_f];refine fin a1 0 b1 c h1 hc (by omega) h12 (.inl ⟨rfl,hlt,?_⟩) st1;rw[show c+1-c=1 by omega];exact itemT_one h93 hm hb
 ·have hp:=c194 (n:=n) (cl:=cl) (h:=h1.fzn) ht st1.rd;have d:decide (e1=0/\Btw t a1)=false:=decide_eq_false fun h=>by omega
  rw[d]at hp;simp only[F191_6,hp,vb_some,bite_f];refine fin a1 e1 b1 c h1 hc (by omega) h12 (.inr ⟨he1,?_⟩) st1;rcases hm with h|h
  ·exact itemT_93 h
  ·by_cases h93:bt t a=93
   ·exact itemT_93 h93
   ·exact itemT_none h93 h
theorem f190[OkH h](hn:4611686018427387904<=n)(hS:Vw.le S h.cells)(hs:s.length=4):Fr h S (F190 n cl (.agg ⟨u64s s⟩) h) fun v _=>v= .agg ⟨u64s (turnS s)⟩:=by
 unfold Fr F190;refine Ret.lbox (Sl.start h hS) fun h1 x1 st1=>?_;have st1:Sl h h1 S OM.emp [(x1,.row .own 1 (u64s s))]:=st1;refine Ret.lalloc st1 zc242 fun h2 x2 st2=>?_;have st2:Sl h h2 S OM.emp [(x2,.row .own 1 (u64s [0,0,0,0])),(x1,.row .own 1 (u64s s))]:=st2;have key: ∀(k q i:Nat)(s1:List Int)(h2:PH),4-i<=k->k<q->i<=4->s1.length=4->(∀j,s1[j]?=if j<i then(s[j]?).map notW else s[j]?)->Sl h h2 S OM.emp [(x2,.row .own 1 (u64s [0,0,0,0])),(x1,.row .own 1 (u64s s1))]->
   Ret (lp q (F190_3 n cl) [pt x1,pt x2,.int .i64 ((i:Nat):Int)] h2) fun v h'=> ∃rows,Sl h h' S OM.emp rows/\v= .agg ⟨u64s (turnS s)⟩:=by
  intro k
  induction k with
  |zero=>
   intro q i s1 h2 g1 g2 g3 hs1 hj st;obtain⟨q,rfl⟩: ∃r,q=r+1:=⟨q-1,by omega⟩;obtain rfl:i=4:=by omega
   rw[lp_succ];have d:decide (((4:Nat):Int)<((4:Nat):Int))=false:=by simp
   have hl:(u64s s1).length=4:=by simp[u64s,hs1]
   have la:xLdA 4 (pt x1) h2=some (.agg ⟨u64s s1⟩):=st.ldA (.tail _ (.head _)) (by rw[List.drop_zero, <-hl,List.take_length]) (by omega);simp only[F190_3,F190_2,ucons_cons,vN_eq,xLt_i,vb_some,d,bite_f,F190_1,la];refine Ret.lstA st 0 rfl rfl hl (by simp[u64s]) (oneCells_u64s _) fun h3 st3=>?_;rw[setsL_all (by rw[hl];rfl)]at st3;have st3:Sl h h3 S OM.emp [(x2,.row .own 1 (u64s s1)),(x1,.row .own 1 (u64s s1))]:=st3;have lb:xLdA 4 (pt x2) h3=some (.agg ⟨u64s s1⟩):=st3.ldA (.head _) (by rw[List.drop_zero, <-hl,List.take_length]) (by omega);simp only[lb,vb_some];have e:s1=turnS s:=by
    apply List.ext_getElem?
    intro j;unfold turnS;rw[hj j,List.getElem?_map]
    split
    ·rfl
    ·rw[List.getElem?_eq_none (by omega)];rfl
   rw[e]at st3 ⊢;exact Fr.ret st3 rfl
  |succ k ih=>
   intro q i s1 h2 g1 g2 g3 hs1 hj st
   by_cases hi:i<4
   ·obtain⟨q,rfl⟩: ∃r,q=r+1:=⟨q-1,by omega⟩;rw[lp_succ];generalize hL:lp q (F190_3 n cl)=LL;have d:decide (((i:Nat):Int)<((4:Nat):Int))=true:=by simp;omega
    have hx:=List.getElem?_eq_getElem (l:=s1) (i:=i) (by omega);have l1:xLd (.pointer (some ⟨x1,0+i*1,none⟩)) h2=some (.int .u64 s1[i]):=st.ld (.tail _ (.head _)) (by rw[Nat.zero_add,Nat.mul_one];simp[u64s,hx]);have hy:=xUn_x (x:=s1[i]);generalize hyn:notW s1[i]=y at hy;simp only[F190_3,F190_2,ucons_cons,vN_eq,xLt_i,vb_some,d,bite_t,F190_0,xIdxA_at' hi,l1,hy];refine Ret.lst1 st 1 rfl rfl (by simp[u64s,hs1];omega) rfl fun h3 st3=>?_;have e3:(u64s s1).set i (.int .u64 y)=u64s (s1.set i y):=by unfold u64s;rw[List.map_set]
    rw[Nat.zero_add,Nat.mul_one,e3]at st3;simp only[vN_eq,xAdd_i,wrN (show i<1000000 by omega),vb_some];rw[<-hL];refine ih q (i+1) _ h3 (by omega) (by omega) (by omega) (by simp[hs1]) (fun j=>?_) st3;rw[List.getElem?_set]
    by_cases e:i=j
    ·subst e;have h0:=hj i;rw[if_neg (by omega),hx]at h0;rw[if_pos rfl,if_pos (by omega),if_pos (by omega), <-h0, <-hyn];rfl
    ·rw[if_neg e,hj j]
     by_cases e2:j<i
     ·rw[if_pos e2,if_pos (by omega)]
     ·rw[if_neg e2,if_neg (by omega)]
   ·exact ih q i s1 h2 (by omega) (by omega) g3 hs1 hj st
 exact key 4 n 0 s h2 (by omega) (by omega) (by omega) hs (fun j=>by rw[if_neg (by omega)]) st2
theorem c190[OkH h](hn:4611686018427387904<=n)(hs:s.length=4):pcall (F190 n cl (.agg ⟨u64s s⟩) h)=some (.agg ⟨u64s (turnS s)⟩):=pcall_fr (f190 (h:=h) hn (Vw.le.refl _) hs) plain_u64s
theorem turnS_len:(turnS s).length=s.length:=by unfold turnS;simp
end
def spcT:ByteArray:= {data:= #[124,42,43,63,40,41,91,93]}
theorem spc_all:(List.range 256).all (fun c=>decide (0<=firstIdx spcT c.toUInt8)==spcB c)=true:=by kernel_rfl
theorem spc_at{c:Nat}(hc:c<256):decide (0<=firstIdx spcT c.toUInt8)=spcB c:=by
 have:=List.all_eq_true.1 spc_all c (List.mem_range.2 hc);exact eq_of_beq this
section
variable {Q:Value->PH->Prop}{n:Nat}{cl:CL}{h h0:PH}{S:Vw}{m:OM}{rows rest:Rws}{br a e b b1 b2:Nat}{t:ByteArray}{s:List Int}
theorem f184[OkH h](hn:4611686018427387904<=n)(hS:Vw.le S h.cells):Fr h S (F184 n cl h) fun v _=>v= .agg ⟨u64s dotS⟩:=by
 unfold Fr F184;refine Ret.lalloc (Sl.start h hS) zc242 fun h1 x1 st1=>?_;refine Ret.lalloc st1 zc242 fun h2 x2 st2=>?_;simp only[vN_eq];refine Ret.hb (c189 st2 rfl (by decide)) fun v h3 st3=>?_;have hs:(addS [0,0,0,0] 10).length=4:=adds4 rfl 10;have hd:turnS (addS [0,0,0,0] 10)=dotS:=rfl;have hl:(u64s (addS [0,0,0,0] 10)).length=4:=by simp[u64s,hs]
 have la:xLdA 4 (pt x2) h3=some (.agg ⟨u64s (addS [0,0,0,0] 10)⟩):=st3.ldA (.head _) (by rw[List.drop_zero, <-hl,List.take_length]) (by omega);have:=st3.ok;have hp:=c190 (n:=n) (cl:=cl) (h:=h3.fzn) hn hs;rw[hd]at hp;simp only[la,vb_some,hp];have hl2:(u64s dotS).length=4:=by simp[u64s,dotS_len]
 refine Ret.lstA st3 1 rfl rfl hl2 (by simp[u64s]) (oneCells_u64s _) fun h4 st4=>?_;rw[setsL_all (by rw[hl2];rfl)]at st4;have st4:Sl h h4 S OM.emp [(x2,.row .own 1 (u64s (addS [0,0,0,0] 10))),(x1,.row .own 1 (u64s dotS))]:=st4;have lb:xLdA 4 (pt x1) h4=some (.agg ⟨u64s dotS⟩):=st4.ldA (.tail _ (.head _)) (by rw[List.drop_zero, <-hl2,List.take_length]) (by omega);simp only[lb,vb_some];exact Fr.ret st4 rfl
theorem c184[OkH h](hn:4611686018427387904<=n):pcall (F184 n cl h)=some (.agg ⟨u64s dotS⟩):=pcall_fr (f184 (h:=h) hn (Vw.le.refl _)) plain_u64s
theorem f185[OkH h](hS:Vw.le S h.cells){c:Nat}(hc:c<256):Fr h S (F185 n cl (.int .i64 ((c:Nat):Int)) h) fun v _=>v= .agg ⟨.int .i64 ((1:Nat):Int)::(u64s (addS zs4 c)++[nils])⟩:=by
 unfold Fr F185;refine Ret.lalloc (Sl.start h hS) zc85 fun h1 x1 st1=>?_;refine Ret.lalloc st1 zc242 fun h2 x2 st2=>?_;refine Ret.hb (c189 st2 rfl hc) fun v h3 st3=>?_;have hz:addS zs4 c=addS [0,0,0,0] c:=rfl;rw[hz];have hs:(addS [0,0,0,0] c).length=4:=adds4 rfl c;generalize addS [0,0,0,0] c=s' at hs st3 ⊢;have hl:(u64s s').length=4:=by simp[u64s,hs]
 have la:xLdA 4 (pt x2) h3=some (.agg ⟨u64s s'⟩):=st3.ldA (.head _) (by rw[List.drop_zero, <-hl,List.take_length]) (by omega);have hab:=ab85s hs;simp only[la,vb_some,vN_eq,hab];have hl6:(Value.int .i64 ((1:Nat):Int)::(u64s s'++[nils])).length=6:=by simp[u64s,hs]
 have hone:oneCells (Value.int .i64 ((1:Nat):Int)::(u64s s'++[nils]))=true:=(leafS (V:=S) hs).one;refine Ret.lstA st3 1 rfl rfl hl6 (by simp) hone fun h4 st4=>?_;rw[setsL_all (by rw[hl6];rfl)]at st4;have st4:Sl h h4 S OM.emp [(x2,.row .own 1 (u64s s')),(x1,.row .own 1 (.int .i64 ((1:Nat):Int)::(u64s s'++[nils])))]:=st4;have lb:xLdA 6 (pt x1) h4=some (.agg ⟨.int .i64 ((1:Nat):Int)::(u64s s'++[nils])⟩):=st4.ldA (.tail _ (.head _)) (by rw[List.drop_zero, <-hl6,List.take_length]) (by omega);simp only[lb,vb_some];exact Fr.ret st4 rfl
theorem end187(hn:4611686018427387904<=n){nb:Bool}{a0:Nat}(hs:s.length=4)(h1:a0<=a)(h2:a<=t.size)(hx:(e=0/\clsT t a0=some (finT nb (s,a)))\/(e=2/\clsT t a0=none))
  (st:Sl h0 h S (RM br t a e b) ((b2,.row .own 1 (u64s s))::(b1,.row .own 1 z6)::rows)):Ret (F187_3 n cl (.bool nb) (pt b2) (pt b1) h) (SetV S t br h0 rows a0):=by
 have fin: ∀h' (s':List Int),s'.length=4->s'=(finT nb (s,a)).1->Sl h0 h' S (RM br t a e b) ((b2,.row .own 1 (u64s s'))::(b1,.row .own 1 z6)::rows)->
   Ret (F187_1 n cl (pt b2) (pt b1) h') (SetV S t br h0 rows a0):=by
  intro h' s' hs' hss st';have hl':(u64s s').length=4:=by simp[u64s,hs']
  have la:xLdA 4 (pt b2) h'=some (.agg ⟨u64s s'⟩):=st'.ldA (.head _) (by rw[List.drop_zero, <-hl',List.take_length]) (by omega);have hab:=ab85s hs';simp only[F187_1,la,vb_some,vN_eq,hab];refine Ret.put6x (x:=.mk 1 s' []) (pre:=[(b2,.row .own 1 (u64s s'))]) st' rfl (leafS hs') fun h5 st5=>?_;exact⟨a,e,b,s',hs',st5,rfl,h1,by omega,fun _=>h2,by rw[hss];exact hx⟩
 simp only[F187_3,jn_eq];cases nb with
 |true=>
  have hl:(u64s s).length=4:=by simp[u64s,hs]
  have la:xLdA 4 (pt b2) h=some (.agg ⟨u64s s⟩):=st.ldA (.head _) (by rw[List.drop_zero, <-hl,List.take_length]) (by omega);have:=st.ok;have hp:=c190 (n:=n) (cl:=cl) (h:=h.fzn) hn hs;simp only[bite_t,F187_2,la,vb_some,hp];have hs2:(turnS s).length=4:=by rw[turnS_len];exact hs
  have hl2:(u64s (turnS s)).length=4:=by simp[u64s,hs2]
  refine Ret.lstA st 0 rfl rfl hl2 (by simp[u64s,hs]) (oneCells_u64s _) fun h4 st4=>?_;rw[setsL_all (by rw[hl2,hl])]at st4;simp only[ucons_cons];exact fin h4 (turnS s) hs2 rfl st4
 |false=>
  simp only[bite_f,ucons_cons];exact fin h s hs rfl st
theorem loop187(ht:t.size<100000)(hn:4611686018427387904<=n){nb:Bool}{a0:Nat}{C:Option (List Int×Nat)}(hC:clsT t a0=C.map (finT nb)):
  ∀(k q a e b:Nat)(s:List Int)(h:PH),(e=0->t.size-a+1<=k)->k<q->s.length=4->a0<=a->a<=t.size->((e=0/\ ∃f,t.size<a+f/\C=clsL t f s a)\/(e=2/\C=none))->Sl h0 h S (RM br t a e b) ((b2,.row .own 1 (u64s s))::(b1,.row .own 1 z6)::rows)->
  Ret (lp q (F187_5 n cl) [pt br,pt b1,pt b2,.bool nb] h) (SetV S t br h0 rows a0):=by
 intro k;have stopE: ∀(q a e b:Nat)(s:List Int)(h:PH),s.length=4->a0<=a->a<=t.size->e=2->C=none->Sl h0 h S (RM br t a e b) ((b2,.row .own 1 (u64s s))::(b1,.row .own 1 z6)::rows)->
   Ret (F187_5 n cl (lp q (F187_5 n cl)) [pt br,pt b1,pt b2,.bool nb] h) (SetV S t br h0 rows a0):=by
  intro q a e b s h hs h3 h4 he hCn st;have:=st.ok;have hp:=c110 (n:=n) (cl:=cl) (h:=h.fzn) st.rd;have d:decide (e=0)=false:=by simp;omega
  have fin:=end187 (n:=n) (cl:=cl) (nb:=nb) hn hs h3 h4 (.inr ⟨he,by rw[hC,hCn];rfl⟩) st;simp only[F187_5,F187_4,ucons_cons,hp,d,vb_some,xNot_b,Bool.not_false,Bool.not_true,isB_t,gd_false,gh_false,hb_some,xPick_f,ff_eq,bite_f];exact fin
 induction k with
 |zero=>
  intro q a e b s h h1 h2 hs h3 h4 h7 st;obtain⟨q,rfl⟩: ∃r,q=r+1:=⟨q-1,by omega⟩;rw[lp_succ];rcases h7 with⟨he,_⟩|⟨he,hCn⟩
  ·have:=h1 he;omega
  ·exact stopE q a e b s h hs h3 h4 he hCn st
 |succ k ih=>
  intro q a e b s h h1 h2 hs h3 h4 h7 st;obtain⟨q,rfl⟩: ∃r,q=r+1:=⟨q-1,by omega⟩;rw[lp_succ];rcases h7 with⟨he,f,hf,hj⟩|⟨he,hCn⟩
  ·generalize hL:lp q (F187_5 n cl)=LL;subst he;obtain⟨f,rfl⟩: ∃g,f=g+1:=⟨f-1,by omega⟩;rw[clsL_succ]at hj;have:=st.ok;have hp:=c110 (n:=n) (cl:=cl) (h:=h.fzn) st.rd;have d:decide ((0:Nat)=0)=true:=rfl;rw[d]at hp;simp only[F187_5,F187_4,ucons_cons,hp,vb_some,xNot_b,Bool.not_not,Bool.not_true,Bool.not_false,isB_t,gd_true,gh_true];refine Ret.hb (c129z ht st (c:=93) (by decide)) fun v h2' ⟨a2,hv,ha2,st2⟩=>?_;subst hv
   by_cases h93:bt t a=93
   ·have hlt:a<t.size:=bt_lt.1 (by omega);have d93:decide (bt t a=93)=true:=decide_eq_true h93;rw[if_pos h93]at ha2 hj;subst ha2;simp only[d93,xNot_b,Bool.not_true,vb_some,xPick_t,bite_f];exact end187 (n:=n) (cl:=cl) (nb:=nb) hn hs (by omega) (by omega) (.inl ⟨rfl,by rw[hC,hj];rfl⟩) st2
   ·have d93:decide (bt t a=93)=false:=decide_eq_false h93;rw[if_neg h93]at ha2 hj;subst ha2;simp only[d93,xNot_b,Bool.not_false,vb_some,xPick_t,bite_t,F187_0];refine Ret.hb (c191 ht hn hs h4 st2) fun v h5 ⟨a5,e5,b5,s5,hs5,st5,h51,h52,h53⟩=>?_;rw[<-hL];unfold clsF at hj;have hin:(e5=0/\ ∃f,t.size<a5+f/\C=clsL t f s5 a5)\/(e5=2/\C=none):=by
     rcases h53 with⟨q1,q2,q3⟩|⟨q1,q3⟩
     ·rw[q3]at hj;exact .inl ⟨q1,f,by omega,hj⟩
     ·rw[q3]at hj;exact .inr ⟨q1,hj⟩
    exact ih q a5 e5 b5 s5 h5 (fun h=>by have:=h1 rfl;rcases h53 with⟨_,q2,_⟩|⟨q1,_⟩<;>omega) (by omega) hs5 (by omega) h52 hin st5
  ·exact stopE q a e b s h hs h3 h4 he hCn st
theorem c187(ht:t.size<100000)(hn:4611686018427387904<=n)(ha:a<=t.size)(st:Sl h0 h S (RM br t a 0 b) rows):Ret (F187 n cl (pt br) h) (SetV S t br h0 rows a):=by
 unfold F187;refine Ret.lalloc st zc85 fun h1 b1 st1=>?_;refine Ret.lalloc st1 zc242 fun h2 b2 st2=>?_;refine Ret.hb (c129z ht st2 (c:=94) (by decide)) fun v h3 ⟨a3,hv,ha3,st3⟩=>?_;subst hv;have hle:a<=a3/\a3<=t.size:=by
  by_cases h94:bt t a=94
  ·have:a<t.size:=bt_lt.1 (by omega);rw[if_pos h94]at ha3;omega
  ·rw[if_neg h94]at ha3;omega
 refine Ret.hb (c191 ht hn rfl hle.2 st3) fun v h5 ⟨a5,e5,b5,s5,hs5,st5,h51,h52,h53⟩=>?_;have hC:clsT t a=(clsF t (t.size+1) zs4 a3).map (finT (decide (bt t a=94))):=by unfold clsT;rw[ha3]
 have hin:(e5=0/\ ∃f,t.size<a5+f/\clsF t (t.size+1) zs4 a3=clsL t f s5 a5)\/(e5=2/\clsF t (t.size+1) zs4 a3=none):=by
  unfold clsF;have hz:zs4=[0,0,0,0]:=rfl;rcases h53 with⟨q1,q2,q3⟩|⟨q1,q3⟩
  ·rw[hz,q3];exact .inl ⟨q1,t.size+1,by omega,rfl⟩
  ·rw[hz,q3];exact .inr ⟨q1,rfl⟩
 exact loop187 ht hn hC (t.size+1) n a5 e5 b5 s5 h5 (fun _=>by omega) (by omega) hs5 (by omega) h52 hin st5
end
def H188(cl:CL):Prop:= ∀(s:ByteArray)(c:Int)(h:PH),cl 188 [.string s,.int .u8 c] h=some (.int .i64 (firstIdx s c.toNat.toUInt8),h)
def IhP(n:Nat)(cl:CL)(t:ByteArray)(br:Nat)(h0:PH)(d:Nat):Prop:=d<20-> ∀{S:Vw}{h:PH}{rows:Rws}{a b:Nat},a<=t.size->Sl h0 h S (RM br t a 0 b) rows->Ret (cl 108 [pt br,.int .i64 ((d+1:Nat):Int)] h) (PR S t br h0 rows a (t.size+22-(d+1)) 0 2 (altT t (20-(d+1)) a))
section
variable {Q:Value->PH->Prop}{n:Nat}{cl:CL}{h h0:PH}{S:Vw}{m:OM}{rows rest:Rws}{br a e b b1 b2:Nat}{t:ByteArray}{s:List Int}
theorem c173(ht:t.size<100000)(hn:4611686018427387904<=n)(h188:H188 cl){d:Nat}(hd:d<=20)(hlt:a<t.size)(ih:IhP n cl t br h0 d)
  (st:Sl h0 h S (RM br t a 0 b) rows):Ret (F173 n cl (pt br) (.int .i64 (d:Nat)) h) (PR S t br h0 rows a (t.size+22-d) 1 0 (atomT t (altD t d) a)):=by
 unfold F173;refine Ret.lalloc st zc85 fun h1 b1 st1=>?_;have st1:Sl h0 h1 S (RM br t a 0 b) ([]++(b1,.row .own 1 z6)::rows):=st1;have l1:xLd (.pointer (some ⟨br,1,none⟩)) h1=some (.int .i64 (a:Nat)):=st1.ldB RM_at rfl;obtain⟨hc,hi⟩:=ai9 (t:=t) (a:=a) hlt;have last: ∀(a1 e1 b':Nat)(h:PH),a<=a1->a1<=t.size->(e1=0->a1<t.size->atomT t (altD t d) a= .ok (leafR (addS zs4 (bt t a1)),a1+1))->(e1=0-> ¬ a1<t.size->atomT t (altD t d) a= .error 2)->(e1≠0->atomT t (altD t d) a= .error e1)->Sl h0 h S (RM br t a1 e1 b') ([]++(b1,.row .own 1 z6)::rows)->
   Ret (Go.Am.hb (F186 n cl (pt br) h) fun c h=>Go.Am.hb (fcall h (F185 n cl c (h.fzn))) fun d h=>Go.Am.hb (xStA 6 (pt b1) d h) fun _ h=>vb (xLdA 6 (pt b1) h) fun e=>some (e,h)) (PR S t br h0 rows a (t.size+22-d) 1 0 (atomT t (altD t d) a)):=by
  intro a1 e1 b' h q1 q2 q3 q4 q5 st;refine Ret.hb (c186 ht st) fun v h2 ⟨a2,e2,b2,c,st2,hv,hc2,hr⟩=>?_;subst hv;have:=st2.ok;refine Ret.lfcall st2 (f185 (n:=n) (cl:=cl) (h:=h2.fzn) (Vw.le.refl _) hc2) fun v h3 rows1 hv st3=>?_;subst hv;have hs':(addS zs4 c).length=4:=adds4 rfl c;have st3:Sl h0 h3 S (RM br t a2 e2 b2) (rows1++(b1,.row .own 1 z6)::rows):=st3;refine Ret.put6x st3 rfl (leafS hs') fun h4 st4=>?_;have hEE:(1:Nat)<=3*(a2-a)+0+EE e2:=by
   rcases hr with⟨_,_,r3,r4,_⟩|⟨r1,r2,r3⟩
   ·omega
   ·rw[EE_1 (by split at r3<;>omega)];omega
  refine⟨S,a2,e2,b2,.mk 1 (addS zs4 c) [],_,VwN.refl,st4,rfl,leafS hs',wf_leaf,?_,?_,?_,by rw[size_leaf];exact hEE,?_⟩
  ·rcases hr with⟨_,_,_,r4,_⟩|⟨_,r2,_⟩<;>omega
  ·rcases hr with⟨_,_,_,r4,_⟩|⟨_,r2,_⟩<;>omega
  ·intro he;rcases hr with⟨_,_,_,r4,_⟩|⟨r1,r2,r3⟩
   ·omega
   ·split at r3<;>omega
  ·rcases hr with⟨r1,r2,r3,r4,r5⟩|⟨r1,r2,r3⟩
   ·exact .inl ⟨r3,by rw[q3 r1 r2,r4,r5];rfl⟩
   ·by_cases he:e1=0
    ·rw[if_pos he]at r3;exact .inr ⟨by omega,by rw[q4 he (fun h=>r1 ⟨he,h⟩),r3]⟩
    ·rw[if_neg he]at r3;exact .inr ⟨by omega,by rw[q5 he,r3]⟩
 have:=st1.ok;have hp:=c152z (n:=n) (cl:=cl) (h:=h1.fzn) st1.rd (c:=40) (by decide);simp only[jn_eq,F173_15,hp,vb_some]
 by_cases h40:bt t a=40
 ·have d40:decide (bt t a=40)=true:=decide_eq_true h40;simp only[d40,bite_t,F173_6,vN_eq,xGe_i,vb_some]
  by_cases hd2:d=20
  ·have dd:decide (((20:Nat):Int)<=((d:Nat):Int))=true:=by simp;omega
   have hres:atomT t (altD t d) a= .error 4:=by
    unfold atomT altD;rw[if_pos h40,if_neg (show ¬ d<20 by omega)]
   simp only[dd,bite_t,F173_1,vN_eq];refine Ret.hb (c109 st1) fun v h2 ⟨e2,b2,he2,st2⟩=>?_;rw[if_pos rfl]at he2;simp only[ab85n,vb_some];refine Ret.put6x st2 rfl noneE fun h3 st3=>?_;exact⟨S,a,e2,b2,.mk 0 zs4 [],z6,VwN.refl,st3,rfl,noneE,wf_none,Nat.le_refl _,by omega,fun h=>by omega,by rw[size_leaf,EE_1 (by omega)];omega,.inr ⟨by omega,by rw[hres,he2]⟩⟩
  ·have dd:decide (((20:Nat):Int)<=((d:Nat):Int))=false:=by simp;omega
   have hat:atomT t (altD t d) a=match altT t (20-(d+1)) (a+1)with
    | .error e=>.error e
    | .ok (x,a2)=>if bt t a2=41 then .ok (x,a2+1)else .error 2:=by
    unfold atomT altD;rw[if_pos h40,if_pos (show d<20 by omega),show 20-(d+1)=19-d by omega];rfl
   simp only[dd,bite_f,F173_5,xNil_p,xFld_p,Nat.zero_add,vb_some,l1,vN_eq,xAdd_i,wrN (show a<1000000 by omega)];refine Ret.step st1 fun h2 st2=>?_;simp only[wrN (show d<1000000 by omega),vb_some];refine Ret.hb (ih (by omega) (by omega) st2) fun v h3 ⟨S3,a3,e3,b3,x3,es3,le3,st3,hv,he3,hwf3,h31,h32,h33,h34,h35⟩=>?_;subst hv;refine Ret.lalloc st3 zc85 fun h4 b4 st4=>?_;refine Ret.lstA st4 0 rfl rfl he3.len (by simp) he3.one fun h5 st5=>?_;rw[setsL_all (by rw[he3.len];rfl)]at st5;have st5:Sl h0 h5 S3 (RM br t a3 e3 b3) ([(b4,.row .own 1 es3)]++(b1,.row .own 1 z6)::rows):=st5;have hl:=he3.len;have hE3:EE e3<=1:=by unfold EE;split<;>omega
   have fin: ∀a6 e6 b6 (h:PH),a+1<=a6->a6<=t.size+22-d->(e6=0->a6<=t.size)->x3.size<=3*(a6-a)+0+EE e6->RR (atomT t (altD t d) a) e6 x3 a6->Sl h0 h S3 (RM br t a6 e6 b6) ([(b4,.row .own 1 es3)]++(b1,.row .own 1 z6)::rows)->Ret (F173_2 n cl (pt b4) (pt b1) h) (PR S t br h0 rows a (t.size+22-d) 1 0 (atomT t (altD t d) a)):=by
    intro a6 e6 b6 h q1 q2 q3 q4 q5 st;have la:xLdA 6 (pt b4) h=some (.agg ⟨es3⟩):=st.ldA (.head _) (by rw[List.drop_zero, <-hl,List.take_length]) (by omega);simp only[F173_2,la,vb_some];refine Ret.put6x st rfl he3 fun h8 st8=>?_;exact⟨S3,a6,e6,b6,x3,es3,le3,st8,rfl,he3,hwf3,by omega,q2,fun h=>⟨q3 h,q1⟩,q4,q5⟩
   simp only[jn_eq,F173_4];refine Ret.hb (c129 ht st5 (c:=41) (by decide)) fun v h6 ⟨a6,hv,ha6,st6⟩=>?_;subst hv;rcases h35 with⟨he,hr⟩|⟨he,hr⟩
   ·rw[hr]at hat;have hat2:atomT t (altD t d) a=if bt t a3=41 then .ok (x3,a3+1)else .error 2:=hat
    by_cases h41:bt t a3=41
    ·have hy:e3=0/\bt t a3=41:=⟨he,h41⟩;have h3lt:a3<t.size:=bt_lt.1 (by omega);rw[if_pos h41]at hat2;rw[if_pos hy]at ha6;subst ha6;simp only[decide_eq_true hy,xNot_b,Bool.not_true,vb_some,bite_f,ucons_cons];exact fin _ _ _ _ (by omega) (by omega) (fun _=>by omega) (by rw[he,EE_0]at h34;omega) (.inl ⟨he,hat2⟩) st6
    ·have hy: ¬(e3=0/\bt t a3=41):=fun h=>h41 h.2;rw[if_neg h41]at hat2;rw[if_neg hy]at ha6;subst ha6;simp only[decide_eq_false hy,xNot_b,Bool.not_false,vb_some,bite_t,F173_3,vN_eq];refine Ret.hb (c109 st6) fun v h7 ⟨e7,b7,he7,st7⟩=>?_;rw[if_pos he]at he7;simp only[ucons_cons];exact fin _ _ _ _ (by omega) (by omega) (fun h=>by omega) (by rw[EE_1 (by omega)];omega) (.inr ⟨by omega,by rw[hat2,he7]⟩) st7
   ·rw[hr]at hat;have hat2:atomT t (altD t d) a= .error e3:=hat;have hy: ¬(e3=0/\bt t a3=41):=fun h=>he h.1;rw[if_neg hy]at ha6;subst ha6;simp only[decide_eq_false hy,xNot_b,Bool.not_false,vb_some,bite_t,F173_3,vN_eq];refine Ret.hb (c109 st6) fun v h7 ⟨e7,b7,he7,st7⟩=>?_;rw[if_neg he]at he7;simp only[ucons_cons];exact fin _ _ _ _ (by omega) (by omega) (fun h=>by omega) (by rw[EE_1 (by omega)];omega) (.inr ⟨by omega,by rw[hat2,he7]⟩) st7
 have d40:decide (bt t a=40)=false:=decide_eq_false h40;simp only[d40,bite_f,F173_14];refine Ret.hb (c129z ht st1 (c:=46) (by decide)) fun v h2 ⟨a2,hv,ha2,st2⟩=>?_;subst hv
 by_cases h46:bt t a=46
 ·rw[if_pos h46]at ha2;subst ha2;have:=st2.ok;have hp:=c184 (n:=n) (cl:=cl) (h:=h2.fzn) hn;have hs':=dotS_len;have hab:=ab85s hs';simp only[decide_eq_true h46,bite_t,F173_7,hp,vb_some,vN_eq,hab];refine Ret.put6x st2 rfl (leafS hs') fun h3 st3=>?_;exact⟨S,a+1,0,b,.mk 1 dotS [],_,VwN.refl,st3,rfl,leafS hs',wf_leaf,by omega,by omega,fun _=>⟨by omega,by omega⟩,by rw[size_leaf,EE_0];omega,.inl ⟨rfl,by unfold atomT;rw[if_neg h40,if_pos h46];rfl⟩⟩
 rw[if_neg h46]at ha2;subst ha2;simp only[decide_eq_false h46,bite_f,F173_13];refine Ret.hb (c129z ht st2 (c:=92) (by decide)) fun v h3 ⟨a3,hv,ha3,st3⟩=>?_;subst hv
 by_cases h92:bt t a2=92
 ·rw[if_pos h92]at ha3;subst ha3;have hat:atomT t (altD t d) a2=if a2+1<t.size then .ok (leafR (addS zs4 (bt t (a2+1))),a2+2)else .error 2:=by
   unfold atomT;rw[if_neg h40,if_neg h46,if_pos h92]
  simp only[decide_eq_true h92,bite_t,F173_8];exact last (a2+1) 0 b h3 (by omega) (by omega) (fun _ h=>by rw[hat,if_pos h]) (fun _ h=>by rw[hat,if_neg h]) (fun h=>absurd rfl h) st3
 rw[if_neg h92]at ha3;subst ha3;simp only[decide_eq_false h92,bite_f,F173_12];refine Ret.hb (c129z ht st3 (c:=91) (by decide)) fun v h4 ⟨a4,hv,ha4,st4⟩=>?_;subst hv
 by_cases h91:bt t a3=91
 ·rw[if_pos h91]at ha4;subst ha4;have hat: ∀o,clsT t (a3+1)=o->atomT t (altD t d) a3=match o with
   |none=>.error 2
   |some (s,a')=>.ok (leafR s,a'):=by
   intro o ho;unfold atomT;rw[if_neg h40,if_neg h46,if_neg h92,if_pos h91,ho];rfl
  simp only[decide_eq_true h91,bite_t,F173_9];refine Ret.hb (c187 ht hn (by omega) st4) fun v h5 ⟨a5,e5,b5,s5,hs5,st5,hv,h51,h52,h53,h54⟩=>?_;subst hv;refine Ret.put6x st5 rfl (leafS hs5) fun h6 st6=>?_;refine⟨S,a5,e5,b5,.mk 1 s5 [],_,VwN.refl,st6,rfl,leafS hs5,wf_leaf,by omega,by omega,fun h=>⟨h53 h,by omega⟩,by rw[size_leaf];omega,?_⟩;rcases h54 with⟨q1,q2⟩|⟨q1,q2⟩
  ·exact .inl ⟨q1,hat _ q2⟩
  ·exact .inr ⟨by omega,by rw[hat _ q2,q1]⟩
 rw[if_neg h91]at ha4;subst ha4;have hat:atomT t (altD t d) a4=if spcB (bt t a4)=true then .error 2 else .ok (leafR (addS zs4 (bt t a4)),a4+1):=by
  unfold atomT;rw[if_neg h40,if_neg h46,if_neg h92,if_neg h91]
 have l14:xLd (.pointer (some ⟨br,1,none⟩)) h4=some (.int .i64 (a4:Nat)):=st4.ldB RM_at rfl;have l04:xLd (.pointer (some ⟨br,0,none⟩)) h4=some (.string t):=st4.ldB RM_at rfl;have dl:decide (((a4:Nat):Int)<((t.size:Nat):Int))=true:=by simp;omega
 have hp188:pcall (cl 188 [.string spcT,.int .u8 ((bt t a4:Nat):Int)] h4.fzn)=some (.int .i64 (firstIdx spcT (bt t a4).toUInt8)):=by
  rw[h188];rfl
 have hp188':pcall (cl 188 [.string {data:= #[124,42,43,63,40,41,91,93]},.int .u8 ((bt t a4:Nat):Int)] h4.fzn)=some (.int .i64 (firstIdx spcT (bt t a4).toUInt8)):=hp188;have hsp:=spc_at hc;simp only[decide_eq_false h91,bite_f,F173_11,xNil_p,xFld_p,Nat.zero_add,vb_some,l14,l04,xLenT_s,xLt_i,dl,isB_t,gd_true,hi,hp188',vN_eq,xGe_i,xPick_t];have hd0:decide (((0:Nat):Int)<=firstIdx spcT (bt t a4).toUInt8)=spcB (bt t a4):=hsp;rw[hd0];cases hq:spcB (bt t a4)with
 |true=>
  rw[if_pos hq]at hat;simp only[bite_t,F173_10,vN_eq];refine Ret.hb (c109 st4) fun v h5 ⟨e5,b5,he5,st5⟩=>?_;rw[if_pos rfl]at he5;simp only[ucons_cons,F173_0];exact last a4 e5 b5 h5 (by omega) (by omega) (fun h=>by omega) (fun h=>by omega) (fun _=>by rw[hat,he5]) st5
 |false=>
  rw[if_neg (by rw[hq];decide)]at hat;simp only[bite_f,ucons_cons,F173_0];exact last a4 0 b h4 (by omega) (by omega) (fun _ _=>hat) (fun _ h=>absurd hlt h) (fun h=>absurd rfl h) st4
end
section
variable {Q:Value->PH->Prop}{n:Nat}{cl:CL}{h h0:PH}{S:Vw}{m:OM}{rows rest:Rws}{br a e b b1 b2:Nat}{t:ByteArray}{s:List Int}
theorem loop153(ht:t.size<=200)(hn:4611686018427387904<=n){a0 lim b1 b3:Nat}{S0:Vw}{res:Res}(hlim:t.size<=lim):
  ∀(k q a e b:Nat)(S:Vw)(h:PH)(x:Re)(es:List Value),(e=0->t.size-a+1<=k)->k<q->VwN h0 S0 S->ReE S x es->x.wf->a0<=a->a<=lim->(e=0->a<=t.size/\a0+1<=a)->x.size<=3*(a-a0)+EE e->StJ t res e x a->
   Sl h0 h S (RM br t a e b) ((b3,.row .own 1 es)::(b1,.row .own 1 z6)::rows)->
  Ret (lp q (F153_6 n cl) [pt br,pt b1,pt b3] h) (PR S0 t br h0 rows a0 lim 1 0 res):=by
 intro k;have fin: ∀(a e b:Nat)(S:Vw)(h:PH)(x:Re)(es:List Value),VwN h0 S0 S->ReE S x es->x.wf->a0<=a->a<=lim->(e=0->a<=t.size/\a0+1<=a)->x.size<=3*(a-a0)+EE e->RR res e x a->
   Sl h0 h S (RM br t a e b) ((b3,.row .own 1 es)::(b1,.row .own 1 z6)::rows)->Ret (F153_1 n cl (pt b3) (pt b1) h) (PR S0 t br h0 rows a0 lim 1 0 res):=by
  intro a e b S h x es le he hwf h3 h4 h5 h6 h7 st;have hl:=he.len;have la:xLdA 6 (pt b3) h=some (.agg ⟨es⟩):=st.ldA (.head _) (by rw[List.drop_zero, <-hl,List.take_length]) (by omega);simp only[F153_1,la,vb_some];refine Ret.put6x (pre:=[(b3,.row .own 1 es)]) st rfl he fun h8 st8=>?_;exact⟨S,a,e,b,x,es,le,st8,rfl,he,hwf,h3,h4,h5,by omega,h7⟩
 have stopE: ∀(q a e b:Nat)(S:Vw)(h:PH)(x:Re)(es:List Value),VwN h0 S0 S->ReE S x es->x.wf->a0<=a->a<=lim->(e=0->a<=t.size/\a0+1<=a)->x.size<=3*(a-a0)+EE e->(RR res e x a)->(¬(e=0/\bt t a=42))->(¬(e=0/\bt t a=43))->(¬(e=0/\bt t a=63))->
   Sl h0 h S (RM br t a e b) ((b3,.row .own 1 es)::(b1,.row .own 1 z6)::rows)->Ret (F153_6 n cl (lp q (F153_6 n cl)) [pt br,pt b1,pt b3] h) (PR S0 t br h0 rows a0 lim 1 0 res):=by
  intro q a e b S h x es le he hwf h3 h4 h5 h6 hr n1 n2 n3 st;simp only[F153_6,ucons_cons,jn_eq,F153_5];refine Ret.hb (c129 (by omega) st (c:=42) (by decide)) fun v h1 ⟨a1,hv,ha1,st1⟩=>?_;subst hv;rw[if_neg n1]at ha1;subst ha1;simp only[decide_eq_false n1,bite_f,F153_3];refine Ret.hb (c129 (by omega) st1 (c:=43) (by decide)) fun v h2 ⟨a2,hv,ha2,st2⟩=>?_;subst hv;rw[if_neg n2]at ha2;subst ha2;simp only[decide_eq_false n2,bite_f,F153_2];refine Ret.hb (c129 (by omega) st2 (c:=63) (by decide)) fun v h3' ⟨a3,hv,ha3,st3⟩=>?_;subst hv;rw[if_neg n3]at ha3;subst ha3;simp only[decide_eq_false n3,bite_f];exact fin _ _ _ _ _ _ _ le he hwf h3 h4 h5 h6 hr st3
 induction k with
 |zero=>
  intro q a e b S h x es h1 h2 le he hwf h3 h4 h5 h6 h7 st;obtain⟨q,rfl⟩: ∃r,q=r+1:=⟨q-1,by omega⟩;rw[lp_succ];rcases h7 with⟨hz,_⟩|⟨hz,hr⟩
  ·have:=h1 hz;omega
  ·exact stopE q a e b S h x es le he hwf h3 h4 h5 h6 (.inr ⟨hz,hr⟩) (fun h=>hz h.1) (fun h=>hz h.1) (fun h=>hz h.1) st
 |succ k ih=>
  intro q a e b S h x es h1 h2 le he hwf h3 h4 h5 h6 h7 st;obtain⟨q,rfl⟩: ∃r,q=r+1:=⟨q-1,by omega⟩;rw[lp_succ];rcases h7 with⟨hz,f,hf,hr⟩|⟨hz,hr⟩
  ·have hl:=he.len;have hat:=(h5 hz).1;obtain⟨g,rfl⟩: ∃g,f=g+1:=⟨f-1,by omega⟩;have go: ∀(o:Nat)(h:PH),4<=o->o<=6->a<t.size->starT t (g+1) x a=starT t g (.mk ((o:Nat):Int) zs4 [x]) (a+1)->Sl h0 h S (RM br t (a+1) e b) ((b3,.row .own 1 es)::(b1,.row .own 1 z6)::rows)->
     Ret (F153_4 n cl (lp q (F153_6 n cl)) [pt br,pt b1,pt b3,.int .i64 (o:Nat)] h) (PR S0 t br h0 rows a0 lim 1 0 res):=by
    intro o h ho1 ho2 hlt hs st4;have la':xLdA 6 (pt b3) h=some (.agg ⟨es⟩):=st4.ldA (.head _) (by rw[List.drop_zero, <-hl,List.take_length]) (by omega);simp only[F153_4,ucons_cons,F153_0,la',vb_some];refine Ret.lbs st4 (bsRe he) fun h5' b5 st5=>?_;have hn5:=(st5.sm.own b5 _ (st5.mem (.head _))).2;obtain⟨st6,hSb⟩:=st5.settle (i:=0) rfl;have st6:Sl h0 h5' (S.put b5 es) (RM br t (a+1) e b) ((b3,.row .own 1 es)::(b1,.row .own 1 z6)::rows):=st6;refine Ret.vb ab85' ?_;refine Ret.lstA st6 0 rfl rfl rfl (by rw[hl];exact Nat.le_refl _) rfl fun h7 st7=>?_;rw[setsL_all (by rw[hl];rfl)]at st7;have le5:VwN h0 S (S.put b5 es):=VwN.put hSb hn5;have he':ReE (S.put b5 es) (.mk ((o:Nat):Int) zs4 [x]) [.int .i64 ((o:Nat):Int),.int .u64 0,.int .u64 0,.int .u64 0,.int .u64 0,.slice (some ⟨b5,0,none⟩) 1 1]:=by
     refine ReE_mk.2 ⟨_,rfl,rfl,.inr ⟨b5,0,1,_,rfl,CapOk.self (by show 1<_;decide),Vw.put_self,by simp;omega,?_⟩⟩;unfold KidsC;refine⟨?_,by unfold KidsC;trivial⟩;rw[List.drop_zero,List.take_of_length_le (by omega)];exact ReE.mono le5.1 he
    refine ih q (a+1) e b (S.put b5 es) h7 (.mk ((o:Nat):Int) zs4 [x]) _ (fun h=>by have:=h1 h;omega) (by omega) (le.trans le5) he' (wf_rep hwf (by omega)) (by omega) (by omega) (fun _=>by have:=h5 hz;omega) ?_ (.inl ⟨hz,g,by omega,by rw[hr,hs]⟩) st7;have e1:(Re.mk ((o:Nat):Int) zs4 [x]).size=x.size+1:=by simp[Re.size,sizeL]
    rw[e1];omega
   have s42:bt t a=42->starT t (g+1) x a=starT t g (.mk ((4:Nat):Int) zs4 [x]) (a+1):=fun h=>by
    show(if _ then _ else _)=_
    rw[if_pos h];rfl
   have s43:bt t a=43->starT t (g+1) x a=starT t g (.mk ((5:Nat):Int) zs4 [x]) (a+1):=fun h=>by
    show(if _ then _ else _)=_
    rw[if_neg (by omega),if_pos h];rfl
   have s63:bt t a=63->starT t (g+1) x a=starT t g (.mk ((6:Nat):Int) zs4 [x]) (a+1):=fun h=>by
    show(if _ then _ else _)=_
    rw[if_neg (by omega),if_neg (by omega),if_pos h];rfl
   have s0:bt t a≠42->bt t a≠43->bt t a≠63->starT t (g+1) x a=(x,a):=fun h1 h2 h3=>by
    show(if _ then _ else _)=_
    rw[if_neg h1,if_neg h2,if_neg h3]
   by_cases h42:bt t a=42
   ·have hy:e=0/\bt t a=42:=⟨hz,h42⟩;simp only[F153_6,ucons_cons,jn_eq,F153_5];refine Ret.hb (c129 (by omega) st (c:=42) (by decide)) fun v h1' ⟨a1,hv,ha1,st1⟩=>?_;subst hv;rw[if_pos hy]at ha1;subst ha1;simp only[decide_eq_true hy,bite_t,vN_eq];exact go 4 h1' (by decide) (by decide) (bt_lt.1 (by omega)) (s42 h42) st1
   have n1: ¬(e=0/\bt t a=42):=fun h=>h42 h.2
   by_cases h43:bt t a=43
   ·have hy:e=0/\bt t a=43:=⟨hz,h43⟩;simp only[F153_6,ucons_cons,jn_eq,F153_5];refine Ret.hb (c129 (by omega) st (c:=42) (by decide)) fun v h1' ⟨a1,hv,ha1,st1⟩=>?_;subst hv;rw[if_neg n1]at ha1;subst ha1;simp only[decide_eq_false n1,bite_f,F153_3];refine Ret.hb (c129 (by omega) st1 (c:=43) (by decide)) fun v h2' ⟨a2,hv,ha2,st2⟩=>?_;subst hv;rw[if_pos hy]at ha2;subst ha2;simp only[decide_eq_true hy,bite_t,vN_eq];exact go 5 h2' (by decide) (by decide) (bt_lt.1 (by omega)) (s43 h43) st2
   have n2: ¬(e=0/\bt t a=43):=fun h=>h43 h.2
   by_cases h63:bt t a=63
   ·have hy:e=0/\bt t a=63:=⟨hz,h63⟩;simp only[F153_6,ucons_cons,jn_eq,F153_5];refine Ret.hb (c129 (by omega) st (c:=42) (by decide)) fun v h1' ⟨a1,hv,ha1,st1⟩=>?_;subst hv;rw[if_neg n1]at ha1;subst ha1;simp only[decide_eq_false n1,bite_f,F153_3];refine Ret.hb (c129 (by omega) st1 (c:=43) (by decide)) fun v h2' ⟨a2,hv,ha2,st2⟩=>?_;subst hv;rw[if_neg n2]at ha2;subst ha2;simp only[decide_eq_false n2,bite_f,F153_2];refine Ret.hb (c129 (by omega) st2 (c:=63) (by decide)) fun v h3' ⟨a3,hv,ha3,st3⟩=>?_;subst hv;rw[if_pos hy]at ha3;subst ha3;simp only[decide_eq_true hy,bite_t,vN_eq];exact go 6 h3' (by decide) (by decide) (bt_lt.1 (by omega)) (s63 h63) st3
   exact stopE q a e b S h x es le he hwf h3 h4 h5 h6 (.inl ⟨hz,by rw[hr,s0 h42 h43 h63]⟩) n1 n2 (fun h=>h63 h.2) st
  ·exact stopE q a e b S h x es le he hwf h3 h4 h5 h6 (.inr ⟨hz,hr⟩) (fun h=>hz h.1) (fun h=>hz h.1) (fun h=>hz h.1) st
theorem c153(ht:t.size<=200)(hn:4611686018427387904<=n)(h188:H188 cl){d:Nat}(hd:d<=20)(hlt:a<t.size)(ih:IhP n cl t br h0 d)
  (st:Sl h0 h S (RM br t a 0 b) rows):Ret (F153 n cl (pt br) (.int .i64 (d:Nat)) h) (PR S t br h0 rows a (t.size+22-d) 1 0 (partT t (altD t d) a)):=by
 unfold F153;refine Ret.lalloc st zc85 fun h1 b1 st1=>?_;refine Ret.hb (c173 (by omega) hn h188 hd hlt ih st1) fun v h2 ⟨S2,a2,e2,b2,x,es,le,st2,hv,he,hwf,h21,h22,h23,h24,h25⟩=>?_;subst hv;refine Ret.lalloc st2 zc85 fun h3 b3 st3=>?_;refine Ret.lstA st3 0 rfl rfl he.len (by simp) he.one fun h4 st4=>?_;rw[setsL_all (by rw[he.len];rfl)]at st4;have hj:StJ t (partT t (altD t d) a) e2 x a2:=by
  unfold partT;rcases h25 with⟨q1,q2⟩|⟨q1,q2⟩
  ·exact .inl ⟨q1,t.size+1,by omega,by rw[q2]⟩
  ·exact .inr ⟨q1,by rw[q2]⟩
 exact loop153 ht hn (by omega) (t.size+1) n a2 e2 b2 S2 h4 x es (fun h=>by omega) (by omega) le he hwf h21 h22 (fun h=>⟨(h23 h).1,(h23 h).2⟩) (by omega) hj st4
theorem f130[OkH h](hS:Vw.le S h.cells){xs:List Re}{v:Value}(hv:KidsV S xs v)(hsh:0<xs.length-> ∃b n c,v= .slice (some ⟨b,0,none⟩) n c){o:Nat}:Fr h S (F130 n cl (.int .i64 ((o:Nat):Int)) v h) fun u _=> ∃es,u= .agg ⟨es⟩/\ReE S (manyT ((o:Nat):Int) xs) es:=by
 unfold Fr F130;refine Ret.lalloc (Sl.start h hS) zc85 fun h1 x1 st1=>?_;have st1:Sl h h1 S OM.emp ([]++(x1,.row .own 1 z6)::[]):=st1;have hlen:=hv.len;simp only[hlen,vb_some,vN_eq,xEq_i]
 match xs,hv,hsh,hlen with
 | [],hv,hsh,hlen=>
  have d:decide (((([]:List Re).length:Nat):Int)=((0:Nat):Int))=true:=rfl;simp only[d,bite_t,F130_0,ab85n,vb_some];refine Ret.put6x st1 rfl noneE fun h2 st2=>?_;exact⟨[],st2,z6,rfl,noneE⟩
 | [x],hv,hsh,hlen=>
  have d:decide (((([x]:List Re).length:Nat):Int)=((0:Nat):Int))=false:=rfl;have d1:decide (((([x]:List Re).length:Nat):Int)=((1:Nat):Int))=true:=rfl;obtain⟨p,es,e1,e2,e3⟩:=hv.only st1;simp only[d,bite_f,F130_3,vN_eq,xEq_i,vb_some,d1,bite_t,F130_1,e1,e2];refine Ret.put6x st1 rfl e3 fun h2 st2=>?_;exact⟨[],st2,es,rfl,e3⟩
 |x::y::l,hv,hsh,hlen=>
  have d:decide ((((x::y::l:List Re).length:Nat):Int)=((0:Nat):Int))=false:=by simp;omega
  have d1:decide ((((x::y::l:List Re).length:Nat):Int)=((1:Nat):Int))=false:=by simp;omega
  obtain⟨b',n',c',rfl⟩:=hsh (by simp);simp only[d,bite_f,F130_3,vN_eq,xEq_i,vb_some,d1,F130_2];refine Ret.vb ab85' ?_;have he:ReE S (.mk ((o:Nat):Int) zs4 (x::y::l)) [.int .i64 ((o:Nat):Int),.int .u64 0,.int .u64 0,.int .u64 0,.int .u64 0,.slice (some ⟨b',0,none⟩) n' c']:=ReE_mk.2 ⟨_,rfl,rfl,hv⟩;refine Ret.put6x st1 rfl he fun h2 st2=>?_;exact⟨[],st2,_,rfl,he⟩
end
theorem manyT_wf{xs:List Re}{o:Nat}(h:wfL xs)(ho:o=2\/o=3):(manyT ((o:Nat):Int) xs).wf:=by
 match xs,h with
 | [],_=>exact wf_none
 | [x],h=>exact h.one
 |x::y::l,h=>exact wf_many (xs:=x::y::l) h (by rcases ho with rfl|rfl;exact .inl rfl;exact .inr rfl) (by simp)
theorem manyT_size{xs:List Re}{o:Int}:(manyT o xs).size<=sizeL xs+1:=by
 match xs with
 | []=>show(Re.mk 0 zs4 []).size<=_;rw[size_leaf];omega
 | [x]=>show x.size<=sizeL [x]+1;simp[sizeL]
 |x::y::l=>rw[manyT_many (by simp),size_many];exact Nat.le_refl _
section
variable {Q:Value->PH->Prop}{n:Nat}{cl:CL}{h h0:PH}{S:Vw}{m:OM}{rows rest:Rws}{br a e b b1 b2:Nat}{t:ByteArray}{s:List Int}
theorem mk130{a0 lim k b1 kk:Nat}{S0:Vw}{v:Value}{cells:List Value}{ex:Rws}{xs:List Re}{o:Nat}(ho:o=2\/o=3)(le:VwN h0 S0 S)(hk:k<=300)(st:Sl h0 h S (RM br t a e b) (ex++(b1,.row .own 1 z6)::rows))(g:Ga v k cells ex)(hx:xs.length=k)(hc:KidsC S xs cells)(hwf:wfL xs)
  (h3:a0<=a) (h4:a<=lim) (h5:e=0->a<=t.size) (h6:(manyT ((o:Nat):Int) xs).size<=3*(a-a0)+kk+EE e) {res:Res} (hr:RR res e (manyT ((o:Nat):Int) xs) a):
  Ret (Go.Am.hb (fcall h (F130 n cl (.int .i64 ((o:Nat):Int)) v (h.fzn))) fun c h=>Go.Am.hb (xStA 6 (pt b1) c h) fun _ h=>vb (xLdA 6 (pt b1) h) fun d=>some (d,h)) (PR S0 t br h0 rows a0 lim 0 kk res):=by
 have hshape:0<xs.length-> ∃b n c,v= .slice (some ⟨b,0,none⟩) n c:=fun h=>g.shape (by omega);obtain⟨S',le',st',hv⟩:=g.kids st hx (by omega) hc;have:=st'.ok;refine Ret.lfcall st' (f130 (n:=n) (cl:=cl) (h:=h.fzn) (S:=S') (fun b cs e=>st'.leS b cs e) hv hshape) fun v h2 rows1 ⟨es,hv2,he⟩ st2=>?_;subst hv2;have st2:Sl h0 h2 S' (RM br t a e b) (rows1++(b1,.row .own 1 z6)::rows):=st2;refine Ret.put6x st2 rfl he fun h3' st3=>?_;exact⟨S',a,e,b,_,_,le.trans le',st3,rfl,he,manyT_wf hwf ho,h3,h4,fun h=>⟨h5 h,h3⟩,h6,hr⟩
theorem loop128(ht:t.size<=200)(hn:4611686018427387904<=n)(h188:H188 cl){d:Nat}(hd:d<=20)(ih0:IhP n cl t br h0 d){a0 b1:Nat}{S0:Vw}(ha0:a0<=t.size){res:Res}:
  ∀(k q a e b c:Nat)(S:Vw)(h:PH)(v:Value)(cells:List Value)(ex:Rws)(xs:List Re),(e=0->t.size-a+1<=k)->k<q->VwN h0 S0 S->Ga v c cells ex->xs.length=c->KidsC S xs cells->wfL xs->a0<=a->a<=t.size+22-d->(e=0->a<=t.size)->sizeL xs<=3*(a-a0)+EE e->c<=(a-a0)+EE e->SqJ t (altD t d) res e xs a->
   Sl h0 h S (RM br t a e b) (ex++(b1,.row .own 1 z6)::rows)->
  Ret (lp q (F128_3 n cl) [pt br,.int .i64 (d:Nat),pt b1,v] h) (PR S0 t br h0 rows a0 (t.size+22-d) 0 1 res):=by
 intro k;have fin: ∀(a e b c:Nat)(S:Vw)(h:PH)(v:Value)(cells:List Value)(ex:Rws)(xs:List Re),VwN h0 S0 S->Ga v c cells ex->xs.length=c->KidsC S xs cells->wfL xs->a0<=a->a<=t.size+22-d->(e=0->a<=t.size)->sizeL xs<=3*(a-a0)+EE e->c<=(a-a0)+EE e->RR res e (manyT 2 xs) a->
   Sl h0 h S (RM br t a e b) (ex++(b1,.row .own 1 z6)::rows)->Ret (F128_1 n cl v (pt b1) h) (PR S0 t br h0 rows a0 (t.size+22-d) 0 1 res):=by
  intro a e b c S h v cells ex xs le g hx hc hwf h3 h4 h5 h6 h7 hr st;simp only[F128_1,vN_eq];exact mk130 (o:=2) (.inl rfl) le (by have:=EE_le e;omega) st g hx hc hwf h3 h4 h5 (Nat.le_trans manyT_size (by omega)) hr
 have stopE: ∀(q a e b c:Nat)(S:Vw)(h:PH)(v:Value)(cells:List Value)(ex:Rws)(xs:List Re),VwN h0 S0 S->Ga v c cells ex->xs.length=c->KidsC S xs cells->wfL xs->a0<=a->a<=t.size+22-d->(e=0->a<=t.size)->sizeL xs<=3*(a-a0)+EE e->c<=(a-a0)+EE e->e≠0->res= .error e->
   Sl h0 h S (RM br t a e b) (ex++(b1,.row .own 1 z6)::rows)->Ret (F128_3 n cl (lp q (F128_3 n cl)) [pt br,.int .i64 (d:Nat),pt b1,v] h) (PR S0 t br h0 rows a0 (t.size+22-d) 0 1 res):=by
  intro q a e b c S h v cells ex xs le g hx hc hwf h3 h4 h5 h6 h7 hz hr st;have:=st.ok;have hp:=c110 (n:=n) (cl:=cl) (h:=h.fzn) st.rd;have de:decide (e=0)=false:=decide_eq_false hz;rw[de]at hp;have fin:=fin a e b c S h v cells ex xs le g hx hc hwf h3 h4 h5 h6 h7 (.inr ⟨hz,hr⟩) st;simp only[F128_3,F128_2,ucons_cons,hp,vb_some,xNot_b,Bool.not_false,Bool.not_true,isB_t,gd_false,xPick_f,ff_eq,bite_f];exact fin
 induction k with
 |zero=>
  intro q a e b c S h v cells ex xs h1 h2 le g hx hc hwf h3 h4 h5 h6 h7 h8 st;obtain⟨q,rfl⟩: ∃r,q=r+1:=⟨q-1,by omega⟩;rw[lp_succ];rcases h8 with⟨hz,_⟩|⟨hz,hr⟩
  ·have:=h1 hz;omega
  ·exact stopE q a e b c S h v cells ex xs le g hx hc hwf h3 h4 h5 h6 h7 hz hr st
 |succ k ih=>
  intro q a e b c S h v cells ex xs h1 h2 le g hx hc hwf h3 h4 h5 h6 h7 h8 st;obtain⟨q,rfl⟩: ∃r,q=r+1:=⟨q-1,by omega⟩;rw[lp_succ];rcases h8 with⟨hz,f,hf,hr⟩|⟨hz,hr⟩
  ·generalize hL:lp q (F128_3 n cl)=LL;subst hz;obtain⟨f,rfl⟩: ∃g,f=g+1:=⟨f-1,by have:=h5 rfl;omega⟩;have fin:=fun hs=>fin a 0 b c S h v cells ex xs le g hx hc hwf h3 h4 h5 h6 h7 (.inl ⟨rfl,hr.trans (seqL_stop hs)⟩) st;have:=st.ok;have hp:=c110 (n:=n) (cl:=cl) (h:=h.fzn) st.rd;have de:decide ((0:Nat)=0)=true:=rfl;rw[de]at hp;have p1:=c152z (n:=n) (cl:=cl) (h:=h.fzn) st.rd (c:=124) (by decide);have p2:=c152z (n:=n) (cl:=cl) (h:=h.fzn) st.rd (c:=41) (by decide);have l1:xLd (.pointer (some ⟨br,1,none⟩)) h=some (.int .i64 (a:Nat)):=st.ldB RM_at rfl;have l0:xLd (.pointer (some ⟨br,0,none⟩)) h=some (.string t):=st.ldB RM_at rfl;have go: ¬(t.size<=a\/bt t a=124\/bt t a=41)->Ret (F128_0 n cl (pt br) (.int .i64 (d:Nat)) v LL (pt b1) h) (PR S0 t br h0 rows a0 (t.size+22-d) 0 1 res):=by
    intro hns;have hlt:a<t.size:=by
     apply Nat.lt_of_not_le
     exact fun h=>hns (.inl h)
    simp only[F128_0];refine Ret.hb (c153 ht hn h188 hd hlt ih0 st) fun v' h4' ⟨S4,a4,e4,b4,x,es,le4,st4,hv,he,hw4,h41,h42,h43,h44,h45⟩=>?_;subst hv;have hcl:c<=1000:=by have:=EE_le 0;omega
    refine Ret.gappA st4 g (bsRe he) he.len he.one hcl fun h5' v5 ex5 st5 g5=>?_;rw[<-hL];have hE4:=EE_le e4;have hE0:EE 0=0:=EE_0;have hjn:SqJ t (altD t d) res e4 (xs++[x]) a4:=by
     rcases h45 with⟨q1,q2⟩|⟨q1,q2⟩
     ·exact .inl ⟨q1,f,by have:=(h43 q1).2;omega,hr.trans (seqL_go hns q2)⟩
     ·exact .inr ⟨q1,hr.trans (seqL_err hns q2)⟩
    refine ih q a4 e4 b4 (c+1) S4 h5' v5 _ ex5 (xs++[x]) (fun h=>by have:=h1 rfl;have:=h43 h;omega) (by omega) (le.trans le4) g5 (by simp[hx]) (KidsC.snoc' he (KidsC.mono le4.1 hc) (by rw[g.length,hx])) (wfL_snoc hw4 _ hwf) (by omega) (by omega) (fun h=>(h43 h).1) (by rw[sizeL_snoc'];omega) ?_ hjn st5
    by_cases hz4:e4=0
    ·have:=(h43 hz4).2;omega
    ·rw[EE_1 hz4];omega
   simp only[F128_3,F128_2,ucons_cons,hp,vb_some,xNot_b,Bool.not_not,Bool.not_true,Bool.not_false,isB_t,gd_true,xNil_p,xFld_p,Nat.zero_add,l1,l0,xLenT_s,xLt_i,xPick_t]
   by_cases hsz:t.size<=a
   ·have d2:decide (((a:Nat):Int)<((t.size:Nat):Int))=false:=by simp;omega
    simp only[d2,vb_some,isB_t,gd_false,xPick_f,ff_eq,bite_f];exact fin (.inl hsz)
   have d2:decide (((a:Nat):Int)<((t.size:Nat):Int))=true:=by simp;omega
   simp only[d2,vb_some,isB_t,gd_true,p1,xNot_b,xPick_t]
   by_cases h124:bt t a=124
   ·simp only[decide_eq_true h124,Bool.not_true,vb_some,isB_t,gd_false,xPick_f,ff_eq,bite_f];exact fin (.inr (.inl h124))
   simp only[decide_eq_false h124,Bool.not_false,vb_some,isB_t,gd_true,p2,xNot_b,xPick_t]
   by_cases h41:bt t a=41
   ·simp only[decide_eq_true h41,Bool.not_true,bite_f];exact fin (.inr (.inr h41))
   simp only[decide_eq_false h41,Bool.not_false,bite_t];exact go (by omega)
  ·exact stopE q a e b c S h v cells ex xs le g hx hc hwf h3 h4 h5 h6 h7 hz hr st
theorem c128(ht:t.size<=200)(hn:4611686018427387904<=n)(h188:H188 cl){d:Nat}(hd:d<=20)(ih0:IhP n cl t br h0 d)(ha:a<=t.size)(st:Sl h0 h S (RM br t a 0 b) rows):Ret (F128 n cl (pt br) (.int .i64 (d:Nat)) h) (PR S t br h0 rows a (t.size+22-d) 0 1 (seqT t (altD t d) a)):=by
 unfold F128;refine Ret.lalloc st zc85 fun h1 b1 st1=>?_;exact loop128 ht hn h188 hd ih0 ha (t.size+1) n a 0 b 0 S h1 nils [] [] [] (fun _=>by omega) (by omega) VwN.refl Ga.nil rfl (by simp[KidsC]) (by simp[wfL]) (Nat.le_refl _) (by omega) (fun _=>ha) (by simp[sizeL]) (by omega) (.inl ⟨rfl,t.size+1,by omega,rfl⟩) st1
theorem loop108(ht:t.size<=200)(hn:4611686018427387904<=n)(h188:H188 cl){d:Nat}(hd:d<=20)(ih0:IhP n cl t br h0 d){a0 b1:Nat}{S0:Vw}(ha0:a0<=t.size){res:Res}:
  ∀(k q a e b c:Nat)(S:Vw)(h:PH)(v:Value)(cells:List Value)(ex:Rws)(xs:List Re),(e=0->t.size-a+1<=k)->k<q->VwN h0 S0 S->0<c->Ga v c cells ex->xs.length=c->KidsC S xs cells->wfL xs->a0<=a->a<=t.size+22-d->(e=0->a<=t.size)->sizeL xs+2*c<=3*(a-a0)+3+EE e->c<=(a-a0)+1->AlJ t (altD t d) res e xs a->
   Sl h0 h S (RM br t a e b) (ex++(b1,.row .own 1 z6)::rows)->
  Ret (lp q (F108_3 n cl) [pt br,.int .i64 (d:Nat),pt b1,v] h) (PR S0 t br h0 rows a0 (t.size+22-d) 0 2 res):=by
 intro k;have fin: ∀(q a e b c:Nat)(S:Vw)(h:PH)(v:Value)(cells:List Value)(ex:Rws)(xs:List Re),VwN h0 S0 S->0<c->Ga v c cells ex->xs.length=c->KidsC S xs cells->wfL xs->a0<=a->a<=t.size+22-d->(e=0->a<=t.size)->sizeL xs+2*c<=3*(a-a0)+3+EE e->c<=(a-a0)+1->RR res e (manyT 3 xs) a-> ¬(e=0/\bt t a=124)->
   Sl h0 h S (RM br t a e b) (ex++(b1,.row .own 1 z6)::rows)->Ret (F108_3 n cl (lp q (F108_3 n cl)) [pt br,.int .i64 (d:Nat),pt b1,v] h) (PR S0 t br h0 rows a0 (t.size+22-d) 0 2 res):=by
  intro q a e b c S h v cells ex xs le hc0 g hx hc hwf h3 h4 h5 h6 h7 hr hno st;simp only[F108_3,F108_2,ucons_cons];refine Ret.hb (c129 (by omega) st (c:=124) (by decide)) fun v h1 ⟨a1,hv,ha1,st1⟩=>?_;subst hv;rw[if_neg hno]at ha1;subst ha1;simp only[decide_eq_false hno,bite_f,F108_1,vN_eq];exact mk130 (o:=3) (.inr rfl) le (by omega) st1 g hx hc hwf h3 h4 h5 (Nat.le_trans manyT_size (by omega)) hr
 induction k with
 |zero=>
  intro q a e b c S h v cells ex xs h1 h2 le hc0 g hx hc hwf h3 h4 h5 h6 h7 h8 st;obtain⟨q,rfl⟩: ∃r,q=r+1:=⟨q-1,by omega⟩;rw[lp_succ];rcases h8 with⟨hz,_⟩|⟨hz,hr⟩
  ·have:=h1 hz;omega
  ·exact fin q a e b c S h v cells ex xs le hc0 g hx hc hwf h3 h4 h5 h6 h7 (.inr ⟨hz,hr⟩) (fun h=>hz h.1) st
 |succ k ih=>
  intro q a e b c S h v cells ex xs h1 h2 le hc0 g hx hc hwf h3 h4 h5 h6 h7 h8 st;obtain⟨q,rfl⟩: ∃r,q=r+1:=⟨q-1,by omega⟩;rw[lp_succ];rcases h8 with⟨hz,f,hf,hr⟩|⟨hz,hr⟩
  ·by_cases h124:bt t a=124
   ·have hlt:a<t.size:=bt_lt.1 (by omega);rw[if_pos h124]at hr;obtain⟨f,rfl⟩: ∃g,f=g+1:=⟨f-1,by omega⟩;subst hz;generalize hL:lp q (F108_3 n cl)=LL;simp only[F108_3,F108_2,ucons_cons];refine Ret.hb (c129z (by omega) st (c:=124) (by decide)) fun v1 h1' ⟨a1,hv,ha1,st1⟩=>?_;subst hv;rw[if_pos h124]at ha1;subst ha1;simp only[decide_eq_true h124,bite_t,F108_0];refine Ret.hb (c128 ht hn h188 hd ih0 (by omega) st1) fun v' h4' ⟨S4,a4,e4,b4,x,es,le4,st4,hv,he,hw4,h41,h42,h43,h44,h45⟩=>?_;subst hv;have hE0:EE 0=0:=EE_0;refine Ret.gappA st4 g (bsRe he) he.len he.one (by omega) fun h5' v5 ex5 st5 g5=>?_;rw[<-hL];have hjn:AlJ t (altD t d) res e4 (xs++[x]) a4:=by
     rcases h45 with⟨q1,q2⟩|⟨q1,q2⟩
     ·exact .inl ⟨q1,f,by omega,hr.trans (altL_go q2)⟩
     ·exact .inr ⟨q1,hr.trans (altL_err q2)⟩
    exact ih q a4 e4 b4 (c+1) S4 h5' v5 _ ex5 (xs++[x]) (fun h=>by have:=h1 rfl;have:=h43 h;omega) (by omega) (le.trans le4) (by omega) g5 (by simp[hx]) (KidsC.snoc' he (KidsC.mono le4.1 hc) (by rw[g.length,hx])) (wfL_snoc hw4 _ hwf) (by omega) (by omega) (fun h=>(h43 h).1) (by rw[sizeL_snoc'];omega) (by omega) hjn st5
   ·rw[if_neg h124]at hr;exact fin q a e b c S h v cells ex xs le hc0 g hx hc hwf h3 h4 h5 h6 h7 (.inl ⟨hz,hr⟩) (fun h=>h124 h.2) st
  ·exact fin q a e b c S h v cells ex xs le hc0 g hx hc hwf h3 h4 h5 h6 h7 (.inr ⟨hz,hr⟩) (fun h=>hz h.1) st
theorem c108'(ht:t.size<=200)(hn:4611686018427387904<=n)(h188:H188 cl){d:Nat}(hd:d<=20)(ih0:IhP n cl t br h0 d)(ha:a<=t.size)(st:Sl h0 h S (RM br t a 0 b) rows):Ret (F108 n cl (pt br) (.int .i64 (d:Nat)) h) (PR S t br h0 rows a (t.size+22-d) 0 2 (altT t (20-d) a)):=by
 unfold F108;refine Ret.lalloc st zc85 fun h1 b1 st1=>?_;refine Ret.hb (c128 ht hn h188 hd ih0 ha st1) fun v' h4' ⟨S4,a4,e4,b4,x,es,le4,st4,hv,he,hw4,h41,h42,h43,h44,h45⟩=>?_;subst hv;refine Ret.lbs st4 (bsRe he) fun h5 b5 st5=>?_;have hl:=he.len;have hs1:sizeL [x]=x.size:=by simp[sizeL]
 have hkc:KidsC S4 [x] es:=by
  unfold KidsC;rw[List.take_of_length_le (by omega)];exact⟨he,by unfold KidsC;trivial⟩
 have hjn:AlJ t (altD t d) (altT t (20-d) a) e4 [x] a4:=by
  rw[altD_B hd];rcases h45 with⟨q1,q2⟩|⟨q1,q2⟩
  ·exact .inl ⟨q1,t.size,by omega,altL_go q2⟩
  ·exact .inr ⟨q1,altL_err q2⟩
 exact loop108 ht hn h188 hd ih0 ha (t.size+1) n a4 e4 b4 1 S4 h5 _ es [(b5,.row .own 6 es)] [x] (fun h=>by have:=h43 h;omega) (by omega) le4 (by decide) (.inr ⟨rfl,b5,rfl,rfl,hl⟩) rfl hkc (by simp[wfL,hw4]) h41 h42 (fun h=>(h43 h).1) (by rw[hs1];omega) (by omega) hjn st5
set_option maxRecDepth 100000 in
theorem LV108{n d:Nat}{u v:Value}{h:PH}:LV n (d+1) 108 [u,v] h=F108 n (LV n d) u v h:=rfl
set_option maxRecDepth 100000 in
theorem LV188(n d:Nat):H188 (LV n (d+1)):=fun s c h=>rfl
theorem c108(ht:t.size<=200)(hn:4611686018427387904<=n): ∀(f D d:Nat),d+f=20->f<D-> ∀{S:Vw}{h:PH}{rows:Rws}{a b:Nat},a<=t.size->Sl h0 h S (RM br t a 0 b) rows->Ret (F108 n (LV n D) (pt br) (.int .i64 (d:Nat)) h) (PR S t br h0 rows a (t.size+22-d) 0 2 (altT t (20-d) a))
 |0,D+1,d,hf,hD=>fun ha st=>c108' ht hn (LV188 n D) (by omega) (fun q=>by omega) ha st
 |f+1,D+1,d,hf,hD=>fun ha st=>by
  refine c108' ht hn (LV188 n D) (by omega) (fun q=>?_) ha st;intro S h rows a b ha st;rw[LV108];exact c108 ht hn f D (d+1) (by omega) (by omega) ha st
end
theorem ab203{t:ByteArray}:abuild Tryz.prog 203 [(0,.string t)]=some (.agg ⟨[.string t,.int .i64 0,.int .i64 0,.int .i64 0]⟩):=by kernel_rfl
section
variable {Q:Value->PH->Prop}{n:Nat}{cl:CL}{h h0:PH}{S:Vw}{m:OM}{rows:Rws}{br a e b b1 b2:Nat}{t:ByteArray}
theorem end86(ht:t.size<=200){S0:Vw}{b1 b9:Nat}{x:Re}{es:List Value}(le:VwN h0 S0 S)(he:ReE S x es)(hwf:x.wf)(hsz:e=0->x.size<=3*t.size+2)(hr:(e=0/\prsT t= .ok x)\/(e≠0/\prsT t= .error e))
  (st:Sl h0 h S (RM br t a e b) ([(b9,.row .own 1 es)]++(b1,.row .own 1 z6)::rows)):Ret (F86_5 n cl [.string t,pt b1,pt br,pt b9] h) (ParseV S0 t h0 OM.emp rows):=by
 have l2:xLd (.pointer (some ⟨br,2,none⟩)) h=some (.int .i64 (e:Nat)):=st.ldB RM_at rfl;have l3:xLd (.pointer (some ⟨br,3,none⟩)) h=some (.int .i64 (b:Nat)):=st.ldB RM_at rfl;have:=st.ok;have hp:=c110 (n:=n) (cl:=cl) (h:=h.fzn) st.rd;simp only[F86_5,ucons_cons,F86_3,hp,vb_some];have hE:OM.le OM.emp (RM br t a e b):=fun b o hb=>by cases hb
 have st1:=st.perm (rows':=(b1,.row .own 1 z6)::([(b9,.row .own 1 es)]++rows)) List.perm_middle
 by_cases hz:e=0
 ·have dd:decide (e=0)=true:=decide_eq_true hz;have hl:=he.len;have la:xLdA 6 (pt b9) h=some (.agg ⟨es⟩):=st.ldA (.head _) (by rw[List.drop_zero, <-hl,List.take_length]) (by omega);simp only[dd,Bool.not_true,bite_f,F86_2,la,xLenT_s,vb_some,vN_eq];refine Ret.lstA st1 0 rfl rfl he.len (by simp[z6]) he.one fun h3 st3=>?_;rw[setsL_all (by rw[he.len];rfl)]at st3;have st3:Sl h0 h3 S (RM br t a e b) ((b1,.row .own 1 es)::([(b9,.row .own 1 es)]++rows)):=st3;have lb:xLdA 6 (pt b1) h3=some (.agg ⟨es⟩):=st3.ldA (.head _) (by rw[List.drop_zero, <-hl,List.take_length]) (by omega);simp only[lb,vb_some];exact Ret.of ⟨S,x,es,_,0,le,(st3.drop ((List.sublist_append_right _ _).trans (List.sublist_cons_self _ _))).weakM hE,rfl,he,hwf,hsz hz,fun _=>ht,.inl ⟨rfl,by rcases hr with h|h;exact h.2;exact absurd hz h.1⟩⟩
 ·have dd:decide (e=0)=false:=decide_eq_false hz;simp only[dd,Bool.not_false,bite_t,F86_1,ab85n,vb_some,xNil_p,xFld_p,Nat.zero_add,Nat.add_zero,l2,l3];refine Ret.lstA st1 0 rfl rfl (by rfl) (by simp[z6]) (by rfl) fun h3 st3=>?_;rw[setsL_all (by rfl)]at st3;have st3:Sl h0 h3 S (RM br t a e b) ((b1,.row .own 1 z6)::([(b9,.row .own 1 es)]++rows)):=st3;have l2':xLd (.pointer (some ⟨br,2,none⟩)) h3=some (.int .i64 (e:Nat)):=st3.ldB RM_at rfl;have l3':xLd (.pointer (some ⟨br,3,none⟩)) h3=some (.int .i64 (b:Nat)):=st3.ldB RM_at rfl;have lb:xLdA 6 (pt b1) h3=some (.agg ⟨z6⟩):=st3.ldA (.head _) rfl (by simp[z6]);simp only[l2',l3',lchk_t veq_i,lb,vb_some];exact Ret.of ⟨S,.mk 0 zs4 [],z6,_,e,le,(st3.drop ((List.sublist_append_right _ _).trans (List.sublist_cons_self _ _))).weakM hE,rfl,noneE,wf_none,by rw[size_leaf];omega,fun h=>absurd h hz,.inr ⟨hz,by rcases hr with h|h;exact absurd h.1 hz;exact h.2⟩⟩
theorem c86(hn:4611686018427387904<=n){D:Nat}(hD:20<D)(h108: ∀u v h,cl 108 [u,v] h=LV n (D+1) 108 [u,v] h)(hmx:t.size<9223372036854775808)(st:Sl h0 h S OM.emp rows):Ret (F86 n cl (.string t) h) (ParseV S t h0 OM.emp rows):=by
 unfold F86;refine Ret.lalloc st zc85 fun h1 b1 st1=>?_;have st1:Sl h0 h1 S OM.emp ([]++(b1,.row .own 1 z6)::rows):=st1;simp only[xLenT_s,vb_some,vN_eq,xGt_i]
 by_cases hl:200<t.size
 ·have d:decide (((200:Nat):Int)<((t.size:Nat):Int))=true:=by simp;omega
  simp only[d,bite_t,F86_0,ab85n,vb_some,vN_eq];have st1:Sl h0 h1 S OM.emp ((b1,.row .own 1 z6)::rows):=st1;refine Ret.lstA st1 0 rfl rfl (by rfl) (by simp[z6]) (by rfl) fun h3 st3=>?_;rw[setsL_all (by rfl)]at st3;have st3:Sl h0 h3 S OM.emp ((b1,.row .own 1 z6)::rows):=st3;have lb:xLdA 6 (pt b1) h3=some (.agg ⟨z6⟩):=st3.ldA (.head _) rfl (by simp[z6]);simp only[lb,vb_some];exact Ret.of ⟨S,.mk 0 zs4 [],z6,_,3,VwN.refl,st3.drop (List.sublist_cons_self _ _),rfl,noneE,wf_none,by rw[size_leaf];omega,(fun h=>by omega),.inr ⟨by decide,by unfold prsT;rw[if_pos hl]⟩⟩
 ·have d:decide (((200:Nat):Int)<((t.size:Nat):Int))=false:=by simp;omega
  simp only[d,bite_f,F86_7];refine Ret.vb ab203 ?_;refine Ret.lbox st1 fun h2 br st2=>?_;have st2:Sl h0 h2 S OM.emp ((br,rdr t 0 0 0)::(b1,.row .own 1 z6)::rows):=st2;have st3:Sl h0 h2 S (RM br t 0 0 0) ((b1,.row .own 1 z6)::rows):=(st2.sink (i:=0) rfl).1;rw[vN_eq,h108,LV108];refine Ret.hb (c108 (by omega) hn 20 D 0 (by omega) hD (Nat.zero_le _) st3) fun v h4 ⟨S4,a4,e4,b4,x,es,le4,st4,hv,he,hw4,h41,h42,h43,h44,h45⟩=>?_;subst hv;refine Ret.lalloc st4 zc85 fun h5 b9 st5=>?_;refine Ret.lstA st5 0 rfl rfl he.len (by simp) he.one fun h6 st6=>?_;rw[setsL_all (by rw[he.len];rfl)]at st6;have st6:Sl h0 h6 S4 (RM br t a4 e4 b4) ([(b9,.row .own 1 es)]++(b1,.row .own 1 z6)::rows):=st6;have hsz:e4=0->x.size<=3*t.size+2:=fun h=>by
   have:=h43 h;rw[h,EE_0]at h44;omega
  have l1:xLd (.pointer (some ⟨br,1,none⟩)) h6=some (.int .i64 (a4:Nat)):=st6.ldB RM_at rfl;have hprs: ∀r,altT t 20 0=r->prsT t=match r with
   | .error e=>.error e
   | .ok (x,a)=>if a<t.size then .error 2 else .ok x:=fun r h=>by
   unfold prsT;rw[if_neg hl,h];rfl
  simp only[jn_eq,F86_6,xNil_p,xFld_p,Nat.zero_add,vb_some,l1,xLenT_s,xLt_i]
  by_cases hlt:a4<t.size
  ·have d2:decide (((a4:Nat):Int)<((t.size:Nat):Int))=true:=by simp;omega
   simp only[d2,bite_t,F86_4,vN_eq];refine Ret.hb (c109 st6) fun v h7 ⟨e7,b7,he7,st7⟩=>?_;refine end86 (by omega) le4 he hw4 (fun h=>?_) ?_ st7
   ·split at he7<;>omega
   ·rcases h45 with⟨hz,hr⟩|⟨hz,hr⟩
    ·have hr:=hprs _ hr;have hr:prsT t=if a4<t.size then .error 2 else .ok x:=hr;rw[if_pos hlt]at hr;rw[if_pos hz]at he7;exact .inr ⟨by omega,by rw[hr,he7]⟩
    ·have hr:=hprs _ hr;have hr:prsT t= .error e4:=hr;rw[if_neg hz]at he7;exact .inr ⟨by omega,by rw[hr,he7]⟩
  ·have d2:decide (((a4:Nat):Int)<((t.size:Nat):Int))=false:=by simp;omega
   simp only[d2,bite_f];refine end86 (by omega) le4 he hw4 hsz ?_ st6;rcases h45 with⟨hz,hr⟩|⟨hz,hr⟩
   ·have hr:=hprs _ hr;have hr:prsT t=if a4<t.size then .error 2 else .ok x:=hr;rw[if_neg hlt]at hr;exact .inl ⟨hz,hr⟩
   ·have hr:=hprs _ hr;exact .inr ⟨hz,hr⟩
end
theorem disable(w:World):(callFunc 165 #[]).run Tryz.prog w= .ok (.value (.tuple #[])) w:=run_call_mark0 Tryz.func165 (by kernel_rfl) (by kernel_rfl) (by kernel_rfl) .disable (by kernel_rfl) w
theorem enable(w:World):(callFunc 167 #[]).run Tryz.prog w= .ok (.value (.tuple #[])) w:=run_call_mark0 Tryz.func167 (by kernel_rfl) (by kernel_rfl) (by kernel_rfl) .enable (by kernel_rfl) w
theorem acquire(a:Addr)(w:World):(callFunc 168 #[.pointer (some a)]).run Tryz.prog w= .ok (.value (.tuple #[])) w:=run_call_marked Tryz.func168 (by kernel_rfl) (by kernel_rfl) (by kernel_rfl) .acquire (by kernel_rfl) a w
theorem releaseMerge(a:Addr)(w:World):(callFunc 170 #[.pointer (some a)]).run Tryz.prog w= .ok (.value (.tuple #[])) w:=run_call_marked Tryz.func170 (by kernel_rfl) (by kernel_rfl) (by kernel_rfl) .releaseMerge (by kernel_rfl) a w
theorem store_deferred(a:Addr)(x:Value)(u:FrameMode)(w:World)(hc:w.cell? a=some x)(hz:w.frozen? a=false):
  CallsD Tryz.prog 127 #[.pointer (some a),.bool true] u w fun e u' w'=>u'=u/\(e= .returned (.tuple #[])/\w'=w.drew.setCell a (.int .u32 1)):=by
 have hc':w.drew.cell? a=some x:=by go_simp
 have hz':w.drew.frozen? a=false:=by go_simp
 have hst:=run_call_store (P:=Tryz.prog) Tryz.func150 (by kernel_rfl) (by kernel_rfl) (by kernel_rfl) (by kernel_rfl) (k:=.u32) (y:=1) hc' hz'
 go_enter_d Tryz.func127,Tryz.ntmps127
 go_wp2
 go_region_calls
 all_goals (go_end0;exact⟨rfl,rfl⟩)
set_option maxRecDepth 100000 in
set_option maxHeartbeats 1600000 in
theorem unlock_deferred(a:Addr)(u:FrameMode)(w:World)(hc:w.cell? a=some (.int .i32 1))(hz:w.frozen? a=false):
  CallsD Tryz.prog 126 #[.pointer (some a)] u w fun e u' w'=>u'=u/\(e= .returned (.tuple #[])/\w'=w.setCell a (.int .i32 0)):=by
 have hd:=disable;have he:=enable;have hr:=releaseMerge;have hadd:=run_call_add (P:=Tryz.prog) Tryz.func171 (by kernel_rfl) (by kernel_rfl) (by kernel_rfl) .i32 (by kernel_rfl) (y:= -1) (s:=0) hc hz (by simp[go_sem];rfl);have hcv:=run_convert_to_unsafe (P:=Tryz.prog) (src:=250) (dst:=254) Tryz.underlying250 Tryz.underlying254 (by kernel_rfl) hc
 go_enter_d Tryz.func126,Tryz.ntmps126
 go_wp2
 go_end0
 go_wp2
 go_end0
 exact⟨rfl,rfl⟩
set_option maxRecDepth 100000 in
set_option maxHeartbeats 1600000 in
theorem lock_free(a:Addr)(w:World)(hc:w.cell? a=some (.int .i32 0))(hz:w.frozen? a=false):
  Calls Tryz.prog 125 #[.pointer (some a)] w fun e w'=>e= .returned (.tuple #[])/\w'=w.setCell a (.int .i32 1):=by
 have hd:=disable;have he:=enable;have ha:=acquire;have hcas:=run_call_cas_hit (P:=Tryz.prog) Tryz.func166 (by kernel_rfl) (by kernel_rfl) (by kernel_rfl) .i32 (by kernel_rfl) (y:=1) hc hz;have hc':(w.setCell a (.int .i32 1)).cell? a=some (.int .i32 1):=World.cell?_setCell_same w a _ hc;have hcv:=run_convert_to_unsafe (P:=Tryz.prog) (src:=250) (dst:=254) Tryz.underlying250 Tryz.underlying254 (by kernel_rfl) hc'
 go_enter Tryz.func125,Tryz.ntmps125
 go_wp2
 first|go_end0|(simp only[Exit.inBlock,Exit.then];refine bodyPost_ret (results_none rfl _ _ _) rfl ?_)|refine bodyPost_ret (results_none rfl _ _ _) rfl ?_
 go_wp2
 go_end0
 exact⟨rfl,rfl⟩
theorem bool_load(a:Addr)(d:Int)(w:World)(hc:w.cell? a=some (.int .u32 d)):
  Calls Tryz.prog 106 #[.pointer (some a)] w fun e w'=>e= .returned (.bool (d !=0))/\w'=w:=by
 have hl:=run_call_load (P:=Tryz.prog) Tryz.func124 (by kernel_rfl) (by kernel_rfl) (by kernel_rfl) .u32 (by kernel_rfl) hc
 go_enter Tryz.func106,Tryz.ntmps106
 go_wp2
 go_ret
 exact⟨rfl,rfl⟩
set_option maxRecDepth 100000 in
set_option maxHeartbeats 1600000 in
theorem once_slow(b off:Nat)(p:Value)(w:World)(R:World->Prop)
  (h0:w.cell? ⟨b,off,none⟩=some (.int .u32 0)) (h1:w.cell? ⟨b,off+1,none⟩=some (.int .i32 0))
  (f0:w.frozen? ⟨b,off,none⟩=false) (f1:w.frozen? ⟨b,off+1,none⟩=false)
  (hf:Calls Tryz.prog 79 #[p] (w.setCell ⟨b,off+1,none⟩ (.int .i32 1)) fun e w'=>e= .returned (.tuple #[])/\(∃x,w'.cell? ⟨b,off,none⟩=some x)/\w'.cell? ⟨b,off+1,none⟩=some (.int .i32 1)/\w'.frozen? ⟨b,off,none⟩=false/\w'.frozen? ⟨b,off+1,none⟩=false/\R w'):
  Calls Tryz.prog 107 #[.pointer (some ⟨b,off,none⟩),.func (.func 79) #[] #[p]] w fun e w'=>e= .returned (.tuple #[])/\ ∃w2,R w2/\w'=(w2.drew.setCell ⟨b,off,none⟩ (.int .u32 1)).setCell ⟨b,off+1,none⟩ (.int .i32 0):=by
 have hd0:(w.setCell ⟨b,off+1,none⟩ (.int .i32 1)).cell? ⟨b,off,none⟩=some (.int .u32 0):=(World.cell?_setCell_other _ ⟨b,off+1,none⟩ ⟨b,off,none⟩ _ (by simp)).trans h0;have hnot: ∀(x:Bool)(w:World),(Op.unary .not (.bool x)).run Tryz.prog w= .ok (.bool (!x)) w:=fun _ _=>rfl
 go_enter_defers Tryz.func107,Tryz.ntmps107
 go_wp2_with (first|(go_at_call 125;refine(lock_free ⟨b,off+1,none⟩ _ (by go_simp) (by go_simp)).mono ?_;rintro e w' ⟨rfl,rfl⟩)|(go_at_call 106;refine(bool_load ⟨b,off,none⟩ 0 _ hd0).mono ?_;rintro e w' ⟨rfl,rfl⟩)|(go_at_call 79;refine hf.mono ?_;rintro e w2 ⟨rfl,⟨x2,c0⟩,c1,g0,g1,hR⟩))
 refine leaves_cons (f:=127) (args:= #[.pointer (some ⟨b,off,none⟩),.bool true]) (by simp) (by simp[go_sem]) ?_;refine(store_deferred ⟨b,off,none⟩ x2 .returning _ c0 g0).mono ?_;rintro e u' w'' ⟨rfl,rfl,rfl⟩;refine leaves_cons (f:=126) (args:= #[.pointer (some ⟨b,off+1,none⟩)]) (by simp[settle]) (by simp[go_sem]) ?_;refine(unlock_deferred ⟨b,off+1,none⟩ _ _ ?_ (by simp[g1])).mono ?_
 ·refine(World.cell?_setCell_other _ ⟨b,off,none⟩ ⟨b,off+1,none⟩ _ (by simp)).trans ?_;rw[World.cell?_drew];exact c1
 rintro e u' w'' ⟨rfl,rfl,rfl⟩;simp[Go.Leaves,settle,results,Tryz.results107];exact⟨w2,hR,rfl⟩
theorem once_done(a:Addr)(d:Int)(hd: ¬ d=0)(fv:Value)(w:World)(h0:w.cell? a=some (.int .u32 d)):
  Calls Tryz.prog 78 #[.pointer (some a),fv] w fun e w'=>e= .returned (.tuple #[])/\w'=w:=by
 have hd':(d !=0)=true:=by simp[hd]
 have hnot: ∀(x:Bool)(w:World),(Op.unary .not (.bool x)).run Tryz.prog w= .ok (.bool (!x)) w:=fun _ _=>rfl
 go_enter Tryz.func78,Tryz.ntmps78
 go_wp2_with (go_at_call 106;refine(bool_load a d _ h0).mono ?_;rintro e w' ⟨rfl,rfl⟩;rw[hd'])
 go_end0
 exact⟨rfl,rfl⟩
set_option maxRecDepth 100000 in
set_option maxHeartbeats 1600000 in
theorem once_first(b off:Nat)(p:Value)(w:World)(R:World->Prop)
  (h0:w.cell? ⟨b,off,none⟩=some (.int .u32 0)) (h1:w.cell? ⟨b,off+1,none⟩=some (.int .i32 0))
  (f0:w.frozen? ⟨b,off,none⟩=false) (f1:w.frozen? ⟨b,off+1,none⟩=false)
  (hf:Calls Tryz.prog 79 #[p] (w.setCell ⟨b,off+1,none⟩ (.int .i32 1)) fun e w'=>e= .returned (.tuple #[])/\(∃x,w'.cell? ⟨b,off,none⟩=some x)/\w'.cell? ⟨b,off+1,none⟩=some (.int .i32 1)/\w'.frozen? ⟨b,off,none⟩=false/\w'.frozen? ⟨b,off+1,none⟩=false/\R w'):
  Calls Tryz.prog 78 #[.pointer (some ⟨b,off,none⟩),.func (.func 79) #[] #[p]] w fun e w'=>e= .returned (.tuple #[])/\ ∃w2,R w2/\w'=(w2.drew.setCell ⟨b,off,none⟩ (.int .u32 1)).setCell ⟨b,off+1,none⟩ (.int .i32 0):=by
 have hnot: ∀(x:Bool)(w:World),(Op.unary .not (.bool x)).run Tryz.prog w= .ok (.bool (!x)) w:=fun _ _=>rfl
 go_enter Tryz.func78,Tryz.ntmps78
 go_wp2_with (first|(go_at_call 106;refine(bool_load ⟨b,off,none⟩ 0 _ h0).mono ?_;rintro e w' ⟨rfl,rfl⟩)|(go_at_call 107;refine(once_slow b off p _ R h0 h1 f0 f1 hf).mono ?_;rintro e w' ⟨rfl,w2,hR,rfl⟩))
 go_end0
 exact⟨rfl,w2,hR,rfl⟩
section
variable {P:Program}{B:Nat}{w0:World}{ρ:RMap}{h:Heap}{w:World}
theorem Rel.setC(hr:Rel B w0 ρ h w){b:Nat}{m:Mode}{esz:Nat}{cs:List Value}(ho:h[b]?=some (.row m esz cs))(hm:m≠ .ro){L:RLoc}(hL:ρ b=some L){i:Nat}(hi:i<cs.length)
  {v v':Value} (hv:VR ρ v v'):Rel B w0 ρ (h.set b (.row m esz (cs.set i v))) (w.setCell ⟨L.blk,L.off+i,none⟩ v')/\w.frozen? ⟨L.blk,L.off+i,none⟩=false:=by
 obtain⟨hB,pre,vs,suf,e,lo,hi',hb,hpre,hvs,hfz,hop⟩:=hr.owned ho hm hL;have hlen:=hvs.length;refine⟨?_,?_⟩
 ·rw[setCell_eq hb];have hset:(pre++vs++suf).set (L.off+i) v'=pre++vs.set i v'++suf:=by
   rw[List.append_assoc,List.set_append_right _ _ (by omega), <-hpre,Nat.add_sub_cancel_left,List.set_append_left _ _ (by omega),List.append_assoc]
  rw[hset];have how:(AObj.row m esz cs).owned=true:=by cases m<;>first|rfl|exact absurd rfl hm
  refine hr.write ho how hL hB (fun w' hw'=>?_);have hlen2:(pre++vs.set i v'++suf).length=(pre++vs++suf).length:=by simp
  cases m with
  |ro=>exact absurd rfl hm
  |own=>exact⟨hB,pre,vs.set i v',suf,e,lo,hi',hw',hpre,hvs.set hv i,by rw[hlen2];exact hfz⟩
  |opn=>exact⟨hB,pre,vs.set i v',suf,e,lo,hi',hw',hpre,hvs.set hv i,by rw[hlen2];exact hfz,by simpa using hop rfl⟩
 ·simp only[World.frozen?,hb,Bool.and_eq_false_iff,decide_eq_false_iff_not];simp at hfz;rcases hfz with hfz|hfz<;>omega
end
theorem xLd_abs{b o:Nat}{v:Value}{h:PH}(hl:xLd (.pointer (some ⟨b,o,none⟩)) h=some v): ∃m esz cs,h.abs[b]?=some (.row m esz cs)/\cs[o]?=some v:=by
 obtain⟨b',o',h1,h2⟩:=ob2_ok hl;obtain⟨cs,h3,h4⟩:=ob_ok h2;have:=vPtr_ok h1;cases this;obtain⟨m,esz,hg⟩:=PH.cells_ok h3;rw[nth_eq]at h4;exact⟨m,esz,cs,hg,h4⟩
theorem xSt1_abs{b o:Nat}{v u:Value}{h h':PH}(hx:xSt1 (.pointer (some ⟨b,o,none⟩)) v h=some (u,h')): ∃m esz cs,m≠ .ro/\h.abs[b]?=some (.row m esz cs)/\o<cs.length/\h'.abs=h.abs.set b (.row m esz (cs.set o v)):=by
 unfold xSt1 at hx;dsimp only at hx
 split at hx<;>try (cases hx;done)
 split at hx<;>try (cases hx;done)
 rename_i m esz cs hg
 split at hx<;>try (cases hx;done)
 rename_i hm;obtain⟨h2,h3⟩:=stK_ok hx
 split at h3<;>try (cases h3;done)
 rename_i hs;cases h3;exact⟨m,esz,cs,mro_ok hm,PH.get_abs hg,h2,PH.set_abs hs⟩
def isW(k:IntKind)(x:Int)(v:Value)(r:R):R:=match v with
 | .int k' y=>if k'=k/\y=x then r else none
 |_=>none
theorem isW_ok{k:IntKind}{x:Int}{v:Value}{r:R}{p:Value×PH}(h:isW k x v r=some p):v= .int k x/\r=some p:=by
 unfold isW at h
 split at h
 ·split at h
  ·rename_i e;rw[e.1,e.2];exact⟨rfl,h⟩
  ·cases h
 ·cases h
theorem isW_t{k:IntKind}{x:Int}{r:R}:isW k x (.int k x) r=r:=by unfold isW;simp
noncomputable def onceR(b:CL)(bk o:Nat)(p:Value)(h:PH):R:=
 vb (xLd (.pointer (some ⟨bk,o,none⟩)) h) fun d=>match d with
  | .int .u32 x=>if x=0 then
    vb (xLd (.pointer (some ⟨bk,o+1,none⟩)) h) fun s=>isW .i32 0 s<|
    hb (xSt1 (.pointer (some ⟨bk,o+1,none⟩)) (.int .i32 1) h) fun _ h1=>
    hb (b 79 [p] h1) fun u h2=>match u with
     | .tuple ⟨[]⟩=>
      vb (xLd (.pointer (some ⟨bk,o+1,none⟩)) h2) fun s=>isW .i32 1 s<|
      hb (xSt1 (.pointer (some ⟨bk,o,none⟩)) (.int .u32 1) h2) fun _ h3=>
      hb (xSt1 (.pointer (some ⟨bk,o+1,none⟩)) (.int .i32 0) h3) fun _ h4=>some (.tuple ⟨[]⟩,h4)
     |_=>none
   else some (.tuple ⟨[]⟩,h)
  |_=>none
noncomputable def onceX(b:CL)(xs:List Value)(h:PH):R:=match xs with
 | [.pointer (some ⟨bk,o,none⟩),.func (.func 79) ⟨[]⟩ ⟨[p]⟩]=>onceR b bk o p h
 |_=>none
theorem onceR_ok{b:CL}(hb':OkCL Tryz.prog b){bk o:Nat}{p v:Value}{h h':PH}(hx:onceR b bk o p h=some (v,h')):
  ACall Tryz.prog 78 [.pointer (some ⟨bk,o,none⟩),.func (.func 79) ⟨[]⟩ ⟨[p]⟩] h.abs (fun u k=>u=v/\k=h'.abs)/\Inv h h':=by
 unfold onceR at hx;obtain⟨d,hd,hx⟩:=vb_ok hx
 split at hx<;>try (cases hx;done)
 rename_i x;obtain⟨m,esz,cs,ha,hc0⟩:=xLd_abs hd
 split at hx
 ·rename_i hx0;subst hx0;obtain⟨s,hs,hx⟩:=vb_ok hx
  replace hx:=isW_ok hx
  obtain⟨rfl,hx⟩:=hx;obtain⟨m',esz',cs',ha',hc1⟩:=xLd_abs hs;rw[ha]at ha';cases ha';obtain⟨_,h1,hst1,hx⟩:=hb_ok hx;obtain⟨u,h2,hcall,hx⟩:=hb_ok hx
  split at hx<;>try (cases hx;done)
  obtain⟨s2,hs2,hx⟩:=vb_ok hx
  replace hx:=isW_ok hx
  obtain⟨rfl,hx⟩:=hx;obtain⟨_,h3,hst3,hx⟩:=hb_ok hx;obtain⟨_,h4,hst4,hx⟩:=hb_ok hx;cases hx;have hcl:=hb' _ _ _ _ _ hcall;refine⟨?_,(((xSt1_inv hst1).trans hcl.2).trans (xSt1_inv hst3)).trans (xSt1_inv hst4)⟩;obtain⟨m1,e1,cs1,hm1,ha1,ho1,hab1⟩:=xSt1_abs hst1;rw[ha]at ha1;cases ha1;obtain⟨m2,e2,cs2,ha2,hc2⟩:=xLd_abs hs2;obtain⟨m3,e3,cs3,hm3,ha3,ho3,hab3⟩:=xSt1_abs hst3;rw[ha2]at ha3;cases ha3;obtain⟨m4,e4,cs4,hm4,ha4,ho4,hab4⟩:=xSt1_abs hst4;rw[hab3]at ha4;have hlt2:bk<h2.abs.length:=(List.getElem?_eq_some_iff.1 ha2).1;rw[List.getElem?_set_self hlt2]at ha4;cases ha4;intro B w0 ρ rargs w hr hv;cases hv with
  |cons v1 hv=>
  cases hv with
  |cons v2 hv=>
  cases hv;cases v1 with
  |ptr hL=>
  rename_i L;cases v2 with
  |func g1 g2=>
  cases g1;cases g2 with
  |cons g3 g4=>
  cases g4;rename_i p';obtain⟨y0,c0,w00⟩:=hr.cell ha hL hc0;cases w00;obtain⟨y1,c1,w11⟩:=hr.cell ha hL hc1;cases w11;have hlt0:=(List.getElem?_eq_some_iff.1 hc0).1;have f0:=(hr.setC ha hm1 hL hlt0 (VR.int (ρ:=ρ) .u32 0)).2;obtain⟨hr1,f1⟩:=hr.setC ha hm1 hL ho1 (VR.int (ρ:=ρ) .i32 1);rw[<-hab1]at hr1;refine(once_first L.blk (L.off+o) p' w (fun w2=> ∃ρ',ρ.le ρ'/\Rel B w0 ρ' h2.abs w2) c0 c1 f0 f1 ?_).mono ?_
  ·refine(hcl.1.2 B w0 ρ [p'] _ hr1 (.cons g3 .nil)).mono ?_;rintro e w' ⟨u,u',k,ρ',rfl,⟨rfl,rfl⟩,hle,hr2,hvr⟩;have hL2:=hle _ _ hL;obtain⟨z0,q0,_⟩:=hr2.cell ha2 hL2 (List.getElem?_eq_getElem ho3);obtain⟨z1,q1,r1⟩:=hr2.cell ha2 hL2 hc2;cases r1;have g0:=(hr2.setC ha2 hm3 hL2 ho3 (VR.int (ρ:=ρ') .u32 1)).2;have hlt21:=(List.getElem?_eq_some_iff.1 hc2).1;have g1':=(hr2.setC ha2 hm3 hL2 hlt21 (VR.int (ρ:=ρ') .u32 1)).2;refine⟨?_,⟨z0,q0⟩,q1,g0,g1',ρ',hle,hr2⟩;cases hvr with
   |tuple hh=>cases hh;rfl
  ·rintro e w' ⟨rfl,w2,⟨ρ',hle,hr2⟩,rfl⟩;have hL2:=hle _ _ hL;have hrd:Rel B w0 ρ' h2.abs w2.drew:=hr2.draw;have hr3:=(hrd.setC ha2 hm3 hL2 ho3 (VR.int (ρ:=ρ') .u32 1)).1;have hrow:(h2.abs.set bk (.row m2 e2 (cs2.set o (.int .u32 1))))[bk]?=some (.row m2 e2 (cs2.set o (.int .u32 1))):=List.getElem?_set_self hlt2;have hr4:=(hr3.setC hrow hm3 hL2 ho4 (VR.int (ρ:=ρ') .i32 0)).1;rw[hab3]at hab4;rw[<-hab4]at hr4;exact⟨_,_,_,ρ',rfl,⟨rfl,rfl⟩,hle,hr4,.tuple .nil⟩
 ·rename_i hx0;cases hx;refine⟨?_,Inv.refl _⟩;intro B w0 ρ rargs w hr hv;cases hv with
  |cons v1 hv=>
  cases hv with
  |cons v2 hv=>
  cases hv;cases v1 with
  |ptr hL=>
  rename_i L;obtain⟨y0,c0,w00⟩:=hr.cell ha hL hc0;cases w00;refine(once_done ⟨L.blk,L.off+o,none⟩ x hx0 _ w c0).mono ?_;rintro e w' ⟨rfl,rfl⟩;exact⟨_,_,_,ρ,rfl,⟨rfl,rfl⟩,ρ.le_refl,hr,.tuple .nil⟩
theorem en78:enterable Tryz.prog 78=true:=by kernel_rfl
noncomputable def toldOnce(b:CL):CL:=fun g xs h=>sw g 78 (onceX b xs h) (b g xs h)
theorem toldOnce_ok{b:CL}(hb:OkCL Tryz.prog b):OkCL Tryz.prog (toldOnce b):=by
 intro g xs h v' h' hx;unfold toldOnce at hx;rcases sw_ok hx with⟨rfl,hx1⟩|hx1
 ·unfold onceX at hx1
  split at hx1
  ·have:=onceR_ok hb hx1;exact⟨⟨en78,this.1⟩,this.2⟩
  ·cases hx1
 ·exact hb g xs h v' h' hx1
end Go.Am
