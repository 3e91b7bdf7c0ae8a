import Derived.Test.YtjomodhbneicmaaZE
set_option linter.unusedSimpArgs false
set_option linter.unusedVariables false
namespace Go.Am
open Go Go.RowKit Go.Proofs
def Byt(w:List Nat):Prop:= ∀c∈w,c<256
structure Canon(d:Dfa):Prop where
 pos:0<d.next.length
 al:d.acc.length=d.next.length
 rl: ∀r∈d.next,r.length=256
 rng: ∀(i c:Nat),i<d.next.length->c<256->dstep d i c= -1\/ ∃k:Nat,k<d.next.length/\dstep d i c=k
 live: ∀(i c:Nat),i<d.next.length->c<256->dstep d i c≠ -1-> ∃w,Byt w/\dacc d (drun d (dstep d i c) w)≠ -1
 dis: ∀(i j:Nat),i<d.next.length->j<d.next.length->(∀w,Byt w->dacc d (drun d i w)=dacc d (drun d j w))->i=j
 o: ∀k,1<=k->k<d.next.length-> ∃i c,i<k/\c<256/\dstep d (i:Nat) c=((k:Nat):Int)
 d: ∀(i c j k:Nat),i<d.next.length->c<256->dstep d i c=(j:Int)->1<=k->k<j-> ∃i' c',Bef i' c' i c/\c'<256/\dstep d (i':Nat) c'=((k:Nat):Int)
theorem dstep_neg{d:Dfa}{c:Nat}:dstep d (-1) c= -1:=rfl
theorem drun_neg{d:Dfa}: ∀(w:List Nat),drun d (-1) w= -1
 | []=>rfl
 |c::w=>drun_neg w
theorem drun_cons{d:Dfa}{i:Int}{c:Nat}{w:List Nat}:drun d i (c::w)=drun d (dstep d i c) w:=rfl
def Alk(d d':Dfa)(i j:Int):Prop:= ∀w,Byt w->dacc d (drun d i w)=dacc d' (drun d' j w)
section
variable {d d' d'':Dfa}{i j:Int}
end
section
variable {s:Ss}{cls:List Int}{d:Dfa}{st:List Nat}{nr:List Int}
def Slk(s:Ss)(j k:Nat):Prop:= ∀w,Byt w->accv s (runm s j w)=accv s (runm s k w)
theorem runm_cons{q c:Nat}{w:List Nat}:runm s q (c::w)=runm s (mv s q c) w:=rfl
theorem Slk.bisim:Bisim s (Slk s):=fun j k _ _ h=>⟨h [] (fun _ h=>by cases h),fun c hc w hw=>h (c::w) (fun x hx=>by
  rcases List.mem_cons.1 hx with rfl|hx
  ·exact hc
  ·exact hw x hx)⟩
theorem ClsOk.slk(ck:ClsOk s cls){j k:Nat}(hj:j<=s.alls.length)(hk:k<=s.alls.length)(h:Slk s j k):cls.getD j 0=cls.getD k 0:=ck.coarse _ Slk.bisim j k hj hk h
theorem runm_n: ∀(w:List Nat),runm s s.alls.length w=s.alls.length
 | []=>rfl
 |c::w=>by rw[runm_cons,mv_n];exact runm_n w
theorem NumD.canon(hf:s.Fin)(ck:ClsOk s cls)(hd:NumD s cls d):Canon d/\ ∀w,Byt w->dacc d (drun d 0 w)=accv s (runm s 0 w):=by
 obtain⟨st,nr,nb,hl⟩:=hd;have run: ∀(i u:Nat) w,st[i]?=some u->Byt w->dacc d (drun d i w)=accv s (runm s u w):=by
  intro i u w hi hw;have hu:=nb.stl u (List.mem_of_getElem? hi);have h:=RelD.run hf ck nb hl w (i:=i) (q:=u) (by omega) hw (.inr ⟨i,u,rfl,hi,rfl⟩);exact h.acc hf ck nb hl (runm_le hf (by omega))
 have at': ∀(i c:Nat),i<d.next.length->c<256-> ∃u,st[i]?=some u/\Ent s cls st u c (dstep d i c)/\Tb d.next nr 0 i c (dstep d i c):=by
  intro i c hi hc;obtain⟨r,z,h1,h2,h3,h4⟩:=nb.tb (k:=i) hl (by omega) hc;have e:dstep d i c=z:=by unfold dstep;rw[if_neg (by omega)];exact h3
  obtain⟨u,h5,h6⟩:=nb.e i c z h4;exact⟨u,h5,by rw[e];exact h6,by rw[e];exact h4⟩
 have back: ∀(i c:Nat) z,Tb d.next nr 0 i c z->i<d.next.length/\c<256/\dstep d i c=z:=by
  rintro i c z (⟨r,h1,h2⟩|⟨_,h,_⟩)
  ·have hi:=(List.getElem?_eq_some_iff.1 h1).1;have hr:=nb.rl r (List.mem_of_getElem? h1);have hc:=(List.getElem?_eq_some_iff.1 h2).1;refine⟨hi,by omega,?_⟩;unfold dstep;rw[if_neg (by omega),show((i:Nat):Int).toNat=i from rfl,List.getD_eq_getElem?_getD (l:=d.next),h1]
   show r.getD c (-1)=z
   rw[List.getD_eq_getElem?_getD,h2];rfl
  ·omega
 have hst0:=nb.st0;have hpos:0<st.length:=(List.getElem?_eq_some_iff.1 hst0).1;refine⟨⟨by omega,nb.al,nb.rl,?_,?_,?_,?_,?_⟩,fun w hw=>run 0 0 w hst0 hw⟩
 ·intro i c hi hc;obtain⟨u,h1,h2,_⟩:=at' i c hi hc;rcases h2 with⟨_,h⟩|⟨_,j,h,v,h3,_⟩
  ·exact .inl h
  ·exact .inr ⟨j,by rw[hl];exact(List.getElem?_eq_some_iff.1 h3).1,h⟩
 ·intro i c hi hc hne;obtain⟨u,h1,h2,_⟩:=at' i c hi hc;rcases h2 with⟨_,h⟩|⟨h4,j,h,v,h3,h5⟩
  ·exact absurd h hne
  ·rw[h];refine Classical.byContradiction fun hno=>?_;have hv:=nb.stl v (List.mem_of_getElem? h3);refine h4 ?_;rw[<-h5];refine ck.slk (by omega) (Nat.le_refl _) fun w hw=>?_;rw[runm_n,accv_n hf, <-run j v w h3 hw];exact Classical.byContradiction fun hx=>hno ⟨w,hw,hx⟩
 ·intro i j hi hj h;have ui:=List.getElem?_eq_getElem (l:=st) (i:=i) (by omega);have uj:=List.getElem?_eq_getElem (l:=st) (i:=j) (by omega);refine nb.dis i j _ _ ui uj (ck.slk ?_ ?_ fun w hw=>?_)
  ·have:=nb.stl _ (List.mem_of_getElem? ui);omega
  ·have:=nb.stl _ (List.mem_of_getElem? uj);omega
  ·rw[<-run i _ w ui hw, <-run j _ w uj hw];exact h w hw
 ·intro k h1 h2;obtain⟨i,c,h3,h4⟩:=nb.o k h1 (by omega);obtain⟨b1,b2,b3⟩:=back i c _ h4;exact⟨i,c,h3,b2,b3⟩
 ·intro i c j k hi hc he h1 h2;obtain⟨u,_,_,h3⟩:=at' i c hi hc;rw[he]at h3;obtain⟨i',c',h4,h5⟩:=nb.d i c j k h3 h1 h2;obtain⟨b1,b2,b3⟩:=back i' c' _ h5;exact⟨i',c',h4,b2,b3⟩
end
abbrev Spt:=Nat×Int
def spc1(z:Spt):List Value:=[.int .i64 (z.1:Nat),.int .i64 z.2]
def spc(l:List Spt):List Value:=l.flatMap spc1
def SpL(V:Vw)(v:Value)(l:List Spt):Prop:=(l=[]/\v=nils)\/ ∃b cs,v= .slice (some ⟨b,0,none⟩) l.length openCap/\V b=some cs/\l.length*2<=cs.length/\cs.take (l.length*2)=spc l
noncomputable def fs127:Array Field:=match Try.prog.underlying 127 with
 |some (.struct fs)=>fs
 |_=> #[]
section
variable {Q:Value->PH->Prop}{n:Nat}{cl:CL}{h h0:PH}{S:Vw}{m:OM}{rows:Rws}{K2:Value->PH->R}
end
def lessS(y z:Spt):Prop:=y.1<z.1\/(y.1=z.1/\y.2<z.2)
instance:DecidableRel lessS:=fun y z=>by unfold lessS;infer_instance
section
variable {Q:Value->PH->Prop}{n:Nat}{cl:CL}{h h0:PH}{S:Vw}{m:OM}{rows:Rws}{K2:Value->PH->R}
def AddQ(h:PH)(S:Vw)(v:Value)(l:List Spt)(x:Spt)(u:Value)(h1:PH):Prop:= ∃S' l',Sl h h1 S' OM.emp []/\l'.Pairwise lessS/\(∀z,z∈l'↔z∈l\/z=x)/\(SpL (Nw h S') u l'\/(u=v/\l'=l))
end
structure PoB(po:Po):Prop where
 inn:po.In
 fl:po.follow.length=po.sets.length
 f1: ∀y∈po.first,y<po.sets.length
 fy: ∀w∈po.follow, ∀y∈w,y<po.sets.length
 n:po.sets.length<1000
def nextP(po:Po)(a:Int):List Nat:=if a<0 then po.first else po.follow.getD a.toNat []
def Ctr(l:List Po)(c:Nat)(z0 z:Spt):Prop:= ∃po y,l[z0.1]?=some po/\y∈nextP po z0.2/\takesB po c y=true/\z=(z0.1,((y:Nat):Int))
def StepS(l:List Po)(c:Nat)(s:List Spt)(z:Spt):Prop:= ∃z0∈s,Ctr l c z0 z
def ValS(l:List Po)(z:Spt):Prop:= ∃po,l[z.1]?=some po/\(z.2= -1\/ ∃a:Nat,z.2=a/\a<po.sets.length)
def BdS(z:Spt):Prop:=z.1<41/\ -1<=z.2/\z.2<1000
section
variable {Q:Value->PH->Prop}{n:Nat}{cl:CL}{h h0:PH}{S:Vw}{m:OM}{rows:Rws}{K2:Value->PH->R}
def StepQ(l:List Po)(c:Nat)(s:List Spt)(h0:PH)(u:Value)(h1:PH):Prop:= ∃S' l',Sl h0 h1 S' OM.emp []/\SpL (Nw h0 S') u l'/\l'.Pairwise lessS/\ ∀z,z∈l'↔StepS l c s z
end
def AccP(po:Po)(a:Int):Prop:=(a<0/\po.null=true)\/(0<=a/\a.toNat∈po.last)
section
variable {Q:Value->PH->Prop}{n:Nat}{cl:CL}{h h0:PH}{S:Vw}{m:OM}{rows:Rws}{K2:Value->PH->R}
end
def LeadR(l:List Po)(all:List (List Spt))(s:List Spt)(c:Nat)(z:Int):Prop:=
 (z= -1/\ ∀x, ¬ StepS l c s x)\/ ∃(k:Nat) (t:List Spt),z=k/\all[k]?=some t/\(∃x,x∈t)/\ ∀x,x∈t↔StepS l c s x
structure SubI(l:List Po)(all:List (List Spt))(nxs:List (List Int))(oks:List Int):Prop where
 a0: ∃f,all[0]?=some f/\ ∀x:Spt,x∈f↔x.2= -1/\x.1<l.length
 so: ∀t∈all,t.Pairwise lessS/\ ∀z∈t,BdS z/\ValS l z
 ds: ∀(i j:Nat) t,all[i]?=some t->all[j]?=some t->i=j
 sz:all.length<=400
 nl:nxs.length<=all.length
 ol:oks.length=nxs.length
 row: ∀(i:Nat) r,nxs[i]?=some r->r.length=256/\ ∀(c:Nat) z,r[c]?=some z-> ∃s,all[i]?=some s/\LeadR l all s c z
 acc: ∀(i:Nat) s z,all[i]?=some s->oks[i]?=some z->FstI l.length (fun k=> ∃a po,(k,a)∈s/\l[k]?=some po/\AccP po a) z
def RowI(l:List Po)(all:List (List Spt))(s:List Spt)(nr:List Int)(c:Nat):Prop:=nr.length=256/\ ∀(c':Nat) z,c'<c->nr[c']?=some z->LeadR l all s c' z
def sl256(b:Nat):Value:=.slice (some ⟨b,0,none⟩) 256 256
def nrows(rbs:List Nat)(nxs:List (List Int)):Rws:=(rbs.zip nxs).map fun p=>(p.1,AObj.row .own 1 (zv p.2))
def Sb(S:Vw)(rows rest:Rws)(bx:Nat)(av:Value)(all:List (List Spt))(nxs:List (List Int))(oks:List Int)(rbs:List Nat):Prop:= ∃nv ov exA exN exO cA,
 rows=(bx,.row .own 1 [nv,ov,.bool false])::(exA++(exN++(exO++rest)))/\Gq av all.length cA exA/\(∀(i:Nat) t,all[i]?=some t-> ∃x,cA[i]?=some x/\SpL S x t)/\Gl 1 nv nxs.length (rbs.map sl256) exN/\Gl 1 ov oks.length (zv oks) exO
section
variable {rows rest:Rws}{bx:Nat}{av:Value}{all:List (List Spt)}{nxs:List (List Int)}{oks:List Int}{rbs:List Nat}
variable {Q:Value->PH->Prop}{n:Nat}{cl:CL}{h h0:PH}{S:Vw}{m:OM}{K2:Value->PH->R}
end
def RawV(ex:Rws)(u:Value)(nxs:List (List Int))(oks:List Int)(rbs:List Nat):Prop:= ∃nv ov exN exO,ex=exN++(exO++nrows rbs nxs)/\u= .agg ⟨[nv,ov,.bool false]⟩/\Gl 1 nv nxs.length (rbs.map sl256) exN/\Gl 1 ov oks.length (zv oks) exO/\rbs.length=nxs.length
def SubQ(l:List Po)(u:Value)(ex:Rws):Prop:=(∃a b,u= .agg ⟨[a,b,tt]⟩/\a.oneCell'=true/\b.oneCell'=true)\/ ∃all nxs oks rbs,RawV ex u nxs oks rbs/\SubI l all nxs oks/\nxs.length=all.length
section
variable {Q:Value->PH->Prop}{n:Nat}{cl:CL}{h h0:PH}{m:OM}{K2:Value->PH->R}{rows rest:Rws}{bx:Nat}{nxs:List (List Int)}{oks:List Int}{rbs:List Nat}
end
def entZ(nxs:List (List Int))(i c:Nat):Int:=(nxs.getD i []).getD c (-1)
structure NxOk(N:Nat)(nxs:List (List Int)):Prop where
 len:nxs.length=N
 row: ∀(i:Nat) r,nxs[i]?=some r->r.length=256/\ ∀(c:Nat) z,r[c]?=some z->z= -1\/(0<=z/\z<N)
inductive Live(nxs:List (List Int))(oks:List Int):Nat->Prop
 |acc (i:Nat):0<=oks.getD i (-1)->Live nxs oks i
 |step (i c k:Nat):c<256->entZ nxs i c=((k:Nat):Int)->Live nxs oks k->Live nxs oks i
def RwR(V:Vw)(es:List Value)(nxs:List (List Int))(oks:List Int):Prop:= ∃nv ov x vs,es=[nv,ov,x]/\x.oneCell'=true/\SlV V nv vs/\(∀(i:Nat) r,nxs[i]?=some r-> ∃y,vs[i]?=some y/\SlV V y (zv r))/\SlV V ov (zv oks)
def Good(nxs:List (List Int))(oks:List Int)(bs:List Bool)(i:Nat):Prop:=0<=oks.getD i (-1)\/ ∃c k:Nat,c<256/\entZ nxs i c=((k:Nat):Int)/\bs[k]?=some true
section
variable {Q:Value->PH->Prop}{n:Nat}{cl:CL}{h h0:PH}{S:Vw}{m:OM}{rows:Rws}{K2:Value->PH->R}
end
section
open Classical in
noncomputable def npt(E:Nat->Nat->Prop):Nat->Nat
 |0=>0
 |N+1=>npt E N+(if∀k,k<N-> ¬ E N k then 1 else 0)
end
def EqC(cls:List Int)(i k:Nat):Prop:=cls.getD i 0=cls.getD k 0
def AlkC(nxs:List (List Int))(cls:List Int)(i k:Nat):Prop:=cls.getD i 0=cls.getD k 0/\ ∀c,c<256->(entZ nxs i c<0↔entZ nxs k c<0)/\(0<=entZ nxs i c->cls.getD (entZ nxs i c).toNat 0=cls.getD (entZ nxs k c).toNat 0)
section
variable {Q:Value->PH->Prop}{n:Nat}{cl:CL}{h h0:PH}{S:Vw}{m:OM}{rows:Rws}{K2:Value->PH->R}
end
structure NgI(nxs:List (List Int))(cls nx:List Int)(cnt i N:Nat):Prop where
 len:nx.length=N
 num: ∀j,j<i-> ∃t:Nat,t<cnt/\nx[j]?=some ((t:Nat):Int)
 eq: ∀j k,j<i->k<i->(nx.getD j 0=nx.getD k 0↔AlkC nxs cls j k)
 cnt:cnt=npt (AlkC nxs cls) i
def RBis(nxs:List (List Int))(oks:List Int)(N:Nat)(R:Nat->Nat->Prop):Prop:= ∀j k,j<N->k<N->R j k->oks.getD j (-1)=oks.getD k (-1)/\ ∀c,c<256->(entZ nxs j c<0↔entZ nxs k c<0)/\(0<=entZ nxs j c->R (entZ nxs j c).toNat (entZ nxs k c).toNat)
structure CI(nxs:List (List Int))(oks cls:List Int)(N:Nat):Prop where
 len:cls.length=N
 acc: ∀j k,j<N->k<N->cls.getD j 0=cls.getD k 0->oks.getD j (-1)=oks.getD k (-1)
 coarse: ∀R,RBis nxs oks N R-> ∀j k,j<N->k<N->R j k->cls.getD j 0=cls.getD k 0
structure ClsR(nxs:List (List Int))(oks nx:List Int)(N:Nat):Prop where
 ci:CI nxs oks nx N
 num: ∀j,j<N-> ∃t:Nat,t<N/\nx[j]?=some ((t:Nat):Int)
 stab: ∀j k,j<N->k<N->nx.getD j 0=nx.getD k 0-> ∀c,c<256->(entZ nxs j c<0↔entZ nxs k c<0)/\(0<=entZ nxs j c->nx.getD (entZ nxs j c).toNat 0=nx.getD (entZ nxs k c).toNat 0)
section
variable {Q:Value->PH->Prop}{n:Nat}{cl:CL}{h h0:PH}{S:Vw}{K2:Value->PH->R}
end
end Go.Am
