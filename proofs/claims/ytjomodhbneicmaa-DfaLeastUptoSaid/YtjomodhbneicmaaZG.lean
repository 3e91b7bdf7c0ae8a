import Derived.Test.YtjomodhbneicmaaZE
set_option linter.unusedSimpArgs false
set_option linter.unusedVariables false
namespace Go.Am
open Go Go.RowKit Go.Proofs
def Byt(w:List Nat):Prop:= ∀c∈w,c<256
structure Canon(d:Dfa):Prop where
 pos:0<d.next.length
 al:d.acc.length=d.next.length
 rl: ∀r∈d.next,r.length=256
 rng: ∀(i c:Nat),i<d.next.length->c<256->dstep d i c= -1\/ ∃k:Nat,k<d.next.length/\dstep d i c=k
 live: ∀(i c:Nat),i<d.next.length->c<256->dstep d i c≠ -1-> ∃w,Byt w/\dacc d (drun d (dstep d i c) w)≠ -1
 dis: ∀(i j:Nat),i<d.next.length->j<d.next.length->(∀w,Byt w->dacc d (drun d i w)=dacc d (drun d j w))->i=j
 o: ∀k,1<=k->k<d.next.length-> ∃i c,i<k/\c<256/\dstep d (i:Nat) c=((k:Nat):Int)
 d: ∀(i c j k:Nat),i<d.next.length->c<256->dstep d i c=(j:Int)->1<=k->k<j-> ∃i' c',Bef i' c' i c/\c'<256/\dstep d (i':Nat) c'=((k:Nat):Int)
theorem dstep_neg{d:Dfa}{c:Nat}:dstep d (-1) c= -1:=rfl
theorem drun_neg{d:Dfa}: ∀(w:List Nat),drun d (-1) w= -1
 | []=>rfl
 |c::w=>drun_neg w
theorem drun_cons{d:Dfa}{i:Int}{c:Nat}{w:List Nat}:drun d i (c::w)=drun d (dstep d i c) w:=rfl
def Alk(d d':Dfa)(i j:Int):Prop:= ∀w,Byt w->dacc d (drun d i w)=dacc d' (drun d' j w)
section
variable {d d' d'':Dfa}{i j:Int}
theorem Alk.symm(h:Alk d d' i j):Alk d' d j i:=fun w hw=>(h w hw).symm
theorem Alk.trans{k:Int}(h:Alk d d' i j)(g:Alk d' d'' j k):Alk d d'' i k:=fun w hw=>(h w hw).trans (g w hw)
theorem Alk.step(h:Alk d d' i j){c:Nat}(hc:c<256):Alk d d' (dstep d i c) (dstep d' j c):=fun w hw=>by
 have:=h (c::w) (fun x hx=>by
  rcases List.mem_cons.1 hx with rfl|hx
  ·exact hc
  ·exact hw x hx)
 rwa [drun_cons,drun_cons]at this
theorem Canon.none(g:Canon d'){j c:Nat}(hj:j<d'.next.length)(hc:c<256)(h:Alk d d' i j)(he:dstep d i c= -1):dstep d' j c= -1:=by
 refine Classical.byContradiction fun hne=>?_;obtain⟨w,hw,hx⟩:=g.live j c hj hc hne;have:=h.step hc w hw;rw[he,drun_neg]at this;exact hx this.symm
theorem bef_min{P:Nat->Nat->Prop}(h: ∃i c,c<256/\P i c): ∃i c,c<256/\P i c/\ ∀i' c',c'<256->Bef i' c' i c-> ¬ P i' c':=by
 classical
 have hp: ∃p, ∃i c,p=256*i+c/\c<256/\P i c:=let⟨i,c,h1,h2⟩:=h;⟨_,i,c,rfl,h1,h2⟩;have key: ∀p,(∃i c,p=256*i+c/\c<256/\P i c)-> ∃i c,c<256/\P i c/\ ∀i' c',c'<256->Bef i' c' i c-> ¬ P i' c':=by
  intro p
  induction p using Nat.strongRecOn with
  |_ p ih=>
   rintro⟨i,c,rfl,h1,h2⟩
   by_cases hex: ∃i' c',c'<256/\Bef i' c' i c/\P i' c'
   ·obtain⟨i',c',e1,e2,e3⟩:=hex;refine ih (256*i'+c') ?_ ⟨i',c',rfl,e1,e3⟩;rcases e2 with e|⟨e,e'⟩<;>omega
   ·exact⟨i,c,h1,h2,fun i' c' q1 q2 q3=>hex ⟨i',c',q1,q2,q3⟩⟩
 exact key _ hp.choose_spec
theorem Canon.fst(g:Canon d)(g':Canon d')(h0:Alk d d' 0 0): ∀k,k<d.next.length->k<d'.next.length/\Alk d d' (k:Nat) (k:Nat):=by
 intro k
 induction k using Nat.strongRecOn with
 |_ k ih=>
  intro hk
  by_cases k0:k=0
  ·subst k0;exact⟨g'.pos,h0⟩
  ·obtain⟨i0,c0,e1,e2,e3⟩:=g.o k (by omega) hk;obtain⟨i,c,hc,hi,hmin⟩:=bef_min (P:=fun i c=>i<d.next.length/\dstep d (i:Nat) c=((k:Nat):Int)) ⟨i0,c0,e2,by omega,e3⟩;obtain⟨hin,hi⟩:=hi;have hik:i<k:=by
    by_cases hb:Bef i0 c0 i c
    ·exact absurd ⟨by omega,e3⟩ (hmin i0 c0 e2 hb)
    ·unfold Bef at hb;omega
   obtain⟨hi',hR⟩:=ih i hik hin;have hs:=hR.step hc;rw[hi]at hs;rcases g'.rng i c hi' hc with hm|⟨m,hm1,hm⟩
   ·have:=Canon.none g hin hc hR.symm hm;rw[hi]at this;omega
   rw[hm]at hs;have hmk:m=k:=by
    rcases Nat.lt_trichotomy m k with h|h|h
    ·obtain⟨q1,q2⟩:=ih m h (by omega);exact(g.dis m k (by omega) hk (q2.trans hs.symm))
    ·exact h
    ·exfalso;obtain⟨i',c',b1,b2,b3⟩:=g'.d i c m k hi' hc hm (by omega) h;have hi'k:i'<k:=by rcases b1 with b|⟨b,_⟩<;>omega
     obtain⟨q1,q2⟩:=ih i' hi'k (by omega);have hs2:=q2.step b2;rw[b3]at hs2;rcases g.rng i' c' (by omega) b2 with hq|⟨q,hq1,hq⟩
     ·have:=Canon.none g' q1 b2 q2 hq;rw[b3]at this;omega
     rw[hq]at hs2;rcases Nat.lt_trichotomy q k with h'|h'|h'
     ·obtain⟨r1,r2⟩:=ih q h' hq1;have:=g'.dis q k r1 (by omega) (r2.symm.trans hs2);omega
     ·subst h';exact hmin i' c' b2 b1 ⟨by omega,hq⟩
     ·obtain⟨i2,c2,f1,f2,f3⟩:=g.d i' c' q k (by omega) b2 hq (by omega) h';refine hmin i2 c2 f2 ?_ ⟨?_,f3⟩
      ·unfold Bef at*;omega
      ·rcases f1 with b|⟨b,_⟩<;>omega
   subst hmk;exact⟨hm1,hs⟩
theorem Canon.uniq(g:Canon d)(g':Canon d')(h0:Alk d d' 0 0):d=d':=by
 have f:=g.fst g' h0;have f':=g'.fst g h0.symm;have hn:d.next.length=d'.next.length:=by
  have h1:d.next.length<=d'.next.length:=by
   have:=g.pos;have:=(f (d.next.length-1) (by omega)).1;omega
  have h2:d'.next.length<=d.next.length:=by
   have:=g'.pos;have:=(f' (d'.next.length-1) (by omega)).1;omega
  omega
 have hstep: ∀(i c:Nat),i<d.next.length->c<256->dstep d i c=dstep d' i c:=by
  intro i c hi hc;have hR:=(f i hi).2;have hs:=hR.step hc;rcases g.rng i c hi hc with hz|⟨k,hk,hz⟩
  ·rw[hz,Canon.none g' (by omega) hc hR hz]
  ·rcases g'.rng i c (by omega) hc with hy|⟨m,hm,hy⟩
   ·have:=Canon.none g hi hc hR.symm hy;rw[this]at hz;omega
   ·rw[hz,hy]at hs ⊢;have:=g.dis k m hk (by omega) (hs.trans (f m (by omega)).2.symm);rw[this]
 have hnext:d.next=d'.next:=by
  apply List.ext_getElem hn
  intro i h1 h2;have r1:=g.rl _ (List.getElem_mem h1);have r2:=g'.rl _ (List.getElem_mem h2)
  apply List.ext_getElem (by omega)
  intro c h3 h4;have:=hstep i c h1 (by omega);unfold dstep at this;rw[if_neg (by omega),if_neg (by omega)]at this;have e1:((d.next.getD ((i:Nat):Int).toNat []).getD c (-1))=d.next[i][c]:=by
   rw[show((i:Nat):Int).toNat=i from rfl,List.getD_eq_getElem?_getD (l:=d.next),List.getElem?_eq_getElem h1]
   show(d.next[i]).getD c (-1)=_
   rw[List.getD_eq_getElem?_getD,List.getElem?_eq_getElem h3];rfl
  have e2:((d'.next.getD ((i:Nat):Int).toNat []).getD c (-1))=d'.next[i][c]:=by
   rw[show((i:Nat):Int).toNat=i from rfl,List.getD_eq_getElem?_getD (l:=d'.next),List.getElem?_eq_getElem h2]
   show(d'.next[i]).getD c (-1)=_
   rw[List.getD_eq_getElem?_getD,List.getElem?_eq_getElem h4];rfl
  rw[<-e1, <-e2];exact this
 have hacc:d.acc=d'.acc:=by
  apply List.ext_getElem (by rw[g.al,g'.al,hn])
  intro i h1 h2;have:=(f i (by have:=g.al;omega)).2 [] (fun _ h=>by cases h);have this:dacc d (i:Nat)=dacc d' (i:Nat):=this;unfold dacc at this;rw[if_neg (by omega),if_neg (by omega),show((i:Nat):Int).toNat=i from rfl,List.getD_eq_getElem?_getD,List.getD_eq_getElem?_getD,List.getElem?_eq_getElem h1,List.getElem?_eq_getElem h2]at this;exact this
 cases d;cases d';simp only at hnext hacc;rw[hnext,hacc]
end
section
variable {s:Ss}{cls:List Int}{d:Dfa}{st:List Nat}{nr:List Int}
def Slk(s:Ss)(j k:Nat):Prop:= ∀w,Byt w->accv s (runm s j w)=accv s (runm s k w)
theorem runm_cons{q c:Nat}{w:List Nat}:runm s q (c::w)=runm s (mv s q c) w:=rfl
theorem Slk.bisim:Bisim s (Slk s):=fun j k _ _ h=>⟨h [] (fun _ h=>by cases h),fun c hc w hw=>h (c::w) (fun x hx=>by
  rcases List.mem_cons.1 hx with rfl|hx
  ·exact hc
  ·exact hw x hx)⟩
theorem ClsOk.slk(ck:ClsOk s cls){j k:Nat}(hj:j<=s.alls.length)(hk:k<=s.alls.length)(h:Slk s j k):cls.getD j 0=cls.getD k 0:=ck.coarse _ Slk.bisim j k hj hk h
theorem runm_n: ∀(w:List Nat),runm s s.alls.length w=s.alls.length
 | []=>rfl
 |c::w=>by rw[runm_cons,mv_n];exact runm_n w
theorem NumD.canon(hf:s.Fin)(ck:ClsOk s cls)(hd:NumD s cls d):Canon d/\ ∀w,Byt w->dacc d (drun d 0 w)=accv s (runm s 0 w):=by
 obtain⟨st,nr,nb,hl⟩:=hd;have run: ∀(i u:Nat) w,st[i]?=some u->Byt w->dacc d (drun d i w)=accv s (runm s u w):=by
  intro i u w hi hw;have hu:=nb.stl u (List.mem_of_getElem? hi);have h:=RelD.run hf ck nb hl w (i:=i) (q:=u) (by omega) hw (.inr ⟨i,u,rfl,hi,rfl⟩);exact h.acc hf ck nb hl (runm_le hf (by omega))
 have at': ∀(i c:Nat),i<d.next.length->c<256-> ∃u,st[i]?=some u/\Ent s cls st u c (dstep d i c)/\Tb d.next nr 0 i c (dstep d i c):=by
  intro i c hi hc;obtain⟨r,z,h1,h2,h3,h4⟩:=nb.tb (k:=i) hl (by omega) hc;have e:dstep d i c=z:=by unfold dstep;rw[if_neg (by omega)];exact h3
  obtain⟨u,h5,h6⟩:=nb.e i c z h4;exact⟨u,h5,by rw[e];exact h6,by rw[e];exact h4⟩
 have back: ∀(i c:Nat) z,Tb d.next nr 0 i c z->i<d.next.length/\c<256/\dstep d i c=z:=by
  rintro i c z (⟨r,h1,h2⟩|⟨_,h,_⟩)
  ·have hi:=(List.getElem?_eq_some_iff.1 h1).1;have hr:=nb.rl r (List.mem_of_getElem? h1);have hc:=(List.getElem?_eq_some_iff.1 h2).1;refine⟨hi,by omega,?_⟩;unfold dstep;rw[if_neg (by omega),show((i:Nat):Int).toNat=i from rfl,List.getD_eq_getElem?_getD (l:=d.next),h1]
   show r.getD c (-1)=z
   rw[List.getD_eq_getElem?_getD,h2];rfl
  ·omega
 have hst0:=nb.st0;have hpos:0<st.length:=(List.getElem?_eq_some_iff.1 hst0).1;refine⟨⟨by omega,nb.al,nb.rl,?_,?_,?_,?_,?_⟩,fun w hw=>run 0 0 w hst0 hw⟩
 ·intro i c hi hc;obtain⟨u,h1,h2,_⟩:=at' i c hi hc;rcases h2 with⟨_,h⟩|⟨_,j,h,v,h3,_⟩
  ·exact .inl h
  ·exact .inr ⟨j,by rw[hl];exact(List.getElem?_eq_some_iff.1 h3).1,h⟩
 ·intro i c hi hc hne;obtain⟨u,h1,h2,_⟩:=at' i c hi hc;rcases h2 with⟨_,h⟩|⟨h4,j,h,v,h3,h5⟩
  ·exact absurd h hne
  ·rw[h];refine Classical.byContradiction fun hno=>?_;have hv:=nb.stl v (List.mem_of_getElem? h3);refine h4 ?_;rw[<-h5];refine ck.slk (by omega) (Nat.le_refl _) fun w hw=>?_;rw[runm_n,accv_n hf, <-run j v w h3 hw];exact Classical.byContradiction fun hx=>hno ⟨w,hw,hx⟩
 ·intro i j hi hj h;have ui:=List.getElem?_eq_getElem (l:=st) (i:=i) (by omega);have uj:=List.getElem?_eq_getElem (l:=st) (i:=j) (by omega);refine nb.dis i j _ _ ui uj (ck.slk ?_ ?_ fun w hw=>?_)
  ·have:=nb.stl _ (List.mem_of_getElem? ui);omega
  ·have:=nb.stl _ (List.mem_of_getElem? uj);omega
  ·rw[<-run i _ w ui hw, <-run j _ w uj hw];exact h w hw
 ·intro k h1 h2;obtain⟨i,c,h3,h4⟩:=nb.o k h1 (by omega);obtain⟨b1,b2,b3⟩:=back i c _ h4;exact⟨i,c,h3,b2,b3⟩
 ·intro i c j k hi hc he h1 h2;obtain⟨u,_,_,h3⟩:=at' i c hi hc;rw[he]at h3;obtain⟨i',c',h4,h5⟩:=nb.d i c j k h3 h1 h2;obtain⟨b1,b2,b3⟩:=back i' c' _ h5;exact⟨i',c',h4,b2,b3⟩
end
abbrev Spt:=Nat×Int
def spc1(z:Spt):List Value:=[.int .i64 (z.1:Nat),.int .i64 z.2]
def spc(l:List Spt):List Value:=l.flatMap spc1
theorem spc_len: ∀(l:List Spt),(spc l).length=l.length*2
 | []=>rfl
 |z::l=>by
  have:=spc_len l
  show(spc1 z++spc l).length=_
  rw[List.length_append,this,List.length_cons];simp[spc1];omega
theorem spc_app(a b:List Spt):spc (a++b)=spc a++spc b:=by simp[spc]
theorem spc_one(l:List Spt):oneCells (spc l)=true:=by
 unfold oneCells;refine List.all_eq_true.2 fun x hx=>?_;obtain⟨z,_,hz⟩:=List.mem_flatMap.1 hx;simp only[spc1,List.mem_cons,List.not_mem_nil,or_false]at hz;rcases hz with rfl|rfl<;>rfl
theorem spc_drop: ∀(l:List Spt)(i:Nat),(spc l).drop (i*2)=spc (l.drop i)
 |l,0=>by simp
 | [],i+1=>by simp[spc]
 |z::l,i+1=>by
  show(spc1 z++spc l).drop ((i+1)*2)=spc (l.drop i)
  rw[<-spc_drop l i,List.drop_append];have:(spc1 z).length=2:=rfl;rw[List.drop_of_length_le (by omega),List.nil_append,this,show(i+1)*2-2=i*2 by omega]
theorem spc_take: ∀(l:List Spt)(i:Nat),(spc l).take (i*2)=spc (l.take i)
 |l,0=>by simp[spc]
 | [],i+1=>by simp[spc]
 |z::l,i+1=>by
  show(spc1 z++spc l).take ((i+1)*2)=spc1 z++spc (l.take i)
  rw[<-spc_take l i,List.take_append];have:(spc1 z).length=2:=rfl;rw[List.take_of_length_le (by omega),this,show(i+1)*2-2=i*2 by omega]
def SpL(V:Vw)(v:Value)(l:List Spt):Prop:=(l=[]/\v=nils)\/ ∃b cs,v= .slice (some ⟨b,0,none⟩) l.length openCap/\V b=some cs/\l.length*2<=cs.length/\cs.take (l.length*2)=spc l
theorem SpL.mono{V W:Vw}{v:Value}{l:List Spt}(hs:Vw.le V W)(h:SpL V v l):SpL W v l:=by
 rcases h with h|⟨b,cs,h1,h2,h3⟩
 ·exact .inl h
 ·exact .inr ⟨b,cs,h1,hs _ _ h2,h3⟩
theorem SpL.len{V:Vw}{v:Value}{l:List Spt}(h:SpL V v l):xLenS v=some (.int .i64 (l.length:Nat)):=by
 rcases h with⟨rfl,rfl⟩|⟨b,cs,rfl,_⟩<;>simp[nils]
theorem SpL.one{V:Vw}{v:Value}{l:List Spt}(h:SpL V v l):v.oneCell'=true:=by
 rcases h with⟨rfl,rfl⟩|⟨b,cs,rfl,_⟩<;>rfl
theorem SpL.at{V:Vw}{v:Value}{l:List Spt}(h:SpL V v l){i:Nat}{z:Spt}{k:IntKind}(hi:l[i]?=some z): ∃b cs,xIdxS 2 v (.int k (i:Nat))=some (.pointer (some ⟨b,i*2,none⟩))/\V b=some cs/\(cs.drop (i*2)).take 2=spc1 z/\i*2+2<=cs.length/\cs[i*2]?=some (.int .i64 (z.1:Nat))/\cs[i*2+1]?=some (.int .i64 z.2):=by
 have hlt:=(List.getElem?_eq_some_iff.1 hi).1;rcases h with⟨rfl,_⟩|⟨b,cs,rfl,h1,h2,h3⟩
 ·simp at hi
 ·have e:(cs.drop (i*2)).take 2=spc1 z:=by
   have h4:((cs.take (l.length*2)).drop (i*2)).take 2=spc1 z:=by
    rw[h3,spc_drop];have:l.drop i=z::l.drop (i+1):=by
     rw[List.drop_eq_getElem_cons hlt];have:=(List.getElem?_eq_some_iff.1 hi).2;rw[this]
    rw[this]
    rfl
   rw[<-h4,List.drop_take,List.take_take,Nat.min_eq_left (by omega)]
  refine⟨b,cs,by rw[xIdxS_at (by omega) (by omega)];simp,h1,e,by omega,?_,?_⟩
  ·have:=congrArg (fun l=>l[0]?) e;simp only[List.getElem?_take,List.getElem?_drop,spc1]at this;simpa using this
  ·have:=congrArg (fun l=>l[1]?) e;simp only[List.getElem?_take,List.getElem?_drop,spc1]at this;simpa using this
theorem Gl.spl{V:Vw}{v:Value}{l:List Spt}{ex:Rws}(g:Gl 2 v l.length (spc l) ex)(gc:Gc v)(hV: ∀b md e cs,(b,AObj.row md e cs)∈ex->V b=some cs):SpL V v l:=by
 rcases g.h with⟨h1,h2,rfl,rfl⟩|⟨b,o,cap,all,rfl,rfl,h1,h2,h3,h4,h5⟩
 ·exact .inl ⟨List.eq_nil_of_length_eq_zero h1,rfl⟩
 ·rcases gc with e|⟨b',k,e⟩
  ·cases e
  ·simp only[Value.slice.injEq,Option.some.injEq,Addr.mk.injEq]at e;obtain⟨⟨rfl,rfl,_⟩,rfl,rfl⟩:=e;exact .inr ⟨b,all,rfl,hV _ _ _ _ (.head _),by omega,by rw[h1,List.drop_zero]⟩
noncomputable def fs127:Array Field:=match Try.prog.underlying 127 with
 |some (.struct fs)=>fs
 |_=> #[]
theorem u127:Try.prog.underlying 127=some (.struct fs127):=by kernel_rfl
theorem g127:Try.prog.eqGuardType Try.prog.depth 127=false:=by kernel_rfl
theorem st127:Try.prog.stoodInHeld 127=false:=by kernel_rfl
theorem fs127_ok:(fs127.toList.map fun f=>(f.name== "_",f.offset,Try.prog.underlying f.type))=[(false,0,some (.int .i64)),(false,1,some (.int .i64))]:=by kernel_rfl
theorem fs_at{L:List Field}(hok:(L.map fun f=>(f.name== "_",f.offset,Try.prog.underlying f.type))=[(false,0,some (.int .i64)),(false,1,some (.int .i64))]):(∀(j:Nat)(f:Field),L[j]?=some f->f.name≠ "_" /\f.offset=j/\ ∃k,Try.prog.underlying f.type=some (.int k))/\L.length=2:=by
 match L,hok with
 | [f0,f1],hok=>
  simp only[List.map_cons,List.map_nil,List.cons.injEq,Prod.mk.injEq,and_true]at hok;obtain⟨⟨a1,a2,a3⟩,b1,b2,b3⟩:=hok;refine⟨fun j f hf=>?_,rfl⟩
  match j,hf with
  |0,hf=>cases hf;exact⟨by simpa using a1,a2,_,a3⟩
  |1,hf=>cases hf;exact⟨by simpa using b1,b2,_,b3⟩
  |j+2,hf=>simp at hf
 | [],hok=>simp at hok
 | [_],hok=>simp at hok
 |_::_::_::_,hok=>simp at hok
theorem fs127_at: ∀(j:Nat)(f:Field),fs127.toList[j]?=some f->f.name≠ "_" /\f.offset=j/\ ∃k,Try.prog.underlying f.type=some (.int k):=(fs_at fs127_ok).1
theorem fs127_len:fs127.toList.length=2:=(fs_at fs127_ok).2
theorem spt_eq{y z:Spt}:decide ([((y.1:Nat):Int),y.2]=[((z.1:Nat):Int),z.2])=decide (y=z):=by
 rw[Bool.eq_iff_iff,decide_eq_true_eq,decide_eq_true_eq];constructor
 ·intro h;simp only[List.cons.injEq,and_true]at h;exact Prod.ext (by omega) h.2
 ·rintro rfl;rfl
theorem eq127{o1 o2:Operand}{y z:Spt}:abin Try.prog .eql 127 o1 o2 (.agg ⟨spc1 y⟩) (.agg ⟨spc1 z⟩)=some (.bool (decide (y=z))):=by
 have:=abin_ints (o1:=o1) (o2:=o2) (.inl rfl) g127 (pureRun_eqStr (k':=.i64) u127 st127 fs127_at _ («as»:=[((y.1:Nat):Int),y.2]) (bs:=[((z.1:Nat):Int),z.2]) (by rw[fs127_len];rfl) (by rw[fs127_len];rfl));rw[spt_eq]at this;exact this
theorem neq127{o1 o2:Operand}{y z:Spt}:abin Try.prog .neq 127 o1 o2 (.agg ⟨spc1 y⟩) (.agg ⟨spc1 z⟩)=some (.bool (!decide (y=z))):=by
 have:=abin_ints (o1:=o1) (o2:=o2) (.inr rfl) g127 (pureRun_eqStr (k':=.i64) u127 st127 fs127_at _ («as»:=[((y.1:Nat):Int),y.2]) (bs:=[((z.1:Nat):Int),z.2]) (by rw[fs127_len];rfl) (by rw[fs127_len];rfl));rw[spt_eq]at this;exact this
theorem ai124:appInfo Try.prog #[124,124]=some (2,16):=by kernel_rfl
theorem bs124{a b:Int}:bsRow Try.prog 124 1 [(0,.agg ⟨[.int .i64 a,.int .i64 b]⟩)]=some (2,[.int .i64 a,.int .i64 b]):=by kernel_rfl
theorem ab127{a b:Int}:abuild Try.prog 127 [(0,.int .i64 a),(1,.int .i64 b)]=some (.agg ⟨[.int .i64 a,.int .i64 b]⟩):=by kernel_rfl
theorem u124: ∃inf:TypeInfo,Try.prog.underlying 124=some (.slice 127)/\Try.prog.info? 127=some inf/\inf.size=2:=by
 have e2:(Try.prog.info? 127).map (·.size)=some 2:=by kernel_rfl
 rw[Option.map_eq_some_iff]at e2;obtain⟨i,h1,h2⟩:=e2;exact⟨i,by kernel_rfl,h1,h2⟩
section
variable {Q:Value->PH->Prop}{n:Nat}{cl:CL}{h h0:PH}{S:Vw}{m:OM}{rows:Rws}{K2:Value->PH->R}
theorem Ret.gappP{ex:Rws}(s:Sl h0 h S m (ex++rows)){sz bt:Nat}{v w:Value}{k j:Nat}{cells new:List Value}(g:Gl sz v k cells ex)(gc:Gc v)(hp:Go.Am.ptail sz w h=some (j,new))(hl:new.length=j*sz)(hone:oneCells new=true)(hsz:(2*(k+j)+512)*bt<=281474976710656)(hk1:k<=4611686018427387904)
  (hk: ∀h' v' ex',Sl h0 h' S m (ex'++rows)->Gl sz v' (k+j) (cells++new) ex'->Gc v'->Ret (K2 v' h') Q):Ret (Go.Am.hb (xApp (some (sz,bt)) v w h) K2) Q:=by
 by_cases hj:j=0
 ·subst hj;have hn:new=[]:=List.eq_nil_of_length_eq_zero (by omega);subst hn;have e:xApp (some (sz,bt)) v w h=some (v,h):=by
   rcases g.h with⟨_,_,rfl,_⟩|⟨b,o,cap,all,rfl,_,_,_,_,_,hcap⟩
   ·exact xApp_00 hp
   ·exact xApp_0 hp (by omega)
  rw[e];refine hk h v ex s ?_ gc;rw[List.append_nil];exact g
 ·have H:Ret (Go.Am.hb (xApp (some (sz,bt)) v w h) fun v h=>some (v,h)) fun v' h'=> ∃ex',Sl h0 h' S m (ex'++rows)/\Gl sz v' (k+j) (cells++new) ex':=by
   refine Ret.lapp s g hp hl (by omega) hone hsz fun h' v' ex' st' g'=>?_;exact Ret.of ⟨ex',st',g'⟩
  obtain⟨v',h',e,ex',st',g'⟩:=Ret.out H;rw[e];exact hk h' v' ex' st' g' (xApp_gc gc e)
theorem SpL.cut{V:Vw}{v:Value}{l:List Spt}(h:SpL V v l){i:Nat}(hi:i<=l.length)(hl:l.length<1000000)(hV: ∀b cs,V b=some cs->h0.cells b=some cs):
  (∃w,acut Try.prog 124 v none (some (.int .i64 (i:Nat))) none=some w/\(∀q k,(∀b cs,V b=some cs->b<q)->avL q k [nils,w]=true)/\ ∀(h:PH) S' (m:OM) (h0:PH) rows,Sl h0 h S' m rows->Vw.le V S'->Go.Am.ptail 2 w h=some (i,spc (l.take i)))/\
  ∃w,acut Try.prog 124 v (some (.int .i64 (i:Nat))) none none=some w/\ ∀(h:PH) S' (m:OM) (h0:PH) rows,Sl h0 h S' m rows->Vw.le V S'->Go.Am.ptail 2 w h=some (l.length-i,spc (l.drop i)):=by
 obtain⟨inf,u1,u2,u3⟩:=u124;rcases h with⟨rfl,rfl⟩|⟨b,cs,rfl,h1,h2,h3⟩
 ·have hi0:i=0:=by simpa using hi
  subst hi0;refine⟨⟨nils,acut_nil u1 u2 (CapOk.self (by decide)) (bd_i (by decide) (by decide)) bd_n (by decide) (by decide),fun q k _=>by simp[avL,avV,avV0,nils],fun h S' m h0 rows st le=>rfl⟩,nils,acut_nil u1 u2 (CapOk.self (by decide)) bd_n (bd_i (by decide) (by decide)) (by decide) (by decide),fun h S' m h0 rows st le=>rfl⟩
 ·have hcap:CapOk l.length openCap:=CapOk.opn (by omega);have hoc:l.length<openCap:=by unfold openCap;omega
  refine⟨⟨_,acut_at u1 u2 hcap (bd_i (by omega) (by omega)) bd_n (by omega) (by simpa using hi),fun q k hq=>?_,fun h S' m h0 rows st le=>?_⟩,_,acut_at u1 u2 hcap bd_n (bd_i (by omega) (by omega)) (by simpa using hi) (by omega),fun h S' m h0 rows st le=>?_⟩
  ·simp[avL,avV,avV0,nils,av1_t (hq _ _ h1)]
  ·have e:(if openCap=0 then 0 else 0+0*inf.size)=0:=by split<;>simp
   rw[e,Int.toNat_natCast,Nat.sub_zero];have:=st.sm.ptailS (b:=b) (o:=0) (n:=i) (sz:=2) (c:=openCap-0) (le _ _ h1) (by omega);rw[this,List.drop_zero, <-spc_take, <-h3,List.take_take,Nat.min_eq_left (by omega)]
  ·have e:(if openCap=(Int.toNat ((i:Nat):Int))then 0 else 0+(Int.toNat ((i:Nat):Int))*inf.size)=i*2:=by
    rw[Int.toNat_natCast,if_neg (by omega),u3];omega
   rw[e,Int.toNat_natCast];have:=st.sm.ptailS (b:=b) (o:=i*2) (n:=l.length-i) (sz:=2) (c:=openCap-i) (le _ _ h1) (by omega);rw[this, <-spc_drop, <-h3,List.drop_take];have:l.length*2-i*2=(l.length-i)*2:=by omega
   rw[this]
end
def lessS(y z:Spt):Prop:=y.1<z.1\/(y.1=z.1/\y.2<z.2)
instance:DecidableRel lessS:=fun y z=>by unfold lessS;infer_instance
theorem lessS.trans{x y z:Spt}(h:lessS x y)(g:lessS y z):lessS x z:=by
 unfold lessS at*;omega
theorem lessS.tot{x y:Spt}(h: ¬ lessS x y)(g:x≠y):lessS y x:=by
 unfold lessS at*;have:x.1≠y.1\/x.2≠y.2:=by
  by_cases e:x.1=y.1
  ·exact .inr fun e'=>g (Prod.ext e e')
  ·exact .inl e
 omega
theorem lessS.ne{x y:Spt}(h:lessS x y):x≠y:=by
 rintro rfl;unfold lessS at h;omega
theorem ins_sorted{l:List Spt}{x:Spt}{i:Nat}(hs:l.Pairwise lessS)(hi:i<=l.length)(hlt: ∀(j:Nat) z,j<i->l[j]?=some z->lessS z x)(hge: ∀z,l[i]?=some z->lessS x z):(l.take i++x::l.drop i).Pairwise lessS:=by
 have e:l.take i++l.drop i=l:=List.take_append_drop i l;have hs2:=hs;rw[<-e,List.pairwise_append]at hs2;obtain⟨a1,a2,a3⟩:=hs2;have tk: ∀z∈l.take i,lessS z x:=by
  intro z hz;obtain⟨j,hj⟩:=List.getElem?_of_mem hz;rw[List.getElem?_take]at hj
  split at hj
  ·exact hlt j z (by assumption) hj
  ·cases hj
 rw[List.pairwise_append,List.pairwise_cons];refine⟨a1,⟨fun z hz=>?_,a2⟩,fun y hy z hz=>?_⟩
 ·have hlt':i<l.length:=by
   have:=List.length_pos_of_mem hz;rw[List.length_drop]at this;omega
  have hd:l.drop i=l[i]::l.drop (i+1):=List.drop_eq_getElem_cons hlt';have h1:=hge _ (List.getElem?_eq_getElem hlt');rw[hd]at hz a2;rcases List.mem_cons.1 hz with rfl|hz
  ·exact h1
  ·exact h1.trans ((List.pairwise_cons.1 a2).1 z hz)
 ·rcases List.mem_cons.1 hz with rfl|hz
  ·exact tk y hy
  ·exact a3 y hy z hz
theorem ins_mem{l:List Spt}{x z:Spt}{i:Nat}:z∈l.take i++x::l.drop i↔z∈l\/z=x:=by
 have e:l.take i++l.drop i=l:=List.take_append_drop i l;constructor
 ·intro h;rcases List.mem_append.1 h with h|h
  ·exact .inl (by rw[<-e];exact List.mem_append_left _ h)
  ·rcases List.mem_cons.1 h with h|h
   ·exact .inr h
   ·exact .inl (by rw[<-e];exact List.mem_append_right _ h)
 ·rintro(h|rfl)
  ·rw[<-e]at h;rcases List.mem_append.1 h with h|h
   ·exact List.mem_append_left _ h
   ·exact List.mem_append_right _ (.tail _ h)
  ·exact List.mem_append_right _ (.head _)
section
variable {Q:Value->PH->Prop}{n:Nat}{cl:CL}{h h0:PH}{S:Vw}{m:OM}{rows:Rws}{K2:Value->PH->R}
theorem c89[OkH h]{y z:Spt}:pcall (F89 n cl (.agg ⟨spc1 y⟩) (.agg ⟨spc1 z⟩) h)=some (.bool (decide (lessS y z))):=by
 refine pcall_fr (h:=h) (S:=h.cells) ?_ rfl;unfold Fr F89;refine Ret.lbox (Sl.start h (Vw.le.refl _)) fun h1 b1 st1=>?_;refine Ret.lbox st1 fun h2 b2 st2=>?_;have st2:Sl h h2 h.cells OM.emp [(b2,.row .own 1 (spc1 z)),(b1,.row .own 1 (spc1 y))]:=st2;have l1:xLd (.pointer (some ⟨b1,0,none⟩)) h2=some (.int .i64 (y.1:Nat)):=st2.ld (.tail _ (.head _)) rfl;have l2:xLd (.pointer (some ⟨b1,1,none⟩)) h2=some (.int .i64 y.2):=st2.ld (.tail _ (.head _)) rfl;have l3:xLd (.pointer (some ⟨b2,0,none⟩)) h2=some (.int .i64 (z.1:Nat)):=st2.ld (.head _) rfl;have l4:xLd (.pointer (some ⟨b2,1,none⟩)) h2=some (.int .i64 z.2):=st2.ld (.head _) rfl;simp only[xFld_p,Nat.zero_add,vb_some,l1,l3,xLt_i]
 by_cases c1:y.1<z.1
 ·have d1:decide (((y.1:Nat):Int)<((z.1:Nat):Int))=true:=by simp;omega
  simp only[d1,isB_f,Bool.not_true,gd_false,vb_some,isB_u,xPick_t];exact Ret.of ⟨_,st2,by rw[decide_eq_true (show lessS y z from .inl c1)];rfl⟩
 ·have d1:decide (((y.1:Nat):Int)<((z.1:Nat):Int))=false:=by simp;omega
  by_cases c2:y.1=z.1
  ·have d2:decide (((y.1:Nat):Int)=((z.1:Nat):Int))=true:=by simp[c2]
   simp only[d1,isB_f,Bool.not_false,gd_true,vb_some,l1,l3,xEq_i,d2,isB_t,l2,l4,xLt_i,xPick_t,xPick_f];refine Ret.of ⟨_,st2,?_⟩
   congr 1
   rw[Bool.eq_iff_iff,decide_eq_true_eq,decide_eq_true_eq];unfold lessS;omega
  ·have d2:decide (((y.1:Nat):Int)=((z.1:Nat):Int))=false:=by simp;omega
   simp only[d1,isB_f,Bool.not_false,gd_true,vb_some,l1,l3,xEq_i,d2,isB_t,gd_false,isB_u,xPick_f];refine Ret.of ⟨_,st2,?_⟩;rw[decide_eq_false (show ¬ lessS y z by unfold lessS;omega)];rfl
theorem szP{k j:Nat}(h:k+j<=200000):(2*(k+j)+512)*16<=281474976710656:=Nat.le_trans (Nat.mul_le_mul_right 16 (show 2*(k+j)+512<=400512 by omega)) (by decide)
def AddQ(h:PH)(S:Vw)(v:Value)(l:List Spt)(x:Spt)(u:Value)(h1:PH):Prop:= ∃S' l',Sl h h1 S' OM.emp []/\l'.Pairwise lessS/\(∀z,z∈l'↔z∈l\/z=x)/\(SpL (Nw h S') u l'\/(u=v/\l'=l))
theorem c63[OkH h](hn:4611686018427387904<=n)(hS:Vw.le S h.cells){v:Value}{l:List Spt}{x:Spt}(hv:SpL S v l)(hs:l.Pairwise lessS)(hl:l.length<100000):Ret (F63 n cl v (.agg ⟨spc1 x⟩) h) (AddQ h S v l x):=by
 unfold F63;refine Ret.lbox (Sl.start h hS) fun h1 b1 st=>?_;have st:Sl h h1 S OM.emp [(b1,.row .own 1 (spc1 x))]:=st;have lx:xLdA 2 (pt b1) h1=some (.agg ⟨spc1 x⟩):=st.ldA (.head _) rfl (by simp[spc1]);have okh1:=st.ok;have key: ∀(d q i:Nat),l.length-i<=d->d<q->i<=l.length->(∀(j:Nat) z,j<i->l[j]?=some z->lessS z x)->Ret (lp q (F63_4 n cl) [v,pt b1,.int .i64 (i:Nat)] h1) (AddQ h S v l x):=by
  have fin: ∀(i:Nat),i<=l.length->(∀(j:Nat) z,j<i->l[j]?=some z->lessS z x)->(∀z,l[i]?=some z-> ¬ lessS z x)->Ret (F63_2 n cl v (.int .i64 (i:Nat)) (pt b1) h1) (AddQ h S v l x):=by
   intro i hi hlt hnot;have go:(∀z,l[i]?=some z->z≠x)->Ret (F63_1 n cl v (.int .i64 (i:Nat)) (pt b1) h1) (AddQ h S v l x):=by
    intro hne;unfold F63_1;refine Ret.lkp st fun h2 q st2 _ hq2=>?_;have st2:Sl h h2 S OM.emp ((q,.hole)::[(b1,.row .own 1 (spc1 x))]):=st2;obtain⟨⟨w1,a1,a2,a3⟩,w2,a4,a5⟩:=hv.cut (h0:=h) hi (by omega) hS;have lx2:xLdA 2 (pt b1) h2=some (.agg ⟨spc1 x⟩):=st2.ldA (.tail _ (.head _)) rfl (by simp[spc1]);simp only[a1,a4,vb_some,lx2];rw[avk_t (a2 q 1 hq2)];have ok2:=st2.ok;have hlen1:(spc (l.take i)).length=i*2:=by rw[spc_len,List.length_take,Nat.min_eq_left hi]
    refine Ret.lfcall (S1:=S) (P:=fun u ex=>Gl 2 u i (spc (l.take i)) ex/\Gc u) st2 ?_ fun u3 h3 ex3 ⟨g3,gc3⟩ st3=>?_
    ·have st0:=Sl.start h2.fzn (S:=S) (fun b cs e=>st2.leS b cs e);rw[ai124];have hb: ∀{r:R},Ret (Go.Am.hb r fun v h=>some (v,h)) (fun v h1=> ∃rows,Sl h2.fzn h1 S OM.emp rows/\(Gl 2 v i (spc (l.take i)) rows/\Gc v))->Ret r (fun v h1=> ∃rows,Sl h2.fzn h1 S OM.emp rows/\(Gl 2 v i (spc (l.take i)) rows/\Gc v)):=fun {r} H=>by
      obtain⟨v,h,e,p⟩:=Ret.out H;rw[e];exact Ret.of p
     refine hb (Ret.gappP (ex:=[]) (rows:=[]) st0 Gl.nil (.inl rfl) (a3 _ _ _ _ _ st0 (Vw.le.refl _)) hlen1 (spc_one _) (szP (by omega)) (Nat.zero_le _) fun h' v' ex' st' g' gc'=>?_);rw[Nat.zero_add,List.nil_append]at g';rw[List.append_nil]at st';exact Ret.of ⟨ex',st',g',gc'⟩
    ·have st3:Sl h h3 S OM.emp (ex3++(q,.hole)::[(b1,.row .own 1 (spc1 x))]):=st3;rw[show Nat.add q 0=q from rfl];have st3p:Sl h h3 S OM.emp ((q,.hole)::(ex3++[(b1,.row .own 1 (spc1 x))])):=st3.perm List.perm_middle;refine Ret.lfillBS st3p 0 rfl bs124 fun h4 st4=>?_;have st4:Sl h h4 S OM.emp ((q,.row .own 2 (spc1 x))::(ex3++[(b1,.row .own 1 (spc1 x))])):=st4;have st4p:Sl h h4 S OM.emp (ex3++((q,.row .own 2 (spc1 x))::[(b1,.row .own 1 (spc1 x))])):=st4.perm List.perm_middle.symm;rw[ai124];have hp4:Go.Am.ptail 2 (.slice (some ⟨q,0,none⟩) 1 1) h4=some (1,spc1 x):=st4.ptail (.head _) rfl;refine Ret.gappP st4p g3 gc3 hp4 (by simp[spc1]) (by unfold oneCells spc1;simp[Value.oneCell']) (szP (by omega)) (by omega) fun h5 v5 ex5 st5 g5 gc5=>?_;refine Ret.gappP st5 g5 gc5 (a5 _ _ _ _ _ st5 (Vw.le.refl _)) (by rw[spc_len,List.length_drop]) (spc_one _) (szP (by omega)) (by omega) fun h6 v6 ex6 st6 g6 gc6=>?_;have hlen:(l.take i++x::l.drop i).length=i+1+(l.length-i):=by
      rw[List.length_append,List.length_cons,List.length_take,List.length_drop,Nat.min_eq_left hi];omega
     have hcells:spc (l.take i)++spc1 x++spc (l.drop i)=spc (l.take i++x::l.drop i):=by
      rw[spc_app]
      show _=spc (l.take i)++(spc1 x++spc (l.drop i))
      rw[List.append_assoc]
     rw[hcells, <-hlen]at g6;have st7:Sl h h6 S OM.emp ex6:=st6.drop (List.sublist_append_left _ _);obtain⟨st8,le8⟩:=(show Sl h h6 S OM.emp (ex6++[]) by rw[List.append_nil];exact st7).settleAll;refine Ret.of ⟨_,_,st8,ins_sorted hs hi hlt (fun z hz=>lessS.tot (hnot z hz) (hne z hz)),fun z=>ins_mem,.inl (g6.spl gc6 fun b md e cs hb=>?_)⟩;have hown:=st7.sm.own b _ (st7.mem hb);unfold Nw;rw[if_pos hown.2];exact vall_m (over_mem (m:=OM.emp) st7.nd hb)
   unfold F63_2;simp only[hv.len,vb_some,xLt_i]
   by_cases hil:i<l.length
   ·have dc:decide (((i:Nat):Int)<((l.length:Nat):Int))=true:=by simp;omega
    obtain⟨b2,cs2,f1,f2,f3,f4,_⟩:=hv.at (k:=.i64) (List.getElem?_eq_getElem hil);have l2:=st.ldSA f2 f3 f4;simp only[dc,isB_t,gd_true,vb_some,f1,l2,lx,eq127,xPick_t]
    by_cases he:l[i]=x
    ·have de:decide (l[i]=x)=true:=by simp[he]
     simp only[de,bite_t];refine Ret.of ⟨S,l,st.clear,hs,fun z=>⟨.inl,?_⟩,.inr ⟨rfl,rfl⟩⟩;rintro(h|rfl)
     ·exact h
     ·rw[<-he];exact List.getElem_mem hil
    ·have de:decide (l[i]=x)=false:=by simp[he]
     simp only[de,bite_f];refine go fun z hz=>?_;rw[List.getElem?_eq_getElem hil]at hz;cases hz;exact he
   ·have dc:decide (((i:Nat):Int)<((l.length:Nat):Int))=false:=by simp;omega
    simp only[dc,isB_t,gd_false,vb_some,xPick_f,bite_f];exact go fun z hz=>by rw[List.getElem?_eq_none (by omega)]at hz;cases hz
  intro d
  induction d with
  |zero=>
   intro q i h2 h3 h4 hlt;obtain⟨q,rfl⟩: ∃r,q=r+1:=⟨q-1,by omega⟩;rw[lp_succ];have dc:decide (((i:Nat):Int)<((l.length:Nat):Int))=false:=by simp;omega
   simp only[F63_4,F63_3,ucons_cons,hv.len,vb_some,xLt_i,dc,isB_t,gd_false,xPick_f,bite_f];exact fin i h4 hlt fun z hz=>by rw[List.getElem?_eq_none (by omega)]at hz;cases hz
  |succ d ih=>
   intro q i h2 h3 h4 hlt
   by_cases hil:i<l.length
   ·obtain⟨q,rfl⟩: ∃r,q=r+1:=⟨q-1,by omega⟩;rw[lp_succ];generalize hL:lp q (F63_4 n cl)=LL;have dc:decide (((i:Nat):Int)<((l.length:Nat):Int))=true:=by simp;omega
    have hx:=List.getElem?_eq_getElem hil;generalize l[i]=z at hx;obtain⟨b2,cs2,f1,f2,f3,f4,_⟩:=hv.at (k:=.i64) hx;have l2:=st.ldSA f2 f3 f4;simp only[F63_4,F63_3,ucons_cons,hv.len,vb_some,xLt_i,dc,isB_t,gd_true,f1,l2,lx,c89,xPick_t]
    by_cases he:lessS z x
    ·have de:decide (lessS z x)=true:=decide_eq_true he;simp only[de,bite_t,F63_0,vN_eq,xAdd_i,wrapN (show i<4611686018427387904 by omega),vb_some];rw[<-hL];refine ih q (i+1) (by omega) (by omega) (by omega) fun j y hj hy=>?_
     by_cases e:j=i
     ·subst e;rw[hx]at hy;cases hy;exact he
     ·exact hlt j y (by omega) hy
    ·have de:decide (lessS z x)=false:=decide_eq_false he;simp only[de,bite_f];refine fin i h4 hlt fun y hy=>?_;rw[hx]at hy;cases hy;exact he
   ·exact ih q i (by omega) (by omega) h4 hlt
 exact key l.length n 0 (by omega) (by omega) (by omega) fun j z hj=>by omega
end
structure PoB(po:Po):Prop where
 inn:po.In
 fl:po.follow.length=po.sets.length
 f1: ∀y∈po.first,y<po.sets.length
 fy: ∀w∈po.follow, ∀y∈w,y<po.sets.length
 n:po.sets.length<1000
def nextP(po:Po)(a:Int):List Nat:=if a<0 then po.first else po.follow.getD a.toNat []
def Ctr(l:List Po)(c:Nat)(z0 z:Spt):Prop:= ∃po y,l[z0.1]?=some po/\y∈nextP po z0.2/\takesB po c y=true/\z=(z0.1,((y:Nat):Int))
def StepS(l:List Po)(c:Nat)(s:List Spt)(z:Spt):Prop:= ∃z0∈s,Ctr l c z0 z
def ValS(l:List Po)(z:Spt):Prop:= ∃po,l[z.1]?=some po/\(z.2= -1\/ ∃a:Nat,z.2=a/\a<po.sets.length)
def BdS(z:Spt):Prop:=z.1<41/\ -1<=z.2/\z.2<1000
theorem bd_len{l:List Spt}(hs:l.Pairwise lessS)(hb: ∀z∈l,BdS z):l.length<=42000:=by
 refine inj_le _ _ (fun i=>(l.getD i (0,0)).1*1001+((l.getD i (0,0)).2+1).toNat) (fun i hi=>?_) (fun i j hi hj he=>?_)
 ·have hx:=List.getElem?_eq_getElem hi;have hD:l.getD i (0,0)=l[i]:=by rw[List.getD_eq_getElem?_getD,hx];rfl
  have:=hb _ (List.getElem_mem hi);unfold BdS at this
  show(l.getD i (0,0)).1*1001+((l.getD i (0,0)).2+1).toNat<_
  rw[hD];omega
 ·have hx:=List.getElem?_eq_getElem hi;have hD:l.getD i (0,0)=l[i]:=by rw[List.getD_eq_getElem?_getD,hx];rfl
  have hy:=List.getElem?_eq_getElem hj;have hE:l.getD j (0,0)=l[j]:=by rw[List.getD_eq_getElem?_getD,hy];rfl
  have b1:=hb _ (List.getElem_mem hi);have b2:=hb _ (List.getElem_mem hj);unfold BdS at b1 b2;have he:(l.getD i (0,0)).1*1001+((l.getD i (0,0)).2+1).toNat=(l.getD j (0,0)).1*1001+((l.getD j (0,0)).2+1).toNat:=he;rw[hD,hE]at he;have e:l[i]=l[j]:=Prod.ext (by omega) (by omega);rcases Nat.lt_trichotomy i j with h|h|h
  ·exact absurd e (List.pairwise_iff_getElem.1 hs i j hi hj h).ne
  ·exact h
  ·exact absurd e.symm (List.pairwise_iff_getElem.1 hs j i hj hi h).ne
theorem Ctr.bd{l:List Po}{c:Nat}{z0 z:Spt}(hl:l.length<=40)(hp: ∀po∈l,PoB po)(h:Ctr l c z0 z):BdS z/\ValS l z:=by
 obtain⟨po,y,h1,h2,h3,rfl⟩:=h;have hlt:=(List.getElem?_eq_some_iff.1 h1).1;have hy:=takesB_lt h3;have:=(hp po (List.mem_of_getElem? h1)).n;exact⟨⟨by show z0.1<41;omega,by show -1<=((y:Nat):Int);omega,by show((y:Nat):Int)<1000;omega⟩,po,h1,.inr ⟨y,rfl,hy⟩⟩
theorem Nw.nw{h0 h1:PH}{V:Vw}(hle:h0.n<=h1.n):Vw.le (Nw h1 V) (Nw h0 (Nw h1 V)):=by
 intro b cs hb;have hb2:=hb;unfold Nw at hb
 split at hb
 ·exact Nw.at (by omega) hb2
 ·cases hb
section
variable {Q:Value->PH->Prop}{n:Nat}{cl:CL}{h h0:PH}{S:Vw}{m:OM}{rows:Rws}{K2:Value->PH->R}
theorem loop64i(hn:4611686018427387904<=n){l:List Po}{av sv nv:Value}{s:List Spt}{z0:Spt}{po:Po}{ps:List Value}{bp i c:Nat}{S0:Vw}{r2:Kt}{A:Spt->Prop}{next:List Nat}(hl:l.length<=40)(hp: ∀po∈l,PoB po)(hs:SpL S0 sv s)(hi:s[i]?=some z0)(hpo:l[z0.1]?=some po)(hpv:PoV S0 po ps)(hc:c<256)(hnv:SlV S0 nv (ns next))(hnl:next.length<1000000)(hny: ∀y∈next,y<po.sets.length)
  (hA: ∀z,A z->BdS z)
  (hk: ∀S h ov out,Vw.le S0 S->Sl h0 h S OM.emp []->SpL (Nw h0 S) ov out->out.Pairwise lessS->(∀z,z∈out↔A z\/ ∃y∈next,takesB po c y=true/\z=(z0.1,((y:Nat):Int)))->Ret (F64_4 n cl (.int .i64 (i:Nat)) r2 av sv (.int .u8 (c:Nat)) ov h) Q):
  ∀(d q k:Nat)(S:Vw)(h:PH)(ov:Value)(out:List Spt),next.length-k<=d->d<q->k<=next.length->Vw.le S0 S->Sl h0 h S OM.emp [(bp,.row .own 1 ps)]->SpL (Nw h0 S) ov out->out.Pairwise lessS->(∀z,z∈out↔A z\/ ∃t y,t<k/\next[t]?=some y/\takesB po c y=true/\z=(z0.1,((y:Nat):Int)))->
   Ret (lp q (F64_6 n cl r2) [av,sv,.int .u8 (c:Nat),ov,.int .i64 (i:Nat),pt bp,nv,.int .i64 (k:Nat)] h) Q:=by
 have hpb:=hp po (List.mem_of_getElem? hpo);have hz1:=(List.getElem?_eq_some_iff.1 hpo).1;obtain⟨setv,fv,lv,wv,ws,hps,p1,p2,p3,p4,p5,p6⟩:=hpv.h;have fin: ∀(S:Vw)(h:PH)(ov:Value)(out:List Spt),Vw.le S0 S->Sl h0 h S OM.emp [(bp,.row .own 1 ps)]->SpL (Nw h0 S) ov out->out.Pairwise lessS->(∀z,z∈out↔A z\/ ∃t y,t<next.length/\next[t]?=some y/\takesB po c y=true/\z=(z0.1,((y:Nat):Int)))->Ret (F64_4 n cl (.int .i64 (i:Nat)) r2 av sv (.int .u8 (c:Nat)) ov h) Q:=by
  intro S h ov out le st ho hso hm;refine hk S h ov out le st.clear ho hso fun z=>(hm z).trans (or_congr Iff.rfl ?_);constructor
  ·rintro⟨t,y,_,h1,h2,h3⟩;exact⟨y,List.mem_of_getElem? h1,h2,h3⟩
  ·rintro⟨y,h1,h2,h3⟩;obtain⟨t,ht⟩:=List.getElem?_of_mem h1;exact⟨t,y,(List.getElem?_eq_some_iff.1 ht).1,ht,h2,h3⟩
 intro d
 induction d with
 |zero=>
  intro q k S h ov out h1 h2 h3 le st ho hso hm;obtain⟨q,rfl⟩: ∃r,q=r+1:=⟨q-1,by omega⟩;rw[lp_succ];have hk':k=next.length:=by omega
  subst hk';have dc:decide (((next.length:Nat):Int)<((next.length:Nat):Int))=false:=by simp
  simp only[F64_6,F64_5,ucons_cons,hnv.len,ns_len,vb_some,xLt_i,dc,bite_f];exact fin S h ov out le st ho hso hm
 |succ d ih=>
  intro q k S h ov out h1 h2 h3 le st ho hso hm
  by_cases hkl:k<next.length
  ·obtain⟨q,rfl⟩: ∃r,q=r+1:=⟨q-1,by omega⟩;rw[lp_succ];generalize hL:lp q (F64_6 n cl r2)=LL;have dc:decide (((k:Nat):Int)<((next.length:Nat):Int))=true:=by simp;omega
   have hx:=List.getElem?_eq_getElem hkl;have hym:=hny _ (List.getElem_mem hkl);generalize next[k]=y at hx hym;obtain⟨b1,o1,cs1,e1,e2,e3⟩:=hnv.at (k:=.i64) (ns_get hx);have l1:=st.ldS (le _ _ e2) e3;have lsv:xLd (.pointer (some ⟨bp,0,none⟩)) h=some setv:=st.ld (.head _) (by rw[hps];rfl);obtain⟨b2,o2,cs2,f1,f2,f3,f4⟩:=p1.at (kk:=.i64) hym;have hsy:=List.getElem?_eq_getElem hym;have hs4:=hpb.inn.s4 _ (List.getElem_mem hym);rw[sets_at hpb.inn.s4 hsy]at f4;have hT:takesB po c y=hasB (po.sets[y]) c:=by
    unfold takesB;rw[List.getD_eq_getElem?_getD,hsy];simp[hym]
   have l2:=st.ldSA (le _ _ f2) f4 f3;have okh:=st.ok;simp only[F64_6,F64_5,ucons_cons,hnv.len,ns_len,vb_some,xLt_i,dc,bite_t,jn_eq,F64_3,xFld_p,Nat.zero_add,e1,lsv,l1,f1,l2,c44 hs4 hc];rw[<-hT];have step: ∀(S':Vw)(h':PH)(ov':Value)(out':List Spt),Vw.le S0 S'->Sl h0 h' S' OM.emp [(bp,.row .own 1 ps)]->SpL (Nw h0 S') ov' out'->out'.Pairwise lessS->(∀z,z∈out'↔A z\/ ∃t y,t<k+1/\next[t]?=some y/\takesB po c y=true/\z=(z0.1,((y:Nat):Int)))->
     Ret (F64_2 n cl LL [av,sv,.int .u8 (c:Nat),ov',.int .i64 (i:Nat),pt bp,nv,.int .i64 (k:Nat)] h') Q:=by
    intro S' h' ov' out' le' st' ho' hso' hm';simp only[F64_2,F64_0,ucons_cons,vN_eq,xAdd_i,wrapN (show k<4611686018427387904 by omega),vb_some];rw[<-hL];exact ih q (k+1) S' h' ov' out' (by omega) (by omega) (by omega) le' st' ho' hso' hm'
   have same: ∀(b:Bool),takesB po c y=b-> ∀z,(∃t y,t<k+1/\next[t]?=some y/\takesB po c y=true/\z=(z0.1,((y:Nat):Int)))↔(∃t y,t<k/\next[t]?=some y/\takesB po c y=true/\z=(z0.1,((y:Nat):Int)))\/(b=true/\z=(z0.1,((y:Nat):Int))):=by
    intro b hb z;constructor
    ·rintro⟨t,y',q1,q2,q3,q4⟩
     by_cases e:t=k
     ·subst e;rw[hx]at q2;cases q2;exact .inr ⟨by rw[<-hb];exact q3,q4⟩
     ·exact .inl ⟨t,y',by omega,q2,q3,q4⟩
    ·rintro(⟨t,y',q1,q2,q3,q4⟩|⟨q1,q2⟩)
     ·exact⟨t,y',by omega,q2,q3,q4⟩
     ·exact⟨k,y,by omega,hx,by rw[hb];exact q1,q2⟩
   cases htk:takesB po c y with
   |false=>
    simp only[bite_f];refine step S h ov out le st ho hso fun z=>(hm z).trans (or_congr Iff.rfl ?_);rw[same _ htk];simp
   |true=>
    obtain⟨b3,cs3,g1,g2,_,_,g5,_⟩:=hs.at (k:=.i64) hi;have l3:xLd (.pointer (some ⟨b3,i*2,none⟩)) h=some (.int .i64 (z0.1:Nat)):=st.ldS (le _ _ g2) g5;simp only[bite_t,F64_1,g1,vb_some,xFld_p,Nat.add_zero,e1,l3,l1,ab127];have hbd: ∀z∈out,BdS z:=by
     intro z hz;rcases(hm z).1 hz with h|⟨t,y',_,_,q3,rfl⟩
     ·exact hA z h
     ·have:=takesB_lt q3;have:=hpb.n;exact⟨by show z0.1<41;omega,by show -1<=((y':Nat):Int);omega,by show((y':Nat):Int)<1000;omega⟩
    have hol:=bd_len hso hbd;refine Ret.lfcallN (P:=fun u W=> ∃l',l'.Pairwise lessS/\(∀z,z∈l'↔z∈out\/z=(z0.1,((y:Nat):Int)))/\(SpL (Nw h0 W) u l'\/(u=ov/\l'=out))) st (fun v V W hVW ⟨l',a1,a2,a3⟩=>⟨l',a1,a2,a3.imp (fun h=>h.mono (Nw.mono hVW)) id⟩) ?_ fun u h' S2 le2 st2 ⟨l',a1,a2,a3⟩=>?_
    ·refine Ret.mono (c63 (n:=n) (cl:=cl) (h:=h.fzn) (x:=(z0.1,((y:Nat):Int))) hn (fun b cs e=>st.leS b cs e) (ho.mono Nw.le) hso (by omega)) fun u h1 ⟨S',l',q1,q2,q3,q4⟩=>?_;exact⟨S',q1,l',q2,q3,q4.imp (fun h=>h.mono (Nw.nw st.sm.kp.le)) id⟩
    ·have hu:SpL (Nw h0 S2) u l':=by
      rcases a3 with a3|⟨rfl,rfl⟩
      ·exact a3
      ·exact ho.mono (Nw.mono le2)
     refine step S2 h' u l' (le.trans le2) st2 hu a1 fun z=>?_;rw[a2,hm,same _ htk,or_assoc];simp
  ·exact ih q k S h ov out (by omega) (by omega) h3 le st ho hso hm
def StepQ(l:List Po)(c:Nat)(s:List Spt)(h0:PH)(u:Value)(h1:PH):Prop:= ∃S' l',Sl h0 h1 S' OM.emp []/\SpL (Nw h0 S') u l'/\l'.Pairwise lessS/\ ∀z,z∈l'↔StepS l c s z
theorem c64[OkH h](hn:4611686018427387904<=n){S0:Vw}(hS:Vw.le S0 h.cells){l:List Po}{av sv:Value}{s:List Spt}{c:Nat}(hl:l.length<=40)(hp: ∀po∈l,PoB po)(hav:PoL S0 av l)(hs:SpL S0 sv s)(hc:c<256)(hsl:s.length<100000)(hval: ∀z∈s,ValS l z):
  Ret (F64 n cl av sv (.int .u8 (c:Nat)) h) (StepQ l c s h):=by
 unfold F64;have okh:OkH h:=inferInstance;have key: ∀(d q i:Nat)(S:Vw)(h':PH)(ov:Value)(out:List Spt),s.length-i<=d->d<q->i<=s.length->Vw.le S0 S->Sl h h' S OM.emp []->SpL (Nw h S) ov out->out.Pairwise lessS->(∀z,z∈out↔ ∃(j:Nat) (z0:Spt),j<i/\s[j]?=some z0/\Ctr l c z0 z)->
   Ret (lp q (F64_12 n cl) [av,sv,.int .u8 (c:Nat),ov,.int .i64 (i:Nat)] h') (StepQ l c s h):=by
  intro d
  induction d with
  |zero=>
   intro q i S h' ov out h1 h2 h3 le st ho hso hm;obtain⟨q,rfl⟩: ∃r,q=r+1:=⟨q-1,by omega⟩;rw[lp_succ];have dc:decide (((i:Nat):Int)<((s.length:Nat):Int))=false:=by simp;omega
   simp only[F64_12,F64_11,ucons_cons,hs.len,vb_some,xLt_i,dc,bite_f];refine Ret.of ⟨S,out,st,ho,hso,fun z=>(hm z).trans ⟨?_,?_⟩⟩
   ·rintro⟨j,z0,_,q1,q2⟩;exact⟨z0,List.mem_of_getElem? q1,q2⟩
   ·rintro⟨z0,q1,q2⟩;obtain⟨j,hj⟩:=List.getElem?_of_mem q1;exact⟨j,z0,by have:=(List.getElem?_eq_some_iff.1 hj).1;omega,hj,q2⟩
  |succ d ih=>
   intro q i S h' ov out h1 h2 h3 le st ho hso hm
   by_cases hil:i<s.length
   ·obtain⟨q,rfl⟩: ∃r,q=r+1:=⟨q-1,by omega⟩;rw[lp_succ];generalize hL:lp q (F64_12 n cl)=LL;have dc:decide (((i:Nat):Int)<((s.length:Nat):Int))=true:=by simp;omega
    have hx:=List.getElem?_eq_getElem hil;have hv:=hval _ (List.getElem_mem hil);generalize s[i]=z0 at hx hv;obtain⟨po,hpo,ha⟩:=hv;have hpb:=hp po (List.mem_of_getElem? hpo);obtain⟨b1,cs1,e1,e2,_,_,e5,e6⟩:=hs.at (k:=.i64) hx;have l1:xLd (.pointer (some ⟨b1,i*2,none⟩)) h'=some (.int .i64 (z0.1:Nat)):=st.ldS (le _ _ e2) e5;obtain⟨b2,o2,cs2,ps,f1,f2,f3,f4,f5⟩:=hav.at hpo;have l2:=st.ldSA (le _ _ f2) f3 f4;simp only[F64_12,F64_11,ucons_cons,hs.len,vb_some,xLt_i,dc,bite_t,F64_10,e1,xFld_p,Nat.add_zero,l1,f1,l2];refine Ret.lalloc st zc43 fun h2' bp st2=>?_;refine Ret.lstA st2 0 rfl rfl f5.ps.1 (by simp) f5.ps.2 fun h3' st3=>?_;rw[setsL_all (by rw[f5.ps.1];rfl)]at st3;have st3:Sl h h3' S OM.emp [(bp,.row .own 1 ps)]:=st3;have f5':=f5;obtain⟨setv,fv,lv,wv,ws,hps,p1,p2,p3,p4,p5,p6⟩:=f5'.h;have l3:xLd (.pointer (some ⟨bp,2,none⟩)) h3'=some fv:=st3.ld (.head _) (by rw[hps];rfl);have l4:xLd (.pointer (some ⟨b1,i*2+1,none⟩)) h3'=some (.int .i64 z0.2):=st3.ldS (le _ _ e2) e6;have l5:xLd (.pointer (some ⟨bp,4,none⟩)) h3'=some wv:=st3.ld (.head _) (by rw[hps];rfl);simp only[xFld_p,Nat.zero_add,l3,vb_some,jn_eq,F64_9,e1,l4,vN_eq,xGe_i];have loop: ∀(nv:Value),SlV S0 nv (ns (nextP po z0.2))->(nextP po z0.2).length<1000000->(∀y∈nextP po z0.2,y<po.sets.length)->Ret (F64_8 n cl LL [av,sv,.int .u8 (c:Nat),ov,.int .i64 (i:Nat),pt bp,nv] h3') (StepQ l c s h):=by
     intro nv hnv hnl hny;simp only[F64_8,ucons_cons,vN_eq];refine loop64i (A:=fun z=> ∃(j:Nat) (z0:Spt),j<i/\s[j]?=some z0/\Ctr l c z0 z) hn hl hp hs hx hpo f5 hc hnv hnl hny ?_ ?_ (nextP po z0.2).length n 0 S h3' ov out (by omega) (by omega) (by omega) le st3 ho hso (fun z=>(hm z).trans ⟨.inl,?_⟩)
     ·rintro z ⟨j,y0,_,_,q3⟩;exact(q3.bd hl hp).1
     ·intro S4 h4 ov4 out4 le4 st4 ho4 hso4 hm4;simp only[F64_4,vN_eq,xAdd_i,wrapN (show i<4611686018427387904 by omega),vb_some];rw[<-hL];refine ih q (i+1) S4 h4 ov4 out4 (by omega) (by omega) (by omega) le4 st4 ho4 hso4 fun z=>(hm4 z).trans ⟨?_,?_⟩
      ·rintro(⟨j,y0,q1,q2,q3⟩|⟨y,q1,q2,q3⟩)
       ·exact⟨j,y0,by omega,q2,q3⟩
       ·exact⟨i,z0,by omega,hx,po,y,hpo,q1,q2,q3⟩
      ·rintro⟨j,y0,q1,q2,q3⟩
       by_cases e:j=i
       ·subst e;rw[hx]at q2;cases q2;obtain⟨po',y,r1,r2,r3,r4⟩:=q3;rw[hpo]at r1;cases r1;exact .inr ⟨y,r2,r3,r4⟩
       ·exact .inl ⟨j,y0,by omega,q2,q3⟩
     ·rintro(h|⟨t,y,h,_⟩)
      ·exact h
      ·omega
    rcases ha with ha|⟨a,ha,ha2⟩
    ·have d0:decide (((0:Nat):Int)<=z0.2)=false:=by rw[ha];decide
     simp only[d0,bite_f];have e:nextP po z0.2=po.first:=by unfold nextP;rw[ha];rfl
     refine loop fv (by rw[e];exact p2.mono (Vw.le.refl _)) (by rw[e];exact hpb.inn.fl) (by rw[e];exact hpb.f1)
    ·have d0:decide (((0:Nat):Int)<=z0.2)=true:=by rw[ha];simp
     have hfo:=List.getElem?_eq_getElem (l:=po.follow) (i:=a) (by rw[hpb.fl];exact ha2);obtain⟨w,w1,w2⟩:=p6 a _ hfo;obtain⟨b3,o3,cs3,g1,g2,g3⟩:=p4.at (k:=.i64) w1;have l6:=st3.ldS (le _ _ g2) g3;have e:nextP po z0.2=po.follow[a]'(by rw[hpb.fl];exact ha2):=by
      unfold nextP;rw[ha,if_neg (by omega),show((a:Nat):Int).toNat=a from rfl,List.getD_eq_getElem?_getD,hfo];rfl
     rw[ha]at l4 ⊢;rw[ha]at d0;simp only[d0,bite_t,F64_7,xFld_p,Nat.zero_add,vb_some,e1,l5,l4,g1,l6];rw[ha]at loop e;refine loop w (by rw[e];exact w2) (by rw[e];exact hpb.inn.wll _ (List.getElem_mem _)) (by rw[e];exact hpb.fy _ (List.getElem_mem _))
   ·exact ih q i S h' ov out (by omega) (by omega) h3 le st ho hso hm
 refine key s.length n 0 S0 h nils [] (by omega) (by omega) (by omega) (Vw.le.refl _) (Sl.start h hS) (.inl ⟨rfl,rfl⟩) .nil fun z=>⟨(fun h=>by cases h),?_⟩;rintro⟨j,_,h,_⟩;omega
end
theorem ns_zv(l:List Nat):ns l=zv (l.map fun(i:Nat)=>((i:Nat):Int)):=by simp[ns,zv]
def AccP(po:Po)(a:Int):Prop:=(a<0/\po.null=true)\/(0<=a/\a.toNat∈po.last)
section
variable {Q:Value->PH->Prop}{n:Nat}{cl:CL}{h h0:PH}{S:Vw}{m:OM}{rows:Rws}{K2:Value->PH->R}
theorem c90[OkH h](hn:4611686018427387904<=n)(hS:Vw.le S h.cells){v:Value}{l:List Int}{x:Int}(hv:SlV S v (zv l))(hl:l.length<1000000):pcall (F90 n cl v (.int .i64 x) h)=some (.bool (decide (x∈l))):=by
 refine pcall_fr (h:=h) (S:=S) ?_ rfl;unfold Fr F90;have st:=Sl.start h hS;have hlen:=hv.len;rw[zv_len]at hlen;have key: ∀(d q i:Nat),l.length-i<=d->d<q->i<=l.length->(∀j,j<i->l[j]?≠some x)->Ret (lp q (F90_3 n cl) [v,.int .i64 x,.int .i64 (i:Nat)] h) fun v h1=> ∃rows,Sl h h1 S OM.emp rows/\v= .bool (decide (x∈l)):=by
  intro d
  induction d with
  |zero=>
   intro q i h2 h3 h4 hno;obtain⟨q,rfl⟩: ∃r,q=r+1:=⟨q-1,by omega⟩;rw[lp_succ];have dc:decide (((i:Nat):Int)<((l.length:Nat):Int))=false:=by simp;omega
   simp only[F90_3,F90_2,ucons_cons,hlen,vb_some,xLt_i,dc,bite_f];refine Ret.of ⟨[],st,?_⟩;rw[decide_eq_false]
   ·rfl
   ·intro hm;obtain⟨j,hj⟩:=List.getElem?_of_mem hm;exact hno j (by have:=(List.getElem?_eq_some_iff.1 hj).1;omega) hj
  |succ d ih=>
   intro q i h2 h3 h4 hno
   by_cases hil:i<l.length
   ·obtain⟨q,rfl⟩: ∃r,q=r+1:=⟨q-1,by omega⟩;rw[lp_succ];generalize hL:lp q (F90_3 n cl)=LL;have dc:decide (((i:Nat):Int)<((l.length:Nat):Int))=true:=by simp;omega
    have hx:=List.getElem?_eq_getElem hil;have hmem:=List.getElem_mem hil;generalize l[i]=y at hx hmem;obtain⟨b1,o1,cs1,e1,e2,e3⟩:=hv.at (k:=.i64) (zv_get hx);have l1:=st.ldS e2 e3;simp only[F90_3,F90_2,ucons_cons,hlen,vb_some,xLt_i,dc,bite_t,F90_1,e1,l1,xEq_i]
    by_cases he:y=x
    ·have de:decide (y=x)=true:=by simp[he]
     simp only[de,bite_t];refine Ret.of ⟨[],st,?_⟩;rw[decide_eq_true (show x∈l by rw[<-he];exact hmem)];rfl
    ·have de:decide (y=x)=false:=by simp[he]
     simp only[de,bite_f,F90_0,vN_eq,xAdd_i,wrapN (show i<4611686018427387904 by omega),vb_some];rw[<-hL];refine ih q (i+1) (by omega) (by omega) (by omega) fun j hj hjx=>?_
     by_cases e:j=i
     ·subst e;rw[hx]at hjx;cases hjx;exact he rfl
     ·exact hno j (by omega) hjx
   ·exact ih q i (by omega) (by omega) h4 hno
 exact key l.length n 0 (by omega) (by omega) (by omega) fun j hj=>by omega
theorem c65[OkH h](hn:4611686018427387904<=n)(hS:Vw.le S h.cells){u v:Value}{a b:List Spt}(hu:SpL S u a)(hv:SpL S v b)(hl:a.length<1000000):pcall (F65 n cl u v h)=some (.bool (decide (a=b))):=by
 refine pcall_fr (h:=h) (S:=S) ?_ rfl;unfold Fr F65;have st:=Sl.start h hS;simp only[hu.len,hv.len,vb_some,xNe_i]
 by_cases hab:a.length=b.length
 ·have dl:decide (((a.length:Nat):Int)=((b.length:Nat):Int))=true:=by simp[hab]
  simp only[dl,Bool.not_true,bite_f,vN_eq];have key: ∀(d q i:Nat),a.length-i<=d->d<q->i<=a.length->(∀j,j<i->a[j]?=b[j]?)->Ret (lp q (F65_3 n cl) [u,v,.int .i64 (i:Nat)] h) fun v h1=> ∃rows,Sl h h1 S OM.emp rows/\v= .bool (decide (a=b)):=by
   intro d
   induction d with
   |zero=>
    intro q i h2 h3 h4 hs;obtain⟨q,rfl⟩: ∃r,q=r+1:=⟨q-1,by omega⟩;rw[lp_succ];have dc:decide (((i:Nat):Int)<((a.length:Nat):Int))=false:=by simp;omega
    simp only[F65_3,F65_2,ucons_cons,hu.len,vb_some,xLt_i,dc,bite_f];refine Ret.of ⟨[],st,?_⟩;rw[decide_eq_true]
    ·rfl
    ·apply List.ext_getElem?
     intro j
     by_cases hj:j<i
     ·exact hs j hj
     ·rw[List.getElem?_eq_none (by omega),List.getElem?_eq_none (by omega)]
   |succ d ih=>
    intro q i h2 h3 h4 hs
    by_cases hil:i<a.length
    ·obtain⟨q,rfl⟩: ∃r,q=r+1:=⟨q-1,by omega⟩;rw[lp_succ];generalize hL:lp q (F65_3 n cl)=LL;have dc:decide (((i:Nat):Int)<((a.length:Nat):Int))=true:=by simp;omega
     have hx:=List.getElem?_eq_getElem hil;have hy:=List.getElem?_eq_getElem (l:=b) (i:=i) (by omega);generalize a[i]=y at hx;generalize b[i]'(by omega)=z at hy;obtain⟨b1,cs1,e1,e2,e3,e4,_⟩:=hu.at (k:=.i64) hx;obtain⟨b2,cs2,f1,f2,f3,f4,_⟩:=hv.at (k:=.i64) hy;have l1:=st.ldSA e2 e3 e4;have l2:=st.ldSA f2 f3 f4;simp only[F65_3,F65_2,ucons_cons,hu.len,vb_some,xLt_i,dc,bite_t,F65_1,e1,f1,l1,l2,neq127]
     by_cases he:y=z
     ·have de:decide (y=z)=true:=by simp[he]
      simp only[de,Bool.not_true,bite_f,F65_0,vN_eq,xAdd_i,wrapN (show i<4611686018427387904 by omega),vb_some];rw[<-hL];refine ih q (i+1) (by omega) (by omega) (by omega) fun j hj=>?_
      by_cases e:j=i
      ·subst e;rw[hx,hy,he]
      ·exact hs j (by omega)
     ·have de:decide (y=z)=false:=by simp[he]
      simp only[de,Bool.not_false,bite_t];refine Ret.of ⟨[],st,?_⟩;rw[decide_eq_false]
      ·rfl
      ·intro hh;subst hh;rw[hx]at hy;cases hy;exact he rfl
    ·exact ih q i (by omega) (by omega) h4 hs
  exact key a.length n 0 (by omega) (by omega) (by omega) fun j hj=>by omega
 ·have dl:decide (((a.length:Nat):Int)=((b.length:Nat):Int))=false:=by simp;omega
  simp only[dl,Bool.not_false,bite_t];refine Ret.of ⟨[],st,?_⟩;rw[decide_eq_false (fun hh=>hab (by rw[hh]))];rfl
theorem c66[OkH h](hn:4611686018427387904<=n)(hS:Vw.le S h.cells){l:List Po}{av sv:Value}{s:List Spt}(hl:l.length<=40)(hp: ∀po∈l,PoB po)(hav:PoL S av l)(hs:SpL S sv s)(hso:s.Pairwise lessS)(hsl:s.length<100000)(hval: ∀z∈s,ValS l z):
  ∃z:Int,pcall (F66 n cl av sv h)=some (.int .i64 z)/\FstI l.length (fun k=> ∃a po,(k,a)∈s/\l[k]?=some po/\AccP po a) z:=by
 have key:Ret (F66 n cl av sv h) fun v _=> ∃z:Int,v= .int .i64 z/\FstI l.length (fun k=> ∃a po,(k,a)∈s/\l[k]?=some po/\AccP po a) z:=by
  unfold F66;have key: ∀(d q i:Nat)(h':PH),s.length-i<=d->d<q->i<=s.length->Sl h h' S OM.emp []->(∀(j:Nat) z po,j<i->s[j]?=some z->l[z.1]?=some po-> ¬ AccP po z.2)->
    Ret (lp q (F66_4 n cl) [av,sv,.int .i64 (i:Nat)] h') fun v _=> ∃z:Int,v= .int .i64 z/\FstI l.length (fun k=> ∃a po,(k,a)∈s/\l[k]?=some po/\AccP po a) z:=by
   intro d
   induction d with
   |zero=>
    intro q i h' h1 h2 h3 st hno;obtain⟨q,rfl⟩: ∃r,q=r+1:=⟨q-1,by omega⟩;rw[lp_succ];have dc:decide (((i:Nat):Int)<((s.length:Nat):Int))=false:=by simp;omega
    simp only[F66_4,F66_3,ucons_cons,hs.len,vb_some,xLt_i,dc,bite_f,vM_eq];refine Ret.of ⟨-1,rfl,.inl ⟨rfl,fun k hk ⟨a,po,q1,q2,q3⟩=>?_⟩⟩;obtain⟨j,hj⟩:=List.getElem?_of_mem q1;exact hno j _ po (by have:=(List.getElem?_eq_some_iff.1 hj).1;omega) hj q2 q3
   |succ d ih=>
    intro q i h' h1 h2 h3 st hno
    by_cases hil:i<s.length
    ·obtain⟨q,rfl⟩: ∃r,q=r+1:=⟨q-1,by omega⟩;rw[lp_succ];generalize hL:lp q (F66_4 n cl)=LL;have dc:decide (((i:Nat):Int)<((s.length:Nat):Int))=true:=by simp;omega
     have hx:=List.getElem?_eq_getElem hil;have hv:=hval _ (List.getElem_mem hil);generalize s[i]=z0 at hx hv;obtain⟨po,hpo,ha⟩:=hv;have hpb:=hp po (List.mem_of_getElem? hpo);obtain⟨b1,cs1,e1,e2,_,_,e5,e6⟩:=hs.at (k:=.i64) hx;have l1:xLd (.pointer (some ⟨b1,i*2,none⟩)) h'=some (.int .i64 (z0.1:Nat)):=st.ldS e2 e5;obtain⟨b2,o2,cs2,ps,f1,f2,f3,f4,f5⟩:=hav.at hpo;have l2:=st.ldSA f2 f3 f4;simp only[F66_4,F66_3,ucons_cons,hs.len,vb_some,xLt_i,dc,bite_t,F66_2,e1,xFld_p,Nat.add_zero,l1,f1,l2];refine Ret.lalloc st zc43 fun h2' bp st2=>?_;refine Ret.lstA st2 0 rfl rfl f5.ps.1 (by simp) f5.ps.2 fun h3' st3=>?_;rw[setsL_all (by rw[f5.ps.1];rfl)]at st3;have st3:Sl h h3' S OM.emp [(bp,.row .own 1 ps)]:=st3;have f5':=f5;obtain⟨setv,fv,lv,wv,ws,hps,p1,p2,p3,p4,p5,p6⟩:=f5'.h;have l3:xLd (.pointer (some ⟨bp,1,none⟩)) h3'=some (.bool po.null):=st3.ld (.head _) (by rw[hps];rfl);have l4:xLd (.pointer (some ⟨b1,i*2+1,none⟩)) h3'=some (.int .i64 z0.2):=st3.ldS e2 e6;have l5:xLd (.pointer (some ⟨bp,3,none⟩)) h3'=some lv:=st3.ld (.head _) (by rw[hps];rfl);have l6:xLd (.pointer (some ⟨b1,i*2,none⟩)) h3'=some (.int .i64 (z0.1:Nat)):=st3.ldS e2 e5;have okh3:=st3.ok;have yes:AccP po z0.2->Ret (F66_0 n cl sv (.int .i64 (i:Nat)) h3') fun v _=> ∃z:Int,v= .int .i64 z/\FstI l.length (fun k=> ∃a po,(k,a)∈s/\l[k]?=some po/\AccP po a) z:=by
      intro hacc;simp only[F66_0,e1,vb_some,xFld_p,Nat.add_zero,l6];refine Ret.of ⟨_,rfl,.inr ⟨z0.1,rfl,(List.getElem?_eq_some_iff.1 hpo).1,⟨z0.2,po,List.mem_of_getElem? hx,hpo,hacc⟩,fun k hk ⟨a,po',q1,q2,q3⟩=>?_⟩⟩;obtain⟨j,hj⟩:=List.getElem?_of_mem q1
      by_cases hji:j<i
      ·exact hno j _ po' hji hj q2 q3
      ·have hjl:=(List.getElem?_eq_some_iff.1 hj).1
       by_cases e:j=i
       ·subst e;rw[hx]at hj;cases hj;exact absurd hk (by simp)
       ·have:=List.pairwise_iff_getElem.1 hso i j hil hjl (by omega);rw[(List.getElem?_eq_some_iff.1 hx).2,(List.getElem?_eq_some_iff.1 hj).2]at this;unfold lessS at this;have hk:k<z0.1:=hk;rcases this with h|⟨h,_⟩
        ·have h:z0.1<k:=h;omega
        ·have h:z0.1=k:=h;omega
     have nope: ¬ AccP po z0.2->Ret (F66_1 n cl (.int .i64 (i:Nat)) LL av sv h3') fun v _=> ∃z:Int,v= .int .i64 z/\FstI l.length (fun k=> ∃a po,(k,a)∈s/\l[k]?=some po/\AccP po a) z:=by
      intro hacc;simp only[F66_1,vN_eq,xAdd_i,wrapN (show i<4611686018427387904 by omega),vb_some];rw[<-hL];refine ih q (i+1) h3' (by omega) (by omega) (by omega) st3.clear fun j y po' hj hy hp'=>?_
      by_cases e:j=i
      ·subst e;rw[hx]at hy;cases hy;rw[hpo]at hp';cases hp';exact hacc
      ·exact hno j y po' (by omega) hy hp'
     simp only[vN_eq,l4,vb_some,xLt_i];rcases ha with ha|⟨a,ha,ha2⟩
     ·have d0:decide (z0.2<((0:Nat):Int))=true:=by rw[ha];decide
      have d1:decide (((0:Nat):Int)<=z0.2)=false:=by rw[ha];decide
      cases hnull:po.null with
      |true=>
       rw[hnull]at l3;simp only[d0,isB_t,gd_true,xFld_p,Nat.zero_add,vb_some,l3,xPick_t,isB_f,Bool.not_true,gd_false,isB_u,xPick_f,bite_t,l4,e1];exact yes (.inl ⟨by omega,hnull⟩)
      |false=>
       rw[hnull]at l3;simp only[d0,isB_t,gd_true,xFld_p,Nat.zero_add,vb_some,l3,xPick_t,isB_f,Bool.not_false,e1,l4,xGe_i,d1,gd_false,xPick_f,bite_f];refine nope ?_;rintro(⟨_,h⟩|⟨h,_⟩)
       ·rw[hnull]at h;cases h
       ·omega
     ·have d0:decide (z0.2<((0:Nat):Int))=false:=by rw[ha];simp
      have d1:decide (((0:Nat):Int)<=z0.2)=true:=by rw[ha];simp
      have hff:ff= .bool false:=rfl;rw[ns_zv]at p3;have hin:=c90 (n:=n) (cl:=cl) (h:=h3'.fzn) (S:=S) (x:=z0.2) hn (fun b cs e=>st3.leS b cs e) p3 (by rw[List.length_map];exact hpb.inn.ll);simp only[d0,isB_t,gd_false,vb_some,xPick_f,hff,isB_f,Bool.not_false,gd_true,e1,xFld_p,Nat.zero_add,l4,xGe_i,d1,l5,hin,xPick_t]
      by_cases hla:z0.2.toNat∈po.last
      ·have dd:decide (z0.2∈po.last.map fun(i:Nat)=>((i:Nat):Int))=true:=by
        rw[decide_eq_true_eq,List.mem_map];exact⟨_,hla,by omega⟩
       simp only[dd,bite_t];exact yes (.inr ⟨by omega,hla⟩)
      ·have dd:decide (z0.2∈po.last.map fun(i:Nat)=>((i:Nat):Int))=false:=by
        rw[decide_eq_false_iff_not,List.mem_map];rintro⟨y,hy,hy2⟩;exact hla (by rw[<-hy2];exact hy)
       simp only[dd,bite_f];refine nope ?_;rintro(⟨h,_⟩|⟨_,h⟩)
       ·omega
       ·exact hla h
    ·exact ih q i h' (by omega) (by omega) h3 st hno
  exact key s.length n 0 h (by omega) (by omega) (by omega) (Sl.start h hS) fun j z po hj=>by omega
 obtain⟨v,h1,e,z,rfl,hz⟩:=key;exact⟨z,by rw[e];exact pcall_some rfl,hz⟩
end
def LeadR(l:List Po)(all:List (List Spt))(s:List Spt)(c:Nat)(z:Int):Prop:=
 (z= -1/\ ∀x, ¬ StepS l c s x)\/ ∃(k:Nat) (t:List Spt),z=k/\all[k]?=some t/\(∃x,x∈t)/\ ∀x,x∈t↔StepS l c s x
theorem get_app'{α:Type}{a l:List α}{i:Nat}{t:α}(h:a[i]?=some t):(a++l)[i]?=some t:=by
 rw[List.getElem?_append_left (List.getElem?_eq_some_iff.1 h).1];exact h
theorem get_sn{α:Type}{a:List α}{i:Nat}{t y:α}(h:(a++[t])[i]?=some y):a[i]?=some y\/(i=a.length/\y=t):=by
 by_cases hlt:i<a.length
 ·rw[List.getElem?_append_left hlt]at h;exact .inl h
 ·rw[List.getElem?_append_right (by omega)]at h;have hi0:i-a.length=0:=by
   have:=(List.getElem?_eq_some_iff.1 h).1;simp at this;omega
  rw[hi0]at h;exact .inr ⟨by omega,by simpa using h.symm⟩
theorem LeadR.app{l:List Po}{all a2:List (List Spt)}{s:List Spt}{c:Nat}{z:Int}(h:LeadR l all s c z):LeadR l (all++a2) s c z:=by
 rcases h with h|⟨k,t,h1,h2,h3⟩
 ·exact .inl h
 ·exact .inr ⟨k,t,h1,get_app' h2,h3⟩
structure SubI(l:List Po)(all:List (List Spt))(nxs:List (List Int))(oks:List Int):Prop where
 a0: ∃f,all[0]?=some f/\ ∀x:Spt,x∈f↔x.2= -1/\x.1<l.length
 so: ∀t∈all,t.Pairwise lessS/\ ∀z∈t,BdS z/\ValS l z
 ds: ∀(i j:Nat) t,all[i]?=some t->all[j]?=some t->i=j
 sz:all.length<=400
 nl:nxs.length<=all.length
 ol:oks.length=nxs.length
 row: ∀(i:Nat) r,nxs[i]?=some r->r.length=256/\ ∀(c:Nat) z,r[c]?=some z-> ∃s,all[i]?=some s/\LeadR l all s c z
 acc: ∀(i:Nat) s z,all[i]?=some s->oks[i]?=some z->FstI l.length (fun k=> ∃a po,(k,a)∈s/\l[k]?=some po/\AccP po a) z
def RowI(l:List Po)(all:List (List Spt))(s:List Spt)(nr:List Int)(c:Nat):Prop:=nr.length=256/\ ∀(c':Nat) z,c'<c->nr[c']?=some z->LeadR l all s c' z
theorem RowI.put{l:List Po}{all a2:List (List Spt)}{s:List Spt}{nr:List Int}{c:Nat}{z:Int}(h:RowI l all s nr c)(hz:LeadR l (all++a2) s c z):RowI l (all++a2) s (nr.set c z) (c+1):=by
 refine⟨by rw[List.length_set];exact h.1,fun c' y hc hy=>?_⟩
 by_cases e:c'=c
 ·subst e;have hlt:c'<nr.length:=by
   have:=(List.getElem?_eq_some_iff.1 hy).1
   rwa [List.length_set]at this
  rw[List.getElem?_set_self hlt]at hy;cases hy;exact hz
 ·rw[List.getElem?_set_ne (Ne.symm e)]at hy;exact(h.2 c' y (by omega) hy).app
theorem SubI.more{l:List Po}{all:List (List Spt)}{nxs:List (List Int)}{oks:List Int}(h:SubI l all nxs oks){t:List Spt}(hs:t.Pairwise lessS/\ ∀z∈t,BdS z/\ValS l z)(hno: ∀j:Nat,all[j]?≠some t)(hsz:all.length<400):SubI l (all++[t]) nxs oks:=by
 obtain⟨f,f1,f2⟩:=h.a0;have hnl:=h.nl;refine⟨⟨f,get_app' f1,f2⟩,fun y hy=>?_,fun i j y hi hj=>?_,by simp;omega,by simp;omega,h.ol,fun i r hr=>⟨(h.row i r hr).1,fun c z hz=>?_⟩,fun i s z hi hz=>?_⟩
 ·rcases List.mem_append.1 hy with hy|hy
  ·exact h.so y hy
  ·have:y=t:=by simpa using hy
   rw[this];exact hs
 ·rcases get_sn hi with hi|⟨hi,ei⟩<;>rcases get_sn hj with hj|⟨hj,ej⟩
  ·exact h.ds i j y hi hj
  ·rw[ej]at hi;exact absurd hi (hno i)
  ·rw[ei]at hj;exact absurd hj (hno j)
  ·omega
 ·obtain⟨s,h1,h2⟩:=(h.row i r hr).2 c z hz;exact⟨s,get_app' h1,h2.app⟩
 ·have:=(List.getElem?_eq_some_iff.1 hz).1;have hol:=h.ol;rw[List.getElem?_append_left (by omega)]at hi;exact h.acc i s z hi hz
theorem SubI.row'{l:List Po}{all:List (List Spt)}{nxs:List (List Int)}{oks:List Int}(h:SubI l all nxs oks){s:List Spt}{nr:List Int}{z:Int}(hi:all[nxs.length]?=some s)(hr:RowI l all s nr 256)(hz:FstI l.length (fun k=> ∃a po,(k,a)∈s/\l[k]?=some po/\AccP po a) z):SubI l all (nxs++[nr]) (oks++[z]):=by
 have hlt:=(List.getElem?_eq_some_iff.1 hi).1;refine⟨h.a0,h.so,h.ds,h.sz,by simp;omega,by simp[h.ol],fun i r hr'=>?_,fun i s' y hi' hy=>?_⟩
 ·rcases get_sn hr' with hr'|⟨rfl,rfl⟩
  ·exact h.row i r hr'
  ·refine⟨hr.1,fun c y hy=>⟨s,hi,hr.2 c y ?_ hy⟩⟩;have:=(List.getElem?_eq_some_iff.1 hy).1;rw[hr.1]at this;exact this
 ·rcases get_sn hy with hy|⟨e,rfl⟩
  ·exact h.acc i s' y hi' hy
  ·rw[e,h.ol,hi]at hi';cases hi';exact hz
theorem zc73:zcells Try.prog 73=some [nils,nils,.bool false]:=by kernel_rfl
theorem ai128:appInfo Try.prog #[128,128]=some (1,24):=by kernel_rfl
theorem bs128{v:Value}(hv:v.oneCell'=true):bsRow Try.prog 128 1 [(0,v)]=some (1,[v]):=by
 cases v<;>first|(simp[Value.oneCell']at hv;done)|kernel_rfl
def sl256(b:Nat):Value:=.slice (some ⟨b,0,none⟩) 256 256
def nrows(rbs:List Nat)(nxs:List (List Int)):Rws:=(rbs.zip nxs).map fun p=>(p.1,AObj.row .own 1 (zv p.2))
def Sb(S:Vw)(rows rest:Rws)(bx:Nat)(av:Value)(all:List (List Spt))(nxs:List (List Int))(oks:List Int)(rbs:List Nat):Prop:= ∃nv ov exA exN exO cA,
 rows=(bx,.row .own 1 [nv,ov,.bool false])::(exA++(exN++(exO++rest)))/\Gq av all.length cA exA/\(∀(i:Nat) t,all[i]?=some t-> ∃x,cA[i]?=some x/\SpL S x t)/\Gl 1 nv nxs.length (rbs.map sl256) exN/\Gl 1 ov oks.length (zv oks) exO
section
variable {rows rest:Rws}{bx:Nat}{av:Value}{all:List (List Spt)}{nxs:List (List Int)}{oks:List Int}{rbs:List Nat}
theorem Sb.mono{V W:Vw}(hs:Vw.le V W)(h:Sb V rows rest bx av all nxs oks rbs):Sb W rows rest bx av all nxs oks rbs:=by
 obtain⟨nv,ov,exA,exN,exO,cA,a1,a2,a3,a4⟩:=h;exact⟨nv,ov,exA,exN,exO,cA,a1,a2,fun i t hi=>let⟨x,q1,q2⟩:=a3 i t hi;⟨x,q1,q2.mono hs⟩,a4⟩
theorem Sb.frame{V:Vw}(h:Sb V rows rest bx av all nxs oks rbs): ∃A,rows=A++rest/\ ∀rest',Sb V (A++rest') rest' bx av all nxs oks rbs:=by
 obtain⟨nv,ov,exA,exN,exO,cA,rfl,a2,a3,a4,a5⟩:=h;exact⟨(bx,.row .own 1 [nv,ov,.bool false])::(exA++(exN++exO)),by simp[List.append_assoc],fun rest'=>⟨nv,ov,exA,exN,exO,cA,by simp[List.append_assoc],a2,a3,a4,a5⟩⟩
variable {Q:Value->PH->Prop}{n:Nat}{cl:CL}{h h0:PH}{S:Vw}{m:OM}{K2:Value->PH->R}
theorem Sb.get(sb:Sb S rows rest bx av all nxs oks rbs)(st:Sl h0 h S m rows){i:Nat}{t:List Spt}(hi:all[i]?=some t):xLenS av=some (.int .i64 (all.length:Nat))/\ ∃b o x,xIdxS 1 av (.int .i64 (i:Nat))=some (.pointer (some ⟨b,o,none⟩))/\xLd (.pointer (some ⟨b,o,none⟩)) h=some x/\SpL S x t:=by
 obtain⟨nv,ov,exA,exN,exO,cA,rfl,a2,a3,a4,a5⟩:=sb;obtain⟨x,q1,q2⟩:=a3 i t hi;obtain⟨b,o,e1,e2⟩:=a2.at st (fun p hp=>.tail _ (List.mem_append_left _ hp)) q1;exact⟨a2.len,b,o,x,e1,e2,q2⟩
theorem Sb.len(sb:Sb S rows rest bx av all nxs oks rbs):xLenS av=some (.int .i64 (all.length:Nat)):=by
 obtain⟨nv,ov,exA,exN,exO,cA,rfl,a2,a3,a4,a5⟩:=sb;exact a2.len
theorem loop34k(hn:4611686018427387904<=n){a0 tv:Value}{bn b1 i c:Nat}{x1 x2 x3:Value}{nr:List Int}{t:List Spt}{k52:Kt}(htv:SpL S tv t)(hc:c<256)(hnl:nr.length=256)(hnr:nr[c]?=some (-1))(hsz:all.length<=400)(hb1: ∃R1 R2,rest=R1++(b1,.row .own 1 [x1,x2,x3])::R2)(hso: ∀t∈all,t.length<1000000)
  (hf: ∀h rows (j:Nat),all[j]?=some t->Sl h0 h S OM.emp rows->Sb S rows ((bn,.row .own 1 (zv (nr.set c (j:Int))))::rest) bx av all nxs oks rbs->Ret (k52 [a0,pt b1,av,pt bx,.int .i64 (i:Nat),sl256 bn,.int .i64 (c:Nat)] h) Q)
  (hw: ∀h rows av',all.length<400->(∀j:Nat,all[j]?≠some t)->Sl h0 h S OM.emp rows->Sb S rows ((bn,.row .own 1 (zv (nr.set c ((all.length:Nat):Int))))::rest) bx av' (all++[t]) nxs oks rbs->Ret (k52 [a0,pt b1,av',pt bx,.int .i64 (i:Nat),sl256 bn,.int .i64 (c:Nat)] h) Q)
  (hm: ∀h' a b,Sl h0 h' S OM.emp []->a.oneCell'=true->b.oneCell'=true->Q (.agg ⟨[a,b,tt]⟩) h'):
  ∀(d q k:Nat)(h:PH)(rows:Rws),all.length-k<=d->d+1<q->k<=all.length->Sl h0 h S OM.emp rows->Sb S rows ((bn,.row .own 1 (zv nr))::rest) bx av all nxs oks rbs->(∀j,j<k->all[j]?≠some t)->
   Ret (lp q (F34_11 n cl k52) [a0,pt b1,av,pt bx,.int .i64 (i:Nat),sl256 bn,.int .i64 (c:Nat),tv,.int .i64 (k:Nat)] h) Q:=by
 have e1:xIdxS 1 (sl256 bn) (.int .i64 (c:Nat))=some (.pointer (some ⟨bn,c,none⟩)):=by
  unfold sl256;rw[xIdxS_at (by omega) (by omega)];simp
 have rd: ∀(h:PH)(rows:Rws)(nr':List Int) z av' all',nr'[c]?=some z->Sl h0 h S OM.emp rows->Sb S rows ((bn,.row .own 1 (zv nr'))::rest) bx av' all' nxs oks rbs->xLd (.pointer (some ⟨bn,c,none⟩)) h=some (.int .i64 z):=by
  intro h rows nr' z av' all' hz st sb;obtain⟨A,rfl,_⟩:=sb.frame;exact st.ld (List.mem_append_right _ (.head _)) (zv_get hz)
 have none': ∀(h:PH)(rows:Rws),Sl h0 h S OM.emp rows->Sb S rows ((bn,.row .own 1 (zv nr))::rest) bx av all nxs oks rbs->(∀j:Nat,all[j]?≠some t)->Ret (F34_9 n cl (sl256 bn) (.int .i64 (c:Nat)) av (pt bx) (pt b1) tv k52 a0 (.int .i64 (i:Nat)) h) Q:=by
  intro h rows st sb hno;have l1:=rd h rows nr (-1) av all hnr st sb;have dneg:decide ((-1:Int)<((0:Nat):Int))=true:=by decide
  simp only[F34_9,e1,vb_some,l1,vN_eq,xLt_i,dneg,bite_t,F34_8,sb.len,xGe_i];have sb0:=sb;obtain⟨nv,ov,exA,exN,exO,cA,hrows,a2,a3,a4,a5⟩:=sb
  by_cases h4:400<=all.length
  ·have d4:decide (((400:Nat):Int)<=((all.length:Nat):Int))=true:=by simp;omega
   rw[hrows]at st;simp only[d4,bite_t,F34_6,xFld_p,Nat.zero_add,vb_some];refine Ret.lst1 st 0 rfl rfl (by simp) rfl fun h2 st2=>?_;have st2:Sl h0 h2 S OM.emp ((bx,.row .own 1 [nv,ov,tt])::(exA++(exN++(exO++(bn,.row .own 1 (zv nr))::rest)))):=st2;have ld:xLdA 3 (pt bx) h2=some (.agg ⟨[nv,ov,tt]⟩):=st2.ldA (.head _) rfl (by simp);simp only[ld,vb_some];obtain⟨R1,R2,hR⟩:=hb1;have hone:oneCells [nv,ov,tt]=true:=by unfold oneCells;simp[a4.one,a5.one];rfl
   have st3:=st2.perm (rows':=(b1,.row .own 1 [x1,x2,x3])::((bx,.row .own 1 [nv,ov,tt])::(exA++(exN++(exO++((bn,.row .own 1 (zv nr))::(R1++R2))))))) (by
    rw[hR];have:((bx,AObj.row .own 1 [nv,ov,tt])::(exA++(exN++(exO++(bn,.row .own 1 (zv nr))::(R1++(b1,.row .own 1 [x1,x2,x3])::R2)))))=((bx,AObj.row .own 1 [nv,ov,tt])::(exA++(exN++(exO++(bn,.row .own 1 (zv nr))::R1))))++(b1,.row .own 1 [x1,x2,x3])::R2:=by simp[List.append_assoc]
    rw[this];refine List.perm_middle.trans ?_;simp[List.append_assoc])
   refine Ret.lstA st3 0 rfl rfl rfl (by simp) hone fun h4 st4=>?_;rw[setsL_all (by rfl)]at st4;have ld2:xLdA 3 (pt b1) h4=some (.agg ⟨[nv,ov,tt]⟩):=st4.ldA (.head _) rfl (by simp);simp only[ld2,vb_some];exact Ret.of (hm h4 nv ov st4.clear a4.one a5.one)
  ·have d4:decide (((400:Nat):Int)<=((all.length:Nat):Int))=false:=by simp;omega
   simp only[d4,bite_f,F34_7,e1,vb_some,a2.len];obtain⟨A,hA,hfr⟩:=sb0.frame;rw[hA]at st;refine Ret.lst1M st rfl (by rw[zv_len,hnl];exact hc) rfl fun h2 st2=>?_;rw[zv_set]at st2;have sb2:=hfr ((bn,.row .own 1 (zv (nr.set c ((all.length:Nat):Int))))::rest);obtain⟨nv,ov,exA,exN,exO,cA,hrows,a2,a3,a4,a5⟩:=sb2;rw[hrows]at st2;have st2p:=st2.perm (pm1 _ exA _);refine Ret.gqapp st2p a2 (bs128 htv.one) ai128 htv.one (sz_le (c:=400) hsz (by decide)) fun h3 av' exA' st3 g3=>?_;have st3:=st3.perm (pm1 _ exA' _).symm;refine hw h3 _ av' (by omega) hno st3 ⟨nv,ov,exA',exN,exO,cA++[tv],rfl,by rw[List.length_append];exact g3,fun j y hj=>?_,a4,a5⟩;have hlA:=a2.length;rcases get_sn hj with hj|⟨rfl,rfl⟩
   ·obtain⟨x,q1,q2⟩:=a3 j y hj;exact⟨x,get_app' q1,q2⟩
   ·exact⟨tv,by rw[List.getElem?_append_right (by omega),show all.length-cA.length=0 by omega];rfl,htv⟩
 intro d
 induction d with
 |zero=>
  intro q k h rows h1 h2 h3 st sb hno;obtain⟨q,rfl⟩: ∃r,q=r+1:=⟨q-1,by omega⟩;rw[lp_succ];have dc:decide (((k:Nat):Int)<((all.length:Nat):Int))=false:=by simp;omega
  simp only[F34_11,F34_10,ucons_cons,sb.len,vb_some,xLt_i,dc,isB_t,gd_false,xPick_f,bite_f];refine none' h rows st sb fun j hj=>?_;have:=(List.getElem?_eq_some_iff.1 hj).1;exact hno j (by omega) hj
 |succ d ih=>
  intro q k h rows h1 h2 h3 st sb hno
  by_cases hkl:k<all.length
  ·obtain⟨q,rfl⟩: ∃r,q=r+2:=⟨q-2,by omega⟩;rw[lp_succ];have dc:decide (((k:Nat):Int)<((all.length:Nat):Int))=true:=by simp;omega
   have dneg:decide ((-1:Int)<((0:Nat):Int))=true:=by decide
   have l1:=rd h rows nr (-1) av all hnr st sb;have hx:=List.getElem?_eq_getElem hkl;have hlk:=hso _ (List.getElem_mem hkl);generalize all[k]=y at hx hlk;obtain⟨hlen,b2,o2,x,f1,f2,f3⟩:=sb.get st hx;have okh:=st.ok;simp only[F34_11,F34_10,ucons_cons,hlen,vb_some,xLt_i,dc,isB_t,gd_true,e1,l1,vN_eq,dneg,xPick_t,bite_t,jn_eq,F34_5,f1,f2];rw[c65 (n:=n) (cl:=cl) (h:=h.fzn) (S:=S) hn (fun b cs e=>st.leS b cs e) f3 htv hlk];generalize hL:lp (q+1) (F34_11 n cl k52)=LL
   by_cases he:y=t
   ·subst he;have de:decide (y=y)=true:=by simp
    simp only[de,decide_true,vb_some,bite_t,F34_3,e1];obtain⟨A,hA,hfr⟩:=sb.frame;rw[hA]at st;refine Ret.lst1M (v:=.int .i64 ((k:Nat):Int)) st rfl (by rw[zv_len,hnl];exact hc) rfl fun h2 st2=>?_;rw[zv_set]at st2;have sb2:=hfr ((bn,.row .own 1 (zv (nr.set c ((k:Nat):Int))))::rest);simp only[F34_4,ucons_cons,F34_2,xAdd_i,vN_eq,wrapN (show k<4611686018427387904 by omega),vb_some];rw[<-hL,lp_succ];have hset:(nr.set c ((k:Nat):Int))[c]?=some ((k:Nat):Int):=List.getElem?_set_self (by omega);have l2:=rd h2 _ _ _ av all hset st2 sb2;have dpos:decide (((k:Nat):Int)<((0:Nat):Int))=false:=by simp
    simp only[F34_11,F34_10,ucons_cons,sb2.len,vb_some,xLt_i,e1,l2,vN_eq]
    by_cases hk2:k+1<all.length
    ·have dc2:decide (((k+1:Nat):Int)<((all.length:Nat):Int))=true:=by simp;omega
     simp only[dc2,isB_t,gd_true,vb_some,xLt_i,e1,l2,dpos,xPick_t,bite_f,F34_9,vN_eq];exact hf h2 _ k hx st2 sb2
    ·have dc2:decide (((k+1:Nat):Int)<((all.length:Nat):Int))=false:=by simp;omega
     simp only[dc2,isB_t,gd_false,vb_some,xPick_f,bite_f,F34_9,vN_eq,e1,l2,xLt_i,dpos];exact hf h2 _ k hx st2 sb2
   ·have de:decide (y=t)=false:=by simp[he]
    simp only[de,vb_some,bite_f,F34_4,ucons_cons,F34_2,xAdd_i,vN_eq,wrapN (show k<4611686018427387904 by omega)];rw[<-hL];refine ih (q+1) (k+1) h rows (by omega) (by omega) (by omega) st sb fun j hj hjt=>?_
    by_cases e:j=k
    ·subst e;rw[hx]at hjt;exact he (Option.some.inj hjt)
    ·exact hno j (by omega) hjt
  ·exact ih q k h rows (by omega) (by omega) h3 st sb hno
end
def RawV(ex:Rws)(u:Value)(nxs:List (List Int))(oks:List Int)(rbs:List Nat):Prop:= ∃nv ov exN exO,ex=exN++(exO++nrows rbs nxs)/\u= .agg ⟨[nv,ov,.bool false]⟩/\Gl 1 nv nxs.length (rbs.map sl256) exN/\Gl 1 ov oks.length (zv oks) exO/\rbs.length=nxs.length
def SubQ(l:List Po)(u:Value)(ex:Rws):Prop:=(∃a b,u= .agg ⟨[a,b,tt]⟩/\a.oneCell'=true/\b.oneCell'=true)\/ ∃all nxs oks rbs,RawV ex u nxs oks rbs/\SubI l all nxs oks/\nxs.length=all.length
theorem nrows_snoc{rbs:List Nat}{nxs:List (List Int)}{b:Nat}{r:List Int}(h:rbs.length=nxs.length):nrows (rbs++[b]) (nxs++[r])=nrows rbs nxs++[(b,.row .own 1 (zv r))]:=by
 unfold nrows;rw[List.zip_append h];simp
section
variable {Q:Value->PH->Prop}{n:Nat}{cl:CL}{h h0:PH}{m:OM}{K2:Value->PH->R}{rows rest:Rws}{bx:Nat}{nxs:List (List Int)}{oks:List Int}{rbs:List Nat}
theorem loop34c(hn:4611686018427387904<=n){l:List Po}{a0:Value}{S0:Vw}{bn b1:Nat}{x1 x2 x3:Value}{s:List Spt}{r20:Kt}(hl:l.length<=40)(hp: ∀po∈l,PoB po)(hav:PoL S0 a0 l)(hb1: ∃R1 R2,rest=R1++(b1,.row .own 1 [x1,x2,x3])::R2)
  (hk: ∀S h rows av all nr,Vw.le S0 S->Sl h0 h S OM.emp rows->Sb S rows ((bn,.row .own 1 (zv nr))::rest) bx av all nxs oks rbs->SubI l all nxs oks->all[nxs.length]?=some s->RowI l all s nr 256->Ret (F34_14 n cl (pt bx) (sl256 bn) av (.int .i64 (nxs.length:Nat)) a0 r20 (pt b1) h) Q)
  (hm: ∀h' a b,Sl h0 h' S0 OM.emp []->a.oneCell'=true->b.oneCell'=true->Q (.agg ⟨[a,b,tt]⟩) h'):
  ∀(d q c:Nat)(S:Vw)(h:PH)(rows:Rws)(av:Value)(all:List (List Spt))(nr:List Int),256-c<=d->d<q->c<=256->Vw.le S0 S->Sl h0 h S OM.emp rows->Sb S rows ((bn,.row .own 1 (zv nr))::rest) bx av all nxs oks rbs->SubI l all nxs oks->all[nxs.length]?=some s->RowI l all s nr c->
   Ret (lp q (F34_16 n cl r20) [a0,pt b1,av,pt bx,.int .i64 (nxs.length:Nat),sl256 bn,.int .i64 (c:Nat)] h) Q:=by
 intro d
 induction d with
 |zero=>
  intro q c S h rows av all nr h1 h2 h3 le st sb si hs ri;obtain⟨q,rfl⟩: ∃r,q=r+1:=⟨q-1,by omega⟩;rw[lp_succ];have hc:c=256:=by omega
  subst hc;have dc:decide (((256:Nat):Int)<((256:Nat):Int))=false:=by decide
  simp only[F34_16,F34_15,ucons_cons,vN_eq,xLt_i,dc,vb_some,bite_f];exact hk S h rows av all nr le st sb si hs ri
 |succ d ih=>
  intro q c S h rows av all nr h1 h2 h3 le st sb si hs ri
  by_cases hc:c<256
  ·obtain⟨q,rfl⟩: ∃r,q=r+1:=⟨q-1,by omega⟩;rw[lp_succ];generalize hL:lp q (F34_16 n cl r20)=LL;have dc:decide (((c:Nat):Int)<((256:Nat):Int))=true:=by simp;omega
   have e1:xIdxS 1 (sl256 bn) (.int .i64 (c:Nat))=some (.pointer (some ⟨bn,c,none⟩)):=by
    unfold sl256;rw[xIdxS_at (by omega) (by omega)];simp
   have em:vM 0= .int .i64 (-1):=rfl;simp only[F34_16,F34_15,ucons_cons,vN_eq,xLt_i,dc,vb_some,bite_t,jn_eq,F34_13,e1];rw[em];obtain⟨A,hA,hfr⟩:=sb.frame;rw[hA]at st;refine Ret.lst1M st rfl (by rw[zv_len,ri.1];exact hc) rfl fun h2 st2=>?_;rw[zv_set]at st2;have sb2:=hfr ((bn,.row .own 1 (zv (nr.set c (-1))))::rest);obtain⟨hlen,b2,o2,x,f1,f2,f3⟩:=sb2.get st2 hs;have okh:=st2.ok;have hso:=si.so s (List.mem_of_getElem? hs);have hsl:=bd_len hso.1 fun z hz=>(hso.2 z hz).1;simp only[f1,f2,vb_some,xConvI_i',wr8 hc];have next: ∀(S:Vw)(h:PH)(rows:Rws)(av:Value)(all:List (List Spt))(nr':List Int),Vw.le S0 S->Sl h0 h S OM.emp rows->Sb S rows ((bn,.row .own 1 (zv nr'))::rest) bx av all nxs oks rbs->SubI l all nxs oks->all[nxs.length]?=some s->RowI l all s nr' (c+1)->
     Ret (F34_12 n cl LL [a0,pt b1,av,pt bx,.int .i64 (nxs.length:Nat),sl256 bn,.int .i64 (c:Nat)] h) Q:=by
    intro S h rows av all nr' le st sb si hs ri;simp only[F34_12,F34_1,ucons_cons,vN_eq,xAdd_i,wrapN (show c<4611686018427387904 by omega),vb_some];rw[<-hL];exact ih q (c+1) S h rows av all nr' (by omega) (by omega) (by omega) le st sb si hs ri
   refine Ret.lfcallN (P:=fun u W=> ∃t,SpL W u t/\t.Pairwise lessS/\ ∀z,z∈t↔StepS l c s z) st2 (fun v V W hVW ⟨t,a1,a2⟩=>⟨t,a1.mono hVW,a2⟩) ?_ fun u h3 S3 le3 st3 ⟨t,a1,a2,a3⟩=>?_
   ·refine Ret.mono (c64 (n:=n) (cl:=cl) (h:=h2.fzn) (S0:=S) hn (fun b cs e=>st2.leS b cs e) hl hp (hav.mono le) f3 hc (by omega) fun z hz=>(hso.2 z hz).2) fun u h1 ⟨S',t,q1,q2,q3,q4⟩=>?_;exact⟨S',q1,t,q2,q3,q4⟩
   ·have sb3:=sb2.mono le3;simp only[a1.len,vb_some,xEq_i]
    by_cases ht:t=[]
    ·have dt:decide (((t.length:Nat):Int)=((0:Nat):Int))=true:=by simp[ht]
     simp only[dt,bite_t];refine next S3 h3 _ av all _ (le.trans le3) st3 sb3 si hs ?_;have:=ri.put (a2:=[]) (z:= -1) (by
      rw[List.append_nil];refine .inl ⟨rfl,fun x hx=>?_⟩;have:=(a3 x).2 hx;rw[ht]at this;cases this)
     rwa [List.append_nil]at this
    ·have hpos:0<t.length:=by cases t with|nil=>exact absurd rfl ht|cons a b=>simp
     have dt:decide (((t.length:Nat):Int)=((0:Nat):Int))=false:=by simp;omega
     simp only[dt,bite_f];have hex: ∃x,x∈t:=⟨t[0],List.getElem_mem hpos⟩;have htb: ∀z∈t,BdS z/\ValS l z:=fun z hz=>by
      obtain⟨z0,_,q⟩:=(a3 z).1 hz;exact q.bd hl hp
     have lt0:c<nr.length:=by rw[ri.1];exact hc
     refine loop34k (x1:=x1) (x2:=x2) (x3:=x3) (nr:=nr.set c (-1)) hn a1 hc (by rw[List.length_set];exact ri.1) (List.getElem?_set_self lt0) si.sz hb1 (fun t ht=>?_) ?_ ?_ ?_ all.length n 0 h3 _ (by omega) (by have:=si.sz;omega) (by omega) st3 sb3 (fun j hj=>by omega)
     ·have:=si.so t ht;have:=bd_len this.1 fun z hz=>(this.2 z hz).1;omega
     ·intro h4 rows4 j hj st4 sb4;rw[List.set_set]at sb4;refine next S3 h4 rows4 av all _ (le.trans le3) st4 sb4 si hs ?_;have:=ri.put (a2:=[]) (z:=((j:Nat):Int)) (by rw[List.append_nil];exact .inr ⟨j,t,rfl,hj,hex,a3⟩)
      rwa [List.append_nil]at this
     ·intro h4 rows4 av' h400 hno st4 sb4;rw[List.set_set]at sb4;refine next S3 h4 rows4 av' (all++[t]) _ (le.trans le3) st4 sb4 (si.more ⟨a2,htb⟩ hno h400) (get_app' hs) ?_;refine ri.put (.inr ⟨all.length,t,rfl,?_,hex,a3⟩);rw[List.getElem?_append_right (Nat.le_refl _),Nat.sub_self];rfl
     ·intro h' a b sl ha hb;exact hm h' a b (sl.weakS (le.trans le3)) ha hb
  ·exact ih q c S h rows av all nr (by omega) (by omega) h3 le st sb si hs ri
theorem loop34o(hn:4611686018427387904<=n){l:List Po}{a0:Value}{S0:Vw}{b1:Nat}{x1 x2 x3:Value}(hl:l.length<=40)(hp: ∀po∈l,PoB po)(hav:PoL S0 a0 l):
  ∀(d q:Nat)(S:Vw)(h:PH)(rows:Rws)(av:Value)(all:List (List Spt))(nxs:List (List Int))(oks:List Int)(rbs:List Nat),401-nxs.length<=d->d<q->Vw.le S0 S->Sl h0 h S OM.emp rows->Sb S rows (nrows rbs nxs++[(b1,.row .own 1 [x1,x2,x3])]) bx av all nxs oks rbs->rbs.length=nxs.length->SubI l all nxs oks->
   Ret (lp q (F34_20 n cl) [a0,pt b1,av,pt bx,.int .i64 (nxs.length:Nat)] h) fun v h'=> ∃rows,Sl h0 h' S0 OM.emp rows/\SubQ l v rows:=by
 intro d
 induction d with
 |zero=>
  intro q S h rows av all nxs oks rbs h1 h2 le st sb hrl si;have:=si.nl;have:=si.sz;omega
 |succ d ih=>
  intro q S h rows av all nxs oks rbs h1 h2 le st sb hrl si;obtain⟨q,rfl⟩: ∃r,q=r+1:=⟨q-1,by omega⟩;rw[lp_succ];generalize hL:lp q (F34_20 n cl)=LL;simp only[F34_20,F34_19,ucons_cons,sb.len,vb_some,xLt_i];have hsz:=si.sz
  by_cases hi:nxs.length<all.length
  ·have dc:decide (((nxs.length:Nat):Int)<((all.length:Nat):Int))=true:=by simp;omega
   obtain⟨s,hs⟩: ∃s,all[nxs.length]?=some s:=⟨_,List.getElem?_eq_getElem hi⟩;simp only[dc,bite_t,F34_17,vN_eq];refine Ret.lmk st zi28 (by omega) (by omega) (by omega) (by omega) fun h2 bn st2=>?_;rw[Int.toNat_natCast,zv_zrows]at st2;rw[Int.toNat_natCast];obtain⟨A,hA,hfr⟩:=sb.frame;rw[hA]at st2;have st2:=st2.perm (rows':=A++(bn,.row .own 1 (zv (List.replicate 256 0)))::(nrows rbs nxs++[(b1,.row .own 1 [x1,x2,x3])])) List.perm_middle.symm;refine loop34c (x1:=x1) (x2:=x2) (x3:=x3) (rest:=nrows rbs nxs++[(b1,.row .own 1 [x1,x2,x3])]) hn hl hp hav ⟨nrows rbs nxs,[],rfl⟩ ?_ ?_ 256 n 0 S h2 _ av all (List.replicate 256 0) (by omega) (by omega) (by omega) le st2 (hfr _) si hs ⟨by rw[List.length_replicate],fun c' z h=>by omega⟩
   ·intro S3 h3 rows3 av3 all3 nr3 le3 st3 sb3 si3 hs3 ri3;have sb0:=sb3;obtain⟨nv,ov,exA,exN,exO,cA,hrows,a2,a3,a4,a5⟩:=sb3;rw[hrows]at st3;have ln:xLd (.pointer (some ⟨bx,0,none⟩)) h3=some nv:=st3.ld (.head _) rfl;simp only[F34_14,xFld_p,Nat.zero_add,vb_some,ln];have st3p:=st3.perm (pm2 _ exA exN _);have hnl:=si3.nl;have hsz3:=si3.sz;have hol:=si3.ol;refine Ret.gapp st3p a4 (bs27 (v:=sl256 bn) rfl) ai27 rfl rfl (sz_le (c:=400) (by omega) (by decide)) fun h4 nv' exN' st4 g4=>?_;have st4:=st4.perm (pm2 _ exA exN' _).symm;refine Ret.lst1 st4 0 rfl rfl (by simp) g4.one fun h5 st5=>?_;have st5:Sl h0 h5 S3 OM.emp ((bx,.row .own 1 [nv',ov,.bool false])::(exA++(exN'++(exO++(bn,.row .own 1 (zv nr3))::(nrows rbs nxs++[(b1,.row .own 1 [x1,x2,x3])]))))):=st5;have lo:xLd (.pointer (some ⟨bx,1,none⟩)) h5=some ov:=st5.ld (.head _) rfl;obtain⟨x,q1,q2⟩:=a3 _ _ hs3;obtain⟨b2,o2,f1,f2⟩:=a2.at st5 (fun p hp=>.tail _ (List.mem_append_left _ hp)) q1;have okh:=st5.ok;have hso:=si3.so s (List.mem_of_getElem? hs3);have hsl:=bd_len hso.1 fun z hz=>(hso.2 z hz).1;obtain⟨z,z1,z2⟩:=c66 (n:=n) (cl:=cl) (h:=h5.fzn) (S:=S3) hn (fun b cs e=>st5.leS b cs e) hl hp (hav.mono le3) q2 hso.1 (by omega) fun z hz=>(hso.2 z hz).2;simp only[xFld_p,Nat.zero_add,vb_some,lo,f1,f2,z1,lchk_t a5.veq];have st5p:=st5.perm (pm3 _ exA exN' exO _);refine Ret.gapp st5p a5 bs28 ai28 rfl rfl (sz_le (c:=400) (by omega) (by decide)) fun h6 ov' exO' st6 g6=>?_;have st6:=st6.perm (pm3 _ exA exN' exO' _).symm;refine Ret.lst1 st6 0 rfl rfl (by simp) g6.one fun h7 st7=>?_;have st7:Sl h0 h7 S3 OM.emp ((bx,.row .own 1 [nv',ov',.bool false])::(exA++(exN'++(exO'++(bn,.row .own 1 (zv nr3))::(nrows rbs nxs++[(b1,.row .own 1 [x1,x2,x3])]))))):=st7;simp only[xAdd_i,vN_eq,wrapN (show nxs.length<4611686018427387904 by omega),vb_some];rw[<-hL];have hrow:nrows (rbs++[bn]) (nxs++[nr3])++[(b1,AObj.row .own 1 [x1,x2,x3])]=nrows rbs nxs++(bn,.row .own 1 (zv nr3))::[(b1,.row .own 1 [x1,x2,x3])]:=by
     rw[nrows_snoc hrl,List.append_assoc];rfl
    have st8:=st7.perm (rows':=(bx,.row .own 1 [nv',ov',.bool false])::(exA++(exN'++(exO'++(nrows (rbs++[bn]) (nxs++[nr3])++[(b1,.row .own 1 [x1,x2,x3])]))))) (by
     rw[hrow];exact .cons _ (.append_left _ (.append_left _ (.append_left _ List.perm_middle.symm))))
    have hlast:=ih q S3 h7 _ av3 all3 (nxs++[nr3]) (oks++[z]) (rbs++[bn]) (by rw[List.length_append];show 401-(nxs.length+1)<=d;omega) (by omega) le3 st8 ?_ (by rw[List.length_append,List.length_append,hrl];rfl) (si3.row' hs3 ri3 z2)
    ·rw[List.length_append]at hlast;exact hlast
    ·refine⟨nv',ov',exA,exN',exO',cA,rfl,a2,a3,?_,?_⟩
     ·rw[List.length_append,List.map_append];exact g4
     ·have e:zv (oks++[z])=zv oks++[.int .i64 z]:=by simp[zv]
      rw[List.length_append,e];exact g6
   ·intro h' a b sl ha hb;exact⟨[],sl,.inl ⟨a,b,rfl,ha,hb⟩⟩
  ·have dc:decide (((nxs.length:Nat):Int)<((all.length:Nat):Int))=false:=by simp;omega
   obtain⟨nv,ov,exA,exN,exO,cA,hrows,a2,a3,a4,a5⟩:=sb;rw[hrows]at st;have ld:xLdA 3 (pt bx) h=some (.agg ⟨[nv,ov,.bool false]⟩):=st.ldA (.head _) rfl (by simp);have hone:oneCells [nv,ov,.bool false]=true:=by unfold oneCells;simp[a4.one,a5.one];rfl
   simp only[dc,bite_f,F34_18,ld,vb_some];have st1:Sl h0 h S OM.emp ((b1,.row .own 1 [x1,x2,x3])::(exN++(exO++nrows rbs nxs))):=by
    have hs:(exN++(exO++(nrows rbs nxs++[(b1,AObj.row .own 1 [x1,x2,x3])]))).Sublist ((bx,AObj.row .own 1 [nv,ov,.bool false])::(exA++(exN++(exO++(nrows rbs nxs++[(b1,.row .own 1 [x1,x2,x3])]))))):=.cons _ (List.sublist_append_right _ _);refine(st.drop hs).perm ?_;have:=(pm1 (b1,AObj.row .own 1 [x1,x2,x3]) (exN++(exO++nrows rbs nxs)) []).symm;simpa[List.append_assoc]using this
   refine Ret.lstA st1 0 rfl rfl rfl (by simp) hone fun h2 st2=>?_;rw[setsL_all (by rfl)]at st2;have st2:Sl h0 h2 S OM.emp ((b1,.row .own 1 [nv,ov,.bool false])::(exN++(exO++nrows rbs nxs))):=st2;have ld1:xLdA 3 (pt b1) h2=some (.agg ⟨[nv,ov,.bool false]⟩):=st2.ldA (.head _) rfl (by simp);simp only[ld1,vb_some];have st3:Sl h0 h2 S OM.emp (exN++(exO++nrows rbs nxs)):=st2.drop (List.sublist_cons_self _ _);have hnl:=si.nl;exact Ret.of ⟨_,st3.weakS le,.inr ⟨all,nxs,oks,rbs,⟨nv,ov,exN,exO,rfl,rfl,a4,a5,hrl⟩,si,by omega⟩⟩
theorem c34[OkH h](hn:4611686018427387904<=n){S:Vw}(hS:Vw.le S h.cells){l:List Po}{a0:Value}(hl:l.length<=40)(hp: ∀po∈l,PoB po)(hav:PoL S a0 l):Fr h S (F34 n cl a0 h) (SubQ l):=by
 unfold Fr F34;refine Ret.lalloc (Sl.start h hS) zc73 fun h1 b1 st1=>?_;have st1:Sl h h1 S OM.emp [(b1,.row .own 1 [nils,nils,.bool false])]:=st1;have key: ∀(d q i:Nat)(S':Vw)(h':PH)(fv:Value)(f:List Spt),l.length-i<=d->d<q->i<=l.length->Vw.le S S'->Sl h h' S' OM.emp [(b1,.row .own 1 [nils,nils,.bool false])]->SpL S' fv f->f.Pairwise lessS->(∀x:Spt,x∈f↔x.2= -1/\x.1<i)->
   Ret (lp q (F34_23 n cl) [a0,pt b1,fv,.int .i64 (i:Nat)] h') fun v h'=> ∃rows,Sl h h' S OM.emp rows/\SubQ l v rows:=by
  intro d
  induction d with
  |zero=>
   intro q i S' h' fv f h1 h2 h3 le st hf hso hm;obtain⟨q,rfl⟩: ∃r,q=r+1:=⟨q-1,by omega⟩;rw[lp_succ];have hi:i=l.length:=by omega
   subst hi;have dc:decide (((l.length:Nat):Int)<((l.length:Nat):Int))=false:=by simp
   simp only[F34_23,F34_22,ucons_cons,hav.len,vb_some,xLt_i,dc,bite_f,F34_21];refine Ret.lbs st (bs128 hf.one) fun h2 ba st2=>?_;refine Ret.lalloc st2 zc73 fun h3 bx st3=>?_;have st3:Sl h h3 S' OM.emp ((bx,.row .own 1 [nils,nils,.bool false])::([(ba,.row .own 1 [fv])]++([]++([]++(nrows [] []++[(b1,.row .own 1 [nils,nils,.bool false])]))))):=st3;refine loop34o (x1:=nils) (x2:=nils) (x3:=.bool false) (S0:=S) hn hl hp hav 401 n S' h3 _ _ [f] [] [] [] (by simp) (by omega) le st3 ?_ rfl ?_
   ·refine⟨nils,nils,_,[],[],[fv],rfl,.inr ⟨ba,rfl,rfl,rfl,by simp⟩,fun i t hi=>?_,Gl.nil,Gl.nil⟩;have hi1:=(List.getElem?_eq_some_iff.1 hi).1;have e:i=0:=by simp at hi1;omega
    subst e;have:f=t:=by simpa using hi
    subst this;exact⟨fv,rfl,hf⟩
   ·refine⟨⟨f,rfl,hm⟩,fun t ht=>?_,fun i j t hi hj=>?_,by simp,by simp,rfl,fun i r hr=>by simp at hr,fun i s z hi hz=>by simp at hz⟩
    ·have:t=f:=by simpa using ht
     subst this;refine⟨hso,fun z hz=>?_⟩;obtain⟨q1,q2⟩:=(hm z).1 hz;exact⟨⟨by omega,by omega,by omega⟩,_,List.getElem?_eq_getElem q2,.inl q1⟩
    ·have:=(List.getElem?_eq_some_iff.1 hi).1;have:=(List.getElem?_eq_some_iff.1 hj).1;simp at*;omega
  |succ d ih=>
   intro q i S' h' fv f h1 h2 h3 le st hf hso hm
   by_cases hil:i<l.length
   ·obtain⟨q,rfl⟩: ∃r,q=r+1:=⟨q-1,by omega⟩;rw[lp_succ];generalize hL:lp q (F34_23 n cl)=LL;have dc:decide (((i:Nat):Int)<((l.length:Nat):Int))=true:=by simp;omega
    have em:vM 0= .int .i64 (-1):=rfl;simp only[F34_23,F34_22,ucons_cons,hav.len,vb_some,xLt_i,dc,bite_t,F34_0];rw[em,ab127];simp only[vb_some];have okh:=st.ok;have hfl:=bd_len hso fun z hz=>by
     obtain⟨q1,q2⟩:=(hm z).1 hz;exact(⟨by omega,by omega,by omega⟩:BdS z)
    refine Ret.lfcallN (P:=fun u W=> ∃l',l'.Pairwise lessS/\(∀z,z∈l'↔z∈f\/z=(i, -1))/\(SpL W u l'\/(u=fv/\l'=f))) st (fun v V W hVW ⟨l',a1,a2,a3⟩=>⟨l',a1,a2,a3.imp (fun h=>h.mono hVW) id⟩) ?_ fun u h' S2 le2 st2 ⟨l',a1,a2,a3⟩=>?_
    ·refine Ret.mono (c63 (n:=n) (cl:=cl) (h:=h'.fzn) (x:=(i, -1)) hn (fun b cs e=>st.leS b cs e) hf hso (by omega)) fun u h1 ⟨S',l',q1,q2,q3,q4⟩=>?_;exact⟨S',q1,l',q2,q3,q4⟩
    ·have hu:SpL S2 u l':=by
      rcases a3 with a3|⟨rfl,rfl⟩
      ·exact a3
      ·exact hf.mono le2
     simp only[xAdd_i,vN_eq,wrapN (show i<4611686018427387904 by omega),vb_some];rw[<-hL];refine ih q (i+1) S2 h' u l' (by omega) (by omega) (by omega) (le.trans le2) st2 hu a1 fun x=>?_;rw[a2,hm];constructor
     ·rintro(⟨q1,q2⟩|rfl)
      ·exact⟨q1,by omega⟩
      ·exact⟨rfl,by show i<i+1;omega⟩
     ·rintro⟨q1,q2⟩
      by_cases e:x.1=i
      ·exact .inr (Prod.ext e q1)
      ·exact .inl ⟨q1,by omega⟩
   ·exact ih q i S' h' fv f (by omega) (by omega) h3 le st hf hso hm
 exact key l.length n 0 S h1 nils [] (by omega) (by omega) (by omega) (Vw.le.refl _) st1 (.inl ⟨rfl,rfl⟩) .nil fun x=>⟨(fun h=>by cases h),fun h=>by omega⟩
end
def entZ(nxs:List (List Int))(i c:Nat):Int:=(nxs.getD i []).getD c (-1)
theorem entZ_at{nxs:List (List Int)}{i c:Nat}{r:List Int}{z:Int}(h1:nxs[i]?=some r)(h2:r[c]?=some z):entZ nxs i c=z:=by
 unfold entZ;rw[List.getD_eq_getElem?_getD (l:=nxs),h1]
 show r.getD c (-1)=z
 rw[List.getD_eq_getElem?_getD,h2];rfl
structure NxOk(N:Nat)(nxs:List (List Int)):Prop where
 len:nxs.length=N
 row: ∀(i:Nat) r,nxs[i]?=some r->r.length=256/\ ∀(c:Nat) z,r[c]?=some z->z= -1\/(0<=z/\z<N)
theorem NxOk.get{N:Nat}{nxs:List (List Int)}(h:NxOk N nxs){i c:Nat}(hi:i<N)(hc:c<256): ∃r,nxs[i]?=some r/\r[c]?=some (entZ nxs i c)/\(entZ nxs i c= -1\/(0<=entZ nxs i c/\entZ nxs i c<N)):=by
 have hr:=List.getElem?_eq_getElem (l:=nxs) (i:=i) (by rw[h.len];exact hi);obtain⟨h1,h2⟩:=h.row i _ hr;have hz:=List.getElem?_eq_getElem (l:=nxs[i]'(by rw[h.len];exact hi)) (i:=c) (by omega);have e:=entZ_at hr hz;exact⟨_,hr,by rw[e];exact hz,by rw[e];exact h2 c _ hz⟩
inductive Live(nxs:List (List Int))(oks:List Int):Nat->Prop
 |acc (i:Nat):0<=oks.getD i (-1)->Live nxs oks i
 |step (i c k:Nat):c<256->entZ nxs i c=((k:Nat):Int)->Live nxs oks k->Live nxs oks i
def RwR(V:Vw)(es:List Value)(nxs:List (List Int))(oks:List Int):Prop:= ∃nv ov x vs,es=[nv,ov,x]/\x.oneCell'=true/\SlV V nv vs/\(∀(i:Nat) r,nxs[i]?=some r-> ∃y,vs[i]?=some y/\SlV V y (zv r))/\SlV V ov (zv oks)
theorem bvs_get{l:List Bool}{i:Nat}{b:Bool}(h:l[i]?=some b):(bvs l)[i]?=some (.bool b):=by simp[bvs,h]
theorem bvs_len{l:List Bool}:(bvs l).length=l.length:=by simp[bvs]
theorem bvs_set{l:List Bool}{i:Nat}{b:Bool}:(bvs l).set i (.bool b)=bvs (l.set i b):=by simp[bvs,List.map_set]
theorem bvs_zrows{N:Nat}:zrows [.bool false] N=bvs (List.replicate N false):=by
 induction N with
 |zero=>rfl
 |succ N ih=>
  show [Value.bool false]++zrows [.bool false] N=_
  rw[ih];rfl
theorem cnt_set: ∀{l:List Bool}{i:Nat},l[i]?=some false->(l.set i true).count true=l.count true+1
 | [],i,h=>by simp at h
 |b::l,0,h=>by
  simp at h;subst h;simp
 |b::l,i+1,h=>by
  have:=cnt_set (l:=l) (i:=i) (by simpa using h);simp only[List.set_cons_succ,List.count_cons,this];omega
def Good(nxs:List (List Int))(oks:List Int)(bs:List Bool)(i:Nat):Prop:=0<=oks.getD i (-1)\/ ∃c k:Nat,c<256/\entZ nxs i c=((k:Nat):Int)/\bs[k]?=some true
section
variable {Q:Value->PH->Prop}{n:Nat}{cl:CL}{h h0:PH}{S:Vw}{m:OM}{rows:Rws}{K2:Value->PH->R}
theorem RwR.rd{V:Vw}{nv:Value}{vs:List Value}{nxs:List (List Int)}{N i c:Nat}(st:Sl h0 h S m rows)(le:Vw.le V S)(hok:NxOk N nxs)(h1:SlV V nv vs)(h2: ∀(i:Nat) r,nxs[i]?=some r-> ∃y,vs[i]?=some y/\SlV V y (zv r))(hi:i<N)(hc:c<256):
  ∃b o y b' o',xIdxS 1 nv (.int .i64 (i:Nat))=some (.pointer (some ⟨b,o,none⟩))/\xLd (.pointer (some ⟨b,o,none⟩)) h=some y/\xIdxS 1 y (.int .i64 (c:Nat))=some (.pointer (some ⟨b',o',none⟩))/\xLd (.pointer (some ⟨b',o',none⟩)) h=some (.int .i64 (entZ nxs i c)):=by
 obtain⟨r,q1,q2,_⟩:=hok.get hi hc;obtain⟨y,y1,y2⟩:=h2 i r q1;obtain⟨b,o,cs,e1,e2,e3⟩:=h1.at (k:=.i64) y1;obtain⟨b',o',cs',f1,f2,f3⟩:=y2.at (k:=.i64) (zv_get q2);exact⟨b,o,y,b',o',e1,st.ldS (le _ _ e2) e3,f1,st.ldS (le _ _ f2) f3⟩
theorem loop35c(hn:4611686018427387904<=n){bx bo i N:Nat}{nv ov x:Value}{vs:List Value}{nxs:List (List Int)}{oks:List Int}{bs:List Bool}{mv:Value}{k27:Kt}{h:PH}(hok:NxOk N nxs)(h1:SlV S nv vs)(h2: ∀(i:Nat) r,nxs[i]?=some r-> ∃y,vs[i]?=some y/\SlV S y (zv r))(hi:i<N)(hbl:bs.length=N)(hN:N<=400)
  (st:Sl h0 h S m [(bo,.row .own 1 (bvs bs)),(bx,.row .own 1 [nv,ov,x])]) (hk: ∀ok:Bool,(ok=true↔Good nxs oks bs i)->Ret (F35_3 n cl (.bool ok) (.slice (some ⟨bo,0,none⟩) N N) (.int .i64 (i:Nat)) k27 (pt bx) mv h) Q):
  ∀(d q c:Nat)(ok:Bool),256-c<=d->d<q->c<=256->(ok=true->Good nxs oks bs i)->(ok=false->oks.getD i (-1)<0/\ ∀c' k:Nat,c'<c->entZ nxs i c'=((k:Nat):Int)->bs[k]?≠some true)->
   Ret (lp q (F35_5 n cl k27) [pt bx,.slice (some ⟨bo,0,none⟩) N N,mv,.int .i64 (i:Nat),.bool ok,.int .i64 (c:Nat)] h) Q:=by
 have fin: ∀c ok,c=256\/ok=true->(ok=true->Good nxs oks bs i)->(ok=false->oks.getD i (-1)<0/\ ∀c' k:Nat,c'<c->entZ nxs i c'=((k:Nat):Int)->bs[k]?≠some true)->Ret (F35_3 n cl (.bool ok) (.slice (some ⟨bo,0,none⟩) N N) (.int .i64 (i:Nat)) k27 (pt bx) mv h) Q:=by
  intro c ok hc a1 a2;refine hk ok ⟨a1,fun g=>?_⟩;cases ok with
  |true=>rfl
  |false=>
   rcases hc with rfl|hc
   ·obtain⟨b1,b2⟩:=a2 rfl;rcases g with g|⟨c',k,g1,g2,g3⟩
    ·omega
    ·exact absurd g3 (b2 c' k g1 g2)
   ·cases hc
 intro d
 induction d with
 |zero=>
  intro q c ok h3 h4 h5 a1 a2;obtain⟨q,rfl⟩: ∃r,q=r+1:=⟨q-1,by omega⟩;rw[lp_succ];have hc:c=256:=by omega
  subst hc;have dc:decide (((256:Nat):Int)<((256:Nat):Int))=false:=by decide
  simp only[F35_5,F35_4,ucons_cons,vN_eq,xLt_i,dc,vb_some,isB_t,gd_false,xPick_f,bite_f];exact fin 256 ok (.inl rfl) a1 a2
 |succ d ih=>
  intro q c ok h3 h4 h5 a1 a2
  by_cases hc:c<256
  ·obtain⟨q,rfl⟩: ∃r,q=r+1:=⟨q-1,by omega⟩;rw[lp_succ];generalize hL:lp q (F35_5 n cl k27)=LL;have dc:decide (((c:Nat):Int)<((256:Nat):Int))=true:=by simp;omega
   simp only[F35_5,F35_4,ucons_cons,vN_eq,xLt_i,dc,vb_some,isB_t,gd_true,xNot_b,xPick_t];cases ok with
   |true=>
    simp only[Bool.not_true,bite_f];exact fin c true (.inr rfl) a1 a2
   |false=>
    obtain⟨b1,b2⟩:=a2 rfl;obtain⟨p1,o1,y,p2,o2,e1,e2,e3,e4⟩:=RwR.rd st (Vw.le.refl _) hok h1 h2 hi hc;have l0:xLd (.pointer (some ⟨bx,0,none⟩)) h=some nv:=st.ld (.tail _ (.head _)) rfl;have hz:=(hok.get hi hc).choose_spec.2.2;simp only[Bool.not_false,bite_t,F35_1,xFld_p,Nat.zero_add,vb_some,l0,e1,e2,e3,e4,vN_eq,xGe_i];generalize hZ:entZ nxs i c=z at hz e4 ⊢;have step: ∀ok':Bool,(ok'=true->Good nxs oks bs i)->(ok'=false-> ∀k:Nat,z=((k:Nat):Int)->bs[k]?≠some true)->Ret (LL [pt bx,.slice (some ⟨bo,0,none⟩) N N,mv,.int .i64 (i:Nat),.bool ok',.int .i64 ((c+1:Nat):Int)] h) Q:=by
     intro ok' g1 g2;rw[<-hL];refine ih q (c+1) ok' (by omega) (by omega) (by omega) g1 fun e=>⟨b1,fun c' k hc' hk'=>?_⟩
     by_cases ec:c'=c
     ·subst ec;exact g2 e k (by rw[<-hZ];exact hk')
     ·exact b2 c' k (by omega) hk'
    rcases hz with rfl|⟨hz1,hz2⟩
    ·have d1:decide (((0:Nat):Int)<=(-1:Int))=false:=by decide
     have hff:ff= .bool false:=rfl;simp only[d1,isB_t,gd_false,vb_some,xPick_f,xAdd_i,wrapN (show c<4611686018427387904 by omega)];exact step false (fun h=>by cases h) (fun _ k hk=>by omega)
    ·obtain⟨k,rfl⟩: ∃k:Nat,z=k:=⟨z.toNat,by omega⟩;have d1:decide (((0:Nat):Int)<=((k:Nat):Int))=true:=by simp
     have hb:=List.getElem?_eq_getElem (l:=bs) (i:=k) (by omega);generalize bs[k]'(by omega)=b at hb;have e5:xIdxS 1 (.slice (some ⟨bo,0,none⟩) N N) (.int .i64 (k:Nat))=some (.pointer (some ⟨bo,k,none⟩)):=by
      rw[xIdxS_at (by omega) (by omega)];simp
     have l5:xLd (.pointer (some ⟨bo,k,none⟩)) h=some (.bool b):=st.ld (.head _) (bvs_get hb);simp only[d1,isB_t,gd_true,vb_some,xFld_p,Nat.zero_add,l0,e1,e2,e3,e4,e5,l5,xPick_t,xAdd_i,wrapN (show c<4611686018427387904 by omega)];refine step b (fun h=>?_) (fun h k' hk' hb'=>?_)
     ·subst h;exact .inr ⟨c,k,hc,hZ,hb⟩
     ·have:k=k':=by omega
      subst this;rw[hb,h]at hb';cases hb'
  ·exact ih q c ok (by omega) (by omega) h5 a1 a2
theorem c35[OkH h](hn:4611686018427387904<=n)(hS:Vw.le S h.cells){es:List Value}{nxs:List (List Int)}{oks:List Int}{N:Nat}(hr:RwR S es nxs oks)(hok:NxOk N nxs)(hol:oks.length=N)(hN:N<=400):
  Fr h S (F35 n cl (.agg ⟨es⟩) h) fun u ex=> ∃bo bs,u= .slice (some ⟨bo,0,none⟩) N N/\ex=[(bo,.row .own 1 (bvs bs))]/\bs.length=N/\ ∀i,i<N->(bs[i]?=some true↔Live nxs oks i):=by
 obtain⟨nv,ov,x,vs,rfl,hx,r1,r2,r3⟩:=hr;unfold Fr F35;refine Ret.lbox (Sl.start h hS) fun h1 bx st1=>?_;have st1:Sl h h1 S OM.emp [(bx,.row .own 1 [nv,ov,x])]:=st1;have l1:xLd (.pointer (some ⟨bx,1,none⟩)) h1=some ov:=st1.ld (.head _) rfl;have hlen:=r3.len;rw[zv_len,hol]at hlen;simp only[xFld_p,Nat.zero_add,vb_some,l1,hlen];refine Ret.lmk st1 zi49 (by omega) (by omega) (by omega) (by omega) fun h2 bo st2=>?_;rw[Int.toNat_natCast,bvs_zrows]at st2;rw[Int.toNat_natCast];have htt:tt= .bool true:=rfl;have hff:ff= .bool false:=rfl;have key: ∀(d q:Nat)(bs:List Bool)(more:Bool)(h2:PH),N+1-bs.count true<=d->d+1<q->bs.length=N->Sl h h2 S OM.emp [(bo,.row .own 1 (bvs bs)),(bx,.row .own 1 [nv,ov,x])]->(∀j,bs[j]?=some true->Live nxs oks j)->(more=false-> ∀j,j<N->Good nxs oks bs j->bs[j]?=some true)->
   Ret (lp q (F35_10 n cl) [pt bx,.slice (some ⟨bo,0,none⟩) N N,.bool more] h2) fun v h1=> ∃rows,Sl h h1 S OM.emp rows/\ ∃bo bs,v= .slice (some ⟨bo,0,none⟩) N N/\rows=[(bo,.row .own 1 (bvs bs))]/\bs.length=N/\ ∀i,i<N->(bs[i]?=some true↔Live nxs oks i):=by
  have done: ∀(q:Nat)(bs:List Bool)(h2:PH),0<q->bs.length=N->Sl h h2 S OM.emp [(bo,.row .own 1 (bvs bs)),(bx,.row .own 1 [nv,ov,x])]->(∀j,bs[j]?=some true->Live nxs oks j)->(∀j,j<N->Good nxs oks bs j->bs[j]?=some true)->
    Ret (lp q (F35_10 n cl) [pt bx,.slice (some ⟨bo,0,none⟩) N N,.bool false] h2) fun v h1=> ∃rows,Sl h h1 S OM.emp rows/\ ∃bo bs,v= .slice (some ⟨bo,0,none⟩) N N/\rows=[(bo,.row .own 1 (bvs bs))]/\bs.length=N/\ ∀i,i<N->(bs[i]?=some true↔Live nxs oks i):=by
   intro q bs h2 hq hbl st hs hc;obtain⟨q,rfl⟩: ∃r,q=r+1:=⟨q-1,by omega⟩;rw[lp_succ];simp only[F35_10,ucons_cons,bite_f];refine Ret.of ⟨_,st.drop (.cons_cons _ (List.nil_sublist _)),bo,bs,rfl,rfl,hbl,fun i hi=>⟨hs i,fun hl=>?_⟩⟩
   induction hl with
   |acc i h=>exact hc i hi (.inl h)
   |step i c k h1 h2 h3 ih=>
    have hk:k<N:=by
     rcases(hok.get hi h1).choose_spec.2.2 with h|h
     ·omega
     ·omega
    exact hc i hi (.inr ⟨c,k,h1,h2,ih hk⟩)
  intro d
  induction d with
  |zero=>
   intro q bs more h2 h3 h4 hbl st hs hc;have:=List.count_le_length (a:=true) (l:=bs);omega
  |succ d ih=>
   intro q bs more h2 h3 h4 hbl st hs hc;cases more with
   |false=>exact done q bs h2 (by omega) hbl st hs (hc rfl)
   |true=>
    obtain⟨q,rfl⟩: ∃r,q=r+1:=⟨q-1,by omega⟩;rw[lp_succ];generalize hL:lp q (F35_10 n cl)=LL;simp only[F35_10,ucons_cons,bite_t,hff,vN_eq];have inner: ∀(d2 q2 i:Nat)(bs2:List Bool)(more2:Bool)(h3:PH),N-i<=d2->d2<q2->i<=N->bs2.length=N->Sl h h3 S OM.emp [(bo,.row .own 1 (bvs bs2)),(bx,.row .own 1 [nv,ov,x])]->(∀j,bs2[j]?=some true->Live nxs oks j)->(more2=false->bs2=bs/\ ∀j,j<i->Good nxs oks bs2 j->bs2[j]?=some true)->(more2=true->bs.count true<bs2.count true)->
      Ret (lp q2 (F35_9 n cl LL) [pt bx,.slice (some ⟨bo,0,none⟩) N N,.bool more2,.int .i64 (i:Nat)] h3) fun v h1=> ∃rows,Sl h h1 S OM.emp rows/\ ∃bo bs,v= .slice (some ⟨bo,0,none⟩) N N/\rows=[(bo,.row .own 1 (bvs bs))]/\bs.length=N/\ ∀i,i<N->(bs[i]?=some true↔Live nxs oks i):=by
     intro d2
     induction d2 with
     |zero=>
      intro q2 i bs2 more2 h3' g1 g2 g3 g4 st3 g5 g6 g7;obtain⟨q2,rfl⟩: ∃r,q2=r+1:=⟨q2-1,by omega⟩;rw[lp_succ];have hi:i=N:=by omega
      subst hi;have hlen2:xLenS (.slice (some ⟨bo,0,none⟩) i i)=some (.int .i64 ((i:Nat):Int)):=by simp
      have dc:decide (((i:Nat):Int)<((i:Nat):Int))=false:=by simp
      simp only[F35_9,F35_8,ucons_cons,hlen2,vb_some,xLt_i,dc,bite_f];rw[<-hL];cases more2 with
      |false=>
       exact done q bs2 h3' (by omega) g4 st3 g5 (g6 rfl).2
      |true=>
       have:=g7 rfl;exact ih q bs2 true h3' (by omega) (by omega) g4 st3 g5 (fun h=>by cases h)
     |succ d2 ih2=>
      intro q2 i bs2 more2 h3' g1 g2 g3 g4 st3 g5 g6 g7
      by_cases hi:i<N
      ·obtain⟨q2,rfl⟩: ∃r,q2=r+1:=⟨q2-1,by omega⟩;rw[lp_succ];generalize hL2:lp q2 (F35_9 n cl LL)=LL2;have hlen2:xLenS (.slice (some ⟨bo,0,none⟩) N N)=some (.int .i64 ((N:Nat):Int)):=by simp
       have dc:decide (((i:Nat):Int)<((N:Nat):Int))=true:=by simp;omega
       have l1:xLd (.pointer (some ⟨bx,1,none⟩)) h3'=some ov:=st3.ld (.tail _ (.head _)) rfl;have ho:=List.getElem?_eq_getElem (l:=oks) (i:=i) (by omega);have hD:oks.getD i (-1)=oks[i]'(by omega):=by rw[List.getD_eq_getElem?_getD,ho];rfl
       generalize oks[i]'(by omega)=a at ho hD;obtain⟨b1,o1,cs1,e1,e2,e3⟩:=r3.at (k:=.i64) (zv_get ho);have l2:=st3.ldS e2 e3;simp only[F35_9,F35_8,ucons_cons,hlen2,vb_some,xLt_i,dc,bite_t,jn_eq,F35_7,xFld_p,Nat.zero_add,l1,e1,l2,vN_eq,xGe_i];have e5:xIdxS 1 (.slice (some ⟨bo,0,none⟩) N N) (.int .i64 (i:Nat))=some (.pointer (some ⟨bo,i,none⟩)):=by
        rw[xIdxS_at (by omega) (by omega)];simp
       have hb:=List.getElem?_eq_getElem (l:=bs2) (i:=i) (by omega);generalize bs2[i]'(by omega)=b at hb;have l5:xLd (.pointer (some ⟨bo,i,none⟩)) h3'=some (.bool b):=st3.ld (.head _) (bvs_get hb);have nx: ∀(bs3:List Bool)(more3:Bool)(h4:PH),bs3.length=N->Sl h h4 S OM.emp [(bo,.row .own 1 (bvs bs3)),(bx,.row .own 1 [nv,ov,x])]->(∀j,bs3[j]?=some true->Live nxs oks j)->(more3=false->bs3=bs/\ ∀j,j<i+1->Good nxs oks bs3 j->bs3[j]?=some true)->(more3=true->bs.count true<bs3.count true)->
         Ret (F35_6 n cl LL2 [pt bx,.slice (some ⟨bo,0,none⟩) N N,.bool more3,.int .i64 (i:Nat)] h4) fun v h1=> ∃rows,Sl h h1 S OM.emp rows/\ ∃bo bs,v= .slice (some ⟨bo,0,none⟩) N N/\rows=[(bo,.row .own 1 (bvs bs))]/\bs.length=N/\ ∀i,i<N->(bs[i]?=some true↔Live nxs oks i):=by
        intro bs3 more3 h4 a1 a2 a3 a4 a5;simp only[F35_6,F35_0,ucons_cons,vN_eq,xAdd_i,wrapN (show i<4611686018427387904 by omega),vb_some];rw[<-hL2];exact ih2 q2 (i+1) bs3 more3 h4 (by omega) (by omega) (by omega) a1 a2 a3 a4 a5
       refine loop35c (oks:=oks) (N:=N) (bs:=bs2) hn hok r1 r2 hi g4 hN st3 (fun ok hgood=>?_) 256 n 0 (decide (((0:Nat):Int)<=a)) (by omega) (by omega) (by omega) (fun h=>.inl ?_) (fun h=>⟨?_,fun c' k hc'=>by omega⟩)
       ·cases ok with
        |false=>
         simp only[F35_3,isB_t,gd_false,vb_some,xPick_f,bite_f];refine nx bs2 more2 h3' g4 st3 g5 (fun e=>⟨(g6 e).1,fun j hj hg=>?_⟩) g7
         by_cases ej:j=i
         ·subst ej;have:=hgood.2 hg;cases this
         ·exact(g6 e).2 j (by omega) hg
        |true=>
         have hg:=hgood.1 rfl;simp only[F35_3,isB_t,gd_true,vb_some,e5,l5,xNot_b,xPick_t];cases b with
         |true=>
          simp only[Bool.not_true,bite_f];refine nx bs2 more2 h3' g4 st3 g5 (fun e=>⟨(g6 e).1,fun j hj hg=>?_⟩) g7
          by_cases ej:j=i
          ·subst ej;exact hb
          ·exact(g6 e).2 j (by omega) hg
         |false=>
          simp only[Bool.not_false,bite_t,F35_2,e5,vb_some];refine Ret.lst1 st3 0 rfl rfl (by rw[bvs_len];omega) (by rfl) fun h4 st4=>?_;rw[htt,bvs_set]at st4;rw[htt];have st4:Sl h h4 S OM.emp [(bo,.row .own 1 (bvs (bs2.set i true))),(bx,.row .own 1 [nv,ov,x])]:=st4;have hcs:=cnt_set hb;refine nx (bs2.set i true) true h4 (by rw[List.length_set];exact g4) st4 (fun j hj=>?_) (fun e=>by cases e) (fun _=>?_)
          ·by_cases ej:j=i
           ·subst ej;rcases hg with hg|⟨c,k,q1,q2,q3⟩
            ·exact .acc j hg
            ·exact .step j c k q1 q2 (g5 k q3)
           ·rw[List.getElem?_set_ne (Ne.symm ej)]at hj;exact g5 j hj
          ·cases more2 with
           |true=>have:=g7 rfl;omega
           |false=>rw[(g6 rfl).1]at hcs ⊢;omega
       ·rw[hD];simpa using h
       ·rw[hD];have h: ¬(((0:Nat):Int)<=a):=by simpa using h
        omega
      ·exact ih2 q2 i bs2 more2 h3' (by omega) (by omega) g3 g4 st3 g5 g6 g7
    exact inner N n 0 bs false h2 (by omega) (by omega) (by omega) hbl st hs (fun _=>⟨rfl,fun j hj=>by omega⟩) (fun h=>by cases h)
 rw[htt];refine key (N+1) n (List.replicate N false) true h2 (by omega) (by omega) (by rw[List.length_replicate]) st2 (fun j hj=>?_) (fun h=>by cases h);rw[List.getElem?_replicate]at hj
 split at hj<;>cases hj
end
section
open Classical in
noncomputable def npt(E:Nat->Nat->Prop):Nat->Nat
 |0=>0
 |N+1=>npt E N+(if∀k,k<N-> ¬ E N k then 1 else 0)
theorem npt_succ{E:Nat->Nat->Prop}{N:Nat}:((∀k,k<N-> ¬ E N k)->npt E (N+1)=npt E N+1)/\(¬(∀k,k<N-> ¬ E N k)->npt E (N+1)=npt E N):=by
 constructor
 ·intro h;unfold npt;rw[if_pos h];cases N<;>rfl
 ·intro h;unfold npt;rw[if_neg h];cases N<;>rfl
theorem npt_le{E:Nat->Nat->Prop}: ∀{N:Nat},npt E N<=N
 |0=>Nat.le_refl _
 |N+1=>by
  have:=npt_le (E:=E) (N:=N)
  by_cases c: ∀k,k<N-> ¬ E N k
  ·have:=npt_succ.1 c;omega
  ·have:=npt_succ.2 c;omega
theorem npt_mono{E E':Nat->Nat->Prop}{N:Nat}(h: ∀i k,i<N->k<i->E' i k->E i k):npt E N<=npt E' N/\(npt E N=npt E' N-> ∀i,i<N->(∀k,k<i-> ¬ E' i k)-> ∀k,k<i-> ¬ E i k):=by
 induction N with
 |zero=>exact⟨Nat.le_refl _,fun _ i hi=>by omega⟩
 |succ N ih=>
  obtain⟨h1,h2⟩:=ih fun i k hi=>h i k (by omega)
  by_cases c: ∀k,k<N-> ¬ E N k
  ·have c': ∀k,k<N-> ¬ E' N k:=fun k hk he=>c k hk (h N k (by omega) hk he);have e1:=npt_succ.1 c;have e2:=npt_succ.1 c';refine⟨by omega,fun he i hi hf=>?_⟩
   by_cases ei:i=N
   ·subst ei;exact c
   ·exact h2 (by omega) i (by omega) hf
  ·have e1:=npt_succ.2 c
   by_cases c': ∀k,k<N-> ¬ E' N k
   ·have e2:=npt_succ.1 c';exact⟨by omega,fun he=>by omega⟩
   ·have e2:=npt_succ.2 c';refine⟨by omega,fun he i hi hf=>?_⟩
    by_cases ei:i=N
    ·subst ei;exact absurd hf c'
    ·exact h2 (by omega) i (by omega) hf
theorem fst_rep{E:Nat->Nat->Prop}(tr: ∀a b c,E a b->E b c->E a c)(rf: ∀a,E a a): ∀i:Nat, ∃j,j<=i/\E i j/\ ∀k,k<j-> ¬ E j k:=by
 intro i
 induction i using Nat.strongRecOn with
 |_ i ih=>
  by_cases c: ∀k,k<i-> ¬ E i k
  ·exact⟨i,Nat.le_refl _,rf i,c⟩
  ·obtain⟨k,hk⟩:=Classical.not_forall.1 c;obtain⟨hk1,hk2⟩:=Classical.not_imp.1 hk;have hk2:=Classical.not_not.1 hk2;obtain⟨j,h1,h2,h3⟩:=ih k hk1;exact⟨j,by omega,tr _ _ _ hk2 h2,h3⟩
theorem npt_same{E E':Nat->Nat->Prop}{N:Nat}(tr: ∀a b c,E a b->E b c->E a c)(sy: ∀a b,E a b->E b a)(tr': ∀a b c,E' a b->E' b c->E' a c)(sy': ∀a b,E' a b->E' b a)(rf': ∀a,E' a a)(h: ∀i k,i<N->k<N->E' i k->E i k)(he:npt E N=npt E' N){i k:Nat}(hi:i<N)(hk:k<N)(hE:E i k):E' i k:=by
 have hs:=(npt_mono (E:=E) (E':=E') (N:=N) fun i k hi hk=>h i k hi (by omega)).2 he;obtain⟨a,a1,a2,a3⟩:=fst_rep tr' rf' i;obtain⟨b,b1,b2,b3⟩:=fst_rep tr' rf' k;have ea:=hs a (by omega) a3;have eb:=hs b (by omega) b3;have hab:E a b:=tr _ _ _ (sy _ _ (h i a hi (by omega) a2)) (tr _ _ _ hE (h k b hk (by omega) b2));have:a=b:=by
  rcases Nat.lt_trichotomy a b with c|c|c
  ·exact absurd (sy _ _ hab) (eb a c)
  ·exact c
  ·exact absurd hab (ea b c)
 subst this;exact tr' _ _ _ a2 (sy' _ _ b2)
end
def EqC(cls:List Int)(i k:Nat):Prop:=cls.getD i 0=cls.getD k 0
def AlkC(nxs:List (List Int))(cls:List Int)(i k:Nat):Prop:=cls.getD i 0=cls.getD k 0/\ ∀c,c<256->(entZ nxs i c<0↔entZ nxs k c<0)/\(0<=entZ nxs i c->cls.getD (entZ nxs i c).toNat 0=cls.getD (entZ nxs k c).toNat 0)
theorem AlkC.refl{nxs:List (List Int)}{cls:List Int}(i:Nat):AlkC nxs cls i i:=⟨rfl,fun _ _=>⟨Iff.rfl,fun _=>rfl⟩⟩
theorem AlkC.symm{nxs:List (List Int)}{cls:List Int}{i k:Nat}(h:AlkC nxs cls i k):AlkC nxs cls k i:=⟨h.1.symm,fun c hc=>⟨(h.2 c hc).1.symm,fun hz=>((h.2 c hc).2 (by have:=(h.2 c hc).1;omega)).symm⟩⟩
theorem AlkC.trans{nxs:List (List Int)}{cls:List Int}{i j k:Nat}(h:AlkC nxs cls i j)(g:AlkC nxs cls j k):AlkC nxs cls i k:=⟨h.1.trans g.1,fun c hc=>⟨(h.2 c hc).1.trans (g.2 c hc).1,fun hz=>((h.2 c hc).2 hz).trans ((g.2 c hc).2 (by have:=(h.2 c hc).1;omega))⟩⟩
section
variable {Q:Value->PH->Prop}{n:Nat}{cl:CL}{h h0:PH}{S:Vw}{m:OM}{rows:Rws}{K2:Value->PH->R}
theorem c67[OkH h](hn:4611686018427387904<=n)(hS:Vw.le S h.cells){es:List Value}{nxs:List (List Int)}{oks cls:List Int}{cv:Value}{N i k:Nat}(hr:RwR S es nxs oks)(hok:NxOk N nxs)(hcv:SlV S cv (zv cls))(hcl:cls.length=N)(hi:i<N)(hk:k<N):
  ∃b:Bool,pcall (F67 n cl (.agg ⟨es⟩) cv (.int .i64 (i:Nat)) (.int .i64 (k:Nat)) h)=some (.bool b)/\(b=true↔AlkC nxs cls i k):=by
 obtain⟨nv,ov,x,vs,rfl,hx,r1,r2,r3⟩:=hr;have htt:tt= .bool true:=rfl;have hff:ff= .bool false:=rfl;have key:Ret (F67 n cl (.agg ⟨[nv,ov,x]⟩) cv (.int .i64 (i:Nat)) (.int .i64 (k:Nat)) h) fun v _=> ∃b:Bool,v= .bool b/\(b=true↔AlkC nxs cls i k):=by
  unfold F67;refine Ret.lbox (Sl.start h hS) fun h1 bx st=>?_;have st:Sl h h1 S OM.emp [(bx,.row .own 1 [nv,ov,x])]:=st;have l0:xLd (.pointer (some ⟨bx,0,none⟩)) h1=some nv:=st.ld (.head _) rfl;have cat: ∀j,j<N-> ∃b o,xIdxS 1 cv (.int .i64 (j:Nat))=some (.pointer (some ⟨b,o,none⟩))/\xLd (.pointer (some ⟨b,o,none⟩)) h1=some (.int .i64 (cls.getD j 0)):=by
   intro j hj;have hc:=List.getElem?_eq_getElem (l:=cls) (i:=j) (by omega);have hD:cls.getD j 0=cls[j]'(by omega):=by rw[List.getD_eq_getElem?_getD,hc];rfl
   obtain⟨b1,o1,cs1,e1,e2,e3⟩:=hcv.at (k:=.i64) (zv_get hc);exact⟨b1,o1,e1,by rw[hD];exact st.ldS e2 e3⟩
  obtain⟨b1,o1,e1,e2⟩:=cat i hi;obtain⟨b2,o2,f1,f2⟩:=cat k hk;simp only[e1,e2,f1,f2,vb_some,xNe_i]
  by_cases hik:cls.getD i 0=cls.getD k 0
  ·have dk:decide (cls.getD i 0=cls.getD k 0)=true:=decide_eq_true hik;simp only[dk,Bool.not_true,bite_f,vN_eq];have key: ∀(d q c:Nat),256-c<=d->d<q->c<=256->(∀c',c'<c->(entZ nxs i c'<0↔entZ nxs k c'<0)/\(0<=entZ nxs i c'->cls.getD (entZ nxs i c').toNat 0=cls.getD (entZ nxs k c').toNat 0))->
     Ret (lp q (F67_3 n cl) [cv,.int .i64 (i:Nat),.int .i64 (k:Nat),pt bx,.int .i64 (c:Nat)] h1) fun v _=> ∃b:Bool,v= .bool b/\(b=true↔AlkC nxs cls i k):=by
    intro d
    induction d with
    |zero=>
     intro q c g1 g2 g3 g4;obtain⟨q,rfl⟩: ∃r,q=r+1:=⟨q-1,by omega⟩;rw[lp_succ];have hc:c=256:=by omega
     subst hc;have dc:decide (((256:Nat):Int)<((256:Nat):Int))=false:=by decide
     simp only[F67_3,F67_2,ucons_cons,vN_eq,xLt_i,dc,vb_some,bite_f];exact Ret.of ⟨true,rfl,fun _=>⟨hik,g4⟩,fun _=>rfl⟩
    |succ d ih=>
     intro q c g1 g2 g3 g4
     by_cases hc:c<256
     ·obtain⟨q,rfl⟩: ∃r,q=r+1:=⟨q-1,by omega⟩;rw[lp_succ];generalize hL:lp q (F67_3 n cl)=LL;have dc:decide (((c:Nat):Int)<((256:Nat):Int))=true:=by simp;omega
      obtain⟨p1,o1,y,p2,o2,a1,a2,a3,a4⟩:=RwR.rd st (Vw.le.refl _) hok r1 r2 hi hc;obtain⟨p3,o3,y',p4,o4,b1,b2,b3,b4⟩:=RwR.rd st (Vw.le.refl _) hok r1 r2 hk hc;have hz:=(hok.get hi hc).choose_spec.2.2;have hw:=(hok.get hk hc).choose_spec.2.2;simp only[F67_3,F67_2,ucons_cons,vN_eq,xLt_i,dc,vb_some,bite_t,F67_1,xFld_p,Nat.zero_add,l0,a1,a2,a3,a4,b1,b2,b3,b4,neqB];have no: ¬((entZ nxs i c<0↔entZ nxs k c<0)/\(0<=entZ nxs i c->cls.getD (entZ nxs i c).toNat 0=cls.getD (entZ nxs k c).toNat 0))->Ret (some (ff,h1)) fun v _=> ∃b:Bool,v= .bool b/\(b=true↔AlkC nxs cls i k):=fun hno=>
       Ret.of ⟨false,rfl,(fun h=>by cases h),fun h=>absurd (h.2 c hc) hno⟩
      have yes:((entZ nxs i c<0↔entZ nxs k c<0)/\(0<=entZ nxs i c->cls.getD (entZ nxs i c).toNat 0=cls.getD (entZ nxs k c).toNat 0))->Ret (F67_0 n cl (.int .i64 (c:Nat)) LL cv (.int .i64 (i:Nat)) (.int .i64 (k:Nat)) (pt bx) h1) fun v _=> ∃b:Bool,v= .bool b/\(b=true↔AlkC nxs cls i k):=fun hy=>by
       simp only[F67_0,vN_eq,xAdd_i,wrapN (show c<4611686018427387904 by omega),vb_some];rw[<-hL];refine ih q (c+1) (by omega) (by omega) (by omega) fun c' hc'=>?_
       by_cases e:c'=c
       ·subst e;exact hy
       ·exact g4 c' (by omega)
      generalize entZ nxs i c=z at hz no yes ⊢;generalize entZ nxs k c=w at hw no yes ⊢;have hz0:((0:Nat):Int)=0:=rfl;rcases hz with rfl|⟨hz1,hz2⟩<;>rcases hw with rfl|⟨hw1,hw2⟩
      ·have d1:decide ((-1:Int)<((0:Nat):Int))=true:=by decide
       have d2:decide (((0:Nat):Int)<=(-1:Int))=false:=by decide
       simp only[d1,BEq.rfl,Bool.not_true,isB_f,Bool.not_false,gd_true,vb_some,xGe_i,d2,isB_t,gd_false,xPick_f,bite_f];exact yes ⟨Iff.rfl,fun h=>by omega⟩
      ·have d1:decide ((-1:Int)<((0:Nat):Int))=true:=by decide
       have d2:decide (w<((0:Nat):Int))=false:=by simp;omega
       simp only[d1,d2,show(true==false)=false from rfl,Bool.not_false,Bool.not_true,isB_f,gd_false,vb_some,isB_u,xPick_t,bite_t];exact no fun h=>by have:=h.1.1 (by omega);omega
      ·have d1:decide ((-1:Int)<((0:Nat):Int))=true:=by decide
       have d2:decide (z<((0:Nat):Int))=false:=by simp;omega
       simp only[d1,d2,show(false==true)=false from rfl,Bool.not_false,Bool.not_true,isB_f,gd_false,vb_some,isB_u,xPick_t,bite_t];exact no fun h=>by have:=h.1.2 (by omega);omega
      ·obtain⟨z,rfl⟩: ∃t:Nat,z=t:=⟨z.toNat,by omega⟩;obtain⟨w,rfl⟩: ∃t:Nat,w=t:=⟨w.toNat,by omega⟩;have d1:decide (((z:Nat):Int)<((0:Nat):Int))=false:=by simp
       have d2:decide (((w:Nat):Int)<((0:Nat):Int))=false:=by simp
       have d3:decide (((0:Nat):Int)<=((z:Nat):Int))=true:=by simp
       obtain⟨b5,o5,e5,e6⟩:=cat z (by omega);obtain⟨b6,o6,f5,f6⟩:=cat w (by omega);simp only[d1,d2,BEq.rfl,Bool.not_true,isB_f,Bool.not_false,gd_true,vb_some,xGe_i,d3,isB_t,e5,e6,f5,f6,xNe_i,xPick_t,xPick_f]
       by_cases he:cls.getD z 0=cls.getD w 0
       ·have de:decide (cls.getD z 0=cls.getD w 0)=true:=decide_eq_true he;simp only[de,Bool.not_true,bite_f];exact yes ⟨by constructor<;>intro h<;>omega,fun _=>he⟩
       ·have de:decide (cls.getD z 0=cls.getD w 0)=false:=decide_eq_false he;simp only[de,Bool.not_false,bite_t];exact no fun h=>he (h.2 (by omega))
     ·exact ih q c (by omega) (by omega) g3 g4
   exact key 256 n 0 (by omega) (by omega) (by omega) fun c' h=>by omega
  ·have dk:decide (cls.getD i 0=cls.getD k 0)=false:=decide_eq_false hik;simp only[dk,Bool.not_false,bite_t];exact Ret.of ⟨false,rfl,(fun h=>by cases h),fun h=>absurd h.1 hik⟩
 obtain⟨v,h1,e,b,rfl,hb⟩:=key;exact⟨b,by rw[e];exact pcall_some rfl,hb⟩
theorem c68[OkH h](hn:4611686018427387904<=n)(hS:Vw.le S h.cells){b N:Nat}{l:List Int}(hb:S b=some (zv l))(hl:l.length=N)(hN:N<=400):pcall (F68 n cl (.slice (some ⟨b,0,none⟩) N N) h)=some (.int .i64 ((npt (EqC l) N:Nat):Int)):=by
 refine pcall_fr (h:=h) (S:=S) ?_ rfl;unfold Fr F68;have st:=Sl.start h hS;obtain⟨inf,u1,u2,u3⟩:=u28;have hlen:xLenS (.slice (some ⟨b,0,none⟩) N N)=some (.int .i64 ((N:Nat):Int)):=by simp
 have key: ∀(d q i:Nat),N-i<=d->d<q->i<=N->Ret (lp q (F68_5 n cl) [.slice (some ⟨b,0,none⟩) N N,.int .i64 ((npt (EqC l) i:Nat):Int),.int .i64 (i:Nat)] h) fun v h1=> ∃rows,Sl h h1 S OM.emp rows/\v= .int .i64 ((npt (EqC l) N:Nat):Int):=by
  intro d
  induction d with
  |zero=>
   intro q i g1 g2 g3;obtain⟨q,rfl⟩: ∃r,q=r+1:=⟨q-1,by omega⟩;rw[lp_succ];have hi:i=N:=by omega
   subst hi;have dc:decide (((i:Nat):Int)<((i:Nat):Int))=false:=by simp
   simp only[F68_5,F68_4,ucons_cons,hlen,vb_some,xLt_i,dc,bite_f];exact Ret.of ⟨_,st,rfl⟩
  |succ d ih=>
   intro q i g1 g2 g3
   by_cases hi:i<N
   ·obtain⟨q,rfl⟩: ∃r,q=r+1:=⟨q-1,by omega⟩;rw[lp_succ];generalize hL:lp q (F68_5 n cl)=LL;have dc:decide (((i:Nat):Int)<((N:Nat):Int))=true:=by simp;omega
    have hcut:=acut_at (P:=Try.prog) (b:=b) (o:=0) (n:=N) (c:=N) (l:=0) (r:=i) (lo:=none) (hi:=some (.int .i64 (i:Nat))) u1 u2 (CapOk.self (by omega)) (bd_i (by omega) (by omega)) bd_n (by omega) (by omega);have hx:=List.getElem?_eq_getElem (l:=l) (i:=i) (by omega);have hD:l.getD i 0=l[i]'(by omega):=by rw[List.getD_eq_getElem?_getD,hx];rfl
    have e5:xIdxS 1 (.slice (some ⟨b,0,none⟩) N N) (.int .i64 (i:Nat))=some (.pointer (some ⟨b,i,none⟩)):=by
     rw[xIdxS_at (by omega) (by omega)];simp
    have l5:xLd (.pointer (some ⟨b,i,none⟩)) h=some (.int .i64 (l.getD i 0)):=st.ldS hb (by rw[hD];exact zv_get hx);have e0:(if N=0 then 0 else 0+0*inf.size)=0:=by split<;>simp
    rw[e0]at hcut;have hsv:SlV S (.slice (some ⟨b,0,none⟩) (i-0) (N-0)) (zv (l.take i)):=by
     refine .inr ⟨b,0,N-0,zv l,?_,hb,?_,fun j y hj=>?_⟩
     ·rw[zv_len,List.length_take,Nat.min_eq_left (by omega)];rfl
     ·rw[zv_len,zv_len,List.length_take];omega
     ·rw[Nat.zero_add];unfold zv at hj ⊢;rw[List.map_take,List.getElem?_take]at hj
      split at hj
      ·exact hj
      ·cases hj
    have hin:=c90 (n:=n) (cl:=cl) (h:=h.fzn) (S:=S) (x:=l.getD i 0) hn (fun b cs e=>st.leS b cs e) hsv (by rw[List.length_take];omega);have hmem:l.getD i 0∈l.take i↔ ¬ ∀k,k<i-> ¬ EqC l i k:=by
     constructor
     ·intro hm hall;obtain⟨k,hk⟩:=List.getElem?_of_mem hm;rw[List.getElem?_take]at hk
      split at hk
      ·rename_i hki;refine hall k hki ?_;unfold EqC;rw[List.getD_eq_getElem?_getD (i:=k),hk];rfl
      ·cases hk
     ·intro hno;obtain⟨k,hk⟩:=Classical.not_forall.1 hno;obtain⟨hk1,hk2⟩:=Classical.not_imp.1 hk;have hk2:=Classical.not_not.1 hk2;unfold EqC at hk2;rw[hk2];have hy:=List.getElem?_eq_getElem (l:=l) (i:=k) (by omega);have:l.getD k 0=l[k]'(by omega):=by rw[List.getD_eq_getElem?_getD,hy];rfl
      rw[this];refine List.mem_of_getElem? (i:=k) ?_;rw[List.getElem?_take,if_pos hk1,hy]
    have hnp:=npt_le (E:=EqC l) (N:=i);have nx: ∀v:Nat,v=npt (EqC l) (i+1)->Ret (F68_2 n cl LL [.slice (some ⟨b,0,none⟩) N N,.int .i64 ((v:Nat):Int),.int .i64 (i:Nat)] h) fun v h1=> ∃rows,Sl h h1 S OM.emp rows/\v= .int .i64 ((npt (EqC l) N:Nat):Int):=by
     rintro v rfl;simp only[F68_2,F68_0,ucons_cons,vN_eq,xAdd_i,wrapN (show i<4611686018427387904 by omega),vb_some];rw[<-hL];exact ih q (i+1) (by omega) (by omega) (by omega)
    simp only[F68_5,F68_4,ucons_cons,hlen,vb_some,xLt_i,dc,bite_t,jn_eq,F68_3,hcut,Int.toNat_natCast,e5,l5,hin,xNot_b]
    by_cases hm:l.getD i 0∈l.take i
    ·have dm:decide (l.getD i 0∈l.take i)=true:=decide_eq_true hm;simp only[dm,Bool.not_true,bite_f];exact nx _ (npt_succ.2 (hmem.1 hm)).symm
    ·have dm:decide (l.getD i 0∈l.take i)=false:=decide_eq_false hm;have hall: ∀k,k<i-> ¬ EqC l i k:=Classical.not_not.1 fun h=>hm (hmem.2 h);simp only[dm,Bool.not_false,bite_t,F68_1,vN_eq,xAdd_i,wrapN (show npt (EqC l) i<4611686018427387904 by omega),vb_some];exact nx _ (npt_succ.1 hall).symm
   ·exact ih q i (by omega) (by omega) g3
 exact key N n 0 (by omega) (by omega) (by omega)
end
structure NgI(nxs:List (List Int))(cls nx:List Int)(cnt i N:Nat):Prop where
 len:nx.length=N
 num: ∀j,j<i-> ∃t:Nat,t<cnt/\nx[j]?=some ((t:Nat):Int)
 eq: ∀j k,j<i->k<i->(nx.getD j 0=nx.getD k 0↔AlkC nxs cls j k)
 cnt:cnt=npt (AlkC nxs cls) i
theorem getD_set_self{l:List Int}{i:Nat}{z d:Int}(h:i<l.length):(l.set i z).getD i d=z:=by
 rw[List.getD_eq_getElem?_getD,List.getElem?_set_self h];rfl
theorem getD_set_ne{l:List Int}{i j:Nat}{z d:Int}(h:i≠j):(l.set i z).getD j d=l.getD j d:=by
 rw[List.getD_eq_getElem?_getD,List.getElem?_set_ne h,List.getD_eq_getElem?_getD]
theorem getD_of{l:List Int}{i:Nat}{z d:Int}(h:l[i]?=some z):l.getD i d=z:=by
 rw[List.getD_eq_getElem?_getD,h];rfl
theorem NgI.found{nxs:List (List Int)}{cls nx:List Int}{cnt i N k:Nat}(g:NgI nxs cls nx cnt i N)(hi:i<N)(hk:k<i)(ha:AlkC nxs cls i k):NgI nxs cls (nx.set i (nx.getD k 0)) cnt (i+1) N:=by
 have hl:=g.len;refine⟨by rw[List.length_set];exact hl,fun j hj=>?_,fun j m hj hm=>?_,?_⟩
 ·by_cases e:j=i
  ·subst e;obtain⟨t,h1,h2⟩:=g.num k hk;exact⟨t,h1,by rw[List.getElem?_set_self (by omega),getD_of h2]⟩
  ·obtain⟨t,h1,h2⟩:=g.num j (by omega);exact⟨t,h1,by rw[List.getElem?_set_ne (Ne.symm e)];exact h2⟩
 ·have gt: ∀j,j<i+1-> ∃j',j'<i/\(nx.set i (nx.getD k 0)).getD j 0=nx.getD j' 0/\AlkC nxs cls j j':=by
   intro j hj
   by_cases e:j=i
   ·subst e;exact⟨k,hk,getD_set_self (by omega),ha⟩
   ·exact⟨j,by omega,getD_set_ne (Ne.symm e),.refl j⟩
  obtain⟨j',j1,j2,j3⟩:=gt j hj;obtain⟨m',m1,m2,m3⟩:=gt m hm;rw[j2,m2,g.eq j' m' j1 m1];exact⟨fun h=>(j3.trans h).trans m3.symm,fun h=>(j3.symm.trans h).trans m3⟩
 ·rw[npt_succ.2 fun h=>h k hk ha];exact g.cnt
theorem NgI.new{nxs:List (List Int)}{cls nx:List Int}{cnt i N:Nat}(g:NgI nxs cls nx cnt i N)(hi:i<N)(hno: ∀k,k<i-> ¬ AlkC nxs cls i k):NgI nxs cls (nx.set i ((cnt:Nat):Int)) (cnt+1) (i+1) N:=by
 have hl:=g.len;have ne: ∀j,j<i->nx.getD j 0≠((cnt:Nat):Int):=by
  intro j hj he;obtain⟨t,h1,h2⟩:=g.num j hj;rw[getD_of h2]at he;omega
 refine⟨by rw[List.length_set];exact hl,fun j hj=>?_,fun j m hj hm=>?_,?_⟩
 ·by_cases e:j=i
  ·subst e;exact⟨cnt,by omega,List.getElem?_set_self (by omega)⟩
  ·obtain⟨t,h1,h2⟩:=g.num j (by omega);exact⟨t,by omega,by rw[List.getElem?_set_ne (Ne.symm e)];exact h2⟩
 ·by_cases ej:j=i<;>by_cases em:m=i
  ·rw[ej,em];exact⟨fun _=>.refl i,fun _=>rfl⟩
  ·subst ej;rw[getD_set_self (by omega),getD_set_ne (Ne.symm em)];exact⟨fun h=>absurd h.symm (ne m (by omega)),fun h=>absurd h (hno m (by omega))⟩
  ·subst em;rw[getD_set_self (by omega),getD_set_ne (Ne.symm ej)];exact⟨fun h=>absurd h (ne j (by omega)),fun h=>absurd h.symm (hno j (by omega))⟩
  ·rw[getD_set_ne (Ne.symm ej),getD_set_ne (Ne.symm em)];exact g.eq j m (by omega) (by omega)
 ·rw[npt_succ.1 hno,g.cnt]
def RBis(nxs:List (List Int))(oks:List Int)(N:Nat)(R:Nat->Nat->Prop):Prop:= ∀j k,j<N->k<N->R j k->oks.getD j (-1)=oks.getD k (-1)/\ ∀c,c<256->(entZ nxs j c<0↔entZ nxs k c<0)/\(0<=entZ nxs j c->R (entZ nxs j c).toNat (entZ nxs k c).toNat)
structure CI(nxs:List (List Int))(oks cls:List Int)(N:Nat):Prop where
 len:cls.length=N
 acc: ∀j k,j<N->k<N->cls.getD j 0=cls.getD k 0->oks.getD j (-1)=oks.getD k (-1)
 coarse: ∀R,RBis nxs oks N R-> ∀j k,j<N->k<N->R j k->cls.getD j 0=cls.getD k 0
structure ClsR(nxs:List (List Int))(oks nx:List Int)(N:Nat):Prop where
 ci:CI nxs oks nx N
 num: ∀j,j<N-> ∃t:Nat,t<N/\nx[j]?=some ((t:Nat):Int)
 stab: ∀j k,j<N->k<N->nx.getD j 0=nx.getD k 0-> ∀c,c<256->(entZ nxs j c<0↔entZ nxs k c<0)/\(0<=entZ nxs j c->nx.getD (entZ nxs j c).toNat 0=nx.getD (entZ nxs k c).toNat 0)
theorem NgI.ci{nxs:List (List Int)}{oks cls nx:List Int}{cnt N:Nat}(hok:NxOk N nxs)(g:NgI nxs cls nx cnt N N)(c:CI nxs oks cls N):CI nxs oks nx N:=by
 refine⟨g.len,fun j k hj hk h=>c.acc j k hj hk ((g.eq j k hj hk).1 h).1,fun R hR j k hj hk h=>(g.eq j k hj hk).2 ⟨c.coarse R hR j k hj hk h,fun x hx=>?_⟩⟩;obtain⟨h1,h2⟩:=hR j k hj hk h;obtain⟨h3,h4⟩:=h2 x hx;refine⟨h3,fun hz=>c.coarse R hR _ _ ?_ ?_ (h4 hz)⟩
 ·have:=(hok.get hj hx).choose_spec.2.2;omega
 ·have:=(hok.get hk hx).choose_spec.2.2;omega
theorem NgI.done{nxs:List (List Int)}{oks cls nx:List Int}{cnt N:Nat}(hok:NxOk N nxs)(g:NgI nxs cls nx cnt N N)(c:CI nxs oks cls N)(he:npt (EqC cls) N=cnt):ClsR nxs oks nx N:=by
 have hcnt:=g.cnt;have hle:cnt<=N:=by rw[hcnt];exact npt_le
 refine⟨g.ci hok c,fun j hj=>let⟨t,h1,h2⟩:=g.num j hj;⟨t,by omega,h2⟩,fun j k hj hk h x hx=>?_⟩;have ha:=(g.eq j k hj hk).1 h;obtain⟨h1,h2⟩:=ha.2 x hx;refine⟨h1,fun hz=>?_⟩;have b1:=(hok.get hj hx).choose_spec.2.2;have b2:=(hok.get hk hx).choose_spec.2.2;refine(g.eq _ _ (by omega) (by omega)).2 ?_;refine npt_same (E:=EqC cls) (E':=AlkC nxs cls) (N:=N) (fun a b c h g=>h.trans g) (fun a b h=>h.symm) (fun a b c h g=>h.trans g) (fun a b h=>h.symm) AlkC.refl (fun i k _ _ h=>h.1) (by rw[he,hcnt]) (by omega) (by omega) (h2 hz)
section
variable {Q:Value->PH->Prop}{n:Nat}{cl:CL}{h h0:PH}{S:Vw}{K2:Value->PH->R}
theorem loop36k(hn:4611686018427387904<=n){bx bc bn i N cnt:Nat}{es:List Value}{nxs:List (List Int)}{oks cls nx:List Int}{k49:Kt}(hr:RwR S es nxs oks)(hok:NxOk N nxs)(hcl:cls.length=N)(hi:i<N)(hnl:nx.length=N)(hnx:nx[i]?=some (-1))(hnum: ∀k,k<i-> ∃t:Nat,nx[k]?=some ((t:Nat):Int))(hN:N<=400)(hcnt:cnt<=N)
  (hf: ∀h k,k<i->AlkC nxs cls i k->Sl h0 h S OM.emp [(bn,.row .own 1 (zv (nx.set i (nx.getD k 0)))),(bc,.row .own 1 (zv cls)),(bx,.row .own 1 es)]->Ret (k49 [pt bx,.int .i64 (N:Nat),.slice (some ⟨bc,0,none⟩) N N,.slice (some ⟨bn,0,none⟩) N N,.int .i64 (cnt:Nat),.int .i64 (i:Nat)] h) Q)
  (hw: ∀h,(∀k,k<i-> ¬ AlkC nxs cls i k)->Sl h0 h S OM.emp [(bn,.row .own 1 (zv (nx.set i ((cnt:Nat):Int)))),(bc,.row .own 1 (zv cls)),(bx,.row .own 1 es)]->Ret (k49 [pt bx,.int .i64 (N:Nat),.slice (some ⟨bc,0,none⟩) N N,.slice (some ⟨bn,0,none⟩) N N,.int .i64 ((cnt+1:Nat):Int),.int .i64 (i:Nat)] h) Q):
  ∀(d q k:Nat)(h:PH),i-k<=d->d+1<q->k<=i->Sl h0 h S OM.emp [(bn,.row .own 1 (zv nx)),(bc,.row .own 1 (zv cls)),(bx,.row .own 1 es)]->(∀j,j<k-> ¬ AlkC nxs cls i j)->
   Ret (lp q (F36_9 n cl k49) [pt bx,.int .i64 (N:Nat),.slice (some ⟨bc,0,none⟩) N N,.slice (some ⟨bn,0,none⟩) N N,.int .i64 (cnt:Nat),.int .i64 (i:Nat),.int .i64 (k:Nat)] h) Q:=by
 have hes:es.length=3:=by obtain⟨nv,ov,x,vs,rfl,_⟩:=hr;rfl
 have ei: ∀{j:Nat},j<N->xIdxS 1 (.slice (some ⟨bn,0,none⟩) N N) (.int .i64 (j:Nat))=some (.pointer (some ⟨bn,j,none⟩)):=by
  intro j hj;rw[xIdxS_at (by omega) (by omega)];simp
 have em:(-1:Int)<((0:Nat):Int):=by omega
 have dneg:decide ((-1:Int)<((0:Nat):Int))=true:=by decide
 have fin: ∀h,Sl h0 h S OM.emp [(bn,.row .own 1 (zv nx)),(bc,.row .own 1 (zv cls)),(bx,.row .own 1 es)]->(∀j,j<i-> ¬ AlkC nxs cls i j)->Ret (F36_7 n cl (.slice (some ⟨bn,0,none⟩) N N) (.int .i64 (i:Nat)) (.int .i64 (cnt:Nat)) k49 (pt bx) (.int .i64 (N:Nat)) (.slice (some ⟨bc,0,none⟩) N N) h) Q:=by
  intro h st hno;have l1:xLd (.pointer (some ⟨bn,i,none⟩)) h=some (.int .i64 (-1)):=st.ld (.head _) (zv_get hnx);simp only[F36_7,ei hi,vb_some,l1,vN_eq,xLt_i,dneg,bite_t,F36_6];refine Ret.lst1 st 0 rfl rfl (by rw[zv_len];omega) rfl fun h2 st2=>?_;rw[zv_set]at st2;simp only[xAdd_i,wrapN (show cnt<4611686018427387904 by omega),vb_some];exact hw h2 hno st2
 intro d
 induction d with
 |zero=>
  intro q k h h1 h2 h3 st hno;obtain⟨q,rfl⟩: ∃r,q=r+1:=⟨q-1,by omega⟩;rw[lp_succ];have hk:k=i:=by omega
  subst hk;have dc:decide (((k:Nat):Int)<((k:Nat):Int))=false:=by simp
  simp only[F36_9,F36_8,ucons_cons,xLt_i,dc,vb_some,isB_t,gd_false,xPick_f,bite_f];exact fin h st hno
 |succ d ih=>
  intro q k h h1 h2 h3 st hno
  by_cases hk:k<i
  ·obtain⟨q,rfl⟩: ∃r,q=r+2:=⟨q-2,by omega⟩;rw[lp_succ];have dc:decide (((k:Nat):Int)<((i:Nat):Int))=true:=by simp;omega
   have l1:xLd (.pointer (some ⟨bn,i,none⟩)) h=some (.int .i64 (-1)):=st.ld (.head _) (zv_get hnx);have l2:xLdA 3 (pt bx) h=some (.agg ⟨es⟩):=st.ldA (.tail _ (.tail _ (.head _))) (by rw[List.drop_zero,List.take_of_length_le (by omega)]) (by omega);have okh:=st.ok;obtain⟨b,hb1,hb2⟩:=c67 (n:=n) (cl:=cl) (h:=h.fzn) (S:=vall S (over [(bn,.row .own 1 (zv nx)),(bc,.row .own 1 (zv cls)),(bx,.row .own 1 es)] OM.emp)) (cv:=.slice (some ⟨bc,0,none⟩) N N) (cls:=cls) (i:=i) (k:=k) hn (fun b cs e=>st.sm.all b cs e)
    (by
      obtain⟨nv,ov,x,vs,e,e2,e3,e4,e5⟩:=hr;exact⟨nv,ov,x,vs,e,e2,e3.mono st.sm.S_all,fun i r hi=>let⟨y,y1,y2⟩:=e4 i r hi;⟨y,y1,y2.mono st.sm.S_all⟩,e5.mono st.sm.S_all⟩) hok
    (.inr ⟨bc,0,N,zv cls,by rw[zv_len,hcl],vall_m (st.mem (.tail _ (.head _))),by omega,fun j x hx=>by rw[Nat.zero_add];exact hx⟩) hcl hi (by omega)
   simp only[F36_9,F36_8,ucons_cons,xLt_i,dc,vb_some,isB_t,gd_true,ei hi,l1,vN_eq,dneg,xPick_t,bite_t,jn_eq,F36_5,l2,hb1];generalize hL:lp (q+1) (F36_9 n cl k49)=LL;cases b with
   |true=>
    have ha:=hb2.1 rfl;obtain⟨t,ht⟩:=hnum k hk;have l3:xLd (.pointer (some ⟨bn,k,none⟩)) h=some (.int .i64 ((t:Nat):Int)):=st.ld (.head _) (zv_get ht);simp only[bite_t,F36_3,ei (show k<N by omega),ei hi,vb_some,l3];refine Ret.lst1 st 0 rfl rfl (by rw[zv_len];omega) rfl fun h2 st2=>?_;rw[zv_set]at st2;have st2:Sl h0 h2 S OM.emp [(bn,.row .own 1 (zv (nx.set i ((t:Nat):Int)))),(bc,.row .own 1 (zv cls)),(bx,.row .own 1 es)]:=st2;simp only[F36_4,ucons_cons,F36_2,xAdd_i,vN_eq,wrapN (show k<4611686018427387904 by omega),vb_some];rw[<-hL,lp_succ];have l4:xLd (.pointer (some ⟨bn,i,none⟩)) h2=some (.int .i64 ((t:Nat):Int)):=st2.ld (.head _) (zv_get (List.getElem?_set_self (by omega)));have dpos:decide (((t:Nat):Int)<((0:Nat):Int))=false:=by simp
    have ht':nx.getD k 0=((t:Nat):Int):=getD_of ht;rw[<-ht']at st2
    by_cases hk2:k+1<i
    ·have dc2:decide (((k+1:Nat):Int)<((i:Nat):Int))=true:=by simp;omega
     simp only[F36_9,F36_8,ucons_cons,xLt_i,dc2,vb_some,isB_t,gd_true,ei hi,l4,vN_eq,dpos,xPick_t,bite_f,F36_7];exact hf h2 k hk ha st2
    ·have dc2:decide (((k+1:Nat):Int)<((i:Nat):Int))=false:=by simp;omega
     simp only[F36_9,F36_8,ucons_cons,xLt_i,dc2,vb_some,isB_t,gd_false,ei hi,l4,vN_eq,dpos,xPick_f,bite_f,F36_7];exact hf h2 k hk ha st2
   |false=>
    simp only[bite_f,F36_4,ucons_cons,F36_2,xAdd_i,vN_eq,wrapN (show k<4611686018427387904 by omega),vb_some];rw[<-hL];refine ih (q+1) (k+1) h (by omega) (by omega) (by omega) st fun j hj ha=>?_
    by_cases e:j=k
    ·subst e;have:=hb2.2 ha;cases this
    ·exact hno j (by omega) ha
  ·exact ih q k h (by omega) (by omega) h3 st hno
theorem c36[OkH h](hn:4611686018427387904<=n)(hS:Vw.le S h.cells){es:List Value}{nxs:List (List Int)}{oks:List Int}{N:Nat}(hr:RwR S es nxs oks)(hok:NxOk N nxs)(hol:oks.length=N)(hN:N<=400)(hob: ∀z∈oks, -1<=z/\z<1000):
  Fr h S (F36 n cl (.agg ⟨es⟩) h) fun u ex=> ∃bn nx,u= .slice (some ⟨bn,0,none⟩) N N/\ex=[(bn,.row .own 1 (zv nx))]/\ClsR nxs oks nx N:=by
 have hr0:=hr;obtain⟨nv,ov,x,vs,rfl,hx,r1,r2,r3⟩:=hr;unfold Fr F36;refine Ret.lbox (Sl.start h hS) fun h1 bx st1=>?_;have st1:Sl h h1 S OM.emp [(bx,.row .own 1 [nv,ov,x])]:=st1;have l1:xLd (.pointer (some ⟨bx,1,none⟩)) h1=some ov:=st1.ld (.head _) rfl;have hlen:=r3.len;rw[zv_len,hol]at hlen;simp only[xFld_p,Nat.zero_add,vb_some,l1,hlen];refine Ret.lmk st1 zi28 (by omega) (by omega) (by omega) (by omega) fun h2 bc st2=>?_;rw[Int.toNat_natCast,zv_zrows]at st2;rw[Int.toNat_natCast];have rounds: ∀(d q bc:Nat)(cls:List Int)(h2:PH),N+1-npt (EqC cls) N<=d->d<q->CI nxs oks cls N->Sl h h2 S OM.emp [(bc,.row .own 1 (zv cls)),(bx,.row .own 1 [nv,ov,x])]->
   Ret (lp q (F36_16 n cl) [pt bx,.int .i64 (N:Nat),.slice (some ⟨bc,0,none⟩) N N] h2) fun v h1=> ∃rows,Sl h h1 S OM.emp rows/\ ∃bn nx,v= .slice (some ⟨bn,0,none⟩) N N/\rows=[(bn,.row .own 1 (zv nx))]/\ClsR nxs oks nx N:=by
  intro d
  induction d with
  |zero=>
   intro q bc cls h2 g1 g2 ci st;have:=npt_le (E:=EqC cls) (N:=N);omega
  |succ d ih=>
   intro q bc cls h2 g1 g2 ci st;obtain⟨q,rfl⟩: ∃r,q=r+1:=⟨q-1,by omega⟩;rw[lp_succ];generalize hL:lp q (F36_16 n cl)=LL;simp only[F36_16,F36_15,ucons_cons];refine Ret.lmk st zi28 (by omega) (by omega) (by omega) (by omega) fun h3 bn st3=>?_;rw[Int.toNat_natCast,zv_zrows]at st3;rw[Int.toNat_natCast];have st3:Sl h h3 S OM.emp [(bn,.row .own 1 (zv (List.replicate N 0))),(bc,.row .own 1 (zv cls)),(bx,.row .own 1 [nv,ov,x])]:=st3;have inner: ∀(d2 q2 i cnt:Nat)(nx:List Int)(h4:PH),N-i<=d2->d2<q2->i<=N->NgI nxs cls nx cnt i N->Sl h h4 S OM.emp [(bn,.row .own 1 (zv nx)),(bc,.row .own 1 (zv cls)),(bx,.row .own 1 [nv,ov,x])]->
     Ret (lp q2 (F36_14 n cl LL) [pt bx,.int .i64 (N:Nat),.slice (some ⟨bc,0,none⟩) N N,.slice (some ⟨bn,0,none⟩) N N,.int .i64 (cnt:Nat),.int .i64 (i:Nat)] h4) fun v h1=> ∃rows,Sl h h1 S OM.emp rows/\ ∃bn nx,v= .slice (some ⟨bn,0,none⟩) N N/\rows=[(bn,.row .own 1 (zv nx))]/\ClsR nxs oks nx N:=by
    intro d2
    induction d2 with
    |zero=>
     intro q2 i cnt nx h4 k1 k2 k3 ng st4;obtain⟨q2,rfl⟩: ∃r,q2=r+1:=⟨q2-1,by omega⟩;rw[lp_succ];have hi:i=N:=by omega
     subst hi;have dc:decide (((i:Nat):Int)<((i:Nat):Int))=false:=by simp
     have okh:=st4.ok;have hp:=c68 (n:=n) (cl:=cl) (h:=h4.fzn) (S:=vall S (over [(bn,.row .own 1 (zv nx)),(bc,.row .own 1 (zv cls)),(bx,.row .own 1 [nv,ov,x])] OM.emp)) (b:=bc) (l:=cls) hn (fun b cs e=>st4.sm.all b cs e) (vall_m (st4.mem (.tail _ (.head _)))) ci.len hN;simp only[F36_14,F36_13,ucons_cons,xLt_i,dc,vb_some,bite_f,F36_12,hp,xEq_i]
     by_cases he:npt (EqC cls) i=cnt
     ·have de:decide (((npt (EqC cls) i:Nat):Int)=((cnt:Nat):Int))=true:=by simp[he]
      simp only[de,bite_t];exact Ret.of ⟨_,st4.drop (.cons_cons _ (List.nil_sublist _)),bn,nx,rfl,rfl,ng.done hok ci he⟩
     ·have de:decide (((npt (EqC cls) i:Nat):Int)=((cnt:Nat):Int))=false:=decide_eq_false (by omega);simp only[de,bite_f];rw[<-hL];have hm:=(npt_mono (E:=EqC cls) (E':=AlkC nxs cls) (N:=i) fun a b _ _ h=>h.1).1;have hc:=ng.cnt;have hnn:npt (EqC nx) i=cnt:=by
       rw[hc];have a1:=(npt_mono (E:=EqC nx) (E':=AlkC nxs cls) (N:=i) fun a b ha hb h=>(ng.eq a b ha (by omega)).2 h).1;have a2:=(npt_mono (E:=AlkC nxs cls) (E':=EqC nx) (N:=i) fun a b ha hb h=>(ng.eq a b ha (by omega)).1 h).1;omega
      exact ih q bn nx h4 (by omega) (by omega) (ng.ci hok ci) (st4.drop (.cons_cons _ (List.sublist_cons_self _ _)))
    |succ d2 ih2=>
     intro q2 i cnt nx h4 k1 k2 k3 ng st4
     by_cases hi:i<N
     ·obtain⟨q2,rfl⟩: ∃r,q2=r+1:=⟨q2-1,by omega⟩;rw[lp_succ];generalize hL2:lp q2 (F36_14 n cl LL)=LL2;have dc:decide (((i:Nat):Int)<((N:Nat):Int))=true:=by simp;omega
      have ei:xIdxS 1 (.slice (some ⟨bn,0,none⟩) N N) (.int .i64 (i:Nat))=some (.pointer (some ⟨bn,i,none⟩)):=by
       rw[xIdxS_at (by omega) (by omega)];simp
      have em:vM 0= .int .i64 (-1):=rfl;have hnl:=ng.len;have hcle:cnt<=N:=by
       have:=npt_le (E:=AlkC nxs cls) (N:=i);rw[ng.cnt];omega
      simp only[F36_14,F36_13,ucons_cons,xLt_i,dc,vb_some,bite_t,jn_eq,F36_11,ei];rw[em];refine Ret.lst1 st4 0 rfl rfl (by rw[zv_len];omega) rfl fun h5 st5=>?_;rw[zv_set]at st5;have st5:Sl h h5 S OM.emp [(bn,.row .own 1 (zv (nx.set i (-1)))),(bc,.row .own 1 (zv cls)),(bx,.row .own 1 [nv,ov,x])]:=st5;have nx': ∀(cnt':Nat)(nx':List Int)(h6:PH),NgI nxs cls nx' cnt' (i+1) N->Sl h h6 S OM.emp [(bn,.row .own 1 (zv nx')),(bc,.row .own 1 (zv cls)),(bx,.row .own 1 [nv,ov,x])]->
        Ret (F36_10 n cl LL2 [pt bx,.int .i64 (N:Nat),.slice (some ⟨bc,0,none⟩) N N,.slice (some ⟨bn,0,none⟩) N N,.int .i64 (cnt':Nat),.int .i64 (i:Nat)] h6) fun v h1=> ∃rows,Sl h h1 S OM.emp rows/\ ∃bn nx,v= .slice (some ⟨bn,0,none⟩) N N/\rows=[(bn,.row .own 1 (zv nx))]/\ClsR nxs oks nx N:=by
       intro cnt' nx' h6 ng' st6;simp only[F36_10,ucons_cons,F36_1,xAdd_i,vN_eq,wrapN (show i<4611686018427387904 by omega),vb_some];rw[<-hL2];exact ih2 q2 (i+1) cnt' nx' h6 (by omega) (by omega) (by omega) ng' st6
      refine loop36k (nx:=nx.set i (-1)) (cnt:=cnt) hn hr0 hok ci.len hi (by rw[List.length_set];exact hnl) (List.getElem?_set_self (by omega)) (fun k hk=>?_) hN hcle (fun h6 k hk ha st6=>?_) (fun h6 hno st6=>?_) i n 0 h5 (by omega) (by omega) (by omega) st5 (fun j hj=>by omega)
      ·obtain⟨t,_,ht⟩:=ng.num k hk;exact⟨t,by rw[List.getElem?_set_ne (by omega)];exact ht⟩
      ·rw[List.set_set,getD_set_ne (by omega)]at st6;exact nx' cnt _ h6 (ng.found hi hk ha) st6
      ·rw[List.set_set]at st6;exact nx' (cnt+1) _ h6 (ng.new hi hno) st6
     ·exact ih2 q2 i cnt nx h4 (by omega) (by omega) k3 ng st4
   exact inner N n 0 0 (List.replicate N 0) h3 (by omega) (by omega) (by omega) ⟨by rw[List.length_replicate],fun j hj=>by omega,fun j k hj=>by omega,rfl⟩ st3
 have first: ∀(d q i:Nat)(cls:List Int)(h2:PH),N-i<=d->d<q->i<=N->cls.length=N->(∀(j:Nat),j<i->cls[j]?=some (oks.getD j (-1)+1))->Sl h h2 S OM.emp [(bc,.row .own 1 (zv cls)),(bx,.row .own 1 [nv,ov,x])]->
   Ret (lp q (F36_18 n cl) [pt bx,.int .i64 (N:Nat),.slice (some ⟨bc,0,none⟩) N N,.int .i64 (i:Nat)] h2) fun v h1=> ∃rows,Sl h h1 S OM.emp rows/\ ∃bn nx,v= .slice (some ⟨bn,0,none⟩) N N/\rows=[(bn,.row .own 1 (zv nx))]/\ClsR nxs oks nx N:=by
  intro d
  induction d with
  |zero=>
   intro q i cls h2 g1 g2 g3 g4 g5 st;obtain⟨q,rfl⟩: ∃r,q=r+1:=⟨q-1,by omega⟩;rw[lp_succ];have hi:i=N:=by omega
   subst hi;have dc:decide (((i:Nat):Int)<((i:Nat):Int))=false:=by simp
   simp only[F36_18,F36_17,ucons_cons,xLt_i,dc,vb_some,bite_f];refine rounds (i+1) n bc cls h2 (by omega) (by omega) ⟨g4,fun j k hj hk he=>?_,fun R hR j k hj hk h=>?_⟩ st
   ·rw[getD_of (g5 j hj),getD_of (g5 k hk)]at he;omega
   ·rw[getD_of (g5 j hj),getD_of (g5 k hk),(hR j k hj hk h).1]
  |succ d ih=>
   intro q i cls h2 g1 g2 g3 g4 g5 st
   by_cases hi:i<N
   ·obtain⟨q,rfl⟩: ∃r,q=r+1:=⟨q-1,by omega⟩;rw[lp_succ];generalize hL:lp q (F36_18 n cl)=LL;have dc:decide (((i:Nat):Int)<((N:Nat):Int))=true:=by simp;omega
    have l1:xLd (.pointer (some ⟨bx,1,none⟩)) h2=some ov:=st.ld (.tail _ (.head _)) rfl;have ho:=List.getElem?_eq_getElem (l:=oks) (i:=i) (by omega);have hD:oks.getD i (-1)=oks[i]'(by omega):=by rw[List.getD_eq_getElem?_getD,ho];rfl
    have hb:=hob _ (List.getElem_mem (l:=oks) (n:=i) (by omega));generalize oks[i]'(by omega)=a at ho hD hb;obtain⟨b1,o1,cs1,e1,e2,e3⟩:=r3.at (k:=.i64) (zv_get ho);have l2:=st.ldS e2 e3;have ei:xIdxS 1 (.slice (some ⟨bc,0,none⟩) N N) (.int .i64 (i:Nat))=some (.pointer (some ⟨bc,i,none⟩)):=by
     rw[xIdxS_at (by omega) (by omega)];simp
    have hw:IntKind.i64.wrap (a+((1:Nat):Int))=a+1:=by rw[wrap_in (by omega) (by omega)];rfl
    simp only[F36_18,F36_17,ucons_cons,xLt_i,dc,vb_some,bite_t,F36_0,xFld_p,Nat.zero_add,l1,e1,l2,vN_eq,xAdd_i,hw,ei];refine Ret.lst1 st 0 rfl rfl (by rw[zv_len];omega) rfl fun h3 st3=>?_;rw[zv_set]at st3;simp only[wrapN (show i<4611686018427387904 by omega),vb_some];rw[<-hL];refine ih q (i+1) (cls.set i (a+1)) h3 (by omega) (by omega) (by omega) (by rw[List.length_set];exact g4) (fun j hj=>?_) st3
    by_cases e:j=i
    ·subst e;rw[List.getElem?_set_self (by omega),hD]
    ·rw[List.getElem?_set_ne (Ne.symm e)];exact g5 j (by omega)
   ·exact ih q i cls h2 (by omega) (by omega) g3 g4 g5 st
 exact first N n 0 (List.replicate N 0) h2 (by omega) (by omega) (by omega) (by rw[List.length_replicate]) (fun j hj=>by omega) st2
end
end Go.Am
