import Derived.Test.YtdobnnifjfbibaaDoorZG
import Derived.Test.YtdobnnifjfbibaaDoorZE
import Derived.Test.YtdobnnifjfbibaaDoorZD
set_option linter.unusedSimpArgs false
set_option linter.unusedVariables false
namespace Go.Am
open Go Go.RowKit Go.Proofs
structure Okp(K:FK)(y:Pt):Prop where
 h: ∃rl,K.g.rules[y.1]?=some rl/\y.2.1<=rl.right.length/\y.2.2<=K.ks.length/\DvR K.g K.ks (rl.right.take y.2.1) K.fr y.2.2
theorem Okp.vp{K:FK}(y:Pt)(o:Okp K y):Vp K y:=by
 obtain⟨rl,h1,h2,h3,_⟩:=o.h;exact⟨rl,h1,h2,h3⟩
structure Prc(K:FK)(s:FS)(y:Pt):Prop where
 fin: ∀rl,K.g.rules[y.1]?=some rl->y.2.1=rl.right.length->(rl.left.toNat,y.2.2)∈s.G
 kind: ∀rl k,K.g.rules[y.1]?=some rl->rl.right[y.2.1]?=some k->k<0->K.ks[y.2.2]?=some (-1-k)->(y.1,y.2.1+1,y.2.2+1)∈s.H
 name: ∀rl k,K.g.rules[y.1]?=some rl->rl.right[y.2.1]?=some k->0<=k->K.fr<y.2.2-> ∀j,DvR K.g K.ks [k] y.2.2 j->(y.1,y.2.1+1,j)∈s.H
 wait: ∀rl k,K.g.rules[y.1]?=some rl->rl.right[y.2.1]?=some k->0<=k->y.2.2=K.fr->y∈wt s.t k
theorem Prc.mono{K:FK}{s s':FS}{y:Pt}(p:Prc K s y)(hG: ∀q∈s.G,q∈s'.G)(hH: ∀q∈s.H,q∈s'.H)(ht: ∀k, ∀q∈wt s.t k,q∈wt s'.t k):Prc K s' y:=
 ⟨fun rl h1 h2=>hG _ (p.fin rl h1 h2),fun rl k h1 h2 h3 h4=>hH _ (p.kind rl k h1 h2 h3 h4),fun rl k h1 h2 h3 h4 j h5=>hH _ (p.name rl k h1 h2 h3 h4 j h5),fun rl k h1 h2 h3 h4=>ht _ _ (p.wait rl k h1 h2 h3 h4)⟩
structure Iv(K:FK)(s:FS)(D:Nat)(e:Pt->Prop):Prop where
 bs:Bs K s
 wn:s.w.Nodup
 wk: ∀y∈s.w,y∈s.H
 cnt:D+s.w.length=s.H.length
 okp: ∀y∈s.H,Okp K y
 gok: ∀a p,(a,p)∈s.G->a<K.g.names.toNat/\p<=K.ks.length/\DvR K.g K.ks [(a:Int)] K.fr p
 tok: ∀k, ∀y∈wt s.t k,y∈s.H/\y∉s.w/\ ¬ e y/\y.2.2=K.fr/\0<=k/\ ∃rl,K.g.rules[y.1]?=some rl/\rl.right[y.2.1]?=some k
 tnd: ∀k,(wt s.t k).Nodup
 done: ∀y∈s.H,y∉s.w-> ¬ e y->Prc K s y
 wtd: ∀(a:Nat), ∀y∈wt s.t (a:Int), ∀j,(a,j)∈s.G->(y.1,y.2.1+1,j)∈s.H
theorem few_P{K:FK}(hg:GOk K.g)(hn:K.ks.length<=2000){l:List Pt}(hnd:l.Nodup)(h: ∀y∈l,Vp K y):l.length<=1966080:=
 (Bs.len (s:=⟨[],l,[],[]⟩) hg hn ⟨hnd,h,Nat.zero_le _⟩).1
section
variable {K:FK}{s s':FS}{D:Nat}{e:Pt->Prop}
theorem Iv.grow(v:Iv K s D e)(g:Gro (Okp K) s s'):Iv K s' D e:=by
 obtain⟨l,h1,h2,h3,h4⟩:=g.h;have sub: ∀y∈s.H,y∈s'.H:=fun y hy=>g.sub hy;have back: ∀y∈s'.H,y∉s'.w->y∈s.H/\y∉s.w:=fun y hy hw=>by
  rw[h1]at hy;rw[h2]at hw;rcases List.mem_append.1 hy with h|h
  ·exact⟨h,fun hh=>hw (List.mem_append_left _ hh)⟩
  ·exact absurd (List.mem_append_right _ h) hw
 refine⟨v.bs.grow g Okp.vp,?_,?_,?_,?_,?_,?_,?_,?_,?_⟩
 ·rw[h2,List.nodup_append];exact⟨v.wn,h4,fun p hp q hq e=>(h3 q hq).2 (by rw[<-e];exact v.wk p hp)⟩
 ·intro y hy;rw[h2]at hy;rw[h1];rcases List.mem_append.1 hy with h|h
  ·exact List.mem_append_left _ (v.wk y h)
  ·exact List.mem_append_right _ h
 ·rw[h1,h2,List.length_append,List.length_append];have:=v.cnt;omega
 ·intro y hy;rw[h1]at hy;rcases List.mem_append.1 hy with h|h
  ·exact v.okp y h
  ·exact(h3 y h).1
 ·rw[g.G];exact v.gok
 ·rw[g.t];intro k y hy;obtain⟨a1,a2,a3⟩:=v.tok k y hy;refine⟨sub y a1,fun hw=>?_,a3⟩;rw[h2]at hw;rcases List.mem_append.1 hw with h|h
  ·exact a2 h
  ·exact(h3 y h).2 a1
 ·rw[g.t];exact v.tnd
 ·intro y hy hw he;obtain⟨b1,b2⟩:=back y hy hw;exact(v.done y b1 b2 he).mono (by rw[g.G];exact fun _ h=>h) sub (by rw[g.t];exact fun _ _ h=>h)
 ·rw[g.t,g.G];intro a y hy j hj;exact sub _ (v.wtd a y hy j hj)
theorem Iv.pop{w:List Pt}{x:Pt}(v:Iv K s D fun _=>False)(hw:s.w=w++[x]):Iv K {s with w:=w} (D+1) fun y=>y=x:=by
 have hnd:=v.wn;rw[hw,List.nodup_append]at hnd;have hx:x∉w:=fun h=>hnd.2.2 x h x (by simp) rfl;refine⟨⟨v.bs.nd,v.bs.ok,?_⟩,hnd.1,fun y hy=>v.wk y (by rw[hw];exact List.mem_append_left _ hy),?_,v.okp,v.gok,?_,v.tnd,?_,v.wtd⟩
 ·have:=v.bs.wl;rw[hw,List.length_append]at this
  show w.length<=s.H.length
  omega
 ·have:=v.cnt;rw[hw,List.length_append,List.length_singleton]at this
  show D+1+w.length=s.H.length
  omega
 ·intro k y hy;obtain⟨a1,a2,a3,a4⟩:=v.tok k y hy;rw[hw]at a2;exact⟨a1,fun h=>a2 (List.mem_append_left _ h),fun h=>a2 (by rw[h];simp),a4⟩
 ·intro y hy hyw hne;refine(v.done y hy ?_ (fun h=>h)).mono (fun _ h=>h) (fun _ h=>h) (fun _ _ h=>h);rw[hw,List.mem_append,List.mem_singleton];exact fun h=>h.elim hyw hne
theorem Iv.fin{x:Pt}(v:Iv K s D fun y=>y=x)(p:Prc K s x):Iv K s D fun _=>False:=by
 refine⟨v.bs,v.wn,v.wk,v.cnt,v.okp,v.gok,fun k y hy=>?_,v.tnd,fun y hy hw _=>?_,v.wtd⟩
 ·obtain⟨a1,a2,a3,a4⟩:=v.tok k y hy;exact⟨a1,a2,fun h=>h,a4⟩
 ·by_cases e:y=x
  ·subst e;exact p
  ·exact v.done y hy hw e
theorem Iv.endG{a p:Nat}(v:Iv K s D e)(ha:a<K.g.names.toNat)(hp:p<=K.ks.length)(hd:DvR K.g K.ks [(a:Int)] K.fr p)(g:Gro (Okp K) (endG s a p) s')(hw:(a,p)∉s.G-> ∀y∈wt s.t (a:Int),(y.1,y.2.1+1,p)∈s'.H):Iv K s' D e:=by
 by_cases hin:(a,p)∈s.G
 ·unfold Go.Am.endG at g;rw[if_pos hin]at g;exact v.grow g
 ·have hw:=hw hin;have et:(Go.Am.endG s a p)= {s with G:=s.G++[(a,p)]}:=by unfold Go.Am.endG;rw[if_neg hin]
  rw[et]at g;obtain⟨l,h1,h2,h3,h4⟩:=g.h;have h1:s'.H=s.H++l:=h1;have h2:s'.w=s.w++l:=h2;have h3: ∀y∈l,Okp K y/\y∉s.H:=h3;have gG:s'.G=s.G++[(a,p)]:=g.G;have gt:s'.t=s.t:=g.t;have sub: ∀y∈s.H,y∈s'.H:=fun y hy=>by rw[h1];exact List.mem_append_left _ hy
  have g0:Gro (Okp K) s {s' with G:=s.G}:=⟨rfl,gt,l,h1,h2,h3,h4⟩;have v0:=v.grow g0;refine⟨⟨v0.bs.nd,v0.bs.ok,v0.bs.wl⟩,v0.wn,v0.wk,v0.cnt,v0.okp,?_,v0.tok,v0.tnd,?_,?_⟩
  ·intro b q hq;rw[gG,List.mem_append,List.mem_singleton]at hq;rcases hq with h|h
   ·exact v.gok b q h
   ·cases h;exact⟨ha,hp,hd⟩
  ·intro y hy hyw he;exact(v0.done y hy hyw he).mono (fun q hq=>by rw[gG];exact List.mem_append_left _ hq) (fun _ h=>h) (fun _ _ h=>h)
  ·intro b y hy j hj;rw[gt]at hy;rw[gG,List.mem_append,List.mem_singleton]at hj;rcases hj with h|h
   ·exact sub _ (v.wtd b y hy j h)
   ·cases h;exact hw y hy
theorem Iv.wait{x:Pt}{rl:Rl}{k:Int}{a:Nat}(v:Iv K s D fun y=>y=x)(hk:k=(a:Int))(hx:x∈s.H)(hxw:x∉s.w)(hr:K.g.rules[x.1]?=some rl)(hs:rl.right[x.2.1]?=some k)(hp:x.2.2=K.fr)
  (g:Gro (Okp K) {s with t:=wtAdd s.t k x} s') (hall: ∀j,(a,j)∈s.G->(x.1,x.2.1+1,j)∈s'.H):Iv K s' D fun _=>False:=by
 subst hk;have gt:s'.t=wtAdd s.t (a:Int) x:=g.t;have gG:s'.G=s.G:=g.G;obtain⟨l,h1,h2,h3,h4⟩:=g.h;have h1:s'.H=s.H++l:=h1;have h2:s'.w=s.w++l:=h2;have h3: ∀y∈l,Okp K y/\y∉s.H:=h3;have g0:Gro (Okp K) s {s' with t:=s.t}:=⟨gG,rfl,l,h1,h2,h3,h4⟩;have v0:=v.grow g0;have hwt: ∀k',wt s'.t k'=if k'=(a:Int)then wt s.t (a:Int)++[x]else wt s.t k':=fun k'=>by rw[gt,wt_add]
 have hxs:x∉s'.w:=fun h=>by
  rw[h2]at h;rcases List.mem_append.1 h with h|h
  ·exact hxw h
  ·exact(h3 x h).2 hx
 have hxn:x∉wt s.t (a:Int):=fun h=>(v.tok _ x h).2.2.1 rfl;have tmono: ∀k', ∀q∈wt s.t k',q∈wt s'.t k':=fun k' q hq=>by
  rw[hwt]
  by_cases e:k'=(a:Int)
  ·subst e;rw[if_pos rfl];exact List.mem_append_left _ hq
  ·rw[if_neg e];exact hq
 have prx:Prc K s' x:=by
  refine⟨fun rl' h5 h6=>?_,fun rl' k' h5 h6 h7=>?_,fun rl' k' h5 h6 h7 h8=>?_,fun rl' k' h5 h6 _ _=>?_⟩
  ·rw[hr]at h5;cases h5;have:=(List.getElem?_eq_some_iff.1 hs).1;omega
  ·rw[hr]at h5;cases h5;rw[hs]at h6;cases h6;omega
  ·omega
  ·rw[hr]at h5;cases h5;rw[hs]at h6;cases h6;rw[hwt,if_pos rfl];simp
 refine⟨⟨v0.bs.nd,v0.bs.ok,v0.bs.wl⟩,v0.wn,v0.wk,v0.cnt,v0.okp,by rw[gG];exact v.gok,?_,?_,?_,?_⟩
 ·intro k' y hy;rw[hwt]at hy
  by_cases e:k'=(a:Int)
  ·subst e;rw[if_pos rfl,List.mem_append,List.mem_singleton]at hy;rcases hy with h|h
   ·obtain⟨b1,b2,b3,b4⟩:=v0.tok _ y h;exact⟨b1,b2,fun h=>h,b4⟩
   ·subst h;exact⟨by rw[h1];exact List.mem_append_left _ hx,hxs,fun h=>h,hp,by omega,rl,hr,hs⟩
  ·rw[if_neg e]at hy;obtain⟨b1,b2,b3,b4⟩:=v0.tok _ y hy;exact⟨b1,b2,fun h=>h,b4⟩
 ·intro k';rw[hwt]
  by_cases e:k'=(a:Int)
  ·subst e;rw[if_pos rfl,List.nodup_append];exact⟨v.tnd _,by simp,fun p hp' q hq e2=>by rw[List.mem_singleton]at hq;rw[hq]at e2;rw[e2]at hp';exact hxn hp'⟩
  ·rw[if_neg e];exact v.tnd _
 ·intro y hy hyw _
  by_cases e:y=x
  ·subst e;exact prx
  ·exact(v0.done y hy hyw e).mono (fun _ h=>h) (fun _ h=>h) tmono
 ·intro b y hy j hj;rw[hwt]at hy;rw[gG]at hj
  by_cases e:(b:Int)=(a:Int)
  ·have e':b=a:=by omega
   subst e';rw[if_pos rfl,List.mem_append,List.mem_singleton]at hy;rcases hy with h|h
   ·exact v0.wtd b y h j (by show(b,j)∈s'.G;rw[gG];exact hj)
   ·subst h;exact hall j hj
  ·rw[if_neg e]at hy;exact v0.wtd b y hy j (by show(b,j)∈s'.G;rw[gG];exact hj)
theorem DvR.one{g:Gr}{ks:List Int}{s:Int}{i j:Nat}(h:DvR g ks [s] i j)(h0:0<=s): ∃ql,ql∈g.rules/\0<=ql.left/\ql.left=s/\DvR g ks ql.right i j:=by
 cases h with
 |kind h1 _ _ _=>omega
 |name h1 h2 h3 h4=>
  cases h4;exact⟨_,h1,h2,rfl,h3⟩
theorem Iv.all(hg:GOk K.g)(v:Iv K s D fun _=>False)(hw:s.w=[])(base: ∀r,r<K.g.rules.length->(r,0,K.fr)∈s.H){l:List Int}{i j:Nat}(h:DvR K.g K.ks l i j):
  ∀(r a:Nat)(rl:Rl)(tl:List Int),K.g.rules[r]?=some rl->rl.right.drop a=l++tl->(r,a,i)∈s.H->K.fr<=i->(r,a+l.length,j)∈s.H:=by
 have dn: ∀y∈s.H,Prc K s y:=fun y hy=>v.done y hy (by rw[hw];simp) fun h=>h;have hd: ∀{l:List Int}{a:Nat}{s:Int}{t:List Int},l.drop a=s::t->l[a]?=some s/\l.drop (a+1)=t:=fun {l a s t} e=>by
  have hlt:a<l.length:=by
   rcases Nat.lt_or_ge a l.length with h|h
   ·exact h
   ·rw[List.drop_of_length_le h]at e;cases e
  rw[List.drop_eq_getElem_cons hlt]at e
  injection e with e1 e2
  exact⟨by rw[List.getElem?_eq_getElem hlt,e1],e2⟩
 induction h with
 |nil=>intro r a rl tl h1 h2 h3 _;exact h3
 | @kind s0 k l i j h1 h2 h3 h4 ih=>
  intro r a rl tl hr he hy hf;obtain⟨e1,e2⟩:=hd he;have:=(dn _ hy).kind rl s0 hr e1 h1 (by rw[h2,h3]);have:=ih r (a+1) rl tl hr e2 this (by omega);rw[List.length_cons,show a+(l.length+1)=a+1+l.length by omega];exact this
 | @name ql l i mm j h1 h2 h3 h4 ih1 ih2=>
  intro r a rl tl hr he hy hf;obtain⟨e1,e2⟩:=hd he;have hle:=h3.le;have step:(r,a+1,mm)∈s.H:=by
   by_cases hfi:K.fr<i
   ·exact(dn _ hy).name rl ql.left hr e1 h2 hfi mm (.name h1 h2 h3 .nil)
   ·have hfi:i=K.fr:=by omega
    subst hfi;obtain⟨q,hq⟩:=List.getElem?_of_mem h1;have hq0:=ih1 q 0 ql [] hq (by rw[List.append_nil];rfl) (base q (List.getElem?_eq_some_iff.1 hq).1) (Nat.le_refl _);rw[Nat.zero_add]at hq0;have hG:=(dn _ hq0).fin ql hq rfl;have hwt:=(dn _ hy).wait rl ql.left hr e1 h2 rfl;have ecast:ql.left=((ql.left.toNat:Nat):Int):=by omega
    rw[ecast]at hwt;exact v.wtd _ _ hwt mm hG
  have:=ih2 r (a+1) rl tl hr e2 step (by omega);rw[List.length_cons,show a+(l.length+1)=a+1+l.length by omega];exact this
theorem Iv.tells(hg:GOk K.g)(v:Iv K s D fun _=>False)(hw:s.w=[])(base: ∀r,r<K.g.rules.length->(r,0,K.fr)∈s.H)(a p:Nat):(a,p)∈s.G↔DvR K.g K.ks [(a:Int)] K.fr p:=by
 constructor
 ·exact fun h=>(v.gok a p h).2.2
 ·intro h;obtain⟨ql,h1,h2,h3,h4⟩:=h.one (by omega);obtain⟨q,hq⟩:=List.getElem?_of_mem h1;have hq0:=v.all hg hw base h4 q 0 ql [] hq (by rw[List.append_nil];rfl) (base q (List.getElem?_eq_some_iff.1 hq).1) (Nat.le_refl _);rw[Nat.zero_add]at hq0;have hG:=(v.done _ hq0 (by rw[hw];simp) fun h=>h).fin ql hq rfl;have:ql.left.toNat=a:=by omega
  rw[this]at hG;exact hG
end
theorem zc37:zcells Tryd.prog 37=some [.int .i64 0,nils,.int .i64 0]:=by kernel_rfl
section
variable {Q:Value->PH->Prop}{n:Nat}{cl ih:CL}{h h0:PH}{S:Vw}{m:OM}{rows rest ex:Rws}{K2:Value->PH->R}{K:FK}{s:FS}{P:Pt->Prop}{D:Nat}
theorem c56(st:Sl h0 h S m rows)(x:Nat){b o:Nat}{z:Int}{cs:List Value}(hi:rows[x]?=some (b,.row .own 1 cs))(hz:cs[o]?=some (.int .i64 z)):
  Ret (F56 n cl (.pointer (some ⟨b,o,none⟩)) (vN 1) h) fun v h'=> ∃z',Sl h0 h' S m (rows.set x (b,.row .own 1 (cs.set o (.int .i64 z')))):=by
 unfold F56;obtain⟨h',hp,s',_⟩:=st.sm.set (st.idx hi) (.row .own 1 (cs.set o (.int .i64 (IntKind.i64.wrap (z+1)))));have e:xAdd64 [.pointer (some ⟨b,o,none⟩),.int .i64 ((1:Nat):Int)] h=some (.int .i64 (IntKind.i64.wrap (z+1)),h'):=by
  have hw:mkI .i64 (wr .i64 (Int.add z ((1:Nat):Int)))=some (.int .i64 (IntKind.i64.wrap (z+1))):=by rw[mkI_eq,wr_eq];rfl
  have hnz:nth cs o=some (.int .i64 z):=by rw[nth_eq];exact hz
  have ho:=(List.getElem?_eq_some_iff.1 hz).1;have hm:mro Mode.own=false:=rfl;simp only[xAdd64,st.sm.get (st.idx hi),hnz,hm,hw];rw[stK_eq ho];simp only[hp]
 simp only[xNil_p,vb_some,xFld_p,Nat.add_zero,vN_eq,e];exact Ret.of ⟨_,st.put hi s'⟩
theorem FV.turn(fv:FV K s rows rest){rows' rest':Rws}(h1:mq rows=mq rows')(h2:mq rest=mq rest'):FV K s rows' rest':=by
 obtain⟨wv,exW,z,TE,TN,hq,r⟩:=fv.h;refine⟨wv,exW,z,TE,TN,?_,r⟩;rw[<-h1,hq];simp only[mq_app,mq_cons _ (_::_),mq_cons _ (_++_),h2]
theorem FM.beside(fm:FM K s rows rest){p:Nat×AObj}:FM K s (p::rows) (p::rest):=by
 obtain⟨kvs,clk,exM,fv,mp⟩:=fm.h;refine⟨kvs,clk,exM,(fv.beside (p:=p)).turn rfl ?_,mp⟩;simp only[mq_app,mq_cons _ (_::_),mq_cons _ (_++_)];rw[mq_cons p rest]
 ac_rfl
theorem FM.without{p:Nat×AObj}(st:Sl h0 h S m rows)(fm:FM K s rows (p::rest)): ∃rows',Sl h0 h S m rows'/\FM K s rows' rest:=by
 obtain⟨kvs,clk,exM,fv,mp⟩:=fm.h;obtain⟨rows',a1,a2⟩:=(fv.turn (rest':=p::((K.wb,.map (mV kvs) clk)::(exM++rest))) rfl (by
  simp only[mq_app,mq_cons _ (_::_),mq_cons _ (_++_)];rw[mq_cons p rest]
  ac_rfl)).without st
 exact⟨rows',a1,⟨kvs,clk,exM,a2,mp⟩⟩
theorem Okp.next{y:Pt}{rl:Rl}{k:Int}{p:Nat}(o:Okp K y)(hr:K.g.rules[y.1]?=some rl)(hk:rl.right[y.2.1]?=some k)(hd:DvR K.g K.ks [k] y.2.2 p):Okp K (y.1,y.2.1+1,p):=by
 obtain⟨rl',h1,h2,h3,h4⟩:=o.h;rw[hr]at h1;cases h1;have hlt:=(List.getElem?_eq_some_iff.1 hk).1;refine⟨rl,hr,hlt,hd.into h3,?_⟩
 show DvR K.g K.ks (rl.right.take (y.2.1+1)) K.fr p
 rw[take_snoc' hk];exact h4.app hd
theorem FM.ends(kv:KV S K)(st:Sl h0 h S m rows)(fv:FV K s rows rest){a p:Nat}(ha:a<K.g.names.toNat)(hp:p<=K.ks.length)(hf:K.fr<=p):
  ∃b1 o1 c1 w b2 o2 c2 be ws,xIdxS 1 K.ew (.int .i64 (p:Nat))=some (.pointer (some ⟨b1,o1,none⟩))/\S b1=some c1/\c1[o1]?=some w/\xIdxS 1 w (.int .i64 (a:Nat))=some (.pointer (some ⟨b2,o2,none⟩))/\S b2=some c2/\c2[o2]?=some (wfv K.W be)/\
   ws.length=K.W/\Wd ws/\(∀j,hs ws j=true↔if p=K.fr then(a,j)∈s.G else DvR K.g K.ks [(a:Int)] p j)/\
   ∀s' rows' rest' h',FV K s' rows' rest'->s'.G=s.G->Sl h0 h' S m rows'-> ∀(i:Nat) w,ws[i]?=some w->xLd (.pointer (some ⟨be,i,none⟩)) h'=some (.int .u64 (w:Nat)):=by
 obtain⟨We,hW1,hW2,hW3⟩:=kv.ends;have hwf:=List.getElem?_eq_getElem (l:=We) (i:=p) (by omega);generalize We[p]=w1 at hwf;obtain⟨Lp,hL1,hL2,hL3,hL4⟩:=hW3 p w1 hwf;obtain⟨be,hb⟩: ∃b,Lp[a]?=some b:=⟨_,List.getElem?_eq_getElem (by omega)⟩;obtain⟨b1,o1,c1,q1,q2,q3⟩:=hW2.at1 hwf;obtain⟨b2,o2,c2,p1,p2,p3⟩:=hL2.at1 (i:=a) (x:=wfv K.W be) (by rw[List.getElem?_map,hb];rfl)
 by_cases e:p=K.fr
 ·have:=hL3 e;subst this;obtain⟨ws,_,e2,e3,e4,_⟩:=FV.erow st fv hb;refine⟨b1,o1,c1,w1,b2,o2,c2,be,ws,q1,q2,q3,p1,p2,p3,e2,e3,fun j=>by rw[if_pos e];exact e4 j,fun s' rows' rest' h' fv' hG st' i w hw=>?_⟩;obtain⟨ws',f1,f2,f3,f4,_⟩:=FV.erow st' fv' hb;have:ws'=ws:=hs_ext (f2.trans e2.symm) f3 e3 fun j=>by
   rw[Bool.eq_iff_iff,f4,e4,hG]
  subst this;exact f1 i w hw
 ·obtain⟨ws,e1,e2,e3,e4⟩:=hL4 (by omega) a be hb;refine⟨b1,o1,c1,w1,b2,o2,c2,be,ws,q1,q2,q3,p1,p2,p3,e2,e3,fun j=>by rw[if_neg e];exact e4 j,fun s' rows' rest' h' fv' hG st' i w hw=>st'.ldS e1 (bw_get hw)⟩
set_option maxRecDepth 100000 in
theorem go43(kv:KV S K)(hn:9223372036854775808<=n)(st:Sl h0 h S m rows)(fm:FM K s rows rest)(bs:Bs K s){c:Nat}{x:Pt}{rl:Rl}{a:Nat}(hc:(c,AObj.row .own 1 (ptc x))∈rows)(hr:K.g.rules[x.1]?=some rl)(hk:rl.right[x.2.1]?=some ((a:Nat):Int))(ha:a<K.g.names.toNat)(ho:Okp K x)(hfp:K.fr<=x.2.2)(hP:x.2.2=K.fr-> ∀j,(a,j)∈s.G->DvR K.g K.ks [(a:Int)] K.fr j):
  Ret (F43_1 n (CLy n ih) (pt K.fp) (pt c) (.int .i64 ((a:Nat):Int)) h) fun v h'=>v= .tuple ⟨[]⟩/\ ∃s' rows',Sl h0 h' S m rows'/\FM K s' rows' rest/\Gro (Okp K) s s'/\ ∀j,(if x.2.2=K.fr then(a,j)∈s.G else DvR K.g K.ks [(a:Int)] x.2.2 j)->(x.1,x.2.1+1,j)∈s'.H:=by
 obtain⟨kvs,clk,exM,fv,mp⟩:=fm.h;obtain⟨rl',o1',o2',o3',o4'⟩:=ho.h;obtain⟨b1,o1,c1,w,b2,o2,c2,be,ws,q1,q2,q3,p1,p2,p3,wl,wd,wh,rd⟩:=FM.ends kv st fv ha o3' hfp;obtain⟨wv,exW,z,TE,TN,hq,_⟩:=fv.h;have hfpm:(K.fp,AObj.row .own 1 [pt K.cp,.int .i64 (K.fr:Nat),K.sv,.map (some K.wb),wv])∈rows:=mem_mq hq (.head _);have hcp:(K.cp,AObj.row .own 1 (gcs K.g K.rv K.fv K.cv K.kv++[K.kw,K.ew,.int .i64 z]))∈rows:=mem_mq hq (.tail _ (.head _));have l0:xLd (.pointer (some ⟨K.fp,0,none⟩)) h=some (pt K.cp):=st.ld hfpm rfl;have l8:xLd (.pointer (some ⟨K.cp,8,none⟩)) h=some K.ew:=st.ld hcp rfl;have r2:xLd (.pointer (some ⟨c,2,none⟩)) h=some (.int .i64 (x.2.2:Nat)):=st.ld hc rfl;have lA:xLdA 3 (.pointer (some ⟨c,0,none⟩)) h=some (.agg ⟨ptc x⟩):=st.ldA hc rfl (by simp[ptc]);have k1:xLd (.pointer (some ⟨b1,o1,none⟩)) h=some w:=st.ldS q2 q3;have k2:xLd (.pointer (some ⟨b2,o2,none⟩)) h=some (wfv K.W be):=st.ldS p2 p3;have hlt:=(List.getElem?_eq_some_iff.1 hk).1;unfold F43_1;simp only[xNil_p,vb_some,xFld_p,Nat.zero_add,l0,lA,l8,r2,q1,k1,p1,k2];refine Ret.hb (c58 (ih:=ih) kv hn st fv bs hr hlt Okp.vp wl wd (P:=Okp K) (fun j hj=>?_) rd) fun v h2 hv=>?_
 ·refine ho.next hr hk ?_;have:=(wh j).1 hj
  by_cases e:x.2.2=K.fr
  ·rw[if_pos e]at this;rw[e];exact hP e j this
  ·rw[if_neg e]at this;exact this
 ·obtain⟨rfl,s',rows',a1,a2,a3,a4⟩:=hv;exact Ret.of ⟨rfl,s',rows',a1,⟨kvs,clk,exM,a2,by rw[a3.t];exact mp⟩,a3,fun j hj=>a4 j ((wh j).2 hj)⟩
end
section
variable {Q:Value->PH->Prop}{n:Nat}{cl ih:CL}{h h0:PH}{S:Vw}{m:OM}{rows rest ex:Rws}{K2:Value->PH->R}{K:FK}{s:FS}{P:Pt->Prop}{D:Nat}
set_option maxRecDepth 100000 in
theorem wait43(st:Sl h0 h S m rows)(fm:FM K s rows rest){c:Nat}{x:Pt}{k:Int}(hc:(c,AObj.row .own 1 (ptc x))∈rows)(hl:(wt s.t k).length<=2000000){Kk:Kt}
  (hK: ∀h' rows',Sl h0 h' S m rows'->FM K {s with t:=wtAdd s.t k x} rows' rest->Ret (Kk [pt K.fp,pt c,.int .i64 k] h') Q):
  Ret (F43_2 n cl (pt K.fp) (.int .i64 k) (pt c) Kk h) Q:=by
 obtain⟨kvs,clk,exM,fv,mp⟩:=fm.h;obtain⟨wv,exW,z,TE,TN,hq,gw,we,wn,re,rn⟩:=fv.h;have hfpm:(K.fp,AObj.row .own 1 [pt K.cp,.int .i64 (K.fr:Nat),K.sv,.map (some K.wb),wv])∈rows:=mem_mq hq (.head _);have hmm:(K.wb,AObj.map (mV kvs) clk)∈rows:=mem_mq hq (.tail _ (.tail _ (List.mem_append_right _ (List.mem_append_right _ (List.mem_append_right _ (.head _))))));have l3:xLd (.pointer (some ⟨K.fp,3,none⟩)) h=some (.map (some K.wb)):=st.ld hfpm rfl;have lA:xLdA 3 (.pointer (some ⟨c,0,none⟩)) h=some (.agg ⟨ptc x⟩):=st.ldA hc rfl (by simp[ptc]);have hve:veq (.map (some K.wb)) (.map (some K.wb))=true:=by
  show Go.Am.veq (.map (some K.wb)) (.map (some K.wb))=true
  unfold Go.Am.veq veq1;simp only[Nat.beq_refl]
 have hsz:(2*((wt s.t k).length+1)+512)*24<=281474976710656:=by omega
 have fvr: ∀rows' kvs' clk' exM',mq rows'=mq ((K.wb,.map (mV kvs') clk')::(exM'++((K.fp,.row .own 1 [pt K.cp,.int .i64 (K.fr:Nat),K.sv,.map (some K.wb),wv])::(K.cp,.row .own 1 (gcs K.g K.rv K.fv K.cv K.kv++[K.kw,K.ew,.int .i64 z]))::(exW++(wrows K.LE TE++(wrows K.LN TN++rest))))))->Mp kvs' (wtAdd s.t k x) exM'->FM K {s with t:=wtAdd s.t k x} rows' rest:=by
  intro rows' kvs' clk' exM' e mp';refine⟨kvs',clk',exM',⟨wv,exW,z,TE,TN,?_,gw,we,wn,re,rn⟩,mp'⟩;rw[e];simp only[mq_app,mq_cons _ (_::_),mq_cons _ (_++_)]
  ac_rfl
 unfold F43_2;rcases mp.find k with⟨f1,f2,f3⟩|⟨l1,v,cc,l2,exl,oo,f1,f2,f3,f4,f5⟩
 ·have e1:=lkV_none st (st.mem hmm) f1;simp only[xNil_p,vb_some,xFld_p,Nat.zero_add,l3,e1,lA];have st1:Sl h0 h S m ([]++rows):=st;have gn:Gl 3 nils (wt s.t k).length ((wt s.t k).flatMap ptc) []:=by rw[f2];exact Gl.nil
  refine Ret.gapp st1 gn bs82p ai82 rfl rfl hsz fun h2 v' ex' st2 g2=>?_;rw[f2]at g2;have l3':xLd (.pointer (some ⟨K.fp,3,none⟩)) h2=some (.map (some K.wb)):=st2.ld (List.mem_append_right _ hfpm) rfl;simp only[l3',lchk_t hve];have g2':Gl 3 v' [x].length ([x].flatMap ptc) ex':=by simpa using g2
  obtain⟨exM',m1,m2⟩:=f3 v' clk x ex' g2';have st3:=st2.perm (rows':=(K.wb,.map (mV kvs) clk)::(exM++(ex'++((K.fp,.row .own 1 [pt K.cp,.int .i64 (K.fr:Nat),K.sv,.map (some K.wb),wv])::(K.cp,.row .own 1 (gcs K.g K.rv K.fv K.cv K.kv++[K.kw,K.ew,.int .i64 z]))::(exW++(wrows K.LE TE++(wrows K.LN TN++rest))))))) (perm_mq (by
   rw[mq_app,hq];simp only[mq_app,mq_cons _ (_::_),mq_cons _ (_++_)]
   ac_rfl))
  refine Ret.lmupV st3 0 rfl f1 fun h3 st4=>?_;have st4:Sl h0 h3 S m ((K.wb,.map (mV (kvs++[((k,v'),clk)])) (clk+1))::(exM++(ex'++((K.fp,.row .own 1 [pt K.cp,.int .i64 (K.fr:Nat),K.sv,.map (some K.wb),wv])::(K.cp,.row .own 1 (gcs K.g K.rv K.fv K.cv K.kv++[K.kw,K.ew,.int .i64 z]))::(exW++(wrows K.LE TE++(wrows K.LN TN++rest))))))):=st4;refine hK h3 _ st4 (fvr _ (kvs++[((k,v'),clk)]) (clk+1) exM' ?_ m1);simp only[mq_app,mq_cons _ (_::_),mq_cons _ (_++_),m2]
  ac_rfl
 ·subst f1;have e1:=lkV_hit st (st.mem hmm) f2;simp only[xNil_p,vb_some,xFld_p,Nat.zero_add,l3,e1,lA];have st1:=st.perm (rows':=exl++((K.wb,.map (mV (l1++((k,v),cc)::l2)) clk)::(oo++((K.fp,.row .own 1 [pt K.cp,.int .i64 (K.fr:Nat),K.sv,.map (some K.wb),wv])::(K.cp,.row .own 1 (gcs K.g K.rv K.fv K.cv K.kv++[K.kw,K.ew,.int .i64 z]))::(exW++(wrows K.LE TE++(wrows K.LN TN++rest))))))) (perm_mq (by
   rw[hq];simp only[mq_app,mq_cons _ (_::_),mq_cons _ (_++_),f4]
   ac_rfl))
  refine Ret.gapp st1 f3 bs82p ai82 rfl rfl hsz fun h2 v' ex' st2 g2=>?_;have l3':xLd (.pointer (some ⟨K.fp,3,none⟩)) h2=some (.map (some K.wb)):=st2.ld (b:=K.fp) (e:=1) (md:=.own) (cs:=[pt K.cp,.int .i64 (K.fr:Nat),K.sv,.map (some K.wb),wv]) (by simp) rfl;simp only[l3',lchk_t hve];have g2':Gl 3 v' (wt s.t k++[x]).length ((wt s.t k++[x]).flatMap ptc) ex':=by
   rw[List.length_append,List.length_singleton,List.flatMap_append];simpa using g2
  obtain⟨exM',m1,m2⟩:=f5 v' x ex' g2';have st3:=st2.perm List.perm_middle;refine Ret.lmupVh st3 0 rfl f2 fun h3 st4=>?_;have st4:Sl h0 h3 S m ((K.wb,.map (mV (l1++((k,v'),cc)::l2)) clk)::(ex'++(oo++((K.fp,.row .own 1 [pt K.cp,.int .i64 (K.fr:Nat),K.sv,.map (some K.wb),wv])::(K.cp,.row .own 1 (gcs K.g K.rv K.fv K.cv K.kv++[K.kw,K.ew,.int .i64 z]))::(exW++(wrows K.LE TE++(wrows K.LN TN++rest))))))):=st4;refine hK h3 _ st4 (fvr _ (l1++((k,v'),cc)::l2) clk exM' ?_ m1);simp only[mq_app,mq_cons _ (_::_),mq_cons _ (_++_),m2]
  ac_rfl
set_option maxRecDepth 100000 in
theorem c43(kv:KV S K)(hn:9223372036854775808<=n)(st:Sl h0 h S m rows)(fm:FM K s rows rest){x:Pt}(iv:Iv K s D fun y=>y=x)(hx:x∈s.H)(hxw:x∉s.w):
  Ret (F43 n (CLy n ih) (pt K.fp) (.agg ⟨ptc x⟩) h) fun v h'=>v= .tuple ⟨[]⟩/\ ∃s' rows',Sl h0 h' S m rows'/\FM K s' rows' rest/\Iv K s' D (fun _=>False)/\ ∀y∈s.H,y∈s'.H:=by
 have hox:=iv.okp x hx;obtain⟨rl,hr,hat,hpl,hdv⟩:=hox.h;have hrlt:=(List.getElem?_eq_some_iff.1 hr).1;have hrm:=List.mem_of_getElem? hr;have hgrl:=kv.gok.rl;have h8:=kv.gok.r8 rl hrm;have hfp:=hdv.le;have hn2:=kv.n;have hln:=isName_iff.1 (kv.gok.left rl hrm);have hnm:=kv.gok.nm;unfold F43;refine Ret.lbox st fun h1 c st1=>?_;have st1:Sl h0 h1 S m ((c,.row .own 1 (ptc x))::rows):=st1;obtain⟨kvs,clk,exM,fv,mp⟩:=fm.h;obtain⟨wv,exW,z,TE,TN,hq,gw,we,wn,re,rn⟩:=fv.h;have hfpm:(K.fp,AObj.row .own 1 [pt K.cp,.int .i64 (K.fr:Nat),K.sv,.map (some K.wb),wv])∈rows:=mem_mq hq (.head _);have l0:xLd (.pointer (some ⟨K.fp,0,none⟩)) h1=some (pt K.cp):=st1.ld (.tail _ hfpm) rfl;simp only[xNil_p,vb_some,xFld_p,Nat.zero_add,l0];have st2:=st1.perm (rows':=(K.cp,.row .own 1 (gcs K.g K.rv K.fv K.cv K.kv++[K.kw,K.ew,.int .i64 z]))::(c,.row .own 1 (ptc x))::(K.fp,.row .own 1 [pt K.cp,.int .i64 (K.fr:Nat),K.sv,.map (some K.wb),wv])::(exW++(wrows K.LE TE++(wrows K.LN TN++((K.wb,.map (mV kvs) clk)::(exM++rest)))))) (perm_mq (by
  rw[mq_cons,hq];simp only[mq_app,mq_cons _ (_::_),mq_cons _ (_++_)]
  ac_rfl))
 refine Ret.hb (c56 (n:=n) (cl:=CLy n ih) st2 0 rfl (o:=9) (z:=z) rfl) fun v3 h3 hv3=>?_;obtain⟨z',st3⟩:=hv3;have st3:Sl h0 h3 S m ((K.cp,.row .own 1 (gcs K.g K.rv K.fv K.cv K.kv++[K.kw,K.ew,.int .i64 z']))::(c,.row .own 1 (ptc x))::(K.fp,.row .own 1 [pt K.cp,.int .i64 (K.fr:Nat),K.sv,.map (some K.wb),wv])::(exW++(wrows K.LE TE++(wrows K.LN TN++((K.wb,.map (mV kvs) clk)::(exM++rest)))))):=st3;have l0':xLd (.pointer (some ⟨K.fp,0,none⟩)) h3=some (pt K.cp):=st3.ld (.tail _ (.tail _ (.head _))) rfl;have r0:xLd (.pointer (some ⟨c,0,none⟩)) h3=some (.int .i64 (x.1:Nat)):=st3.ld (.tail _ (.head _)) rfl;have l3:xLd (.pointer (some ⟨K.cp,3,none⟩)) h3=some K.rv:=st3.ld (.head _) rfl;obtain⟨b1,o1,c1,rwv,e1,e2,e3,e4,e5⟩:=kv.gv.rule hr;have lR:xLdA 3 (.pointer (some ⟨b1,o1,none⟩)) h3=some (.agg ⟨[.int .i64 rl.left,rwv,.int .i64 rl.dyn]⟩):=st3.ldSA e2 e3 (by omega);simp only[xNil_p,vb_some,xFld_p,Nat.zero_add,l0',r0,l3,e1,lR];refine Ret.lalloc st3 zc37 fun h4 zz st4=>?_;refine Ret.lstA st4 0 rfl rfl rfl (by simp) (by
  have q1:=e5.one;unfold oneCells;simp only[List.all_cons,List.all_nil,q1]
  rfl) fun h5 st5=>?_
 rw[setsL_all (by rfl)]at st5;have st5:Sl h0 h5 S m ((zz,.row .own 1 [.int .i64 rl.left,rwv,.int .i64 rl.dyn])::(K.cp,.row .own 1 (gcs K.g K.rv K.fv K.cv K.kv++[K.kw,K.ew,.int .i64 z']))::(c,.row .own 1 (ptc x))::(K.fp,.row .own 1 [pt K.cp,.int .i64 (K.fr:Nat),K.sv,.map (some K.wb),wv])::(exW++(wrows K.LE TE++(wrows K.LN TN++((K.wb,.map (mV kvs) clk)::(exM++rest)))))):=st5;have fm5:FM K s ((zz,.row .own 1 [.int .i64 rl.left,rwv,.int .i64 rl.dyn])::(c,.row .own 1 (ptc x))::((K.fp,.row .own 1 [pt K.cp,.int .i64 (K.fr:Nat),K.sv,.map (some K.wb),wv])::(K.cp,.row .own 1 (gcs K.g K.rv K.fv K.cv K.kv++[K.kw,K.ew,.int .i64 z']))::(exW++(wrows K.LE TE++(wrows K.LN TN++((K.wb,.map (mV kvs) clk)::(exM++rest))))))) ((zz,.row .own 1 [.int .i64 rl.left,rwv,.int .i64 rl.dyn])::(c,.row .own 1 (ptc x))::rest):=
  FM.beside (FM.beside ⟨kvs,clk,exM,⟨wv,exW,z',TE,TN,rfl,gw,we,wn,re,rn⟩,mp⟩)
 have st6:=st5.perm (rows':=(zz,.row .own 1 [.int .i64 rl.left,rwv,.int .i64 rl.dyn])::(c,.row .own 1 (ptc x))::((K.fp,.row .own 1 [pt K.cp,.int .i64 (K.fr:Nat),K.sv,.map (some K.wb),wv])::(K.cp,.row .own 1 (gcs K.g K.rv K.fv K.cv K.kv++[K.kw,K.ew,.int .i64 z']))::(exW++(wrows K.LE TE++(wrows K.LN TN++((K.wb,.map (mV kvs) clk)::(exM++rest))))))) (perm_mq (by
  simp only[mq_app,mq_cons _ (_::_),mq_cons _ (_++_)]
  ac_rfl))
 have back: ∀{h':PH}{s':FS}{rows':Rws},Sl h0 h' S m rows'->FM K s' rows' ((zz,.row .own 1 [.int .i64 rl.left,rwv,.int .i64 rl.dyn])::(c,.row .own 1 (ptc x))::rest)-> ∃rows2,Sl h0 h' S m rows2/\FM K s' rows2 rest:=by
  intro h' s' rows' st' fm';obtain⟨r1,a1,a2⟩:=fm'.without st';exact a2.without a1
 have r1:xLd (.pointer (some ⟨c,1,none⟩)) h5=some (.int .i64 (x.2.1:Nat)):=st6.ld (.tail _ (.head _)) rfl;have r2:xLd (.pointer (some ⟨c,2,none⟩)) h5=some (.int .i64 (x.2.2:Nat)):=st6.ld (.tail _ (.head _)) rfl;have z0:xLd (.pointer (some ⟨zz,0,none⟩)) h5=some (.int .i64 rl.left):=st6.ld (.head _) rfl;have z1:xLd (.pointer (some ⟨zz,1,none⟩)) h5=some rwv:=st6.ld (.head _) rfl;simp only[xFld_p,Nat.zero_add,r1,z1,vb_some,e5.lenV,xEq_i];have hwlen: ∀k,(wt s.t k).length<=2000000:=fun k=>by
  have:=few_P kv.gok hn2 (iv.tnd k) fun y hy=>(iv.okp y (iv.tok k y hy).1).vp;omega
 by_cases hend:x.2.1=rl.right.length
 ·
  have dc:decide (((x.2.1:Nat):Int)=((rl.right.length:Nat):Int))=true:=decide_eq_true (by omega);have hcast:rl.left=((rl.left.toNat:Nat):Int):=by omega
  have hta:rl.right.take x.2.1=rl.right:=by rw[hend,List.take_length]
  rw[hta]at hdv;have hdl:DvR K.g K.ks [((rl.left.toNat:Nat):Int)] K.fr x.2.2:=by
   rw[<-hcast];exact .name hrm hln.1 hdv .nil
  simp only[dc,bite_t,F43_0,xFld_p,Nat.zero_add,z0,r2,vb_some];rw[hcast];refine Ret.hb (c57 (n:=n) (cl:=CLy n ih) kv hn st6 fm5 iv.bs Okp.vp (a:=rl.left.toNat) (by omega) hpl (hwlen _) (fun _ y hy=>?_)) fun v7 h7 hv7=>?_
  ·obtain⟨y1,_,_,y4,y5,rl2,y6,y7⟩:=iv.tok _ y hy;exact(iv.okp y y1).next y6 y7 (by rw[y4];exact hdl)
  ·obtain⟨rfl,s',rows',a1,a2,a3,a4⟩:=hv7;have iv2:=iv.endG (by omega) hpl hdl a3 a4;obtain⟨rows2,b1,b2⟩:=back a1 a2;have hsub: ∀y∈s.H,y∈s'.H:=fun y hy=>a3.sub (by unfold endG;split<;>exact hy);refine Ret.of ⟨rfl,s',rows2,b1,b2,iv2.fin ⟨fun rl' h5 _=>?_,fun rl' k h5 h6=>?_,fun rl' k h5 h6=>?_,fun rl' k h5 h6=>?_⟩,hsub⟩
   ·rw[hr]at h5;cases h5;rw[a3.G];unfold endG
    split
    ·assumption
    ·simp
   all_goals
    rw[hr]at h5;cases h5;have:=(List.getElem?_eq_some_iff.1 h6).1;omega
 ·have dc:decide (((x.2.1:Nat):Int)=((rl.right.length:Nat):Int))=false:=decide_eq_false (by omega);have hlt:x.2.1<rl.right.length:=by omega
  obtain⟨k,hk⟩: ∃k,rl.right[x.2.1]?=some k:=⟨_,List.getElem?_eq_getElem hlt⟩;obtain⟨bk,ok,ck,k1,k2,k3⟩:=e5.atI hk;have lk:xLd (.pointer (some ⟨bk,ok,none⟩)) h5=some (.int .i64 k):=st6.ldS k2 k3;have l05:xLd (.pointer (some ⟨K.fp,0,none⟩)) h5=some (pt K.cp):=st6.ld (.tail _ (.tail _ (.head _))) rfl;have lG:xLdA 7 (.pointer (some ⟨K.cp,0,none⟩)) h5=some (.agg ⟨gcs K.g K.rv K.fv K.cv K.kv⟩):=st6.ldA (.tail _ (.tail _ (.tail _ (.head _)))) rfl (by simp);have okh:=st6.ok;have h44:=c44 (n:=n) (cl:=CLy n ih) (h:=h5) (nm:=K.g.names) (s:=k) (cs:=[.int .i64 K.g.kinds,.int .i64 K.g.start,K.rv,K.fv,K.cv,K.kv]);have h44:pcall (F44 n (CLy n ih) (.agg ⟨gcs K.g K.rv K.fv K.cv K.kv⟩) (.int .i64 k) h5.fzn)=some (.bool (isName K.g.names k)):=h44;have hsym:=kv.gok.right rl hrm k (List.mem_of_getElem? hk);simp only[dc,bite_f,F43_7,xFld_p,Nat.zero_add,z1,r1,vb_some,k1,lk,xNil_p,l05,lG,h44];cases hname:isName K.g.names k with
  |true=>
   have hkn:=isName_iff.1 hname;obtain⟨a,rfl⟩: ∃a:Nat,k=a:=⟨k.toNat,by omega⟩;have l1:xLd (.pointer (some ⟨K.fp,1,none⟩)) h5=some (.int .i64 (K.fr:Nat)):=st6.ld (.tail _ (.tail _ (.head _))) rfl;have hgP: ∀j,(a,j)∈s.G->DvR K.g K.ks [(a:Int)] K.fr j:=fun j hj=>(iv.gok a j hj).2.2;simp only[bite_t,jn_eq,F43_4,xFld_p,Nat.zero_add,r2,vb_some,xNil_p,l1,xEq_i]
   by_cases hpf:x.2.2=K.fr
   ·have dp:decide (((x.2.2:Nat):Int)=((K.fr:Nat):Int))=true:=decide_eq_true (by omega);simp only[dp,bite_t];refine wait43 st6 fm5 (.tail _ (.head _)) (hwlen _) fun h7 rows7 st7 fm7=>?_;have bs7:Bs K {s with t:=wtAdd s.t (a:Int) x}:=⟨iv.bs.nd,iv.bs.ok,iv.bs.wl⟩;have hc7:(c,AObj.row .own 1 (ptc x))∈rows7:=by
     obtain⟨kvs7,clk7,exM7,fv7,_⟩:=fm7.h;obtain⟨_,_,_,_,_,hq7,_⟩:=fv7.h;exact mem_mq hq7 (.tail _ (.tail _ (List.mem_append_right _ (List.mem_append_right _ (List.mem_append_right _ (.tail _ (List.mem_append_right _ (.tail _ (.head _)))))))))
    simp only[F43_3,ucons_cons];refine(go43 (ih:=ih) kv hn st7 fm7 bs7 hc7 hr hk (by omega) hox hfp fun _=>hgP).mono ?_;rintro v hh ⟨e,s',rows',a1,a2,a3,a4⟩;obtain⟨rows2,b1,b2⟩:=back a1 a2;refine⟨e,s',rows2,b1,b2,iv.wait rfl hx hxw hr hk hpf a3 (fun j hj=>a4 j ?_),fun y hy=>a3.sub hy⟩;rw[if_pos hpf];exact hj
   ·have dp:decide (((x.2.2:Nat):Int)=((K.fr:Nat):Int))=false:=decide_eq_false (by omega);simp only[dp,bite_f,F43_3,ucons_cons];refine(go43 (ih:=ih) kv hn st6 fm5 iv.bs (.tail _ (.head _)) hr hk (by omega) hox hfp fun e=>absurd e hpf).mono ?_;rintro v hh ⟨e,s',rows',a1,a2,a3,a4⟩;obtain⟨rows2,b1,b2⟩:=back a1 a2;refine⟨e,s',rows2,b1,b2,(iv.grow a3).fin ⟨fun rl' h5 h6=>?_,fun rl' k' h5 h6 h7=>?_,fun rl' k' h5 h6 h7 h8 j h9=>?_,fun rl' k' h5 h6 h7 h8=>absurd h8 hpf⟩,fun y hy=>a3.sub hy⟩
    ·rw[hr]at h5;cases h5;exact absurd h6 hend
    ·rw[hr]at h5;cases h5;rw[hk]at h6;cases h6;omega
    ·rw[hr]at h5;cases h5;rw[hk]at h6;cases h6;refine a4 j ?_;rw[if_neg hpf];exact h9
  |false=>
   have hkind:k<0/\ -1-k<K.g.kinds:=by
    unfold isSym at hsym;rw[hname]at hsym;simp only[Bool.false_or,Bool.or_false]at hsym;unfold isKind at hsym
    rwa [decide_eq_true_eq]at hsym
   have hkb:=kv.gok.kn;have l7:xLd (.pointer (some ⟨K.cp,7,none⟩)) h5=some K.kw:=st6.ld (.tail _ (.tail _ (.tail _ (.head _)))) rfl;have fin0:(∀rl' k',K.g.rules[x.1]?=some rl'->rl'.right[x.2.1]?=some k'->k'<0->K.ks[x.2.2]?=some (-1-k')->(x.1,x.2.1+1,x.2.2+1)∈s.H)->Prc K s x:=fun hh=>⟨fun rl' h5 h6=>by rw[hr]at h5;cases h5;exact absurd h6 hend,hh,fun rl' k' h5 h6 h7=>by rw[hr]at h5;cases h5;rw[hk]at h6;cases h6;omega,fun rl' k' h5 h6 h7=>by rw[hr]at h5;cases h5;rw[hk]at h6;cases h6;omega⟩;have t0: ∀o:Option Value,gd (isB true (.bool false)) o=some undef:=fun o=>rfl;have t1: ∀o:Option Value,gd (isB true (.bool true)) o=o:=fun o=>rfl;simp only[bite_f,F43_6,xFld_p,Nat.zero_add,r2,vb_some,xNil_p,l05,l7,kv.kinds.lenV,xLt_i]
   by_cases hin:x.2.2<K.ks.length
   ·have dn:decide (((x.2.2:Nat):Int)<((K.ks.length:Nat):Int))=true:=decide_eq_true (by omega);have hki:=List.getElem?_eq_getElem (l:=K.ks) (i:=x.2.2) hin;generalize K.ks[x.2.2]=kd at hki;obtain⟨b4,o4,c4,v1,v2,v3⟩:=kv.kinds.atI hki;have l4:xLd (.pointer (some ⟨b4,o4,none⟩)) h5=some (.int .i64 kd):=st6.ldS v2 v3;have eM:vM 0= .int .i64 (-1):=rfl;have hw:IntKind.i64.wrap (-1-k)= -1-k:=wrap_in (by omega) (by omega);simp only[dn,t1,vb_some,xNil_p,xFld_p,Nat.zero_add,l05,eM,xSub_i,hw,l7,r2,v1,l4,xEq_i,xPick_t]
    by_cases hkd:kd= -1-k
    ·have w2:IntKind.i64.wrap (((x.2.1:Nat):Int)+((1:Nat):Int))=((x.2.1+1:Nat):Int):=by
      rw[wrap_in (by omega) (by omega)];omega
     have w3:IntKind.i64.wrap (((x.2.2:Nat):Int)+((1:Nat):Int))=((x.2.2+1:Nat):Int):=by
      rw[wrap_in (by omega) (by omega)];omega
     have r0':xLd (.pointer (some ⟨c,0,none⟩)) h5=some (.int .i64 (x.1:Nat)):=st6.ld (.tail _ (.head _)) rfl;have hbl:=iv.bs.len kv.gok hn2;have hox2:Okp K (x.1,x.2.1+1,x.2.2+1):=hox.next hr hk (.kind hkind.1 hki hkd .nil);obtain⟨kvs6,clk6,exM6,fv6,mp6⟩:=fm5.h;simp only[decide_eq_true hkd,bite_t,F43_5,xFld_p,Nat.zero_add,r0',r1,r2,vb_some,vN_eq,xAdd_i,w2,w3,ab87];refine Ret.hb (c42 (x:=(x.1,x.2.1+1,x.2.2+1)) kv st6 fv6 hr hlt (by show x.2.2+1<=_;omega) (by omega)) fun v8 h8' hv8=>?_;obtain⟨rfl,rows8,st8,fv8⟩:=hv8;have g8:Gro (Okp K) s (comeS s (x.1,x.2.1+1,x.2.2+1)):=.come hox2;have fm8:FM K (comeS s (x.1,x.2.1+1,x.2.2+1)) rows8 _:=⟨kvs6,clk6,exM6,fv8,by rw[g8.t];exact mp6⟩;obtain⟨rows2,b1,b2⟩:=back st8 fm8;refine Ret.of ⟨rfl,_,rows2,b1,b2,(iv.grow g8).fin ⟨fun rl' h5 h6=>by rw[hr]at h5;cases h5;exact absurd h6 hend,fun _ _ _ _ _ _=>come_mem,fun rl' k' h5 h6 h7=>by rw[hr]at h5;cases h5;rw[hk]at h6;cases h6;omega,fun rl' k' h5 h6 h7=>by rw[hr]at h5;cases h5;rw[hk]at h6;cases h6;omega⟩,fun y hy=>g8.sub hy⟩
    ·simp only[decide_eq_false hkd,bite_f];obtain⟨rows2,b1,b2⟩:=back st6 fm5;refine Ret.of ⟨rfl,s,rows2,b1,b2,iv.fin (fin0 fun rl' k' h5 h6 h7 h8=>?_),fun y hy=>hy⟩;rw[hr]at h5;cases h5;rw[hk]at h6;cases h6;rw[hki]at h8;cases h8;exact absurd rfl hkd
   ·have dn:decide (((x.2.2:Nat):Int)<((K.ks.length:Nat):Int))=false:=decide_eq_false (by omega);simp only[dn,t0,vb_some,xPick_f,ff_eq,bite_f];obtain⟨rows2,b1,b2⟩:=back st6 fm5;refine Ret.of ⟨rfl,s,rows2,b1,b2,iv.fin (fin0 fun rl' k' h5 h6 h7 h8=>?_),fun y hy=>hy⟩;have:=(List.getElem?_eq_some_iff.1 h8).1;omega
end
theorem zi63:zinfo Tryd.prog 63=some (1,8,[.int .u64 0]):=by kernel_rfl
theorem bw_zrows{N:Nat}:zrows [.int .u64 0] N=bw (List.replicate N 0):=by
 rw[zrows1];simp[bw]
theorem bs61{W b:Nat}:bsRow Tryd.prog 61 1 [(0,wfv W b)]=some (1,[wfv W b]):=by kernel_rfl
theorem ai61:appInfo Tryd.prog #[61,61]=some (1,24):=by kernel_rfl
theorem bs53{b o k c:Nat}:bsRow Tryd.prog 53 1 [(0,.slice (some ⟨b,o,none⟩) k c)]=some (1,[.slice (some ⟨b,o,none⟩) k c]):=by kernel_rfl
theorem ai53:appInfo Tryd.prog #[53,53]=some (1,24):=by kernel_rfl
theorem ab84{c w:Nat}{f:Int}:abuild Tryd.prog 84 [(0,pt c),(1,.int .i64 f),(3,.map (some w))]=some (.agg ⟨[pt c,.int .i64 f,nils,.map (some w),nils]⟩):=by kernel_rfl
abbrev zws(W:Nat):List Nat:=List.replicate W 0
section
variable {Q:Value->PH->Prop}{n:Nat}{cl ih:CL}{h h0:PH}{S:Vw}{m:OM}{rows rest ex Rs:Rws}{K2:Value->PH->R}{g:Gr}{rv fv cv kv kw ew:Value}{ks:List Int}{cp W:Nat}
theorem c25[OkH h](hS:Vw.le S h.cells){cc:List Value}(hc:S cp=some cc)(h7:cc[7]?=some kw)(rk:RdV (rI .i64) S kw ks)(hn2:ks.length<=2000):
  Fr h.fzn S (F25 n cl (pt cp) h.fzn) fun v ex=> ∃b,v=wfv ((ks.length+1) / 64+1) b/\ex=[(b,.row .own 1 (bw (zws ((ks.length+1) / 64+1))))]:=by
 unfold Fr F25;have st:Sl h.fzn h.fzn S OM.emp []:=Sl.start h.fzn (fun b cs e=>hS b cs e);have l7:xLd (.pointer (some ⟨cp,7,none⟩)) h.fzn=some kw:=st.ldS hc h7;have w1:IntKind.i64.wrap (((ks.length:Nat):Int)+((1:Nat):Int))=((ks.length+1:Nat):Int):=by
  rw[wrap_in (by omega) (by omega)];omega
 have hq:(ks.length+1) / 64<=32:=by omega
 have w2:IntKind.i64.wrap ((((ks.length+1) / 64:Nat):Int)+((1:Nat):Int))=(((ks.length+1) / 64+1:Nat):Int):=by
  rw[wrap_in (by omega) (by omega)];omega
 simp only[xNil_p,vb_some,xFld_p,Nat.zero_add,l7,rk.lenV,vN_eq,xAdd_i,w1,xQuo_n (x:=ks.length+1) (y:=64) (by decide) (by omega),w2];refine Ret.lmk st zi63 (by omega) (by omega) (by omega) (by omega) fun h1 b st1=>?_;rw[Int.toNat_natCast,bw_zrows]at st1;rw[Int.toNat_natCast];exact Fr.ret st1 ⟨b,rfl,rfl⟩
set_option maxRecDepth 100000 in
theorem loop26j(hn:9223372036854775808<=n){N:Nat}(hN:N<=1000){cc:List Value}(hc: ∃md e,(cp,AObj.row md e cc)∈Rs)(h7:cc[7]?=some kw)(rk:RdV (rI .i64) S kw ks)(hn2:ks.length<=2000)(hW:W=(ks.length+1) / 64+1){frv fpv rlv kkv iv:Value}{Ko:Kt}
  (hK: ∀h S' lv Ln,VwN h0 S S'->Sl h0 h S' m (wrows Ln (List.replicate N (zws W))++Rs)->Ln.length=N->SlC S' 1 lv N (Ln.map (wfv W))->(0<N-> ∃b o k c,lv= .slice (some ⟨b,o,none⟩) k c)->Ret (F26_1 n cl fpv lv iv Ko (pt cp) frv rlv kkv h) Q):
  ∀(q i fu:Nat)(lv:Value)(Ln:List Nat)(ex:Rws)(h:PH),N=i+q->q<fu->Ln.length=i->Gl 1 lv i (Ln.map (wfv W)) ex->Sl h0 h S m (ex++(wrows Ln (List.replicate i (zws W))++Rs))->
   Ret (lp fu (F26_3 n cl Ko) [pt cp,frv,fpv,lv,rlv,kkv,iv,.int .i64 (N:Nat),.int .i64 (i:Nat)] h) Q:=by
 intro q
 induction q with
 |zero=>
  intro i fu lv Ln ex h hq hf hl gl st;obtain⟨fu,rfl⟩: ∃q,fu=q+1:=⟨fu-1,by omega⟩;rw[lp_succ];have dc:decide (((i:Nat):Int)<((N:Nat):Int))=false:=decide_eq_false (by omega);have hi:i=N:=by omega
  subst hi;simp only[F26_3,ucons_cons,F26_2,xLt_i,dc,vb_some,bite_f];obtain⟨S',le',st',hA⟩:=Gl.settleV st gl;refine hK h S' lv Ln le' st' hl hA fun hp=>?_;rcases gl.h with⟨h,_⟩|⟨b,o,cap,all,rfl,_⟩
  ·omega
  ·exact⟨_,_,_,_,rfl⟩
 |succ q ihq=>
  intro i fu lv Ln ex h hq hf hl gl st;obtain⟨fu,rfl⟩: ∃q,fu=q+1:=⟨fu-1,by omega⟩;rw[lp_succ];have dc:decide (((i:Nat):Int)<((N:Nat):Int))=true:=decide_eq_true (by omega);simp only[F26_3,ucons_cons,F26_2,xLt_i,dc,vb_some,bite_t,F26_0];obtain⟨S',le1,le2,hS'⟩:=st.whole;obtain⟨md,e,hcm⟩:=hc;have okh:=st.ok;refine Ret.lfcall st (c25 (h:=h) (n:=n) (cl:=cl) (S:=S') le2 (hS' cp e md cc (List.mem_append_right _ (List.mem_append_right _ hcm))) h7 (rk.mono le1) hn2) fun v h1 ex1 hv st1=>?_;obtain⟨b,rfl,rfl⟩:=hv;rw[<-hW]at*;have st1:Sl h0 h1 S m ((b,AObj.row .own 1 (bw (zws W)))::(ex++(wrows Ln (List.replicate i (zws W))++Rs))):=st1;have st2:=st1.perm List.perm_middle.symm;have hsz:(2*(i+1)+512)*24<=281474976710656:=by omega
  refine Ret.gapp st2 gl bs61 ai61 rfl rfl hsz fun h3 v' ex' st3 g3=>?_;simp only[vN_eq,xAdd_i,vb_some,show(((1:Nat):Int))=1 from rfl,wrap1 (i:=i) (by omega)];have e:Ln.map (wfv W)++[wfv W b]=(Ln++[b]).map (wfv W):=by simp
  rw[e]at g3;refine ihq (i+1) fu v' (Ln++[b]) ex' h3 (by omega) (by omega) (by simp[hl]) g3 ?_;have er:wrows (Ln++[b]) (List.replicate (i+1) (zws W))=wrows Ln (List.replicate i (zws W))++[(b,AObj.row .own 1 (bw (zws W)))]:=by
   rw[List.replicate_succ',wrows_app (by simp[hl])];rfl
  rw[er,List.append_assoc];exact st3.perm (List.Perm.append_left _ List.perm_middle.symm)
end
structure BldS(S:Vw)(g:Gr)(W i:Nat)(Ws:List Value)(LN:List Nat):Prop where
 w:Ws.length=i
 l:LN.length=offs g i
 h: ∀r rl w,g.rules[r]?=some rl->Ws[r]?=some w->SlC S 1 w (rl.right.length+1) (((LN.drop (offs g r)).take (rl.right.length+1)).map (wfv W))
theorem BldS.mono{S S':Vw}{g:Gr}{W i:Nat}{Ws:List Value}{LN:List Nat}(hs:Vw.le S S')(b:BldS S g W i Ws LN):BldS S' g W i Ws LN:=⟨b.w,b.l,fun r rl w h1 h2=>(b.h r rl w h1 h2).mono hs⟩
theorem BldS.snoc{S:Vw}{g:Gr}{W i:Nat}{Ws:List Value}{LN Ln:List Nat}{rl:Rl}{w:Value}(b:BldS S g W i Ws LN)(hr:g.rules[i]?=some rl)(hl:Ln.length=rl.right.length+1)(hw:SlC S 1 w (rl.right.length+1) (Ln.map (wfv W))):BldS S g W (i+1) (Ws++[w]) (LN++Ln):=by
 refine⟨by simp[b.w],by rw[List.length_append,b.l,hl,offs_succ hr],fun r rl' w' h1 h2=>?_⟩
 by_cases e:r<i
 ·rw[List.getElem?_append_left (by rw[b.w];exact e)]at h2;have hle:offs g r+(rl'.right.length+1)<=LN.length:=by
   rw[b.l, <-offs_succ h1];exact offs_mono e
  rw[List.drop_append_of_le_length (by omega),List.take_append_of_le_length (by rw[List.length_drop];omega)];exact b.h r rl' w' h1 h2
 ·have h2':=(List.getElem?_eq_some_iff.1 h2).1;rw[List.length_append,List.length_singleton,b.w]at h2';have e:r=i:=by omega
  subst e;rw[hr]at h1;cases h1;rw[List.getElem?_append_right (by rw[b.w];exact Nat.le_refl _),b.w,Nat.sub_self]at h2;simp at h2;subst h2;have:(LN++Ln).drop (offs g r)=Ln:=by rw[<-b.l];simp
  rw[this, <-hl,List.take_length,hl];exact hw
section
variable {Q:Value->PH->Prop}{n:Nat}{cl ih:CL}{h h0:PH}{S:Vw}{m:OM}{rows rest ex Rs:Rws}{K2:Value->PH->R}{g:Gr}{rv fv cv kv kw ew:Value}{ks:List Int}{cp W fp wb:Nat}
set_option maxRecDepth 100000 in
theorem loop26r(hn:9223372036854775808<=n)(hg:GOk g){cc:List Value}(hc: ∃md e,(cp,AObj.row md e cc)∈Rs)(h7:cc[7]?=some kw)(hn2:ks.length<=2000)(hW:W=(ks.length+1) / 64+1){f:Int}
  (hK: ∀h S' sv Ws LN ex,VwN h0 S S'->Gl 1 sv g.rules.length Ws ex->BldS S' g W g.rules.length Ws LN->Sl h0 h S' m (ex++((fp,.row .own 1 [pt cp,.int .i64 f,sv,.map (some wb),nils])::(wrows LN (List.replicate LN.length (zws W))++Rs)))->Ret (F26_10 n cl (pt cp) (.int .i64 f) (pt fp) h) Q):
  ∀(q i fu:Nat)(S1:Vw)(sv:Value)(Ws:List Value)(LN:List Nat)(ex:Rws)(h:PH),g.rules.length=i+q->q<fu->VwN h0 S S1->GrV S1 g rv fv cv kv->RdV (rI .i64) S1 kw ks->Gl 1 sv i Ws ex->BldS S1 g W i Ws LN->Sl h0 h S1 m (ex++((fp,.row .own 1 [pt cp,.int .i64 f,sv,.map (some wb),nils])::(wrows LN (List.replicate LN.length (zws W))++Rs)))->
   Ret (lp fu (F26_12 n cl) [pt cp,.int .i64 f,pt fp,rv,.int .i64 (g.rules.length:Nat),.int .i64 (i:Nat)] h) Q:=by
 have hgrl:=hg.rl;intro q
 induction q with
 |zero=>
  intro i fu S1 sv Ws LN ex h hq hf le gv rk gl bl st;obtain⟨fu,rfl⟩: ∃q,fu=q+1:=⟨fu-1,by omega⟩;rw[lp_succ];have dc:decide (((i:Nat):Int)<((g.rules.length:Nat):Int))=false:=decide_eq_false (by omega);have hi:i=g.rules.length:=by omega
  subst hi;simp only[F26_12,ucons_cons,F26_11,xLt_i,dc,vb_some,bite_f];exact hK h S1 sv Ws LN ex le gl bl st
 |succ q ihq=>
  intro i fu S1 sv Ws LN ex h hq hf le gv rk gl bl st;obtain⟨fu,rfl⟩: ∃q,fu=q+1:=⟨fu-1,by omega⟩;rw[lp_succ];have dc:decide (((i:Nat):Int)<((g.rules.length:Nat):Int))=true:=decide_eq_true (by omega);obtain⟨rl,hr⟩: ∃rl,g.rules[i]?=some rl:=⟨_,List.getElem?_eq_getElem (by omega)⟩;have h8:=hg.r8 rl (List.mem_of_getElem? hr);obtain⟨b1,o1,c1,wv,e1,e2,e3,e4,e5⟩:=gv.rule hr;have lR:xLdA 3 (.pointer (some ⟨b1,o1,none⟩)) h=some (.agg ⟨[.int .i64 rl.left,wv,.int .i64 rl.dyn]⟩):=st.ldSA e2 e3 (by omega);simp only[F26_12,ucons_cons,F26_11,xLt_i,dc,vb_some,bite_t,F26_4,e1,lR];refine Ret.lalloc st zc37 fun h1 zz st1=>?_;refine Ret.lstA st1 0 rfl rfl rfl (by simp) (by
   have q1:=e5.one;unfold oneCells;simp only[List.all_cons,List.all_nil,q1]
   rfl) fun h2 st2=>?_
  rw[setsL_all (by rfl)]at st2;have st2:Sl h0 h2 S1 m ((zz,.row .own 1 [.int .i64 rl.left,wv,.int .i64 rl.dyn])::(ex++((fp,.row .own 1 [pt cp,.int .i64 f,sv,.map (some wb),nils])::(wrows LN (List.replicate LN.length (zws W))++Rs)))):=st2;have z1:xLd (.pointer (some ⟨zz,1,none⟩)) h2=some wv:=st2.ld (.head _) rfl;have w1:IntKind.i64.wrap (((rl.right.length:Nat):Int)+((1:Nat):Int))=((rl.right.length+1:Nat):Int):=by
   rw[wrap_in (by omega) (by omega)];omega
  simp only[xFld_p,Nat.zero_add,z1,vb_some,e5.lenV,vN_eq,xAdd_i,w1];have st3:=st2.drop (List.sublist_cons_self _ _);obtain⟨md,e,hcm⟩:=hc;refine loop26j (Rs:=ex++((fp,.row .own 1 [pt cp,.int .i64 f,sv,.map (some wb),nils])::(wrows LN (List.replicate LN.length (zws W))++Rs))) hn (by omega) ⟨md,e,List.mem_append_right _ (.tail _ (List.mem_append_right _ hcm))⟩ h7 rk hn2 hW (fun h4 S4 lv Ln le4 st4 hl4 hC4 hsl=>?_) (rl.right.length+1) 0 n nils [] [] h2 (by omega) (by omega) rfl Gl.nil st3;obtain⟨b4,o4,k4,c4,rfl⟩:=hsl (by omega);have hfm:(fp,AObj.row .own 1 [pt cp,.int .i64 f,sv,.map (some wb),nils])∈wrows Ln (List.replicate (rl.right.length+1) (zws W))++(ex++((fp,.row .own 1 [pt cp,.int .i64 f,sv,.map (some wb),nils])::(wrows LN (List.replicate LN.length (zws W))++Rs))):=by simp
  have l2:xLd (.pointer (some ⟨fp,2,none⟩)) h4=some sv:=st4.ld hfm rfl;unfold F26_1;simp only[xNil_p,vb_some,xFld_p,Nat.zero_add,l2];have hsz:(2*(i+1)+512)*24<=281474976710656:=by omega
  have st5:=st4.perm (perm_a _ _ _);refine Ret.gapp st5 gl bs53 ai53 rfl rfl hsz fun h6 sv' ex' st6 g6=>?_;have st7:=st6.perm ((List.perm_middle.append_left ex').trans List.perm_middle);refine Ret.lst1 st7 0 rfl rfl (by simp) (by exact g6.one) fun h8' st8=>?_;have st8:Sl h0 h8' S4 m ((fp,.row .own 1 [pt cp,.int .i64 f,sv',.map (some wb),nils])::(ex'++(wrows Ln (List.replicate (rl.right.length+1) (zws W))++(wrows LN (List.replicate LN.length (zws W))++Rs)))):=st8;have hrep:wrows (LN++Ln) (List.replicate (LN++Ln).length (zws W))=wrows LN (List.replicate LN.length (zws W))++wrows Ln (List.replicate (rl.right.length+1) (zws W)):=by
   rw[<-wrows_app (by simp),List.length_append,hl4,List.replicate_append_replicate]
  simp only[vN_eq,xAdd_i,vb_some,show(((1:Nat):Int))=1 from rfl,wrap1 (i:=i) (by omega)];refine ihq (i+1) fu S4 sv' (Ws++[.slice (some ⟨b4,o4,none⟩) k4 c4]) (LN++Ln) ex' h8' (by omega) (by omega) (le.trans le4) (gv.mono le4.1) (rk.mono le4.1) g6 ((bl.mono le4.1).snoc hr hl4 hC4) ?_;rw[hrep];refine st8.perm (List.perm_middle.symm.trans (List.Perm.append_left ex' (List.Perm.cons _ (perm_b _ _ _))))
end
theorem u82: ∃inf,Tryd.prog.underlying 82=some (.slice 87)/\Tryd.prog.info? 87=some inf:=by
 have e2:(Tryd.prog.info? 87).isSome=true:=by kernel_rfl
 obtain⟨inf,h⟩:=Option.isSome_iff_exists.1 e2;exact⟨inf,Tryd.underlying82,h⟩
theorem cutG{wv:Value}{k:Nat}{cells:List Value}{ex:Rws}(g:Gl 3 wv (k+1) cells ex)(gc:Gc wv)(hk:k<=1000000000): ∃wv',acut Tryd.prog 82 wv none (some (.int .i64 (k:Nat))) none=some wv'/\Gl 3 wv' k (cells.take (k*3)) ex/\Gc wv':=by
 obtain⟨inf,hu,hi⟩:=u82;rcases g.h with⟨h,_⟩|⟨b,o,cap,all,rfl,rfl,rfl,h2,h3,h4,h5⟩
 ·omega
 ·obtain⟨rfl,rfl⟩:o=0/\cap=openCap:=by
   rcases gc with e|⟨b',k',e⟩
   ·cases e
   ·cases e;exact⟨rfl,rfl⟩
  have hc:CapOk (k+1) openCap:=CapOk.opn (by omega);have e:=acut_at (P:=Tryd.prog) (T:=82) (b:=b) (o:=0) (n:=k+1) (c:=openCap) (l:=0) (r:=k) (lo:=none) (hi:=some (.int .i64 (k:Nat))) hu hi hc (bd_i (by omega) (by have:=hc.1;omega)) rfl (Nat.zero_le _) (Nat.le_succ _);have hne: ¬ openCap=0:=by decide
  rw[if_neg hne,Nat.zero_mul]at e;refine⟨_,e,⟨.inr ⟨b,0,openCap,all,rfl,rfl,?_,by omega,by rw[Nat.sub_self,Nat.zero_mul],Nat.le_refl _,h5⟩⟩,.inr ⟨b,k,rfl⟩⟩;rw[List.take_take,Nat.min_eq_left (by omega)]
section
variable {Q:Value->PH->Prop}{n:Nat}{cl ih:CL}{h h0:PH}{S:Vw}{m:OM}{rows rest ex Rs:Rws}{K2:Value->PH->R}{K:FK}{s:FS}{D:Nat}
set_option maxRecDepth 100000 in
theorem loop26w(kv:KV S K)(hn:9223372036854775808<=n):
  ∀(q fu D:Nat)(s:FS)(rows:Rws)(h:PH),1966080<=D+q->q<fu->Sl h0 h S m rows->FM K s rows rest->Iv K s D (fun _=>False)->(∀r,r<K.g.rules.length->(r,0,K.fr)∈s.H)->
   Ret (lp fu (fun g i h=>ucons i fun j k=>F26_7 n (CLy n ih) j g h) [pt K.fp] h) fun v h'=>v= .tuple ⟨[]⟩/\ ∃s' rows' D',Sl h0 h' S m rows'/\FM K s' rows' rest/\Iv K s' D' (fun _=>False)/\s'.w=[]/\ ∀r,r<K.g.rules.length->(r,0,K.fr)∈s'.H:=by
 have hn2:=kv.n;intro q
 induction q with
 |zero=>
  intro fu D s rows h hq hf st fm iv base;obtain⟨fu,rfl⟩: ∃q,fu=q+1:=⟨fu-1,by omega⟩;rw[lp_succ];obtain⟨kvs,clk,exM,fv,mp⟩:=fm.h;obtain⟨wv,exW,z,TE,TN,hqq,gw,we,wn,re,rn⟩:=fv.h;have hfpm:(K.fp,AObj.row .own 1 [pt K.cp,.int .i64 (K.fr:Nat),K.sv,.map (some K.wb),wv])∈rows:=mem_mq hqq (.head _);have l4:xLd (.pointer (some ⟨K.fp,4,none⟩)) h=some wv:=st.ld hfpm rfl;have hl:=iv.bs.len kv.gok hn2;have hc:=iv.cnt;have hw0:s.w.length=0:=by omega
  have dc:decide (((0:Nat):Int)<((s.w.length:Nat):Int))=false:=decide_eq_false (by omega);simp only[ucons_cons,F26_7,xNil_p,xFld_p,Nat.zero_add,l4,vb_some,gw.1.len,vN_eq,xGt_i,dc,bite_f];exact Ret.of ⟨rfl,s,rows,D,st,fm,iv,List.length_eq_zero_iff.1 hw0,base⟩
 |succ q ihq=>
  intro fu D s rows h hq hf st fm iv base;obtain⟨fu,rfl⟩: ∃q,fu=q+1:=⟨fu-1,by omega⟩;rw[lp_succ];obtain⟨kvs,clk,exM,fv,mp⟩:=fm.h;obtain⟨wv,exW,z,TE,TN,hqq,gw,we,wn,re,rn⟩:=fv.h;have hfpm:(K.fp,AObj.row .own 1 [pt K.cp,.int .i64 (K.fr:Nat),K.sv,.map (some K.wb),wv])∈rows:=mem_mq hqq (.head _);have l4:xLd (.pointer (some ⟨K.fp,4,none⟩)) h=some wv:=st.ld hfpm rfl;have hl:=iv.bs.len kv.gok hn2
  by_cases hw0:s.w=[]
  ·have e0:s.w.length=0:=by rw[hw0];rfl
   have dc:decide (((0:Nat):Int)<((s.w.length:Nat):Int))=false:=decide_eq_false (by omega);simp only[ucons_cons,F26_7,xNil_p,xFld_p,Nat.zero_add,l4,vb_some,gw.1.len,vN_eq,xGt_i,dc,bite_f];exact Ret.of ⟨rfl,s,rows,D,st,fm,iv,hw0,base⟩
  ·obtain⟨w',x,hw⟩: ∃w' x,s.w=w'++[x]:=⟨s.w.dropLast,s.w.getLast hw0,(List.dropLast_concat_getLast hw0).symm⟩;have hlen:s.w.length=w'.length+1:=by rw[hw];simp
   have dc:decide (((0:Nat):Int)<((s.w.length:Nat):Int))=true:=decide_eq_true (by omega);have w1:IntKind.i64.wrap (((s.w.length:Nat):Int)-((1:Nat):Int))=((w'.length:Nat):Int):=by
    rw[wrap_in (by omega) (by omega)];omega
   obtain⟨g1,gc⟩:=gw;rw[hlen]at g1;obtain⟨wv',ec,g2,gc2⟩:=cutG g1 gc (by omega);have hcells:(s.w.flatMap ptc).take (w'.length*3)=w'.flatMap ptc:=by
    have hl3: ∀l:List Pt,(l.flatMap ptc).length=l.length*3:=fun l=>by
     induction l with
     |nil=>rfl
     |cons y l ih=>rw[List.flatMap_cons,List.length_append,ih,List.length_cons];simp[ptc];omega
    rw[hw,List.flatMap_append,List.take_append_of_le_length (by rw[hl3];exact Nat.le_refl _),List.take_of_length_le (by rw[hl3];exact Nat.le_refl _)]
   rw[hcells]at g2;have hpt: ∃p,xIdxS 3 wv (.int .i64 (w'.length:Nat))=some p/\ ∀{h':PH}{rows':Rws},Sl h0 h' S m rows'->(∀r∈exW,r∈rows')->xLdA 3 p h'=some (.agg ⟨ptc x⟩):=by
    rcases g1.h with⟨h,_⟩|⟨b,o,cap,all,rfl,rfl,h1,h2,_⟩
    ·omega
    ·refine⟨.pointer (some ⟨b,o+w'.length*3,none⟩),by rw[xIdxS_at (by omega) (by omega)];simp,fun {h' rows'} st' hm=>?_⟩;refine st'.ldA (hm _ (.head _)) ?_ (by omega);have hd:((s.w.flatMap ptc).drop (w'.length*3)).take 3=ptc x:=by
      have hl3: ∀l:List Pt,(l.flatMap ptc).length=l.length*3:=fun l=>by
       induction l with
       |nil=>rfl
       |cons y l ih=>rw[List.flatMap_cons,List.length_append,ih,List.length_cons];simp[ptc];omega
      rw[hw,List.flatMap_append, <-hl3,List.drop_left];simp[ptc]
     rw[h1,List.drop_take,List.take_take,List.drop_drop]at hd;rw[show min 3 ((w'.length+1)*3-w'.length*3)=3 by omega]at hd;exact hd
   obtain⟨p,hp1,hp2⟩:=hpt;have hexW: ∀r∈exW,r∈rows:=fun r hr=>mem_mq hqq (.tail _ (.tail _ (List.mem_append_left _ hr)));have lA:=hp2 st hexW;have hln:xLenS wv=some (.int .i64 (s.w.length:Nat)):=by rw[hlen];exact g1.len
   simp only[ucons_cons,F26_7,xNil_p,xFld_p,Nat.zero_add,l4,vb_some,hln,vN_eq,xGt_i,dc,bite_t,F26_6,xSub_i,w1,hp1,lA];refine Ret.lalloc st zc87 fun h1 o st1=>?_;refine Ret.lstA st1 0 rfl rfl rfl (by simp[ptc]) rfl fun h2 st2=>?_;rw[setsL_all (by rfl)]at st2;have st2:Sl h0 h2 S m ((o,.row .own 1 (ptc x))::rows):=st2;have l4':xLd (.pointer (some ⟨K.fp,4,none⟩)) h2=some wv:=st2.ld (.tail _ hfpm) rfl;simp only[xNil_p,xFld_p,Nat.zero_add,l4',vb_some,hln,vN_eq,xSub_i,w1,ec];have st3:=st2.perm (rows':=(K.fp,.row .own 1 [pt K.cp,.int .i64 (K.fr:Nat),K.sv,.map (some K.wb),wv])::(o,.row .own 1 (ptc x))::(K.cp,.row .own 1 (gcs K.g K.rv K.fv K.cv K.kv++[K.kw,K.ew,.int .i64 z]))::(exW++(wrows K.LE TE++(wrows K.LN TN++((K.wb,.map (mV kvs) clk)::(exM++rest)))))) (perm_mq (by
    rw[mq_cons,hqq];simp only[mq_app,mq_cons _ (_::_),mq_cons _ (_++_)]
    ac_rfl))
   refine Ret.lst1 st3 0 rfl rfl (by simp) (by exact g2.one) fun h4 st4=>?_;have st4:Sl h0 h4 S m ((K.fp,.row .own 1 [pt K.cp,.int .i64 (K.fr:Nat),K.sv,.map (some K.wb),wv'])::(o,.row .own 1 (ptc x))::(K.cp,.row .own 1 (gcs K.g K.rv K.fv K.cv K.kv++[K.kw,K.ew,.int .i64 z]))::(exW++(wrows K.LE TE++(wrows K.LN TN++((K.wb,.map (mV kvs) clk)::(exM++rest)))))):=st4;have lO:xLdA 3 (.pointer (some ⟨o,0,none⟩)) h4=some (.agg ⟨ptc x⟩):=st4.ldA (.tail _ (.head _)) rfl (by simp[ptc]);have st5:=st4.drop (rows':=(K.fp,.row .own 1 [pt K.cp,.int .i64 (K.fr:Nat),K.sv,.map (some K.wb),wv'])::(K.cp,.row .own 1 (gcs K.g K.rv K.fv K.cv K.kv++[K.kw,K.ew,.int .i64 z]))::(exW++(wrows K.LE TE++(wrows K.LN TN++((K.wb,.map (mV kvs) clk)::(exM++rest)))))) (.cons_cons _ (List.sublist_cons_self _ _));have fm5:FM K {s with w:=w'} ((K.fp,.row .own 1 [pt K.cp,.int .i64 (K.fr:Nat),K.sv,.map (some K.wb),wv'])::(K.cp,.row .own 1 (gcs K.g K.rv K.fv K.cv K.kv++[K.kw,K.ew,.int .i64 z]))::(exW++(wrows K.LE TE++(wrows K.LN TN++((K.wb,.map (mV kvs) clk)::(exM++rest)))))) rest:=⟨kvs,clk,exM,⟨wv',exW,z,TE,TN,rfl,⟨g2,gc2⟩,we,wn,re,rn⟩,mp⟩;have iv5:=iv.pop hw;have hxw:x∉w':=fun hh=>by
    have hnd:=iv.wn;rw[hw,List.nodup_append]at hnd;exact hnd.2.2 x hh x (by simp) rfl
   simp only[lO,vb_some];refine Ret.hb (c43 (ih:=ih) kv hn st5 fm5 iv5 (iv.wk x (by rw[hw];simp)) hxw) fun v6 h6 hv6=>?_;obtain⟨rfl,s',rows',a1,a2,a3,a4⟩:=hv6;have hc:=iv.cnt;exact ihq fu (D+1) s' rows' h6 (by omega) (by omega) a1 a2 a3 fun r hr=>a4 _ (base r hr)
set_option maxRecDepth 100000 in
theorem loop26b(kv:KV S K)(hn:9223372036854775808<=n):
  ∀(q r fu:Nat)(s:FS)(rows:Rws)(h:PH),K.g.rules.length=r+q->q<fu->Sl h0 h S m rows->FM K s rows rest->Iv K s 0 (fun _=>False)->(∀r',r'<r->(r',0,K.fr)∈s.H)->
   Ret (lp fu (F26_9 n (CLy n ih)) [.int .i64 (K.fr:Nat),pt K.fp,.int .i64 (K.g.rules.length:Nat),.int .i64 (r:Nat)] h) fun v h'=>v= .tuple ⟨[]⟩/\ ∃s' rows' D',Sl h0 h' S m rows'/\FM K s' rows' rest/\Iv K s' D' (fun _=>False)/\s'.w=[]/\ ∀r,r<K.g.rules.length->(r,0,K.fr)∈s'.H:=by
 have hgrl:=kv.gok.rl;intro q
 induction q with
 |zero=>
  intro r fu s rows h hq hf st fm iv base;obtain⟨fu,rfl⟩: ∃q,fu=q+1:=⟨fu-1,by omega⟩;rw[lp_succ];have dc:decide (((r:Nat):Int)<((K.g.rules.length:Nat):Int))=false:=decide_eq_false (by omega);simp only[F26_9,ucons_cons,F26_8,xLt_i,dc,vb_some,bite_f];exact loop26w kv hn 1966080 n 0 s rows h (by omega) (by omega) st fm iv fun r' hr'=>base r' (by omega)
 |succ q ihq=>
  intro r fu s rows h hq hf st fm iv base;obtain⟨fu,rfl⟩: ∃q,fu=q+1:=⟨fu-1,by omega⟩;rw[lp_succ];have dc:decide (((r:Nat):Int)<((K.g.rules.length:Nat):Int))=true:=decide_eq_true (by omega);obtain⟨rl,hr⟩: ∃rl,K.g.rules[r]?=some rl:=⟨_,List.getElem?_eq_getElem (by omega)⟩;have hl:=iv.bs.len kv.gok kv.n;obtain⟨kvs,clk,exM,fv,mp⟩:=fm.h;have e87:=ab87 (a:=r) (b:=0) (c:=K.fr);simp only[F26_9,ucons_cons,F26_8,xLt_i,dc,vb_some,bite_t,F26_5,vN_eq,e87];refine Ret.hb (c42 (x:=(r,0,K.fr)) kv st fv hr (Nat.zero_le _) kv.fr (by omega)) fun v2 h2 hv2=>?_;obtain⟨rfl,rows2,st2,fv2⟩:=hv2;have g2:Gro (Okp K) s (comeS s (r,0,K.fr)):=.come ⟨rl,hr,Nat.zero_le _,kv.fr,.nil⟩;simp only[xAdd_i,vb_some,show(((1:Nat):Int))=1 from rfl,wrap1 (i:=r) (by omega)];refine ihq (r+1) fu _ rows2 h2 (by omega) (by omega) st2 ⟨kvs,clk,exM,fv2,by rw[g2.t];exact mp⟩ (iv.grow g2) fun r' hr'=>?_
  by_cases e:r'=r
  ·subst e;exact come_mem
  ·exact g2.sub (base r' (by omega))
end
def EndsV(S:Vw)(g:Gr)(ks:List Int)(W fr:Nat)(ew:Value)(LE:List Nat):Prop:=
 ∃We:List Value,We.length=ks.length+1/\SlC S 1 ew (ks.length+1) We/\ ∀p w,We[p]?=some w-> ∃Lp:List Nat,Lp.length=g.names.toNat/\SlC S 1 w g.names.toNat (Lp.map (wfv W))/\(p=fr->Lp=LE)/\
  (fr<p-> ∀(a:Nat) b,Lp[a]?=some b-> ∃ws,S b=some (bw ws)/\ws.length=W/\Wd ws/\ ∀j,hs ws j=true↔DvR g ks [(a:Int)] p j)
theorem EndsV.mono{S S':Vw}{g:Gr}{ks:List Int}{W fr:Nat}{ew:Value}{LE:List Nat}(hs:Vw.le S S')(e:EndsV S g ks W fr ew LE):EndsV S' g ks W fr ew LE:=by
 obtain⟨We,h1,h2,h3⟩:=e;refine⟨We,h1,h2.mono hs,fun p w hp=>?_⟩;obtain⟨Lp,a1,a2,a3,a4⟩:=h3 p w hp;refine⟨Lp,a1,a2.mono hs,a3,fun hf a b hb=>?_⟩;obtain⟨ws,b1,b2⟩:=a4 hf a b hb;exact⟨ws,hs _ _ b1,b2⟩
section
variable {Q:Value->PH->Prop}{n:Nat}{cl ih:CL}{h h0:PH}{S:Vw}{m:OM}{rows rest ex Rs:Rws}{K2:Value->PH->R}{g:Gr}{rv fv cv kv kw ew:Value}{ks:List Int}{cp W fr:Nat}{LE:List Nat}
theorem Wok.zero{L:List Nat}:Wok W L (List.replicate L.length (zws W)):=by
 refine⟨by simp,fun ws h=>?_⟩;rw[List.mem_replicate]at h;rw[h.2];exact⟨by simp,Wd.rep _⟩
set_option maxRecDepth 100000 in
theorem c26(hn:9223372036854775808<=n)(hg:GOk g)(gv:GrV S g rv fv cv kv)(rk:RdV (rI .i64) S kw ks)(hends:EndsV S g ks W fr ew LE)(hle:LE.length=g.names.toNat)(hW:W=(ks.length+1) / 64+1)(hfr:fr<=ks.length)(hn2:ks.length<=2000){z:Int}
  (st:Sl h0 h S m ((cp,.row .own 1 (gcs g rv fv cv kv++[kw,ew,.int .i64 z]))::(wrows LE (List.replicate LE.length (zws W))++rest))):
  Ret (F26 n (CLy n ih) (pt cp) (.int .i64 (fr:Nat)) h) fun v h'=>v= .tuple ⟨[]⟩/\ ∃S' TE z',VwN h0 S S'/\Sl h0 h' S' m ((cp,.row .own 1 (gcs g rv fv cv kv++[kw,ew,.int .i64 z']))::(wrows LE TE++rest))/\Wok W LE TE/\ ∀a ws,TE[a]?=some ws-> ∀j,hs ws j=true↔DvR g ks [((a:Nat):Int)] fr j:=by
 unfold F26;refine Ret.lmmk st fun h1 wb st1=>?_;simp only[ab84,vb_some];refine Ret.lbox st1 fun h2 fp st2=>?_;have st2:Sl h0 h2 S m ((fp,.row .own 1 [pt cp,.int .i64 (fr:Nat),nils,.map (some wb),nils])::(wb,.map [] 0)::(cp,.row .own 1 (gcs g rv fv cv kv++[kw,ew,.int .i64 z]))::(wrows LE (List.replicate LE.length (zws W))++rest)):=st2;have l3:xLd (.pointer (some ⟨cp,3,none⟩)) h2=some rv:=st2.ld (.tail _ (.tail _ (.head _))) rfl;simp only[xNil_p,vb_some,xFld_p,Nat.zero_add,l3,gv.rules.lenV,vN_eq];have h7:(gcs g rv fv cv kv++[kw,ew,.int .i64 z])[7]?=some kw:=rfl;have st3:Sl h0 h2 S m ([]++((fp,.row .own 1 [pt cp,.int .i64 (fr:Nat),nils,.map (some wb),nils])::(wrows [] (List.replicate ([]:List Nat).length (zws W))++((wb,.map [] 0)::(cp,.row .own 1 (gcs g rv fv cv kv++[kw,ew,.int .i64 z]))::(wrows LE (List.replicate LE.length (zws W))++rest))))):=st2;refine loop26r (S:=S) (Rs:=(wb,.map [] 0)::(cp,.row .own 1 (gcs g rv fv cv kv++[kw,ew,.int .i64 z]))::(wrows LE (List.replicate LE.length (zws W))++rest)) hn hg ⟨.own,1,.tail _ (.head _)⟩ h7 hn2 hW (fun h4 S4 sv Ws LN ex4 le4 g4 b4 st4=>?_) g.rules.length 0 n S nils [] [] [] h2 (by omega) (by have:=hg.rl;omega) VwN.refl gv rk Gl.nil ⟨rfl,by simp[offs],fun r rl w _ h=>by simp at h⟩ st3;obtain⟨S5,le5,st5,hC⟩:=Gl.settleV st4 g4;have leA:=le4.trans le5;have hKV:KV S5 ⟨cp,fp,wb,fr,W,g,rv,fv,cv,kv,kw,ew,sv,ks,LE,LN⟩:=by
  refine⟨gv.mono leA.1,rk.mono leA.1,⟨Ws,b4.w,hC,fun r rl w h1 h2=>(b4.h r rl w h1 h2).mono le5.1⟩,b4.l,hends.mono leA.1,hle,hW,hfr,hn2,hg⟩
 have fm5:FM ⟨cp,fp,wb,fr,W,g,rv,fv,cv,kv,kw,ew,sv,ks,LE,LN⟩ ⟨[],[],[],[]⟩ ((fp,.row .own 1 [pt cp,.int .i64 (fr:Nat),sv,.map (some wb),nils])::(wrows LN (List.replicate LN.length (zws W))++((wb,.map [] 0)::(cp,.row .own 1 (gcs g rv fv cv kv++[kw,ew,.int .i64 z]))::(wrows LE (List.replicate LE.length (zws W))++rest)))) rest:=by
  refine⟨[],0,[],⟨nils,[],z,List.replicate LE.length (zws W),List.replicate LN.length (zws W),?_,⟨Gl.nil,.inl rfl⟩,Wok.zero,Wok.zero,fun a ws h p=>?_,fun r rl a ws _ _ h p=>?_⟩,.nil⟩
  ·show mq _=mq _
   have e:mV []=[]:=rfl;rw[e];simp only[mq_app,mq_cons _ (_::_),mq_cons _ (_++_),mq_nil]
   ac_rfl
  ·have hm:=List.mem_of_getElem? h;rw[List.mem_replicate]at hm;rw[hm.2,hs_rep];simp
  ·have hm:=List.mem_of_getElem? h;rw[List.mem_replicate]at hm;rw[hm.2,hs_rep];simp
 have iv5:Iv ⟨cp,fp,wb,fr,W,g,rv,fv,cv,kv,kw,ew,sv,ks,LE,LN⟩ ⟨[],[],[],[]⟩ 0 (fun _=>False):=
  ⟨⟨.nil,fun y hy=>(by cases hy),Nat.le_refl _⟩,.nil,fun y hy=>(by cases hy),rfl,fun y hy=>(by cases hy),fun a p hp=>(by cases hp),fun k y hy=>(by cases hy),fun k=>.nil,fun y hy=>(by cases hy),fun a y hy=>(by cases hy)⟩
 unfold F26_10;have l3':xLd (.pointer (some ⟨cp,3,none⟩)) h4=some rv:=st5.ld (b:=cp) (e:=1) (md:=.own) (cs:=gcs g rv fv cv kv++[kw,ew,.int .i64 z]) (by simp) rfl;simp only[xNil_p,vb_some,xFld_p,Nat.zero_add,l3',gv.rules.lenV,vN_eq];refine(loop26b (ih:=ih) hKV hn g.rules.length 0 n ⟨[],[],[],[]⟩ _ h4 (by show g.rules.length=0+_;omega) (by have:=hg.rl;omega) st5 fm5 iv5 fun r' hr'=>absurd hr' (Nat.not_lt_zero _)).mono ?_;rintro v h' ⟨e,s',rows',D',a1,a2,a3,a4,a5⟩;obtain⟨kvs,clk,exM,fv6,mp⟩:=a2.h;obtain⟨wv,exW,z',TE,TN,hq,gw,we,wn,re,rn⟩:=fv6.h;have hq:mq rows'=mq ((fp,.row .own 1 [pt cp,.int .i64 (fr:Nat),sv,.map (some wb),wv])::(cp,.row .own 1 (gcs g rv fv cv kv++[kw,ew,.int .i64 z']))::(exW++(wrows LE TE++(wrows LN TN++((wb,.map (mV kvs) clk)::(exM++rest)))))):=hq;have st7:=(a1.perm (rows':=((fp,.row .own 1 [pt cp,.int .i64 (fr:Nat),sv,.map (some wb),wv])::(wb,.map (mV kvs) clk)::(exW++(wrows LN TN++exM)))++((cp,.row .own 1 (gcs g rv fv cv kv++[kw,ew,.int .i64 z']))::(wrows LE TE++rest))) (perm_mq (by
  rw[hq];simp only[mq_app,mq_cons _ (_::_),mq_cons _ (_++_)]
  ac_rfl))).drop (List.sublist_append_right _ _)
 exact⟨e,S5,TE,z',leA,st7,we,fun a ws h j=>(re a ws h j).trans (a3.tells hg a4 a5 a j)⟩
end
theorem ab60{g:Gr}{rv fv cv kv:Value}{b o k c:Nat}:abuild Tryd.prog 60 [(0,.agg ⟨gcs g rv fv cv kv⟩),(1,.slice (some ⟨b,o,none⟩) k c)]=some (.agg ⟨gcs g rv fv cv kv++[.slice (some ⟨b,o,none⟩) k c,nils,.int .i64 0]⟩):=by kernel_rfl
theorem ab60n{g:Gr}{rv fv cv kv:Value}:abuild Tryd.prog 60 [(0,.agg ⟨gcs g rv fv cv kv⟩),(1,nils)]=some (.agg ⟨gcs g rv fv cv kv++[nils,nils,.int .i64 0]⟩):=by kernel_rfl
structure BldE(S:Vw)(A W i:Nat)(We:List Value)(L:List Nat):Prop where
 w:We.length=i
 l:L.length=i*A
 h: ∀p w,We[p]?=some w->SlC S 1 w A (((L.drop (p*A)).take A).map (wfv W))
theorem BldE.mono{S S':Vw}{A W i:Nat}{We:List Value}{L:List Nat}(hs:Vw.le S S')(b:BldE S A W i We L):BldE S' A W i We L:=⟨b.w,b.l,fun p w h=>(b.h p w h).mono hs⟩
theorem BldE.snoc{S:Vw}{A W i:Nat}{We:List Value}{L Ln:List Nat}{w:Value}(b:BldE S A W i We L)(hl:Ln.length=A)(hw:SlC S 1 w A (Ln.map (wfv W))):BldE S A W (i+1) (We++[w]) (L++Ln):=by
 refine⟨by simp[b.w],by rw[List.length_append,b.l,hl,Nat.add_mul,Nat.one_mul],fun x w' hx=>?_⟩
 by_cases e:x<i
 ·rw[List.getElem?_append_left (by rw[b.w];exact e)]at hx;have hle:x*A+A<=L.length:=by
   have:=Nat.mul_le_mul_right A (show x+1<=i from e);rw[Nat.add_mul,Nat.one_mul]at this;rw[b.l];exact this
  rw[List.drop_append_of_le_length (by omega),List.take_append_of_le_length (by rw[List.length_drop];omega)];exact b.h x w' hx
 ·have hx':=(List.getElem?_eq_some_iff.1 hx).1;rw[List.length_append,List.length_singleton,b.w]at hx';have e:x=i:=by omega
  subst e;rw[List.getElem?_append_right (by rw[b.w];exact Nat.le_refl _),b.w,Nat.sub_self]at hx;simp at hx;subst hx;have:(L++Ln).drop (x*A)=Ln:=by rw[<-b.l];simp
  rw[this, <-hl,List.take_length,hl];exact hw
section
variable {Q:Value->PH->Prop}{n:Nat}{cl ih:CL}{h h0:PH}{S:Vw}{m:OM}{rows rest ex Rs:Rws}{K2:Value->PH->R}{g:Gr}{rv fv cv kv kw ew:Value}{ks:List Int}{cp gp W fr:Nat}{LE:List Nat}
set_option maxRecDepth 100000 in
theorem loop9a(hn:9223372036854775808<=n){A:Nat}(hA:A<=1000){cc:List Value}(hc: ∃md e,(cp,AObj.row md e cc)∈Rs)(h7:cc[7]?=some kw)(rk:RdV (rI .i64) S kw ks)(hn2:ks.length<=2000)(hW:W=(ks.length+1) / 64+1){kk gg NN ii:Value}{Ko:Kt}
  (hK: ∀h S' lv Ln,VwN h0 S S'->Sl h0 h S' m (wrows Ln (List.replicate A (zws W))++Rs)->Ln.length=A->SlC S' 1 lv A (Ln.map (wfv W))->(0<A-> ∃b o k c,lv= .slice (some ⟨b,o,none⟩) k c)->Ret (F9_1 n cl (pt cp) lv ii Ko kk gg NN h) Q):
  ∀(q i fu:Nat)(lv:Value)(Ln:List Nat)(ex:Rws)(h:PH),A=i+q->q<fu->Ln.length=i->Gl 1 lv i (Ln.map (wfv W)) ex->Sl h0 h S m (ex++(wrows Ln (List.replicate i (zws W))++Rs))->
   Ret (lp fu (F9_3 n cl Ko) [kk,gg,pt cp,lv,NN,ii,.int .i64 (A:Nat),.int .i64 (i:Nat)] h) Q:=by
 intro q
 induction q with
 |zero=>
  intro i fu lv Ln ex h hq hf hl gl st;obtain⟨fu,rfl⟩: ∃q,fu=q+1:=⟨fu-1,by omega⟩;rw[lp_succ];have dc:decide (((i:Nat):Int)<((A:Nat):Int))=false:=decide_eq_false (by omega);have hi:i=A:=by omega
  subst hi;simp only[F9_3,ucons_cons,F9_2,xLt_i,dc,vb_some,bite_f];obtain⟨S',le',st',hA⟩:=Gl.settleV st gl;refine hK h S' lv Ln le' st' hl hA fun hp=>?_;rcases gl.h with⟨h,_⟩|⟨b,o,cap,all,rfl,_⟩
  ·omega
  ·exact⟨_,_,_,_,rfl⟩
 |succ q ihq=>
  intro i fu lv Ln ex h hq hf hl gl st;obtain⟨fu,rfl⟩: ∃q,fu=q+1:=⟨fu-1,by omega⟩;rw[lp_succ];have dc:decide (((i:Nat):Int)<((A:Nat):Int))=true:=decide_eq_true (by omega);simp only[F9_3,ucons_cons,F9_2,xLt_i,dc,vb_some,bite_t,F9_0];obtain⟨S',le1,le2,hS'⟩:=st.whole;obtain⟨md,e,hcm⟩:=hc;have okh:=st.ok;refine Ret.lfcall st (c25 (h:=h) (n:=n) (cl:=cl) (S:=S') le2 (hS' cp e md cc (List.mem_append_right _ (List.mem_append_right _ hcm))) h7 (rk.mono le1) hn2) fun v h1 ex1 hv st1=>?_;obtain⟨b,rfl,rfl⟩:=hv;rw[<-hW]at*;have st1:Sl h0 h1 S m ((b,AObj.row .own 1 (bw (zws W)))::(ex++(wrows Ln (List.replicate i (zws W))++Rs))):=st1;have st2:=st1.perm List.perm_middle.symm;have hsz:(2*(i+1)+512)*24<=281474976710656:=by omega
  refine Ret.gapp st2 gl bs61 ai61 rfl rfl hsz fun h3 v' ex' st3 g3=>?_;simp only[vN_eq,xAdd_i,vb_some,show(((1:Nat):Int))=1 from rfl,wrap1 (i:=i) (by omega)];have e:Ln.map (wfv W)++[wfv W b]=(Ln++[b]).map (wfv W):=by simp
  rw[e]at g3;refine ihq (i+1) fu v' (Ln++[b]) ex' h3 (by omega) (by omega) (by simp[hl]) g3 ?_;have er:wrows (Ln++[b]) (List.replicate (i+1) (zws W))=wrows Ln (List.replicate i (zws W))++[(b,AObj.row .own 1 (bw (zws W)))]:=by
   rw[List.replicate_succ',wrows_app (by simp[hl])];rfl
  rw[er,List.append_assoc];exact st3.perm (List.Perm.append_left _ List.perm_middle.symm)
set_option maxRecDepth 100000 in
theorem loop9p(hn:9223372036854775808<=n)(hg:GOk g)(hn2:ks.length<=2000)(hW:W=(ks.length+1) / 64+1){rv0 fv0 cv0 kv0 kk:Value}
  (hK: ∀h S' ev We L ex,VwN h0 S S'->Gl 1 ev (ks.length+1) We ex->BldE S' g.names.toNat W (ks.length+1) We L->Sl h0 h S' m (ex++((cp,.row .own 1 (gcs g rv fv cv kv++[kw,ev,.int .i64 0]))::(wrows L (List.replicate L.length (zws W))++((gp,.row .own 1 (gcs g rv0 fv0 cv0 kv0))::rest))))->Ret (F9_7 n cl kk (pt cp) h) Q):
  ∀(q i fu:Nat)(S1:Vw)(ev:Value)(We:List Value)(L:List Nat)(ex:Rws)(h:PH),ks.length+1=i+q->q<fu->VwN h0 S S1->RdV (rI .i64) S1 kw ks->Gl 1 ev i We ex->BldE S1 g.names.toNat W i We L->Sl h0 h S1 m (ex++((cp,.row .own 1 (gcs g rv fv cv kv++[kw,ev,.int .i64 0]))::(wrows L (List.replicate L.length (zws W))++((gp,.row .own 1 (gcs g rv0 fv0 cv0 kv0))::rest))))->
   Ret (lp fu (F9_9 n cl) [kk,pt gp,pt cp,.int .i64 ((ks.length+1:Nat):Int),.int .i64 (i:Nat)] h) Q:=by
 have hnm:=hg.nm;intro q
 induction q with
 |zero=>
  intro i fu S1 ev We L ex h hq hf le rk gl bl st;obtain⟨fu,rfl⟩: ∃q,fu=q+1:=⟨fu-1,by omega⟩;rw[lp_succ];have dc:decide (((i:Nat):Int)<((ks.length+1:Nat):Int))=false:=decide_eq_false (by omega);have hi:i=ks.length+1:=by omega
  subst hi;simp only[F9_9,ucons_cons,F9_8,xLt_i,dc,vb_some,bite_f];exact hK h S1 ev We L ex le gl bl st
 |succ q ihq=>
  intro i fu S1 ev We L ex h hq hf le rk gl bl st;obtain⟨fu,rfl⟩: ∃q,fu=q+1:=⟨fu-1,by omega⟩;rw[lp_succ];have dc:decide (((i:Nat):Int)<((ks.length+1:Nat):Int))=true:=decide_eq_true (by omega);have l0:xLd (.pointer (some ⟨gp,0,none⟩)) h=some (.int .i64 ((g.names.toNat:Nat):Int)):=by
   rw[Int.toNat_of_nonneg (by omega)];exact st.ld (b:=gp) (e:=1) (md:=.own) (cs:=gcs g rv0 fv0 cv0 kv0) (by simp) rfl
  simp only[F9_9,ucons_cons,F9_8,xLt_i,dc,vb_some,bite_t,F9_4,xFld_p,Nat.zero_add,l0];have h7:(gcs g rv fv cv kv++[kw,ev,.int .i64 0])[7]?=some kw:=rfl;refine loop9a (Rs:=ex++((cp,.row .own 1 (gcs g rv fv cv kv++[kw,ev,.int .i64 0]))::(wrows L (List.replicate L.length (zws W))++((gp,.row .own 1 (gcs g rv0 fv0 cv0 kv0))::rest)))) hn (A:=g.names.toNat) (by omega) ⟨.own,1,List.mem_append_right _ (.head _)⟩ h7 rk hn2 hW (fun h4 S4 lv Ln le4 st4 hl4 hC4 hsl=>?_) g.names.toNat 0 n nils [] [] h (by omega) (by omega) rfl Gl.nil (by rw[List.nil_append];exact st);obtain⟨b4,o4,k4,c4,rfl⟩:=hsl (by omega);have hfm:(cp,AObj.row .own 1 (gcs g rv fv cv kv++[kw,ev,.int .i64 0]))∈wrows Ln (List.replicate g.names.toNat (zws W))++(ex++((cp,.row .own 1 (gcs g rv fv cv kv++[kw,ev,.int .i64 0]))::(wrows L (List.replicate L.length (zws W))++((gp,.row .own 1 (gcs g rv0 fv0 cv0 kv0))::rest)))):=by simp
  have e8:(gcs g rv fv cv kv++[kw,ev,.int .i64 0])[8]?=some ev:=rfl;have l8:xLd (.pointer (some ⟨cp,8,none⟩)) h4=some ev:=st4.ld hfm e8;unfold F9_1;simp only[xNil_p,vb_some,xFld_p,Nat.zero_add,l8];have hsz:(2*(i+1)+512)*24<=281474976710656:=by omega
  have st5:=st4.perm (perm_a _ _ _);refine Ret.gapp st5 gl bs53 ai53 rfl rfl hsz fun h6 ev' ex' st6 g6=>?_;have st7:=st6.perm ((List.perm_middle.append_left ex').trans List.perm_middle);refine Ret.lst1 st7 0 rfl rfl (by simp) (by exact g6.one) fun h8' st8=>?_;have st8:Sl h0 h8' S4 m ((cp,.row .own 1 (gcs g rv fv cv kv++[kw,ev',.int .i64 0]))::(ex'++(wrows Ln (List.replicate g.names.toNat (zws W))++(wrows L (List.replicate L.length (zws W))++((gp,.row .own 1 (gcs g rv0 fv0 cv0 kv0))::rest))))):=st8;have hrep:wrows (L++Ln) (List.replicate (L++Ln).length (zws W))=wrows L (List.replicate L.length (zws W))++wrows Ln (List.replicate g.names.toNat (zws W)):=by
   rw[<-wrows_app (by simp),List.length_append,hl4,List.replicate_append_replicate]
  simp only[vN_eq,xAdd_i,vb_some,show(((1:Nat):Int))=1 from rfl,wrap1 (i:=i) (by omega)];refine ihq (i+1) fu S4 ev' (We++[.slice (some ⟨b4,o4,none⟩) k4 c4]) (L++Ln) ex' h8' (by omega) (by omega) (le.trans le4) (rk.mono le4.1) g6 ((bl.mono le4.1).snoc hl4 hC4) ?_;rw[hrep];refine st8.perm (List.perm_middle.symm.trans (List.Perm.append_left ex' (List.Perm.cons _ (perm_b _ _ _))))
end
structure Chr(S:Vw)(cp:Nat)(g:Gr)(ks:List Int):Prop where
 h: ∃(rv fv cv kv kw ew:Value) (z:Int) (W:Nat),S cp=some (gcs g rv fv cv kv++[kw,ew,.int .i64 z])/\RdV (rI .i64) S kw ks/\W=(ks.length+1) / 64+1/\ ∃We:List Value,We.length=ks.length+1/\SlC S 1 ew (ks.length+1) We/\ ∀p w,We[p]?=some w-> ∃Lp:List Nat,Lp.length=g.names.toNat/\SlC S 1 w g.names.toNat (Lp.map (wfv W))/\
  ∀(a:Nat) b,Lp[a]?=some b-> ∃ws,S b=some (bw ws)/\ws.length=W/\Wd ws/\ ∀j,hs ws j=true↔DvR g ks [(a:Int)] p j
section
variable {Q:Value->PH->Prop}{n:Nat}{cl ih:CL}{h h0:PH}{S:Vw}{m:OM}{rows rest ex Rs:Rws}{K2:Value->PH->R}{g:Gr}{rv fv cv kv kw ew:Value}{ks:List Int}{cp gp W fr:Nat}{L:List Nat}
def TolP(S:Vw)(g:Gr)(ks:List Int)(W:Nat)(L:List Nat)(p:Nat):Prop:= ∀(a:Nat) b,((L.drop (p*g.names.toNat)).take g.names.toNat)[a]?=some b-> ∃ws,S b=some (bw ws)/\ws.length=W/\Wd ws/\ ∀j,hs ws j=true↔DvR g ks [(a:Int)] p j
theorem TolP.mono{S S':Vw}{p:Nat}(hs:Vw.le S S')(t:TolP S g ks W L p):TolP S' g ks W L p:=fun a b hb=>by
 obtain⟨ws,b1,b2⟩:=t a b hb;exact⟨ws,hs _ _ b1,b2⟩
set_option maxRecDepth 100000 in
theorem loop9f(hn:9223372036854775808<=n)(hg:GOk g)(hn2:ks.length<=2000)(hW:W=(ks.length+1) / 64+1){We:List Value}:
  ∀(q fu:Nat)(S1:Vw)(h:PH)(z:Int),q<=ks.length+1->q<fu->VwN h0 S S1->GrV S1 g rv fv cv kv->RdV (rI .i64) S1 kw ks->SlC S1 1 ew (ks.length+1) We->BldE S1 g.names.toNat W (ks.length+1) We L->(∀p,q<=p->p<=ks.length->TolP S1 g ks W L p)->Sl h0 h S1 m ((cp,.row .own 1 (gcs g rv fv cv kv++[kw,ew,.int .i64 z]))::(wrows (L.take (q*g.names.toNat)) (List.replicate (q*g.names.toNat) (zws W))++rest))->
   Ret (lp fu (fun d e h=>ucons e fun f g=>ucons g fun i j=>F9_6 n (CLy n ih) i f d h) [pt cp,.int .i64 ((q:Int)-1)] h) fun v h'=>v= .tuple ⟨[pt cp,.int .i64 0]⟩/\ ∃S',VwN h0 S S'/\Sl h0 h' S' m rest/\Chr S' cp g ks:=by
 intro q
 induction q with
 |zero=>
  intro fu S1 h z hq hf le gv rk he bl tl st;obtain⟨fu,rfl⟩: ∃q,fu=q+1:=⟨fu-1,by omega⟩;rw[lp_succ];have dc:decide (((0:Nat):Int)<=((0:Nat):Int)-1)=false:=by decide
  simp only[ucons_cons,F9_6,vN_eq,xGe_i,dc,vb_some,bite_f];have st0:Sl h0 h S1 m ((cp,.row .own 1 (gcs g rv fv cv kv++[kw,ew,.int .i64 z]))::rest):=by
   have e:L.take (0*g.names.toNat)=[]:=by rw[Nat.zero_mul,List.take_zero]
   rw[e]at st;exact st
  have hnc:=(st0.sm.own cp _ (st0.mem (.head _))).2;obtain⟨st7,hS7⟩:=st0.settle (i:=0) rfl;have le7:=VwN.put (h0:=h0) hS7 hnc (cs:=gcs g rv fv cv kv++[kw,ew,.int .i64 z]);refine Ret.of ⟨rfl,_,le.trans le7,st7,⟨rv,fv,cv,kv,kw,ew,z,W,Vw.put_self,rk.mono le7.1,hW,We,bl.w,he.mono le7.1,fun p w hp=>?_⟩⟩;have hpl:=(List.getElem?_eq_some_iff.1 hp).1;rw[bl.w]at hpl;refine⟨(L.drop (p*g.names.toNat)).take g.names.toNat,?_,(bl.h p w hp).mono le7.1,(tl p (Nat.zero_le _) (by omega)).mono le7.1⟩;rw[List.length_take,List.length_drop,bl.l];have:=Nat.mul_le_mul_right g.names.toNat (show p+1<=ks.length+1 by omega);rw[Nat.add_mul,Nat.one_mul]at this;omega
 |succ q ihq=>
  intro fu S1 h z hq hf le gv rk he bl tl st;obtain⟨fu,rfl⟩: ∃q,fu=q+1:=⟨fu-1,by omega⟩;rw[lp_succ];have eq1:(((q+1:Nat):Int)-1)=((q:Nat):Int):=by omega
  have dc:decide (((0:Nat):Int)<=((q:Nat):Int))=true:=decide_eq_true (by omega);simp only[ucons_cons,F9_6,vN_eq,eq1,xGe_i,dc,vb_some,bite_t,F9_5];have hbnd:q*g.names.toNat+g.names.toNat<=L.length:=by
   rw[bl.l];have:=Nat.mul_le_mul_right g.names.toNat (show q+1<=ks.length+1 by omega);rw[Nat.add_mul,Nat.one_mul]at this;omega
  have hLE:((L.drop (q*g.names.toNat)).take g.names.toNat).length=g.names.toNat:=by
   rw[List.length_take,List.length_drop];omega
  have hsplit:wrows (L.take ((q+1)*g.names.toNat)) (List.replicate ((q+1)*g.names.toNat) (zws W))=wrows (L.take (q*g.names.toNat)) (List.replicate (q*g.names.toNat) (zws W))++wrows ((L.drop (q*g.names.toNat)).take g.names.toNat) (List.replicate ((L.drop (q*g.names.toNat)).take g.names.toNat).length (zws W)):=by
   rw[hLE, <-wrows_app (by rw[List.length_take,List.length_replicate];omega),List.replicate_append_replicate,Nat.add_mul,Nat.one_mul,List.take_add]
  rw[hsplit]at st;have st1:=st.perm (rows':=(cp,.row .own 1 (gcs g rv fv cv kv++[kw,ew,.int .i64 z]))::(wrows ((L.drop (q*g.names.toNat)).take g.names.toNat) (List.replicate ((L.drop (q*g.names.toNat)).take g.names.toNat).length (zws W))++(wrows (L.take (q*g.names.toNat)) (List.replicate (q*g.names.toNat) (zws W))++rest))) (perm_mq (by
   simp only[mq_app,mq_cons _ (_::_),mq_cons _ (_++_)]
   ac_rfl))
  have hends:EndsV S1 g ks W q ew ((L.drop (q*g.names.toNat)).take g.names.toNat):=by
   refine⟨We,bl.w,he,fun p w hp=>⟨(L.drop (p*g.names.toNat)).take g.names.toNat,?_,bl.h p w hp,fun e=>by rw[e],fun hf'=>?_⟩⟩
   ·have hpl:=(List.getElem?_eq_some_iff.1 hp).1;rw[bl.w]at hpl;rw[List.length_take,List.length_drop,bl.l];have:=Nat.mul_le_mul_right g.names.toNat (show p+1<=ks.length+1 by omega);rw[Nat.add_mul,Nat.one_mul]at this;omega
   ·have hpl:=(List.getElem?_eq_some_iff.1 hp).1;rw[bl.w]at hpl;exact tl p hf' (by omega)
  refine Ret.hb (c26 (ih:=ih) hn hg gv rk hends hLE hW (by omega) hn2 st1) fun v2 h2 hv2=>?_;obtain⟨rfl,S2,TE,z2,le2,st2,we2,te2⟩:=hv2;have st3:=st2.perm (rows':=wrows ((L.drop (q*g.names.toNat)).take g.names.toNat) TE++((cp,.row .own 1 (gcs g rv fv cv kv++[kw,ew,.int .i64 z2]))::(wrows (L.take (q*g.names.toNat)) (List.replicate (q*g.names.toNat) (zws W))++rest))) (perm_mq (by
   simp only[mq_app,mq_cons _ (_::_),mq_cons _ (_++_)]
   ac_rfl))
  obtain⟨st4,le4'⟩:=Sl.settleAll st3;have le4:=VwN.all st3;have nd:=st3.nd;rw[List.pairwise_append]at nd;have leB:=le2.trans le4;have w1:IntKind.i64.wrap (((q:Nat):Int)-((1:Nat):Int))=((q:Nat):Int)-1:=by
   rw[wrap_in (by omega) (by omega)];rfl
  simp only[xSub_i,w1,vb_some];refine ihq fu _ h2 z2 (by omega) (by omega) (le.trans leB) (gv.mono leB.1) (rk.mono leB.1) (he.mono leB.1) (bl.mono leB.1) (fun p hp hpn=>?_) st4
  by_cases e:p=q
  ·subst e;intro a b hb;obtain⟨ws,hws⟩: ∃ws,TE[a]?=some ws:=⟨_,List.getElem?_eq_getElem (by rw[we2.len];exact(List.getElem?_eq_some_iff.1 hb).1)⟩;obtain⟨w1',w2'⟩:=we2.row ws (List.mem_of_getElem? hws);exact⟨ws,vall_m (over_mem nd.1 (List.mem_of_getElem? (wrows_get hb hws))),w1',w2',te2 a ws hws⟩
  ·exact(tl p (by omega) hpn).mono leB.1
set_option maxRecDepth 100000 in
theorem c9{kvs:Value}(hn:9223372036854775808<=n)(hG:GIn g)(st:Sl h0 h S m rest)(gv:GrV S g rv fv cv kv)(hv:veq (.agg ⟨gcs g rv fv cv kv⟩) (.agg ⟨gcs g rv fv cv kv⟩)=true)(rk:RdV (rI .i64) S kvs ks)(ek:ks=[]->Emp kvs)(kl:ks.length<=2000)(hcl:g.rclass.length<=1000000/\g.kclass.length<=1000000):
  Ret (F9 n (CLy n ih) (.agg ⟨gcs g rv fv cv kv⟩) kvs h) fun v h'=> ∃x,ChkQ g x/\((x.2≠0/\v= .tuple ⟨[.pointer none,.int .i64 x.2]⟩/\Sl h0 h' S m rest)\/
   (x.2=0/\ ∃S' cp,VwN h0 S S'/\Sl h0 h' S' m rest/\Chr S' cp g ks/\v= .tuple ⟨[pt cp,.int .i64 0]⟩)):=by
 unfold F9;refine Ret.lbox st fun h1 gp st1=>?_;have st1:Sl h0 h1 S m ((gp,.row .own 1 (gcs g rv fv cv kv))::rest):=st1;have la:xLdA 7 (.pointer (some ⟨gp,0,none⟩)) h1=some (.agg ⟨gcs g rv fv cv kv⟩):=st1.ldA (.head _) rfl (by simp);have okh:=st1.ok;obtain⟨x,q,e⟩:=c22 (h:=h1) (n:=n) (ih:=ih) hn (gv.rd (h:=h1) (fun b cs e=>st1.leS b cs e)) hG hv;simp only[la,vb_some,e,xExt_t',List.getElem?_cons_zero,List.getElem?_cons_succ,vN_eq,show(((0:Nat):Int))=0 from rfl,xNe_i]
 by_cases hx:x.2=0
 ·have hgood:=q.zero hx;have hg:=gok_of hgood;have hnm:=hg.nm;have hgw:=goodB_whole hgood;have sm:GSm g:=⟨fun r hr=>by have:=hg.r8 r hr;omega,by have:=hg.rl;omega,by omega,hcl.1,hcl.2⟩;have dl:decide (((2000:Nat):Int)<((ks.length:Nat):Int))=false:=decide_eq_false (by omega);simp only[decide_eq_true hx,Bool.not_true,bite_f,F9_11,rk.lenV,vb_some,vN_eq,xGt_i,dl,F9_10,la];refine Ret.hb (c23 (cl:=CLy n ih) hn sm st1 gv) fun v2 h2 hv2=>?_;obtain⟨S2,rv2,fv2,cv2,kv2,le2,st2,rfl,gv2⟩:=hv2;obtain⟨kc,k1,k2⟩:=(rk.mono le2.1).slE ek;have ok2:=st2.ok;refine Ret.lfcall st2 (c24 (h:=h2) (fun b cs e=>st2.leS b cs e) k1 (RdV.ones (R:=rI .i64) (V:=S2) k1.length k2) (by omega)) fun kw h3 ex3 p3 st3=>?_;have hab:abuild Tryd.prog 60 [(0,.agg ⟨gcs g rv2 fv2 cv2 kv2⟩),(1,kw)]=some (.agg ⟨gcs g rv2 fv2 cv2 kv2++[kw,nils,.int .i64 0]⟩):=by
   rcases p3 with⟨_,_,rfl,_⟩|⟨b,md,c,_,rfl,_⟩
   ·exact ab60n
   ·exact ab60
  obtain⟨S4,le4,st4,rd4,em4,_⟩:=p3.settle (R:=rI .i64) (l:=ks) st3 k1.length k2;simp only[hab,vb_some];refine Ret.lbox st4 fun h5 cp st5=>?_;have st5:Sl h0 h5 S4 m ([]++((cp,.row .own 1 (gcs g rv2 fv2 cv2 kv2++[kw,nils,.int .i64 0]))::(wrows [] (List.replicate ([]:List Nat).length (zws ((ks.length+1) / 64+1)))++((gp,.row .own 1 (gcs g rv fv cv kv))::rest)))):=st5;have w1:IntKind.i64.wrap (((ks.length:Nat):Int)+((1:Nat):Int))=((ks.length+1:Nat):Int):=by
   rw[wrap_in (by omega) (by omega)];omega
  have leA:=le2.trans le4;simp only[rk.lenV,vb_some,vN_eq,xAdd_i,w1];refine loop9p (S:=S4) (W:=(ks.length+1) / 64+1) hn hg kl rfl (fun h6 S6 ev We L ex6 le6 g6 b6 st6=>?_) (ks.length+1) 0 n S4 nils [] [] [] h5 (by omega) (by omega) VwN.refl rd4 Gl.nil ⟨rfl,by simp,fun p w h=>by simp at h⟩ st5;obtain⟨S7,le7,st7,hE⟩:=Gl.settleV st6 g6;have leB:=le6.trans le7;unfold F9_7;simp only[rk.lenV,vb_some];have eN:((ks.length:Nat):Int)=((ks.length+1:Nat):Int)-1:=by omega
  rw[eN];have eL:L.take ((ks.length+1)*g.names.toNat)=L:=List.take_of_length_le (by rw[b6.l];exact Nat.le_refl _);refine(loop9f (ih:=ih) (S:=S) (L:=L) (We:=We) (rest:=(gp,.row .own 1 (gcs g rv fv cv kv))::rest) hn hg kl rfl (ks.length+1) n S7 h6 0 (Nat.le_refl _) (by omega) (leA.trans leB) (gv2.mono (le4.trans leB).1) (rd4.mono leB.1) hE (b6.mono le7.1) (fun p h1 h2=>by omega) (by
   rw[eL, <-b6.l];exact st7)).mono ?_
  rintro v h' ⟨ev',S8,a1,a2,a3⟩;exact⟨x,q,.inr ⟨hx,S8,cp,a1,a2.drop (List.sublist_cons_self _ _),a3,ev'⟩⟩
 ·simp only[decide_eq_false hx,Bool.not_false,bite_t];exact Ret.of ⟨x,q,.inl ⟨hx,rfl,st1.drop (List.sublist_cons_self _ _)⟩⟩
end
noncomputable def CLz(n d:Nat):CL:=toldFn 45 tzF (CLs n (CLV n d))
theorem alive6_run:isT (F6 3000 (CLz 3000 30) h00)=true:=by kernel_rfl
noncomputable def CLU(n d:Nat):CL:=CLy n (CLV n d)
theorem CLU_ok(n d:Nat):OkCL Tryd.prog (CLU n d):=by
 obtain⟨k,hk⟩:=isT_ok alive6_run;have:=(S6 _ (CLz_ok (CLV_ok _ _))).c0 hk;refine toldOr_ok (CLz_ok (CLV_ok n d)) this.1.1 rfl ?_;have hc:=this.1.2;have h0:h00.abs=[]:=rfl;rw[h0]at hc;exact hc.mono fun u k hq=>hq.1
theorem told6{n d:Nat}{h:PH}:pcall (CLU n d 6 [] h)=some (.bool true):=rfl
theorem gd_t{o:Option Value}:gd (isB true (.bool true)) o=o:=rfl
theorem gd_f{o:Option Value}:gd (isB true (.bool false)) o=some undef:=rfl
theorem gn_t{o:Option Value}:gd (isB false (.bool true)) o=some undef:=rfl
theorem gn_f{o:Option Value}:gd (isB false (.bool false)) o=o:=rfl
theorem abNe{x y:Operand}{p:Addr}:abin Tryd.prog .neq 31 x y (.pointer (some p)) (.pointer none)=some (.bool true):=by kernel_rfl
theorem abEq{x y:Operand}{p:Addr}:abin Tryd.prog .eql 31 x y (.pointer (some p)) (.pointer none)=some (.bool false):=by kernel_rfl
section
variable {Q:Value->PH->Prop}{n:Nat}{cl ih:CL}{h h0:PH}{S:Vw}{m:OM}{rows rest ex:Rws}{K2:Value->PH->R}{g:Gr}{ks:List Int}{cp:Nat}
theorem c27[OkH h](hS:Vw.le S h.cells)(c:Chr S cp g ks){a i:Int}(hk:ks.length<=2000):pcall (F27 n cl (pt cp) (.int .i64 a) (.int .i64 i) h.fzn)=some (.bool (isName g.names a&&(decide (0<=i)&&decide (i<=ks.length)))):=by
 obtain⟨rv,fv,cv,kv,kw,ew,z,W,c1,c2,c3,We,c4,c5,c6⟩:=c.h;have st:Sl h.fzn h.fzn S OM.emp []:=Sl.start h.fzn (fun b cs e=>hS b cs e);have ok:=st.ok;have lA:xLdA 7 (.pointer (some ⟨cp,0,none⟩)) h.fzn=some (.agg ⟨gcs g rv fv cv kv⟩):=st.ldSA c1 rfl (by simp);have l7:xLd (.pointer (some ⟨cp,7,none⟩)) h.fzn=some kw:=st.ldS c1 rfl;have e44:pcall (F44 n cl (.agg ⟨gcs g rv fv cv kv⟩) (.int .i64 a) (h.fzn.fzn))=some (.bool (isName g.names a)):=c44 (h:=h.fzn);have ee:abin Tryd.prog .neq 31 (Operand.tmp 7) (Operand.const (Value.pointer none)) (pt cp) (.pointer none)=some (.bool true):=abNe;refine pcall_of ?_ rfl;unfold F27;simp only[ee,vb_some,gd_t,xNil_p,xFld_p,Nat.zero_add,lA,e44,xPick_t]
 by_cases h1:isName g.names a=true
 ·simp only[h1,gd_t,vb_some,vN_eq,xGe_i,xPick_t,show(((0:Nat):Int))=0 from rfl]
  by_cases h2:0<=i
  ·simp only[decide_eq_true h2,gd_t,vb_some,xNil_p,xFld_p,Nat.zero_add,l7,c2.lenV,xLe_i,xPick_t,Bool.true_and];exact Ret.of rfl
  ·simp only[decide_eq_false h2,gd_f,vb_some,xPick_f,ff_eq,Bool.false_and,Bool.and_false];exact Ret.of rfl
 ·have h1:isName g.names a=false:=by simpa using h1
  simp only[h1,gd_f,vb_some,xPick_f,ff_eq,Bool.false_and];exact Ret.of rfl
theorem c10{v:Value}:F10 n cl v h=some (v,h):=rfl
theorem Chr.two(c:Chr S cp g ks){a p:Nat}(ha:a<g.names.toNat)(hp:p<=ks.length): ∃ew b1 o1 c1 w b2 o2 c2 be ws W,(∃cs,S cp=some cs/\cs[8]?=some ew)/\W=(ks.length+1) / 64+1/\xIdxS 1 ew (.int .i64 (p:Nat))=some (.pointer (some ⟨b1,o1,none⟩))/\S b1=some c1/\c1[o1]?=some w/\xIdxS 1 w (.int .i64 (a:Nat))=some (.pointer (some ⟨b2,o2,none⟩))/\S b2=some c2/\c2[o2]?=some (wfv W be)/\S be=some (bw ws)/\ws.length=W/\Wd ws/\ ∀j,hs ws j=true↔DvR g ks [(a:Int)] p j:=by
 obtain⟨rv,fv,cv,kv,kw,ew,z,W,c1,c2,c3,We,c4,c5,c6⟩:=c.h;have hwf:=List.getElem?_eq_getElem (l:=We) (i:=p) (by omega);generalize We[p]=w1 at hwf;obtain⟨Lp,hL1,hL2,hL3⟩:=c6 p w1 hwf;obtain⟨be,hb⟩: ∃b,Lp[a]?=some b:=⟨_,List.getElem?_eq_getElem (by omega)⟩;obtain⟨b1,o1,d1,q1,q2,q3⟩:=c5.at1 hwf;obtain⟨b2,o2,d2,p1,p2,p3⟩:=hL2.at1 (i:=a) (x:=wfv W be) (by rw[List.getElem?_map,hb];rfl);obtain⟨ws,e1,e2,e3,e4⟩:=hL3 a be hb;exact⟨ew,b1,o1,d1,w1,b2,o2,d2,be,ws,W,⟨_,c1,rfl⟩,c3,q1,q2,q3,p1,p2,p3,e1,e2,e3,e4⟩
theorem c11[OkH h](hS:Vw.le S h.cells)(c:Chr S cp g ks)(hk:ks.length<=2000){a i j:Int}:
  ∃b:Bool,pcall (F11 n cl (pt cp) (.int .i64 a) (.int .i64 i) (.int .i64 j) h.fzn)=some (.bool b)/\(b=true↔(0<=a/\a<g.names/\0<=i/\i<=ks.length/\0<=j/\j<=ks.length/\DvR g ks [a] i.toNat j.toNat)):=by
 have st:Sl h.fzn h.fzn S OM.emp []:=Sl.start h.fzn (fun b cs e=>hS b cs e);have ok:=st.ok;have e1:pcall (F27 n cl (pt cp) (.int .i64 a) (.int .i64 i) (h.fzn.fzn))=_:=c27 (h:=h.fzn) (fun b cs e=>hS b cs e) c hk;have e2:pcall (F27 n cl (pt cp) (.int .i64 a) (.int .i64 j) (h.fzn.fzn))=_:=c27 (h:=h.fzn) (fun b cs e=>hS b cs e) c hk;have key:Ret (F11 n cl (pt cp) (.int .i64 a) (.int .i64 i) (.int .i64 j) h.fzn) fun v _=> ∃b:Bool,v= .bool b/\(b=true↔(0<=a/\a<g.names/\0<=i/\i<=ks.length/\0<=j/\j<=ks.length/\DvR g ks [a] i.toNat j.toNat)):=by
  unfold F11;simp only[e1,vb_some]
  by_cases h1:(isName g.names a&&(decide (0<=i)&&decide (i<=ks.length)))=true
  ·simp only[h1,gd_t,vb_some,e2,xPick_t];have h1':=h1;simp only[isName,Bool.and_eq_true,decide_eq_true_eq]at h1'
   by_cases h2:(isName g.names a&&(decide (0<=j)&&decide (j<=ks.length)))=true
   ·have h2':=h2;simp only[isName,Bool.and_eq_true,decide_eq_true_eq]at h2';obtain⟨a',rfl⟩: ∃q:Nat,a=q:=⟨a.toNat,by omega⟩;obtain⟨i',rfl⟩: ∃q:Nat,i=q:=⟨i.toNat,by omega⟩;obtain⟨j',rfl⟩: ∃q:Nat,j=q:=⟨j.toNat,by omega⟩;obtain⟨ew,b1,o1,d1,w,b2,o2,d2,be,ws,W,⟨cs,s1,s2⟩,hW,q1,q2,q3,p1,p2,p3,t1,t2,t3,t4⟩:=c.two (a:=a') (p:=i') (by omega) (by omega);have l8:xLd (.pointer (some ⟨cp,8,none⟩)) h.fzn=some ew:=st.ldS s1 s2;have k1:xLd (.pointer (some ⟨b1,o1,none⟩)) h.fzn=some w:=st.ldS q2 q3;have k2:xLd (.pointer (some ⟨b2,o2,none⟩)) h.fzn=some (wfv W be):=st.ldS p2 p3;have e3:pcall (F28 n cl (wfv W be) (.int .i64 (j':Nat)) h.fzn.fzn)=some (.bool (hs ws j')):=by
     rw[<-t2];exact c28 (h:=h.fzn) (fun b cs e=>hS b cs e) t1 t3 (by rw[t2,hW];have:j' / 64<=(ks.length+1) / 64:=Nat.div_le_div_right (by omega);omega) (by omega)
    simp only[h2,gd_t,vb_some,xNil_p,xFld_p,Nat.zero_add,l8,q1,k1,p1,k2,e3,xPick_t];refine Ret.of ⟨_,rfl,?_⟩;rw[t4,Int.toNat_natCast,Int.toNat_natCast];exact⟨fun h=>⟨by omega,by omega,by omega,by omega,by omega,by omega,h⟩,fun h=>h.2.2.2.2.2.2⟩
   ·have h2f:(isName g.names a&&(decide (0<=j)&&decide (j<=ks.length)))=false:=by simpa using h2
    simp only[h2f,gd_f,vb_some,xPick_f,ff_eq];refine Ret.of ⟨false,rfl,⟨fun h=>(by cases h),fun h=>?_⟩⟩;refine absurd ?_ h2;simp only[isName,Bool.and_eq_true,decide_eq_true_eq];omega
  ·have h1f:(isName g.names a&&(decide (0<=i)&&decide (i<=ks.length)))=false:=by simpa using h1
   simp only[h1f,gd_f,vb_some,xPick_f,ff_eq];refine Ret.of ⟨false,rfl,⟨fun h=>(by cases h),fun h=>?_⟩⟩;refine absurd ?_ h1;simp only[isName,Bool.and_eq_true,decide_eq_true_eq];omega
 obtain⟨v,h',e,b,rfl,hb⟩:=key;exact⟨b,by rw[e];rfl,hb⟩
end
def en(p:Nat->Bool):Nat->List Int
 |0=>[]
 |n+1=>en p n++if p n=true then [((n:Nat):Int)]else []
def EndP(g:Gr)(ks:List Int)(a i:Int)(j:Nat):Prop:=0<=a/\a<g.names/\0<=i/\i<=ks.length/\j<=ks.length/\DvR g ks [a] i.toNat j
noncomputable def enP(g:Gr)(ks:List Int)(a i:Int):List Int:=by
 classical exact en (fun j=>decide (EndP g ks a i j)) (ks.length+1)
section
variable {Q:Value->PH->Prop}{n:Nat}{cl ih:CL}{h h0:PH}{S:Vw}{m:OM}{rows rest ex:Rws}{K2:Value->PH->R}{g:Gr}{ks:List Int}{cp:Nat}
theorem en_gapp{v:Value}{l:List Int}{z:Int}(st:Sl h0 h S m (ex++rows))(gl:Gl 1 v l.length (zv l) ex)(hl:l.length<=1000000)
  (hk: ∀h' v' ex',Sl h0 h' S m (ex'++rows)->Gl 1 v' (l++[z]).length (zv (l++[z])) ex'->Ret (K2 v' h') Q):Ret (Go.Am.hb (xBS 1 (bsRow Tryd.prog 24 1 [(0,.int .i64 z)]) h) fun v1 h=>Go.Am.hb (xApp (appInfo Tryd.prog #[24,24]) v v1 h) K2) Q:=by
 refine Ret.gapp st gl bs24 ai24 rfl rfl (by omega) fun h' v' ex' st' g'=>hk h' v' ex' st' ?_;have e:zv (l++[z])=zv l++[.int .i64 z]:=by simp[zv]
 rw[e,List.length_append];exact g'
end
section
variable {Q:Value->PH->Prop}{n:Nat}{cl ih:CL}{h h0:PH}{S:Vw}{m:OM}{rows rest ex:Rws}{K2:Value->PH->R}{g:Gr}{ks:List Int}{cp:Nat}{rv fv cv kv:Value}
end
theorem ab4{x y:Operand}{a b:Bool}:abin Tryd.prog .neq 4 x y (.bool a) (.bool b)=some (.bool (a !=b)):=by cases a<;>cases b<;>kernel_rfl
theorem gh_t{o:R}{h:PH}:gh (isB true (.bool true)) h o=o:=rfl
theorem ghn_f{o:R}{h:PH}:gh (isB false (.bool false)) h o=o:=rfl
def isTrue:Value->PH->Prop:=fun v _=>v= .bool true
section
variable {Q:Value->PH->Prop}{n:Nat}{cl ih:CL}{h h0:PH}{S:Vw}{m:OM}{rows rest ex:Rws}{K2:Value->PH->R}{g:Gr}{ks:List Int}{cp c2 gp:Nat}{rv fv cv kv kvs:Value}
end
section
variable {Q:Value->PH->Prop}{n:Nat}{cl ih:CL}{h h0:PH}{S:Vw}{m:OM}{rows rest ex:Rws}{K2:Value->PH->R}{g:Gr}{ks:List Int}{cp c2 gp zz:Nat}{rv fv cv kv kvs rwv:Value}
def HasP(g:Gr)(ks:List Int)(a:Int)(i j:Nat):Prop:=0<=a/\a<g.names/\i<=ks.length/\j<=ks.length/\DvR g ks [a] i j
theorem c11n[OkH h](hS:Vw.le S h.cells)(c:Chr S cp g ks)(hk:ks.length<=2000)(a:Int)(i j:Nat):
  ∃b:Bool,pcall (F11 n cl (pt cp) (.int .i64 a) (.int .i64 (i:Nat)) (.int .i64 (j:Nat)) h.fzn)=some (.bool b)/\(b=true↔HasP g ks a i j):=by
 obtain⟨b,e,hb⟩:=c11 (n:=n) (cl:=cl) hS c hk (a:=a) (i:=(i:Nat)) (j:=(j:Nat));refine⟨b,e,hb.trans ?_⟩;rw[Int.toNat_natCast,Int.toNat_natCast];exact⟨fun⟨a1,a2,_,a3,_,a4,a5⟩=>⟨a1,a2,by omega,by omega,a5⟩,fun⟨a1,a2,a3,a4,a5⟩=>⟨a1,a2,by omega,by omega,by omega,by omega,a5⟩⟩
structure Rl2(h:PH)(S:Vw)(g:Gr)(ks:List Int)(zz cp:Nat)(rl:Rl)(a b:Int)(kvs:Value):Prop where
 ok:OkH h
 hS:Vw.le S h.cells
 ch:Chr S cp g ks
 hk:ks.length<=2000
 gok:GOk g
 mem:rl∈g.rules
 rt:rl.right=[a,b]
 kv:xLenS kvs=some (.int .i64 (ks.length:Nat))
 l0:xLd (.pointer (some ⟨zz,0,none⟩)) h=some (.int .i64 rl.left)
 l1: ∃w,xLd (.pointer (some ⟨zz,1,none⟩)) h=some w/\(∃p,xIdxS 1 w (vN 0)=some p/\xLd p h=some (.int .i64 a))/\ ∃p,xIdxS 1 w (vN 1)=some p/\xLd p h=some (.int .i64 b)
end
abbrev gR(b c:Nat):Gr:=⟨1,1,0,[⟨0,List.replicate b (-1),0⟩,⟨0,0::List.replicate c (-1),0⟩],[],[],[]⟩
theorem gR_good: ∀b,b<9-> ∀c,c<8->goodB (gR b c)=true:=by decide
theorem gR_r1: ∀b,b<9-> ∀c,c<8->roundS (gR b c) [-1]=([(b:Int)],true):=by decide
theorem gR_r2: ∀b,b<9-> ∀c,c<8->roundS (gR b c) [(b:Int)]=([(b:Int)],false):=by decide
theorem gR_in{b c:Nat}(hb:b<9)(hc:c<8):GIn (gR b c):=by
 constructor<;>simp[inR]<;>omega
theorem gR_runs{b c:Nat}(hb:b<9)(hc:c<8):Runs (gR b c) [-1] [(b:Int)]:=by
 have h1:=gR_r1 b hb c hc;have h2:=gR_r2 b hb c hc;refine .more (by rw[h1]) ?_;rw[h1];have:=Runs.stop (g:=gR b c) (out:=[(b:Int)]) (by rw[h2]);rw[h2]at this;exact this
theorem reach1'{g:Gr}{a:List Bool}(hgood:goodB g=true)(h1:g.names=1)(h2:g.start=0)(x:ReachLs g a):a=[true]:=by
 have hl:=x.len hgood;rcases x with⟨h,_⟩|⟨_,_,h⟩
 ·rw[hgood]at h;cases h
 ·rw[h1]at hl;have h:=(h 0 (by rw[h1];rfl)).2 (by have:=Reach.start (g:=g);rw[h2]at this;exact this)
  match a,hl,h with
  | [x],_,h=>unfold marked at h;simp at h;rw[h]
theorem gR_ed{b c i j:Nat}(hb:1<=b)(hc:1<=c): ¬ Ed (gR b c) i j:=by
 rintro⟨r,hr,hl,k,hk,hj,hall⟩;simp only[List.mem_cons,List.not_mem_nil,or_false]at hr;rcases hr with rfl|rfl
 ·have hk:(List.replicate b (-1:Int))[k]?=some (j:Int):=hk;have:=List.mem_of_getElem? hk;rw[List.mem_replicate]at this;omega
 ·have h1:(0::List.replicate c (-1:Int))[k]?=some (j:Int):=hk;cases k with
  |succ k=>
   rw[List.getElem?_cons_succ]at h1;have:=List.mem_of_getElem? h1;rw[List.mem_replicate]at this;omega
  |zero=>
   have:=(hall 1 (-1) (by omega) (by show(0::List.replicate c (-1:Int))[1]?=some (-1);rw[List.getElem?_cons_succ,List.getElem?_replicate,if_pos (by omega)])).1;exact absurd this (by simp[isName])
theorem gR_chk{b c:Nat}(hb1:1<=b)(hc1:1<=c)(hb:b<9)(hc:c<8){x:Int×Int}(q:ChkQ (gR b c) x):x.2=0:=by
 have hgood:=gR_good b hb c hc;cases q with
 |bad h=>rw[hgood]at h;cases h
 | @good a c' p h ha hp hcy=>
  have e1:=reach1' hgood rfl rfl ha;subst e1;rcases hp with⟨h,_⟩|⟨_,hr,_⟩
  ·rw[hgood]at h;cases h
  ·have e2:p=[(b:Int)]:=hr.det (gR_runs hb hc);subst e2;have hl:c'.length=1:=hcy.len
   match c',hl with
   | [y],_=>
    have hy:y=false:=by
     cases y with
     |false=>rfl
     |true=>
      have:=(hcy.tells 0 (show 0<1 by omega)).1 rfl;cases this with
      |one h=>exact absurd h (gR_ed hb1 hc1)
      |on _ h=>exact absurd h (gR_ed hb1 hc1)
    subst hy;have:prodL [(b:Int)]=[true]:=by
     simp[prodL]
    rw[this]
    decide
theorem gR_sound{b c n:Nat}{l:List Int}{i j:Nat}(h:DvR (gR b c) (List.replicate n 0) l i j):(∀s∈l,s=0\/s= -1)-> ∃k,j=i+l.count (-1)+l.count 0*b+k*c:=by
 induction h with
 |nil=>intro _;exact⟨0,by simp⟩
 | @kind s k l i j h1 h2 h3 h4 ih=>
  intro hs;obtain⟨k',hk'⟩:=ih fun s hs'=>hs s (.tail _ hs');have:s= -1:=by rcases hs s (.head _)with h|h<;>omega
  subst this;refine⟨k',?_⟩;have e1:List.count (-1) (-1::l)=List.count (-1) l+1:=by simp
  have e2:List.count (0:Int) (-1::l)=List.count 0 l:=by simp
  rw[e1,e2];omega
 | @name r l i m j h1 h2 h3 h4 ih1 ih2=>
  intro hs;obtain⟨k2,hk2⟩:=ih2 fun s hs'=>hs s (.tail _ hs');simp only[List.mem_cons,List.not_mem_nil,or_false]at h1;rcases h1 with rfl|rfl
  ·obtain⟨k1,hk1⟩:=ih1 fun s hs'=>.inr (List.eq_of_mem_replicate hs');have e1:List.count (-1:Int) (List.replicate b (-1))=b:=by simp
   have e2:List.count (0:Int) (List.replicate b (-1))=0:=by simp[List.count_replicate]
   have e3:List.count (-1:Int) (0::l)=List.count (-1) l:=by simp
   have e4:List.count (0:Int) (0::l)=List.count 0 l+1:=by simp
   dsimp only at hk1;rw[e1,e2]at hk1;refine⟨k1+k2,?_⟩;dsimp only;rw[e3,e4,Nat.add_mul,Nat.add_mul,Nat.one_mul];omega
  ·obtain⟨k1,hk1⟩:=ih1 fun s hs'=>by
    rcases List.mem_cons.1 hs' with h|h
    ·exact .inl h
    ·exact .inr (List.eq_of_mem_replicate h)
   have e1:List.count (-1:Int) (0::List.replicate c (-1))=c:=by simp
   have e2:List.count (0:Int) (0::List.replicate c (-1))=1:=by simp[List.count_replicate]
   have e3:List.count (-1:Int) (0::l)=List.count (-1) l:=by simp
   have e4:List.count (0:Int) (0::l)=List.count 0 l+1:=by simp
   dsimp only at hk1;rw[e1,e2]at hk1;refine⟨k1+k2+1,?_⟩;dsimp only;rw[e3,e4];simp only[Nat.add_mul,Nat.one_mul]at hk1 ⊢;omega
theorem gR_kinds{g:Gr}{n:Nat}: ∀{q i:Nat},i+q<=n->DvR g (List.replicate n 0) (List.replicate q (-1)) i (i+q)
 |0,i,_=>.nil
 |q+1,i,h=>by
  have:=gR_kinds (g:=g) (n:=n) (q:=q) (i:=i+1) (by omega);rw[show i+1+q=i+(q+1) by omega]at this;exact .kind (k:=0) (by omega) (by rw[List.getElem?_replicate,if_pos (by omega)]) rfl this
theorem gR_comp{b c n:Nat}{i:Nat}: ∀{k:Nat},i+b+k*c<=n->DvR (gR b c) (List.replicate n 0) [0] i (i+b+k*c)
 |0,h=>by
  rw[Nat.zero_mul,Nat.add_zero]at h ⊢;exact .name (r:=⟨0,List.replicate b (-1),0⟩) (.head _) (by show(0:Int)<=0;omega) (gR_kinds h) .nil
 |k+1,h=>by
  rw[Nat.add_mul,Nat.one_mul]at h ⊢;have h1:=gR_comp (b:=b) (c:=c) (n:=n) (i:=i) (k:=k) (by omega);have h2:=gR_kinds (g:=gR b c) (n:=n) (q:=c) (i:=i+b+k*c) (by omega);have h3:=h1.app h2;rw[show i+b+k*c+c=i+b+(k*c+c) by omega]at h3;exact .name (r:=⟨0,0::List.replicate c (-1),0⟩) (.tail _ (.head _)) (by show(0:Int)<=0;omega) h3 .nil
theorem gR_iff{b c n i j:Nat}(hj:j<=n):DvR (gR b c) (List.replicate n 0) [0] i j↔ ∃k,j=i+b+k*c:=by
 constructor
 ·intro h;obtain⟨k,hk⟩:=gR_sound h (by simp);refine⟨k,?_⟩;simpa using hk
 ·rintro⟨k,rfl⟩;exact gR_comp hj
theorem mod_iff{b c j:Nat}(hc:1<=c):(∃k,j=b+k*c)↔b<=j/\(j-b) % c=0:=by
 constructor
 ·rintro⟨k,rfl⟩;exact⟨by omega,by rw[Nat.add_sub_cancel_left];exact Nat.mul_mod_left _ _⟩
 ·rintro⟨h1,h2⟩;refine⟨(j-b) / c,?_⟩;have:=Nat.div_add_mod (j-b) c;rw[h2,Nat.mul_comm]at this;omega
theorem ab37e:abuild Tryd.prog 37 []=some (.agg ⟨[.int .i64 0,nils,.int .i64 0]⟩):=by kernel_rfl
theorem ab37f{b c d:Nat}:abuild Tryd.prog 37 [(1,.slice (some ⟨b,0,none⟩) c d)]=some (.agg ⟨[.int .i64 0,.slice (some ⟨b,0,none⟩) c d,.int .i64 0]⟩):=by kernel_rfl
theorem bs22f{b c d:Nat}:bsRow Tryd.prog 22 2 [(0,.agg ⟨[.int .i64 0,nils,.int .i64 0]⟩),(1,.agg ⟨[.int .i64 0,.slice (some ⟨b,0,none⟩) c d,.int .i64 0]⟩)]=some (3,[.int .i64 0,nils,.int .i64 0,.int .i64 0,.slice (some ⟨b,0,none⟩) c d,.int .i64 0]):=by kernel_rfl
theorem ab26f{b c d:Nat}:abuild Tryd.prog 26 [(0,.int .i64 ((1:Nat):Int)),(1,.int .i64 ((1:Nat):Int)),(3,.slice (some ⟨b,0,none⟩) c d)]=some (.agg ⟨[.int .i64 1,.int .i64 1,.int .i64 0,.slice (some ⟨b,0,none⟩) c d,nils,nils,nils]⟩):=by kernel_rfl
section
variable {Q:Value->PH->Prop}{n:Nat}{cl ih:CL}{h h0:PH}{S:Vw}{m:OM}{rows rest ex:Rws}{K2:Value->PH->R}{ks:List Int}{cp gp br be:Nat}
theorem loop4c[OkH h](hS:Vw.le S h.cells){N b c:Nat}(hc:1<=c)(hc8:c<8)(hb9:b<9)(hN:N<=30)(ch:Chr S cp (gR b c) (List.replicate N 0)):
  ∀(q j fu:Nat),N+1=j+q->q<fu->Ret (lp fu (F4_5 n cl) [.int .i64 (N:Nat),.int .i64 (b:Nat),.int .i64 (c:Nat),pt cp,.int .i64 (j:Nat)] h) isTrue:=by
 intro q
 induction q with
 |zero=>
  intro j fu hq hf;obtain⟨fu,rfl⟩: ∃q,fu=q+1:=⟨fu-1,by omega⟩;rw[lp_succ];have dc:decide (((j:Nat):Int)<=((N:Nat):Int))=false:=decide_eq_false (by omega);simp only[F4_5,ucons_cons,F4_4,vb_some,xLe_i,dc,bite_f];exact Ret.of rfl
 |succ q ihq=>
  intro j fu hq hf;obtain⟨fu,rfl⟩: ∃q,fu=q+1:=⟨fu-1,by omega⟩;rw[lp_succ];have dc:decide (((j:Nat):Int)<=((N:Nat):Int))=true:=decide_eq_true (by omega);have hkl:(List.replicate N (0:Int)).length=N:=by simp
  obtain⟨b1,e1,h1⟩:=c11n (n:=n) (cl:=cl) (h:=h) hS ch (by omega) ((0:Nat):Int) 0 j;obtain⟨b2,e2,h2⟩:=c11n (n:=n) (cl:=cl) (h:=h) hS ch (by omega) ((0:Nat):Int) (N-j) N;have hp1:b1=true↔b<=j/\(j-b) % c=0:=by
   rw[h1, <-mod_iff hc];constructor
   ·rintro⟨_,_,_,_,hd⟩;have:=(gR_iff (by omega)).1 hd;simpa using this
   ·intro hk;exact⟨by omega,by show((0:Nat):Int)<1;omega,by omega,by omega,(gR_iff (by omega)).2 (by simpa using hk)⟩
  have hp2:b2=true↔b<=j/\(j-b) % c=0:=by
   rw[h2, <-mod_iff hc];constructor
   ·rintro⟨_,_,_,_,hd⟩;obtain⟨k,hk⟩:=(gR_iff (by omega)).1 hd;exact⟨k,by omega⟩
   ·rintro⟨k,hk⟩;exact⟨by omega,by show((0:Nat):Int)<1;omega,by omega,by omega,(gR_iff (by omega)).2 ⟨k,by omega⟩⟩
  have w2:IntKind.i64.wrap (((N:Nat):Int)-((j:Nat):Int))=((N-j:Nat):Int):=by
   rw[wrap_in (by omega) (by omega)];omega
  have go:Ret (F4_2 n cl (.int .i64 (j:Nat)) (lp fu (F4_5 n cl)) (.int .i64 (N:Nat)) (.int .i64 (b:Nat)) (.int .i64 (c:Nat)) (pt cp) h) isTrue:=by
   simp only[F4_2,vN_eq,xAdd_i,vb_some,show(((1:Nat):Int))=1 from rfl,wrap1 (i:=j) (by omega)];exact ihq (j+1) fu (by omega) (by omega)
  have fin: ∀p:Bool,(p=true↔b<=j/\(j-b) % c=0)->b1=p/\b2=p:=fun p hp=>by
   constructor
   ·rw[Bool.eq_iff_iff,hp1,hp]
   ·rw[Bool.eq_iff_iff,hp2,hp]
  simp only[F4_5,ucons_cons,F4_4,vb_some,xLe_i,dc,bite_t,F4_3,xGe_i]
  by_cases hbj:b<=j
  ·have d1:decide (((b:Nat):Int)<=((j:Nat):Int))=true:=decide_eq_true (by omega);have w1:IntKind.i64.wrap (((j:Nat):Int)-((b:Nat):Int))=((j-b:Nat):Int):=by
    rw[wrap_in (by omega) (by omega)];omega
   obtain⟨f1,f2⟩:=fin (decide (((j-b) % c:Nat)=((0:Nat):Int))) (by
    rw[decide_eq_true_eq];constructor
    ·intro h;exact⟨hbj,by omega⟩
    ·intro h;have:=h.2;omega)
   simp only[d1,gd_t,vb_some,xSub_i,w1,xRem_n (show 0<c by omega) (show j-b<4611686018427387904 by omega),vN_eq,xEq_i,xPick_t,e1,f1,ab4,bne_self_eq_false,gn_f,w2,e2,f2,xPick_f,bite_f];exact go
  ·have d1:decide (((b:Nat):Int)<=((j:Nat):Int))=false:=decide_eq_false (by omega);obtain⟨f1,f2⟩:=fin false (by
    constructor
    ·intro h;cases h
    ·intro h;exact absurd h.1 hbj)
   simp only[d1,gd_f,vb_some,vN_eq,xPick_f,ff_eq,e1,f1,ab4,bne_self_eq_false,gn_f,xSub_i,w2,e2,f2,bite_f];exact go
abbrev g0C(br:Nat):List Value:=[.int .i64 1,.int .i64 1,.int .i64 0,.slice (some ⟨br,0,none⟩) 2 2,nils,nils,nils]
abbrev r2C(v1 v2:Value):List Value:=[.int .i64 0,v1,.int .i64 0,.int .i64 0,v2,.int .i64 0]
def Gr2(be:Nat)(v:Value)(i:Nat)(ex:Rws):Prop:=(i=0/\v= .slice (some ⟨be,0,none⟩) 1 1/\ex=[])\/Gl 1 v (0::List.replicate i (-1):List Int).length (zv (0::List.replicate i (-1))) ex
theorem Ret.gr2{i:Nat}{v:Value}(st:Sl h0 h S m (ex++rows))(hbe:(be,AObj.row .own 1 [.int .i64 0])∈rows)(g2:Gr2 be v i ex)(hi:i<=1000)
  (hk: ∀h' v' ex',Sl h0 h' S m (ex'++rows)->Gr2 be v' (i+1) ex'->v'.oneCell'=true->Ret (K2 v' h') Q):Ret (Go.Am.hb (xBS 1 (bsRow Tryd.prog 24 1 [(0,.int .i64 (-1))]) h) fun v1 h=>Go.Am.hb (xApp (appInfo Tryd.prog #[24,24]) v v1 h) K2) Q:=by
 rcases g2 with⟨rfl,rfl,rfl⟩|gl
 ·refine Ret.lbs st bs24 fun h1 b st1=>?_;have st1:Sl h0 h1 S m ((b,.row .own 1 [.int .i64 (-1)])::rows):=st1;have hx:=st1.ptail (n:=1) (sz:=1) (c:=1) (b:=b) (.head _) rfl;rw[ai24];refine Ret.lappF (o:=0) (k:=1) st1 (st1.mem (.tail _ hbe)) (by simp) (by omega) hx (by omega) rfl (by omega) fun h2 b' st2=>?_;have st2:Sl h0 h2 S m ([(b',.row .opn 1 [.int .i64 0,.int .i64 (-1)])]++((b,.row .own 1 [.int .i64 (-1)])::rows)):=st2;refine hk h2 _ [(b',.row .opn 1 [.int .i64 0,.int .i64 (-1)])] (st2.drop (List.Sublist.append (List.Sublist.refl _) (List.sublist_cons_self _ _))) (.inr ⟨.inr ⟨b',0,openCap,_,rfl,rfl,rfl,by simp,by simp,Nat.le_refl _,by decide⟩⟩) rfl
 ·refine en_gapp st gl (by simp;omega) fun h' v' ex' st' gl'=>?_;have e:(0::List.replicate i (-1):List Int)++[-1]=0::List.replicate (i+1) (-1):=by
   rw[List.cons_append,List.replicate_succ']
  rw[e]at gl';exact hk h' v' ex' st' (.inr gl') gl'.one
theorem loop4b{N b c:Nat}(hN:N<=30)(hb9:b<9)(hc8:c<8){v1:Value}(hv1:v1.oneCell'=true)
  (hK: ∀h' v2 ex,Sl h0 h' S OM.emp (ex++[(br,.row .own 3 (r2C v1 v2)),(gp,.row .own 1 (g0C br)),(be,.row .own 1 [.int .i64 0])])->Gr2 be v2 c ex->Ret (F4_6 n cl (pt gp) (.int .i64 (N:Nat)) (.int .i64 (b:Nat)) (.int .i64 (c:Nat)) h') Q):
  ∀(q i fu:Nat)(h:PH)(v2:Value)(ex:Rws),c=i+q->q<fu->Gr2 be v2 i ex->Sl h0 h S OM.emp (ex++[(br,.row .own 3 (r2C v1 v2)),(gp,.row .own 1 (g0C br)),(be,.row .own 1 [.int .i64 0])])->
   Ret (lp fu (F4_8 n cl) [.int .i64 (N:Nat),.int .i64 (b:Nat),.int .i64 (c:Nat),pt gp,.int .i64 (i:Nat)] h) Q:=by
 intro q
 induction q with
 |zero=>
  intro i fu h v2 ex hq hf g2 st;obtain⟨fu,rfl⟩: ∃q,fu=q+1:=⟨fu-1,by omega⟩;rw[lp_succ];have dc:decide (((i:Nat):Int)<((c:Nat):Int))=false:=decide_eq_false (by omega);simp only[F4_8,ucons_cons,F4_7,vb_some,xLt_i,dc,bite_f];have e:i=c:=by omega
  subst e;exact hK h v2 ex st g2
 |succ q ihq=>
  intro i fu h v2 ex hq hf g2 st;obtain⟨fu,rfl⟩: ∃q,fu=q+1:=⟨fu-1,by omega⟩;rw[lp_succ];have dc:decide (((i:Nat):Int)<((c:Nat):Int))=true:=decide_eq_true (by omega);have l3:xLd (.pointer (some ⟨gp,3,none⟩)) h=some (.slice (some ⟨br,0,none⟩) 2 2):=st.ld (List.mem_append_right _ (.tail _ (.head _))) rfl;have l4:xLd (.pointer (some ⟨br,4,none⟩)) h=some v2:=st.ld (List.mem_append_right _ (.head _)) rfl;have i1:xIdxS 3 (.slice (some ⟨br,0,none⟩) 2 2) (.int .i64 ((1:Nat):Int))=some (.pointer (some ⟨br,3,none⟩)):=by
   rw[xIdxS_at (by omega) (by omega)];rfl
  simp only[F4_8,ucons_cons,F4_7,vb_some,xLt_i,dc,bite_t,F4_1,xFld_p,Nat.zero_add,l3,vN_eq,i1,l4,vM_eq,show Int.negSucc 0= -1 from rfl];refine Ret.gr2 (be:=be) st (.tail _ (.tail _ (.head _))) g2 (by omega) fun h' v' ex' st' g' h1=>?_;have l3':xLd (.pointer (some ⟨gp,3,none⟩)) h'=some (.slice (some ⟨br,0,none⟩) 2 2):=st'.ld (List.mem_append_right _ (.tail _ (.head _))) rfl;rw[l3',lchk_t veq_sl];have st2:=st'.perm List.perm_middle;refine Ret.lst1 st2 0 rfl rfl (by simp) h1 fun h2 st3=>?_;have st3:Sl h0 h2 S OM.emp ((br,.row .own 3 (r2C v1 v'))::(ex'++[(gp,.row .own 1 (g0C br)),(be,.row .own 1 [.int .i64 0])])):=st3;have st4:=st3.perm List.perm_middle.symm;simp only[xAdd_i,vb_some,show(((1:Nat):Int))=1 from rfl,wrap1 (i:=i) (by omega)];exact ihq (i+1) fu h2 v' ex' (by omega) (by omega) g' st4
theorem loop4a{N b c:Nat}(hN:N<=30)(hb9:b<9)(hc8:c<8){v2:Value}
  (hK: ∀h' v1 ex,Sl h0 h' S OM.emp (ex++[(br,.row .own 3 (r2C v1 v2)),(gp,.row .own 1 (g0C br)),(be,.row .own 1 [.int .i64 0])])->Gl 1 v1 (List.replicate b (-1):List Int).length (zv (List.replicate b (-1))) ex->Ret (lp n (F4_8 n cl) [.int .i64 (N:Nat),.int .i64 (b:Nat),.int .i64 (c:Nat),pt gp,.int .i64 ((0:Nat):Int)] h') Q):
  ∀(q i fu:Nat)(h:PH)(v1:Value)(ex:Rws),b=i+q->q<fu->Gl 1 v1 (List.replicate i (-1):List Int).length (zv (List.replicate i (-1))) ex->Sl h0 h S OM.emp (ex++[(br,.row .own 3 (r2C v1 v2)),(gp,.row .own 1 (g0C br)),(be,.row .own 1 [.int .i64 0])])->
   Ret (lp fu (F4_10 n cl) [.int .i64 (N:Nat),.int .i64 (b:Nat),.int .i64 (c:Nat),pt gp,.int .i64 (i:Nat)] h) Q:=by
 intro q
 induction q with
 |zero=>
  intro i fu h v1 ex hq hf gl st;obtain⟨fu,rfl⟩: ∃q,fu=q+1:=⟨fu-1,by omega⟩;rw[lp_succ];have dc:decide (((i:Nat):Int)<((b:Nat):Int))=false:=decide_eq_false (by omega);simp only[F4_10,ucons_cons,F4_9,vb_some,xLt_i,dc,bite_f,vN_eq];have e:i=b:=by omega
  subst e;exact hK h v1 ex st gl
 |succ q ihq=>
  intro i fu h v1 ex hq hf gl st;obtain⟨fu,rfl⟩: ∃q,fu=q+1:=⟨fu-1,by omega⟩;rw[lp_succ];have dc:decide (((i:Nat):Int)<((b:Nat):Int))=true:=decide_eq_true (by omega);have l3:xLd (.pointer (some ⟨gp,3,none⟩)) h=some (.slice (some ⟨br,0,none⟩) 2 2):=st.ld (List.mem_append_right _ (.tail _ (.head _))) rfl;have l4:xLd (.pointer (some ⟨br,1,none⟩)) h=some v1:=st.ld (List.mem_append_right _ (.head _)) rfl;have i1:xIdxS 3 (.slice (some ⟨br,0,none⟩) 2 2) (.int .i64 ((0:Nat):Int))=some (.pointer (some ⟨br,0,none⟩)):=by
   rw[xIdxS_at (by omega) (by omega)];rfl
  simp only[F4_10,ucons_cons,F4_9,vb_some,xLt_i,dc,bite_t,F4_0,xFld_p,Nat.zero_add,l3,vN_eq,i1,l4,vM_eq,show Int.negSucc 0= -1 from rfl];refine en_gapp st gl (by simp;omega) fun h' v' ex' st' gl'=>?_;have e:(List.replicate i (-1):List Int)++[-1]=List.replicate (i+1) (-1):=by rw[List.replicate_succ']
  rw[e]at gl';have l3':xLd (.pointer (some ⟨gp,3,none⟩)) h'=some (.slice (some ⟨br,0,none⟩) 2 2):=st'.ld (List.mem_append_right _ (.tail _ (.head _))) rfl;rw[l3',lchk_t veq_sl];have st2:=st'.perm List.perm_middle;refine Ret.lst1 st2 0 rfl rfl (by simp) gl'.one fun h2 st3=>?_;have st3:Sl h0 h2 S OM.emp ((br,.row .own 3 (r2C v' v2))::(ex'++[(gp,.row .own 1 (g0C br)),(be,.row .own 1 [.int .i64 0])])):=st3;have st4:=st3.perm List.perm_middle.symm;simp only[xAdd_i,vb_some,show(((1:Nat):Int))=1 from rfl,wrap1 (i:=i) (by omega)];exact ihq (i+1) fu h2 v' ex' (by omega) (by omega) gl' st4
theorem gR_gv{b c:Nat}{v1 v2:Value}(hb:1<=b)(hbr:S br=some (r2C v1 v2))(h1:RdV (rI .i64) S v1 (List.replicate b (-1)))(h2:RdV (rI .i64) S v2 (0::List.replicate c (-1))):GrV S (gR b c) (.slice (some ⟨br,0,none⟩) 2 2) nils nils nils:=by
 have hne:(List.replicate b (-1):List Int)≠[]:=by
  intro h;have:=congrArg List.length h;simp at this;omega
 refine⟨.inr ⟨br,0,2,_,rfl,hbr,fun i r hi=>?_⟩,.inl ⟨rfl,none,0,rfl⟩,.inl ⟨rfl,none,0,rfl⟩,.inl ⟨rfl,none,0,rfl⟩,fun h=>(by cases h),fun _=>⟨none,0,rfl⟩,fun _=>⟨none,0,rfl⟩,fun _=>⟨none,0,rfl⟩⟩
 match i,hi with
 |0,hi=>
  cases hi;exact⟨by show 0+0*3+3<=6;omega,[.int .i64 0],[v1,.int .i64 0],rfl,rfl,[v1],[.int .i64 0],rfl,⟨v1,rfl,h1,fun h=>absurd h hne⟩,rfl⟩
 |1,hi=>
  cases hi;exact⟨by show 0+1*3+3<=6;omega,[.int .i64 0],[v2,.int .i64 0],rfl,rfl,[v2],[.int .i64 0],rfl,⟨v2,rfl,h2,fun h=>(by cases h)⟩,rfl⟩
set_option maxRecDepth 100000 in
theorem rest4{N b c:Nat}(hn:9223372036854775808<=n)(hN:N<=30)(hb:1<=b)(hc:1<=c)(hb9:b<9)(hc8:c<8)(gv:GrV S (gR b c) (.slice (some ⟨br,0,none⟩) 2 2) nils nils nils)(st:Sl h0 h S OM.emp ((gp,.row .own 1 (g0C br))::rest)):
  Ret (F4_6 n (CLy n ih) (pt gp) (.int .i64 (N:Nat)) (.int .i64 (b:Nat)) (.int .i64 (c:Nat)) h) isTrue:=by
 unfold F4_6;have la:xLdA 7 (.pointer (some ⟨gp,0,none⟩)) h=some (.agg ⟨g0C br⟩):=st.ldA (.head _) rfl (by simp);simp only[la,vb_some];refine Ret.lmk st zi24 (by omega) (Int.le_refl _) (by omega) (by omega) fun h1 kb st1=>?_;rw[zrows1,Int.toNat_natCast]at st1;obtain⟨st2,hS2⟩:=st1.settle (i:=0) rfl;have hnk:=(st1.sm.own kb _ (st1.mem (.head _))).2;have le2:=VwN.put (h0:=h0) hS2 hnk (cs:=List.replicate N (.int .i64 0));have rk:RdV (rI .i64) (S.put kb (List.replicate N (.int .i64 0))) (.slice (some ⟨kb,0,none⟩) N N) (List.replicate N 0):=by
  refine .inr ⟨kb,0,N,List.replicate N (.int .i64 0),by simp,Vw.put_self,fun i x hx=>?_⟩;rw[List.getElem?_replicate]at hx
  split at hx
  ·rename_i hi;cases hx;refine⟨by show 0+i*1+1<=_;simp;omega,?_⟩
   show((List.replicate N (Value.int .i64 0)).drop (0+i*1)).take 1=[.int .i64 0]
   rw[List.drop_replicate,List.take_replicate,show min 1 (N-(0+i*1))=1 by omega];rfl
  ·cases hx
 have hv:veq (.agg ⟨gcs (gR b c) (.slice (some ⟨br,0,none⟩) 2 2) nils nils nils⟩) (.agg ⟨gcs (gR b c) (.slice (some ⟨br,0,none⟩) 2 2) nils nils nils⟩)=true:=by
  have e0:Go.Am.veq1 (.slice (some ⟨br,0,none⟩) 2 2) (.slice (some ⟨br,0,none⟩) 2 2)=true:=by
   unfold veq1;simp only[Nat.beq_refl];unfold aeq;simp
  show veqs (gcs (gR b c) (.slice (some ⟨br,0,none⟩) 2 2) nils nils nils) (gcs (gR b c) (.slice (some ⟨br,0,none⟩) 2 2) nils nils nils)=true
  simp only[gcs,veqs,e0]
  rfl
 refine Ret.hb (c9 (g:=gR b c) (ks:=List.replicate N 0) (rv:=.slice (some ⟨br,0,none⟩) 2 2) (fv:=nils) (cv:=nils) (kv:=nils) (ih:=ih) hn (gR_in hb9 hc8) st2 (gv.mono le2.1) hv rk (fun h=>?_) (by simp;omega) ⟨by simp,by simp⟩) fun v4 h4 hp4=>?_
 ·have hN0:N=0:=by simpa using h
  subst hN0;exact⟨some kb,0,rfl⟩
 ·obtain⟨w,hw,hp4⟩:=hp4;have hx:=gR_chk hb hc hb9 hc8 hw;have ep: ∀{u:Int}{h:PH},pcall (F10 n (CLy n ih) (.int .i64 u) h)=some (.int .i64 u):=fun {u h}=>rfl;rcases hp4 with⟨hne,_⟩|⟨_,S4,cp,le4,st4,ch,rfl⟩
  ·exact absurd hx hne
  ·have ok4:=st4.ok;simp only[xExt_t',List.getElem?_cons_zero,List.getElem?_cons_succ,vb_some,ep,vN_eq,xNe_i,show decide ((0:Int)=((0:Nat):Int))=true from rfl,Bool.not_true,gn_f,abEq,xPick_f,bite_f];exact loop4c (fun b cs e=>st4.leS b cs e) hc hc8 hb9 hN ch (N+1) 0 n (by omega) (by omega)
theorem Gr2.gl{v:Value}{i:Nat}(h:Gr2 be v i ex)(hi:1<=i):Gl 1 v (0::List.replicate i (-1):List Int).length (zv (0::List.replicate i (-1))) ex:=by
 rcases h with⟨h,_⟩|h
 ·omega
 ·exact h
set_option maxRecDepth 100000 in
theorem law4[OkH h]{d:Nat}{x y z:Int}(hn:9223372036854775808<=n):Ret (F4 n (CLU n d) (.int .i64 x) (.int .i64 y) (.int .i64 z) h) isTrue:=by
 unfold F4;simp only[told6,vb_some,xNot_b,Bool.not_true,gn_f,xLt_i,xGt_i,xPick_f,vN_eq];have out:Ret (some (Value.bool true,h)) isTrue:=Ret.of rfl
 by_cases hx0:x<((0:Nat):Int)
 ·simp only[decide_eq_true hx0,gn_t,vb_some,xPick_t,tt_eq,bite_t];exact out
 ·simp only[decide_eq_false hx0,gn_f,vb_some,xGt_i,xPick_f]
  by_cases hx1:((30:Nat):Int)<x
  ·simp only[decide_eq_true hx1,gn_t,vb_some,xPick_t,tt_eq,bite_t];exact out
  ·simp only[decide_eq_false hx1,gn_f,vb_some,xLt_i,xPick_f]
   by_cases hy0:y<((1:Nat):Int)
   ·simp only[decide_eq_true hy0,gn_t,vb_some,xPick_t,tt_eq,bite_t];exact out
   ·simp only[decide_eq_false hy0,gn_f,vb_some,xGt_i,xPick_f]
    by_cases hy1:((8:Nat):Int)<y
    ·simp only[decide_eq_true hy1,gn_t,vb_some,xPick_t,tt_eq,bite_t];exact out
    ·simp only[decide_eq_false hy1,gn_f,vb_some,xLt_i,xPick_f]
     by_cases hz0:z<((1:Nat):Int)
     ·simp only[decide_eq_true hz0,gn_t,vb_some,xPick_t,tt_eq,bite_t];exact out
     ·simp only[decide_eq_false hz0,gn_f,vb_some,xGt_i,xPick_f]
      by_cases hz1:((7:Nat):Int)<z
      ·simp only[decide_eq_true hz1,bite_t];exact out
      ·obtain⟨N,rfl⟩: ∃q:Nat,x=q:=⟨x.toNat,by omega⟩;obtain⟨b,rfl⟩: ∃q:Nat,y=q:=⟨y.toNat,by omega⟩;obtain⟨c,rfl⟩: ∃q:Nat,z=q:=⟨z.toNat,by omega⟩;have st0:Sl h h h.cells OM.emp []:=Sl.start h (Vw.le.refl _);have hb:1<=b/\b<9:=by omega
       have hc:1<=c/\c<8:=by omega
       have ek:CLU n d=CLy n (CLV n d):=rfl;simp only[decide_eq_false hz1,bite_f,F4_11,ab37e,vb_some,vN_eq];refine Ret.lbs st0 bs24 fun h1 be st1=>?_;simp only[ab37f,vb_some];refine Ret.lbs st1 bs22f fun h2 br st2=>?_;simp only[ab26f,vb_some];refine Ret.lalloc st2 zc26 fun h3 gp st3=>?_;refine Ret.lstA st3 0 rfl rfl rfl (by simp) rfl fun h4 st4=>?_;rw[setsL_all (by rfl)]at st4;have st5:Sl h h4 h.cells OM.emp ([]++[(br,.row .own 3 (r2C nils (.slice (some ⟨be,0,none⟩) 1 1))),(gp,.row .own 1 (g0C br)),(be,.row .own 1 [.int .i64 0])]):=st4.perm (.swap _ _ _);refine loop4a (N:=N) (b:=b) (c:=c) (be:=be) (by omega) hb.2 hc.2 (fun h6 v1 ex6 st6 g6=>?_) b 0 n h4 nils [] (by omega) (by omega) Gl.nil st5;obtain⟨S7,le7,st7,sl7⟩:=Gl.settleV st6 g6;refine loop4b (N:=N) (b:=b) (c:=c) (be:=be) (S:=S7) (by omega) hb.2 hc.2 g6.one (fun h8 v2 ex8 st8 g8=>?_) c 0 n h6 _ [] (by omega) (by omega) (.inl ⟨rfl,rfl,rfl⟩) st7;obtain⟨S9,le9,st9,sl9⟩:=Gl.settleV st8 (g8.gl hc.1);obtain⟨st10,hS10⟩:=st9.settle (i:=0) rfl;have hnb:=(st9.sm.own br _ (st9.mem (.head _))).2;have le10:=VwN.put (h0:=h) hS10 hnb (cs:=r2C v1 v2);rw[ek];exact rest4 hn (by omega) hb.1 hc.1 hb.2 hc.2 (gR_gv hb.1 Vw.put_self (sl7.rdI.mono (le9.trans le10).1) (sl9.rdI.mono le10.1)) st10
end
end Go.Am
