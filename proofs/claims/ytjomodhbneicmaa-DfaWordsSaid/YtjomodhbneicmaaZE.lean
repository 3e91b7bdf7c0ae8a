import Derived.Test.YtjomodhbneicmaaZD
set_option linter.unusedSimpArgs false
set_option linter.unusedVariables false
namespace Go.Am
open Go Go.RowKit Go.Proofs
def tot:List Po->Nat
 | []=>0
 |po::l=>po.sets.length+tot l
theorem tot_app: ∀(a b:List Po),tot (a++b)=tot a+tot b
 | [],b=>by simp[tot]
 |x::a,b=>by
  show x.sets.length+tot (a++b)=x.sets.length+tot a+tot b
  rw[tot_app a b];omega
def off(l:List Po)(k:Nat):Nat:=tot (l.take k)
theorem off_succ{l:List Po}{k:Nat}{po:Po}(h:l[k]?=some po):off l (k+1)=off l k+po.sets.length:=by
 unfold off;rw[List.take_add_one,h,tot_app]
 show tot (l.take k)+(po.sets.length+0)=_
 omega
theorem off_le{l:List Po}{k:Nat}:off l k<=tot l:=by
 unfold off;have:=tot_app (l.take k) (l.drop k);rw[List.take_append_drop]at this;omega
theorem off_lt{l:List Po}{k y:Nat}{po:Po}(h:l[k]?=some po)(hy:y<po.sets.length):off l k+y<tot l:=by
 have h1:=off_succ h;have h2:=off_le (l:=l) (k:=k+1);omega
theorem off_mono{l:List Po}{i j:Nat}(h:i<=j):off l i<=off l j:=by
 unfold off;have e:l.take i=(l.take j).take i:=by rw[List.take_take,Nat.min_eq_left h]
 have:=tot_app ((l.take j).take i) ((l.take j).drop i);rw[List.take_append_drop, <-e]at this;omega
theorem off_inj{l:List Po}{i j y z:Nat}{p q:Po}(hi:l[i]?=some p)(hj:l[j]?=some q)(hy:y<p.sets.length)(hz:z<q.sets.length)(e:off l i+y=off l j+z):i=j/\y=z:=by
 have h1:=off_succ hi;have h2:=off_succ hj;have:i=j:=by
  rcases Nat.lt_trichotomy i j with h|h|h
  ·have:=off_mono (l:=l) (show i+1<=j from h);omega
  ·exact h
  ·have:=off_mono (l:=l) (show j+1<=i from h);omega
 subst this;exact⟨rfl,by omega⟩
theorem off_app{l:List Po}{po:Po}{k:Nat}(h:k<=l.length):off (l++[po]) k=off l k:=by
 unfold off;rw[List.take_append_of_le_length h]
theorem get_snoc{l:List Po}{po q:Po}{k:Nat}:(l++[po])[k]?=some q↔(k<l.length/\l[k]?=some q)\/(k=l.length/\q=po):=by
 constructor
 ·intro h
  by_cases hlt:k<l.length
  ·rw[List.getElem?_append_left hlt]at h;exact .inl ⟨hlt,h⟩
  ·rw[List.getElem?_append_right (by omega)]at h;have hi0:k-l.length=0:=by
    have:=(List.getElem?_eq_some_iff.1 h).1;simp at this;omega
   rw[hi0]at h;exact .inr ⟨by omega,by simpa using h.symm⟩
 ·rintro(⟨h1,h2⟩|⟨rfl,rfl⟩)
  ·rw[List.getElem?_append_left h1];exact h2
  ·rw[List.getElem?_append_right (Nat.le_refl _),Nat.sub_self];rfl
structure RdOk(N:Nat)(l:List Po)(r:Rr):Prop where
 fk:Bk N r.first
 first: ∀j,hs r.first j=true↔ ∃k po y,l[k]?=some po/\y∈po.first/\y<po.sets.length/\j=off l k+y
 ll:r.last.length=l.length
 last: ∀(k:Nat) w,r.last[k]?=some w->Bk N w/\ ∀j,hs w j=true↔ ∃po y,l[k]?=some po/\y∈po.last/\y<po.sets.length/\j=off l k+y
 null:r.null=l.map (·.null)
 fl:r.follow.length=tot l
 fol: ∀(g:Nat) w,r.follow[g]?=some w->Bk N w/\ ∀j,hs w j=true↔ ∃k po y z,l[k]?=some po/\y<po.sets.length/\g=off l k+y/\z∈po.follow.getD y []/\z<po.sets.length/\j=off l k+z
 tks: ∀c,c<256-> ∀j,hs (r.tks c) j=true↔ ∃k po y,l[k]?=some po/\y<po.sets.length/\takesB po c y=true/\j=off l k+y
theorem RdOk.step{N:Nat}{l:List Po}{po:Po}{r0 r:Rr}(h:RdOk N l r0)(hq:Rq po (tot l) N r0 r):RdOk N (l++[po]) r:=by
 have offl:off (l++[po]) l.length=tot l:=by rw[off_app (Nat.le_refl _)];unfold off;rw[List.take_length]
 obtain⟨wl,hl1,hl2,hl3⟩:=hq.last;obtain⟨lf,hf1,hf2,hf3⟩:=hq.fol;refine⟨hq.fk,fun j=>?_,?_,fun k w hk=>?_,?_,?_,fun g w hg=>?_,fun c hc j=>?_⟩
 ·rw[hq.first,h.first];constructor
  ·rintro(⟨k,q,y,h1,h2,h3,h4⟩|⟨y,h1,h2,h3⟩)
   ·have hk:=(List.getElem?_eq_some_iff.1 h1).1;exact⟨k,q,y,get_snoc.2 (.inl ⟨hk,h1⟩),h2,h3,by rw[off_app (by omega)];exact h4⟩
   ·exact⟨l.length,po,y,get_snoc.2 (.inr ⟨rfl,rfl⟩),h1,h2,by rw[offl];exact h3⟩
  ·rintro⟨k,q,y,h1,h2,h3,h4⟩;rcases get_snoc.1 h1 with⟨hk,h1⟩|⟨rfl,rfl⟩
   ·exact .inl ⟨k,q,y,h1,h2,h3,by rw[off_app (by omega)]at h4;exact h4⟩
   ·exact .inr ⟨y,h2,h3,by rw[offl]at h4;exact h4⟩
 ·rw[hl1,List.length_append,List.length_append,h.ll];rfl
 ·rw[hl1]at hk;have hll:=h.ll
  by_cases hlt:k<r0.last.length
  ·rw[List.getElem?_append_left hlt]at hk;obtain⟨q1,q2⟩:=h.last k w hk;refine⟨q1,fun j=>?_⟩;rw[q2];have e:(l++[po])[k]?=l[k]?:=List.getElem?_append_left (by omega);rw[e,off_app (by omega)]
  ·rw[List.getElem?_append_right (by omega)]at hk;have hi0:k-r0.last.length=0:=by
    have:=(List.getElem?_eq_some_iff.1 hk).1;simp at this;omega
   rw[hi0]at hk;obtain rfl:wl=w:=by simpa using hk
   have hkl:k=l.length:=by omega
   subst hkl;refine⟨hl2,fun j=>?_⟩;rw[hl3,offl];constructor
   ·rintro⟨y,h1,h2,h3⟩;exact⟨po,y,get_snoc.2 (.inr ⟨rfl,rfl⟩),h1,h2,h3⟩
   ·rintro⟨q,y,h0,h1,h2,h3⟩;rcases get_snoc.1 h0 with⟨hk,_⟩|⟨_,rfl⟩
    ·omega
    ·exact⟨y,h1,h2,h3⟩
 ·rw[hq.null,h.null];simp
 ·rw[hf1,List.length_append,h.fl,hf2,tot_app];simp[tot]
 ·rw[hf1]at hg;have hfl:=h.fl
  by_cases hlt:g<r0.follow.length
  ·rw[List.getElem?_append_left hlt]at hg;obtain⟨q1,q2⟩:=h.fol g w hg;refine⟨q1,fun j=>?_⟩;rw[q2];constructor
   ·rintro⟨k,q,y,z,h1,h2,h3,h4,h5,h6⟩;have hk:=(List.getElem?_eq_some_iff.1 h1).1;have e:=off_app (l:=l) (po:=po) (k:=k) (by omega);exact⟨k,q,y,z,get_snoc.2 (.inl ⟨hk,h1⟩),h2,by rw[e];exact h3,h4,h5,by rw[e];exact h6⟩
   ·rintro⟨k,q,y,z,h1,h2,h3,h4,h5,h6⟩;rcases get_snoc.1 h1 with⟨hk,h1⟩|⟨rfl,rfl⟩
    ·have e:=off_app (l:=l) (po:=po) (k:=k) (by omega);rw[e]at h3 h6;exact⟨k,q,y,z,h1,h2,h3,h4,h5,h6⟩
    ·rw[offl]at h3;omega
  ·rw[List.getElem?_append_right (by omega)]at hg;obtain⟨q1,q2⟩:=hf3 _ w hg;have hgl:=(List.getElem?_eq_some_iff.1 hg).1;refine⟨q1,fun j=>?_⟩;rw[q2];constructor
   ·rintro⟨z,h1,h2,h3⟩;exact⟨l.length,po,g-r0.follow.length,z,get_snoc.2 (.inr ⟨rfl,rfl⟩),by omega,by rw[offl];omega,h1,h2,by rw[offl];exact h3⟩
   ·rintro⟨k,q,y,z,h1,h2,h3,h4,h5,h6⟩;rcases get_snoc.1 h1 with⟨hk,h1⟩|⟨rfl,rfl⟩
    ·rw[off_app (by omega)]at h3;have:=off_lt h1 h2;omega
    ·rw[offl]at h3 h6;have:g-r0.follow.length=y:=by omega
     rw[this];exact⟨z,h4,h5,h6⟩
 ·rw[hq.tks c hc,h.tks c hc];constructor
  ·rintro(⟨k,q,y,h1,h2,h3,h4⟩|⟨y,h1,h2,h3⟩)
   ·have hk:=(List.getElem?_eq_some_iff.1 h1).1;exact⟨k,q,y,get_snoc.2 (.inl ⟨hk,h1⟩),h2,h3,by rw[off_app (by omega)];exact h4⟩
   ·exact⟨l.length,po,y,get_snoc.2 (.inr ⟨rfl,rfl⟩),h1,h2,by rw[offl];exact h3⟩
  ·rintro⟨k,q,y,h1,h2,h3,h4⟩;rcases get_snoc.1 h1 with⟨hk,h1⟩|⟨rfl,rfl⟩
   ·exact .inl ⟨k,q,y,h1,h2,h3,by rw[off_app (by omega)]at h4;exact h4⟩
   ·exact .inr ⟨y,h2,h3,by rw[offl]at h4;exact h4⟩
def PoL(V:Vw)(v:Value)(l:List Po):Prop:=(l=[]/\ ∃a c,v= .slice a 0 c)\/ ∃b o c cs,v= .slice (some ⟨b,o,none⟩) l.length c/\V b=some cs/\o+l.length*5<=cs.length/\ ∀(i:Nat) po,l[i]?=some po->PoV V po ((cs.drop (o+i*5)).take 5)
theorem PoL.len{V:Vw}{v:Value}{l:List Po}(h:PoL V v l):xLenS v=some (.int .i64 (l.length:Nat)):=by
 rcases h with⟨rfl,a,c,rfl⟩|⟨b,o,c,cs,rfl,_⟩<;>simp
theorem PoL.at{V:Vw}{v:Value}{l:List Po}(h:PoL V v l){i:Nat}{po:Po}(hi:l[i]?=some po): ∃b o cs ps,xIdxS 5 v (.int .i64 (i:Nat))=some (.pointer (some ⟨b,o,none⟩))/\V b=some cs/\(cs.drop o).take 5=ps/\o+5<=cs.length/\PoV V po ps:=by
 have hlt:=(List.getElem?_eq_some_iff.1 hi).1;rcases h with⟨rfl,_⟩|⟨b,o,c,cs,rfl,h2,h3,h4⟩
 ·simp at hi
 ·refine⟨b,o+i*5,cs,_,?_,h2,rfl,by omega,h4 i po hi⟩;rw[xIdxS_at (by omega) (by omega)];simp
def z88(N:Nat)(fv:Value):List Value:=[.int .i64 (N:Nat),fv,nils,nils,nils]
theorem ab88:abuild Try.prog 88 []=some (.agg ⟨z88 0 nils++List.replicate 256 nils⟩):=by kernel_rfl
theorem z88_lt{N i:Nat}{v:Value}(hi:i<5):i<(z88 N v++List.replicate 256 nils).length:=by
 rw[List.length_append];have:(z88 N v).length=5:=rfl;omega
structure PpOf(l:List Po)(p:Pp):Prop where
 ok:p.Ok
 N:p.N=tot l
 first: ∀j,hs p.first j=true↔ ∃k po y,l[k]?=some po/\y∈po.first/\y<po.sets.length/\j=off l k+y
 ll:p.last.length=l.length
 last: ∀(k:Nat) w,p.last[k]?=some w-> ∀j,hs w j=true↔ ∃po y,l[k]?=some po/\y∈po.last/\y<po.sets.length/\j=off l k+y
 null:p.null=l.map (·.null)
 fol: ∀(g:Nat) w,p.follow[g]?=some w-> ∀j,hs w j=true↔ ∃k po y z,l[k]?=some po/\y<po.sets.length/\g=off l k+y/\z∈po.follow.getD y []/\z<po.sets.length/\j=off l k+z
 tks: ∀c,c<256-> ∀j,hs (p.takes.getD c []) j=true↔ ∃k po y,l[k]?=some po/\y<po.sets.length/\takesB po c y=true/\j=off l k+y
section
variable {Q:Value->PH->Prop}{n:Nat}{cl cl' cl'':CL}{h h0:PH}{S:Vw}{m:OM}{rows rest:Rws}{K2:Value->PH->R}
theorem Tk.settle{N bf:Nat}{ft:Nat->Nat}{tks:Nat->List Nat}(st:Sl h0 h S m rows)(tk:Tk m N bf ft tks): ∀k,k<=256-> ∃S' m',Vw.le S S'/\Sl h0 h S' m' rows/\(∀c,c<k->S' (ft c)=some (bw (tks c)))/\(∀c,k<=c->c<256->m' (ft c)=m (ft c))/\m' bf=m bf
 |0,_=>⟨S,m,Vw.le.refl _,st,by omega,fun c _ _=>rfl,rfl⟩
 |k+1,hk=>by
  obtain⟨S',m',le,st',h1,h2,h3⟩:=Tk.settle st tk k (by omega);obtain⟨st2,hS⟩:=st'.settleB (b:=ft k) ((h2 k (Nat.le_refl _) (by omega)).trans (tk.row k (by omega)));have le2:Vw.le S' (S'.put (ft k) (bw (tks k))):=Vw.le_put hS;refine⟨_,_,le.trans le2,st2,fun c hc=>?_,fun c hc hc2=>?_,?_⟩
  ·by_cases e:c=k
   ·subst e;exact Vw.put_self
   ·exact le2 _ _ (h1 c (by omega))
  ·rw[OM.del_ne (fun e=>by have:=tk.inj c k hc2 (by omega) e;omega)];exact h2 c (by omega) hc2
  ·rw[OM.del_ne (tk.ne k (by omega)).symm];exact h3
theorem loop37a(hn:4611686018427387904<=n){bp:Nat}{av:Value}{l:List Po}(hav:PoL S av l)(hl:l.length<=1000)(hsz:tot l<100000)
  (hk: ∀h',Sl h0 h' S OM.emp ((bp,.row .own 1 (z88 (tot l) nils++List.replicate 256 nils))::rows)->Ret (F37_8 n cl (pt bp) av h') Q):
  ∀(k q i:Nat)(h:PH),l.length-i<=k->k<q->i<=l.length->Sl h0 h S OM.emp ((bp,.row .own 1 (z88 (off l i) nils++List.replicate 256 nils))::rows)->
   Ret (lp q (F37_10 n cl) [av,pt bp,av,.int .i64 (l.length:Nat),.int .i64 (i:Nat)] h) Q:=by
 intro k
 induction k with
 |zero=>
  intro q i h h1 h2 h3 st;obtain⟨q,rfl⟩: ∃r,q=r+1:=⟨q-1,by omega⟩;rw[lp_succ];have dc:decide (((i:Nat):Int)<((l.length:Nat):Int))=false:=by simp;omega
  simp only[F37_10,F37_9,ucons_cons,xLt_i,dc,vb_some,bite_f];have e:off l i=tot l:=by unfold off;rw[List.take_of_length_le (by omega)]
  rw[e]at st;exact hk h st
 |succ k ih=>
  intro q i h h1 h2 h3 st
  by_cases hi:i<l.length
  ·obtain⟨q,rfl⟩: ∃r,q=r+1:=⟨q-1,by omega⟩;rw[lp_succ];generalize hL:lp q (F37_10 n cl)=LL;have dc:decide (((i:Nat):Int)<((l.length:Nat):Int))=true:=by simp;omega
   have hx:=List.getElem?_eq_getElem hi;have hos:=off_succ hx;have hol:=off_le (l:=l) (k:=i+1);generalize l[i]=po at hx hos;obtain⟨b,o,cs,ps,e1,e2,e3,e4,hpo⟩:=hav.at hx;have la:=st.ldSA e2 e3 e4;have hps:=hpo.ps;simp only[F37_10,F37_9,F37_0,ucons_cons,xLt_i,dc,vb_some,bite_t,e1,la];refine Ret.lalloc st zc43 fun h2 b2 st2=>?_;refine Ret.lstA st2 0 rfl rfl hps.1 (by simp) hps.2 fun h3 st3=>?_;rw[setsL_all (by rw[hps.1];rfl)]at st3;have st3:Sl h0 h3 S OM.emp ((b2,.row .own 1 ps)::(bp,.row .own 1 (z88 (off l i) nils++List.replicate 256 nils))::rows):=st3;obtain⟨sv,xf,xl,wv,wl,rfl,p1,_⟩:=hpo;have l0:xLd (.pointer (some ⟨bp,0,none⟩)) h3=some (.int .i64 (off l i:Nat)):=st3.ld (.tail _ (.head _)) rfl;have l1:xLd (.pointer (some ⟨b2,0,none⟩)) h3=some sv:=st3.ld (.head _) rfl;have ha:IntKind.i64.wrap (((off l i:Nat):Int)+((po.sets.length:Nat):Int))=((off l (i+1):Nat):Int):=by rw[wrap_in (by omega) (by omega)];omega
   simp only[xNil_p,vb_some,xFld_p,Nat.zero_add,l0,l1,p1.len,xAdd_i,ha];have st3:=st3.drop (List.sublist_cons_self _ _);refine Ret.lst1 st3 0 rfl rfl (z88_lt (by decide)) rfl fun h4 st4=>?_;simp only[vN_eq,xAdd_i,wrapN (show i<4611686018427387904 by omega),vb_some];rw[<-hL];exact ih q (i+1) h4 (by omega) (by omega) (by omega) st4
  ·exact ih q i h (by omega) (by omega) h3 st
theorem loop37b(hn:4611686018427387904<=n){bp bf N:Nat}{av:Value}(hN:N<100000)
  (hk: ∀h' m' ft,Sl h0 h' S m' ((bp,.row .own 1 (z88 N (slW bf (N / 64+1))++tvs ft (N / 64+1)))::rows)->Tk m' N bf ft (fun _=>List.replicate (N / 64+1) 0)->m' bf=some (.row .own 1 (bw (List.replicate (N / 64+1) 0)))->Ret (F37_5 n cl av (pt bp) h') Q):
  ∀(k q c:Nat)(m:OM)(h:PH)(ft:Nat->Nat)(cells:List Value),256-c<=k->k<q->c<=256->Sl h0 h S m ((bp,.row .own 1 cells)::rows)->cells.length=261->(∀i,i<5->cells[i]?=(z88 N (slW bf (N / 64+1)))[i]?)->(∀d,d<c->cells[5+d]?=some (slW (ft d) (N / 64+1)))->
   (∀d,d<c->m (ft d)=some (.row .own 1 (bw (List.replicate (N / 64+1) 0))))->(∀d,d<c->ft d≠bf)->(∀d e,d<c->e<c->ft d=ft e->d=e)->m bf=some (.row .own 1 (bw (List.replicate (N / 64+1) 0)))->
   Ret (lp q (F37_7 n cl) [av,pt bp,.int .i64 (c:Nat)] h) Q:=by
 intro k
 induction k with
 |zero=>
  intro q c m h ft cells h1 h2 h3 st hl hz ht hr hne hij hb;obtain⟨q,rfl⟩: ∃r,q=r+1:=⟨q-1,by omega⟩;rw[lp_succ];have hc:c=256:=by omega
  subst hc;have dc:decide (((256:Nat):Int)<((256:Nat):Int))=false:=by decide
  simp only[F37_7,F37_6,ucons_cons,vN_eq,xLt_i,dc,vb_some,bite_f];have e:cells=z88 N (slW bf (N / 64+1))++tvs ft (N / 64+1):=by
   apply List.ext_getElem?
   intro j
   by_cases h5:j<5
   ·rw[hz j h5,List.getElem?_append_left (by simp[z88];omega)]
   ·rw[List.getElem?_append_right (by simp[z88];omega)];have e5:(z88 N (slW bf (N / 64+1))).length=5:=rfl;rw[e5]
    by_cases hj:j-5<256
    ·have:=ht (j-5) hj;rw[show 5+(j-5)=j by omega]at this;rw[this,tvs_get hj]
    ·rw[List.getElem?_eq_none (by omega),List.getElem?_eq_none (by rw[tvs_len];omega)]
  rw[e]at st;exact hk h m ft st ⟨fun d hd=>hr d hd,fun d hd=>Bk.rep N,fun d hd=>hne d hd,fun d e hd he=>hij d e hd he⟩ hb
 |succ k ih=>
  intro q c m h ft cells h1 h2 h3 st hl hz ht hr hne hij hb
  by_cases hc:c<256
  ·obtain⟨q,rfl⟩: ∃r,q=r+1:=⟨q-1,by omega⟩;rw[lp_succ];generalize hL:lp q (F37_7 n cl)=LL;have dc:decide (((c:Nat):Int)<((256:Nat):Int))=true:=by simp;omega
   simp only[F37_7,F37_6,F37_1,ucons_cons,vN_eq,xLt_i,dc,vb_some,bite_t,xNil_p,xFld_p,Nat.zero_add];have:=st.ok;have h0c:cells[0]?=some (.int .i64 (N:Nat)):=hz 0 (by omega);refine Ret.lfcall st (f38 (n:=n) (cl:=cl) (h:=h.fzn) (S:=vall S (over ((bp,.row .own 1 cells)::rows) m)) st.fz (vall_m (st.mem (.head _))) h0c (by omega)) fun v h2 ex ⟨b,hv,he⟩ st2=>?_;subst hv;subst he;have st2:Sl h0 h2 S m ((b,.row .own 1 (bw (List.replicate (N / 64+1) 0)))::(bp,.row .own 1 cells)::rows):=st2;obtain⟨st3,hmb⟩:=st2.sink (i:=0) rfl;have st3:Sl h0 h2 S (m.upd b (.row .own 1 (bw (List.replicate (N / 64+1) 0)))) ((bp,.row .own 1 cells)::rows):=st3;simp only[xIdxA_at' hc,vb_some];refine Ret.lst1 st3 0 rfl rfl (by omega) rfl fun h4 st4=>?_;have st4:Sl h0 h4 S (m.upd b (.row .own 1 (bw (List.replicate (N / 64+1) 0)))) ((bp,.row .own 1 (cells.set (5+c*1) (slW b (N / 64+1))))::rows):=st4;rw[Nat.mul_one]at st4;simp only[vN_eq,xAdd_i,wrapN (show c<4611686018427387904 by omega),vb_some];rw[<-hL];have hnb: ∀d,d<c->ft d≠b:=fun d hd e=>by have:=hr d hd;rw[e,hmb]at this;cases this
   have hbb:bf≠b:=fun e=>by rw[e,hmb]at hb;cases hb
   refine ih q (c+1) _ h4 (fun d=>if d=c then b else ft d) _ (by omega) (by omega) (by omega) st4 (by rw[List.length_set];exact hl) (fun i hi=>by rw[List.getElem?_set_ne (by omega)];exact hz i hi) (fun d hd=>?_) (fun d hd=>?_) (fun d hd=>?_) (fun d e hd he hde=>?_) (by rw[OM.upd_ne hbb];exact hb)
   ·by_cases e:d=c
    ·rw[e,List.getElem?_set_self (by omega),if_pos rfl]
    ·rw[List.getElem?_set_ne (by omega),if_neg e];exact ht d (by omega)
   ·by_cases e:d=c
    ·rw[if_pos e,OM.upd_self]
    ·rw[if_neg e,OM.upd_ne (hnb d (by omega))];exact hr d (by omega)
   ·by_cases e:d=c
    ·rw[if_pos e];exact hbb.symm
    ·rw[if_neg e];exact hne d (by omega)
   ·by_cases e1:d=c<;>by_cases e2:e=c
    ·omega
    ·rw[if_pos e1,if_neg e2]at hde;exact absurd hde.symm (hnb e (by omega))
    ·rw[if_neg e1,if_pos e2]at hde;exact absurd hde (hnb d (by omega))
    ·rw[if_neg e1,if_neg e2]at hde;exact hij d e (by omega) (by omega) hde
  ·exact ih q c m h ft cells (by omega) (by omega) h3 st hl hz ht hr hne hij hb
theorem loop37c(hn:4611686018427387904<=n){bp N:Nat}{av:Value}{l:List Po}{S0:Vw}(hav:PoL S0 av l)(hl:l.length<=1000)(hN:tot l=N)(hsz:N<100000)(hin: ∀po∈l,po.In)
  (hk: ∀S' h' m' rows' r',Vw.le S0 S'->Sl h0 h' S' m' rows'->Rm S' m' bp rows' rest N r'->RdOk N l r'->Q (pt bp) h'):
  ∀(k q i:Nat)(S:Vw)(h:PH)(m:OM)(rows:Rws)(r:Rr),l.length-i<=k->k<q->i<=l.length->Vw.le S0 S->Sl h0 h S m rows->Rm S m bp rows rest N r->RdOk N (l.take i) r->
   Ret (lp q (F37_4 n cl) [pt bp,.int .i64 (off l i:Nat),av,.int .i64 (l.length:Nat),.int .i64 (i:Nat)] h) Q:=by
 intro k
 induction k with
 |zero=>
  intro q i S h m rows r h1 h2 h3 le st rm ro;obtain⟨q,rfl⟩: ∃r,q=r+1:=⟨q-1,by omega⟩;rw[lp_succ];have dc:decide (((i:Nat):Int)<((l.length:Nat):Int))=false:=by simp;omega
  rw[List.take_of_length_le (by omega)]at ro;simp only[F37_4,F37_3,ucons_cons,xLt_i,dc,vb_some,bite_f];exact Ret.of (hk S h m rows r le st rm ro)
 |succ k ih=>
  intro q i S h m rows r h1 h2 h3 le st rm ro
  by_cases hi:i<l.length
  ·obtain⟨q,rfl⟩: ∃r,q=r+1:=⟨q-1,by omega⟩;rw[lp_succ];generalize hL:lp q (F37_4 n cl)=LL;have dc:decide (((i:Nat):Int)<((l.length:Nat):Int))=true:=by simp;omega
   have hx:=List.getElem?_eq_getElem hi;have hos:=off_succ hx;have hol:=off_le (l:=l) (k:=i+1);have hpin:=hin _ (List.getElem_mem hi);have htk:l.take (i+1)=l.take i++[l[i]]:=by rw[List.take_add_one,hx];rfl
   generalize l[i]=po at hx hos hpin htk;obtain⟨b,o,cs,ps,e1,e2,e3,e4,hpo⟩:=hav.at hx;have la:=st.ldSA (le _ _ e2) e3 e4;have hps:=hpo.ps;simp only[F37_4,F37_3,F37_2,ucons_cons,xLt_i,dc,vb_some,bite_t,e1,la];refine Ret.lalloc st zc43 fun h2 b2 st2=>?_;refine Ret.lstA st2 0 rfl rfl hps.1 (by simp) hps.2 fun h3 st3=>?_;rw[setsL_all (by rw[hps.1];rfl)]at st3;have st3:Sl h0 h3 S m ((b2,.row .own 1 ps)::rows):=st3;have lb:xLdA 5 (pt b2) h3=some (.agg ⟨ps⟩):=st3.ldA (.head _) (by rw[List.drop_zero, <-hps.1,List.take_length]) (by rw[hps.1];exact Nat.le_refl _);simp only[lb,vb_some];obtain⟨A,hA,hfr⟩:=rm.frame;subst hA;have st3:=st3.perm (pm1 _ A rest);have hlT:(l.take i).length=i:=by rw[List.length_take];omega
   have hfl:=ro.fl;have hll:=ro.ll;have hnl:r.null.length=i:=by rw[ro.null,List.length_map,hlT]
   have hoff:off l i=tot (l.take i):=rfl;refine Ret.hb (c69 (n:=n) (cl:=cl) hn st3 (hfr _) hsz (by omega) hpin (hpo.mono le) (by omega) (by omega) (by omega)) fun v h4 ⟨S4,m4,rows4,r4,hv,le4,st4,rm4,rq⟩=>?_;subst hv;obtain⟨A4,hA4,hfr4⟩:=rm4.frame;subst hA4;obtain⟨sv,xf,xl,wv,wl,rfl,p1,_⟩:=hpo;have l0:xLd (.pointer (some ⟨b2,0,none⟩)) h4=some sv:=st4.ld (List.mem_append_right _ (.head _)) rfl;have ha:IntKind.i64.wrap (((off l i:Nat):Int)+((po.sets.length:Nat):Int))=((off l (i+1):Nat):Int):=by rw[wrap_in (by omega) (by omega)];omega
   simp only[vb_some,xFld_p,Nat.zero_add,l0,p1.len,xAdd_i,ha,vN_eq,wrapN (show i<4611686018427387904 by omega)];rw[<-hL];refine ih q (i+1) S4 h4 m4 _ r4 (by omega) (by omega) (by omega) (le.trans le4) (st4.drop (List.Sublist.append (List.Sublist.refl _) (List.sublist_cons_self _ _))) (hfr4 rest) ?_;rw[htk];exact ro.step rq
  ·exact ih q i S h m rows r (by omega) (by omega) h3 le st rm ro
theorem c37(hn:4611686018427387904<=n)(st:Sl h0 h S OM.emp rows){av:Value}{l:List Po}(hav:PoL S av l)(hl:l.length<=900)(hsz:tot l<100000)(hin: ∀po∈l,po.In):
  Ret (F37 n cl av h) fun v h'=> ∃S' bp p,v=pt bp/\Vw.le S S'/\Sl h0 h' S' OM.emp rows/\Pm S' bp p/\PpOf l p:=by
 unfold F37;refine Ret.vb ab88 ?_;refine Ret.lbox st fun h1 bp st1=>?_;have st1:Sl h0 h1 S OM.emp ((bp,.row .own 1 (z88 (off l 0) nils++List.replicate 256 nils))::rows):=st1;simp only[hav.len,vb_some,vN_eq];refine loop37a hn hav (by omega) hsz (fun h2 st2=>?_) l.length n 0 h1 (by omega) (by omega) (Nat.zero_le _) st1;unfold F37_8;have:=st2.ok;refine Ret.lfcall st2 (f38 (n:=n) (cl:=cl) (h:=h2.fzn) (S:=vall S (over ((bp,.row .own 1 (z88 (tot l) nils++List.replicate 256 nils))::rows) OM.emp)) (N:=tot l) st2.fz (vall_m (st2.mem (.head _))) rfl (by omega)) fun v h3 ex ⟨bf,hv,he⟩ st3=>?_;subst hv;subst he;have st3:Sl h0 h3 S OM.emp ((bf,.row .own 1 (bw (List.replicate (tot l / 64+1) 0)))::(bp,.row .own 1 (z88 (tot l) nils++List.replicate 256 nils))::rows):=st3;obtain⟨st4,hmb⟩:=st3.sink (i:=0) rfl;have st4:Sl h0 h3 S (OM.emp.upd bf (.row .own 1 (bw (List.replicate (tot l / 64+1) 0)))) ((bp,.row .own 1 (z88 (tot l) nils++List.replicate 256 nils))::rows):=st4;simp only[xNil_p,vb_some,xFld_p,Nat.zero_add,vN_eq];refine Ret.lst1 st4 0 rfl rfl (z88_lt (by decide)) rfl fun h5 st5=>?_;have st5:Sl h0 h5 S (OM.emp.upd bf (.row .own 1 (bw (List.replicate (tot l / 64+1) 0)))) ((bp,.row .own 1 (z88 (tot l) (slW bf (tot l / 64+1))++List.replicate 256 nils))::rows):=st5;refine loop37b (N:=tot l) hn hsz (fun h6 m6 ft st6 tk6 hb6=>?_) 256 n 0 _ h5 (fun _=>0) _ (by omega) (by omega) (by omega) st5 (by rw[List.length_append,List.length_replicate];rfl) (fun i hi=>by rw[List.getElem?_append_left (by simp[z88];omega)]) (by omega) (by omega) (by omega) (by omega) OM.upd_self;simp only[F37_5,hav.len,vb_some,vN_eq];refine loop37c (rest:=rows) (N:=tot l) hn hav (by omega) rfl hsz hin (fun S7 h7 m7 rows7 r7 le7 st7 rm7 ro7=>?_) l.length n 0 S h6 m6 _ ⟨List.replicate (tot l / 64+1) 0,[],[],[],fun _=>List.replicate (tot l / 64+1) 0⟩ (by omega) (by omega) (Nat.zero_le _) (Vw.le.refl _) st6 ?_ ?_
 ·obtain⟨bf7,ft7,fv,lv,nv,exF,exL,exN,cF,cL,rfl,a1,a2,a3,a4,a5,a6,a7,a8⟩:=rm7;have s1:=st7.perm (pm1 _ exF _);obtain⟨S8,le8,s2,hF⟩:=a4.settle s1;have s3:=s2.perm (pm1 _ exL _);obtain⟨S9,le9,s4,hLl⟩:=a6.settle s3;have s5:=s4.perm (pm1 _ exN _);obtain⟨S10,le10,s6,hNl⟩:=a8.settle s5;obtain⟨s7,hSp⟩:=s6.settle (i:=0) rfl;have s7:Sl h0 h7 (S10.put bp ([.int .i64 (tot l:Nat),slW bf7 (tot l / 64+1),fv,lv,nv]++tvs ft7 (tot l / 64+1))) m7 rows:=s7;have le11:Vw.le S10 (S10.put bp ([.int .i64 (tot l:Nat),slW bf7 (tot l / 64+1),fv,lv,nv]++tvs ft7 (tot l / 64+1))):=Vw.le_put hSp;obtain⟨S12,m12,le12,s8,q1,q2,q3⟩:=a3.settle s7 256 (Nat.le_refl _);obtain⟨s9,hSb⟩:=s8.settleB (b:=bf7) (q3.trans a1);have le13:Vw.le S12 (S12.put bf7 (bw r7.first)):=Vw.le_put hSb;have leA:Vw.le S7 (S12.put bf7 (bw r7.first)):=le8.trans (le9.trans (le10.trans (le11.trans (le12.trans le13))));have hlenF:r7.follow.length=tot l:=ro7.fl;refine⟨S12.put bf7 (bw r7.first),bp,⟨tot l,r7.first,r7.follow,r7.last,r7.null,(List.range 256).map r7.tks⟩,rfl,le7.trans leA,s9.weakM (fun b o hb=>by cases hb),?_,?_⟩
  ·refine⟨_,slW bf7 (tot l / 64+1),fv,lv,nv,le13 _ _ (le12 _ _ Vw.put_self),rfl,⟨rfl,bf7,tot l / 64+1,by unfold slW;rw[a2.len],Vw.put_self⟩,⟨rfl,⟨cF,(hF.mono (le9.trans (le10.trans (le11.trans (le12.trans le13))))).slv,a4.length,fun i ws hi=>?_⟩⟩,⟨rfl,⟨cL,(hLl.mono (le10.trans (le11.trans (le12.trans le13)))).slv,a6.length,fun i ws hi=>?_⟩⟩,⟨rfl,?_⟩,fun c ws hc=>?_⟩
   ·obtain⟨x,x1,x2⟩:=a5 i ws hi;exact⟨x,x1,x2.mono leA⟩
   ·obtain⟨x,x1,x2⟩:=a7 i ws hi;exact⟨x,x1,x2.mono leA⟩
   ·exact(hNl.mono (le11.trans (le12.trans le13))).slv
   ·have hc2:c<256:=by have:=(List.getElem?_eq_some_iff.1 hc).1;simp at this;omega
    rw[List.getElem?_map,List.getElem?_range hc2]at hc;obtain rfl:r7.tks c=ws:=by simpa using hc
    refine⟨slW (ft7 c) (tot l / 64+1),?_,ft7 c,tot l / 64+1,by unfold slW;rw[(a3.bk c hc2).len],le13 _ _ (q1 c hc2)⟩;rw[List.getElem?_append_right (by simp)];have:5+c- [Value.int .i64 (tot l:Nat),slW bf7 (tot l / 64+1),fv,lv,nv].length=c:=by simp
    rw[this,tvs_get hc2]
  ·refine⟨⟨hsz,ro7.fk,fun ws hw=>?_,fun ws hw=>?_,fun ws hw=>?_,?_,hlenF,?_,?_⟩,rfl,ro7.first,ro7.ll,fun k w hk=>(ro7.last k w hk).2,ro7.null,fun g w hg=>(ro7.fol g w hg).2,fun c hc j=>?_⟩
   ·obtain⟨i,hi⟩:=List.getElem?_of_mem hw;exact(ro7.fol i ws hi).1
   ·obtain⟨i,hi⟩:=List.getElem?_of_mem hw;exact(ro7.last i ws hi).1
   ·have hw:ws∈(List.range 256).map r7.tks:=hw;obtain⟨c,hc,rfl⟩:=List.mem_map.1 hw;exact a3.bk c (by simpa using hc)
   ·show((List.range 256).map r7.tks).length=256
    rw[List.length_map,List.length_range]
   ·show r7.last.length=r7.null.length
    rw[ro7.ll,ro7.null,List.length_map]
   ·show r7.null.length<1000
    rw[ro7.null,List.length_map];omega
   ·have hg:((List.range 256).map r7.tks).getD c []=r7.tks c:=by
     rw[List.getD_eq_getElem?_getD,List.getElem?_map,List.getElem?_range hc];rfl
    show hs (((List.range 256).map r7.tks).getD c []) j=true↔_
    rw[hg];exact ro7.tks c hc j
 ·exact⟨bf,ft,nils,nils,nils,[],[],[],[],[],rfl,hb6,Bk.rep _,tk6,.inl Gl.nil,(fun i ws hi=>by simp at hi),.inl Gl.nil,(fun i ws hi=>by simp at hi),.inl Gl.nil⟩
 ·refine⟨Bk.rep _,fun j=>?_,rfl,fun k w hk=>by simp at hk,rfl,rfl,fun g w hg=>by simp at hg,fun c hc j=>?_⟩
  ·show hs (List.replicate (tot l / 64+1) 0) j=true↔_
   rw[hs_rep];simp
  ·show hs (List.replicate (tot l / 64+1) 0) j=true↔_
   rw[hs_rep];simp
end
def cod(z:Int):Nat:=if z= -1 then 16777215 else z.toNat
def b3(z:Int):List Nat:=[cod z % 256,cod z / 256 % 256,cod z / 65536 % 256]
def Sm3(z:Int):Prop:=z= -1\/(0<=z/\z<16777215)
theorem b3_256{z:Int}: ∀x∈b3 z,x<256:=by
 intro x hx;unfold b3 at hx;simp only[List.mem_cons,List.not_mem_nil,or_false]at hx;rcases hx with rfl|rfl|rfl<;>exact Nat.mod_lt _ (by decide)
theorem cod_inj{a b:Int}(ha:Sm3 a)(hb:Sm3 b)(h:cod a=cod b):a=b:=by
 unfold cod at h;unfold Sm3 at ha hb
 split at h<;>split at h<;>omega
theorem cod_lt{a:Int}(ha:Sm3 a):cod a<16777216:=by
 unfold cod;unfold Sm3 at ha
 split<;>omega
theorem b3_inj{a b:Int}(ha:Sm3 a)(hb:Sm3 b)(h:b3 a=b3 b):a=b:=by
 refine cod_inj ha hb ?_;have h1:=cod_lt ha;have h2:=cod_lt hb;unfold b3 at h;simp only[List.cons.injEq,and_true]at h;omega
theorem w8z{z:Int}(h:Sm3 z):IntKind.u8.wrap z=((cod z % 256:Nat):Int):=by
 unfold Sm3 at h;rcases h with rfl|⟨h1,h2⟩
 ·rfl
 ·obtain⟨k,rfl⟩: ∃k:Nat,z=k:=⟨z.toNat,by omega⟩;rw[wrap8];have:cod (k:Int)=k:=by unfold cod;rw[if_neg (by omega)];simp
  rw[this]
theorem shr_z{z:Int}(h:Sm3 z){s:Nat}(hs:s=8\/s=16):IntKind.u8.wrap (shrI z s)=((cod z / 2 ^ s % 256:Nat):Int):=by
 unfold Sm3 at h;rcases h with rfl|⟨h1,h2⟩
 ·rcases hs with rfl|rfl<;>rfl
 ·obtain⟨k,rfl⟩: ∃k:Nat,z=k:=⟨z.toNat,by omega⟩;have:cod (k:Int)=k:=by unfold cod;rw[if_neg (by omega)];simp
  rw[this]
  show IntKind.u8.wrap (((k>>>s:Nat):Nat):Int)=_
  rw[wrap8,Nat.shiftRight_eq_div_pow]
theorem bs39_0:bsRow Try.prog 39 0 []=some (1,[]):=by kernel_rfl
theorem bs39_3{a b c:Int}:bsRow Try.prog 39 3 [(0,.int .u8 a),(1,.int .u8 b),(2,.int .u8 c)]=some (1,[.int .u8 a,.int .u8 b,.int .u8 c]):=by kernel_rfl
theorem zc39:zcells Try.prog 39=some [nils]:=by kernel_rfl
section
variable {Q:Value->PH->Prop}{n:Nat}{cl cl' cl'':CL}{h h0:PH}{S:Vw}{m:OM}{rows rest:Rws}{K2:Value->PH->R}
theorem Ret.gqapps{ex:Rws}(s:Sl h0 h S m (ex++rows)){P:Program}{T:TypeId}{ats:Array TypeId}{parts:List (Nat×Value)}{bt k j:Nat}{v:Value}{cells new:List Value}(g:Gq v k cells ex)
  (hb:bsRow P T j parts=some (1,new)) (ha:appInfo P ats=some (1,bt)) (hl:new.length=j) (hj:0<j) (hone:oneCells new=true) (hsz:(2*(k+j)+512)*bt<=281474976710656)
  (hk: ∀h' v' ex',Sl h0 h' S m (ex'++rows)->Gq v' (k+j) (cells++new) ex'->Ret (K2 v' h') Q):Ret (Go.Am.hb (xBS j (bsRow P T j parts) h) fun v1 h=>Go.Am.hb (xApp (appInfo P ats) v v1 h) K2) Q:=by
 refine Ret.lbs s hb fun h1' b1 st=>?_;rw[ha];rcases g with g|⟨b,rfl,rfl,h1,h2⟩
 ·have st1:=st.perm (rows':=ex++(b1,.row .own 1 new)::rows) List.perm_middle.symm;have hx:=st1.ptail (n:=j) (sz:=1) (c:=j) (b:=b1) (List.mem_append_right _ (.head _)) (by rw[hl,Nat.mul_one]);refine Ret.lapp st1 g hx (by rw[hl,Nat.mul_one]) hj hone hsz fun h' v' ex' st' g'=>?_;exact hk h' v' ex' (st'.drop (List.Sublist.append (List.Sublist.refl _) (List.sublist_cons_self _ _))) (.inl g')
 ·have hx:=st.ptail (n:=j) (sz:=1) (c:=j) (b:=b1) (.head _) (by rw[hl,Nat.mul_one]);refine Ret.lappF st (st.mem (.tail _ (.head _))) (by omega) (by omega) hx hj hone hsz fun h' b' st'=>?_;rw[List.drop_zero,Nat.mul_one,List.take_of_length_le (by omega)]at st';have hd:((b',AObj.row .opn 1 (cells++new))::rows).Sublist ((b',AObj.row .opn 1 (cells++new))::(b1,.row .own 1 new)::([(b,.row .own 1 cells)]++rows)):=
   .cons_cons _ (.cons _ (.cons _ (List.Sublist.refl _)))
  refine hk h' _ [(b',.row .opn 1 (cells++new))] (st'.drop hd) (.inl ⟨.inr ⟨b',0,openCap,cells++new,rfl,rfl,?_,?_,?_,Nat.le_refl _,by decide⟩⟩)
  ·rw[List.drop_zero,List.take_of_length_le];rw[List.length_append];omega
  ·rw[List.length_append];omega
  ·rw[Nat.sub_self,Nat.zero_mul]
theorem Sl.b2q{ex:Rws}(s:Sl h0 h S m (ex++rows)){v:Value}{l:List Nat}(g:Gq v l.length (bys l) ex):xB2S v h=some (.string (bstr l)):=by
 rcases g with g|⟨b,rfl,rfl,h1,h2⟩
 ·exact s.b2s g
 ·have hb:=(s.sm.own b _ (s.mem (.head _))).1;have h3:Nat.ble (Nat.add 0 l.length) (bys l).length=true:=ble_t' (by rw[h1];show 0+l.length<=_;omega)
  by_cases e0:l=[]
  ·subst e0;rfl
  have hn0:Nat.beq l.length 0=false:=by
   cases hq:Nat.beq l.length 0 with
   |false=>rfl
   |true=>exact absurd (List.eq_nil_of_length_eq_zero (Nat.eq_of_beq_eq_true hq)) e0
  show(match Nat.beq l.length 0 with
   |true=>some (Value.string ByteArray.empty)
   |false=>match h.raw b with
   |some (.row _ _ cs)=>match Nat.ble (Nat.add 0 l.length) cs.length with
    |true=>match bytes8 ((cs.drop 0).take l.length)with
     |some ns=>some (Value.string ⟨⟨ns⟩⟩)
     |none=>none
    |false=>none
   |_=>none)=_
  rw[hn0];dsimp only;rw[hb];dsimp only;rw[h3];dsimp only;rw[List.drop_zero,List.take_of_length_le (by omega),bytes8_bys]
  rfl
theorem bys_app(a b:List Nat):bys (a++b)=bys a++bys b:=by simp[bys]
theorem c99{bo:Nat}{v:Value}{l:List Nat}{z:Int}{ex:Rws}(hz:Sm3 z)(st:Sl h0 h S m (ex++(bo,.row .own 1 [v])::rows))(g:Gq v l.length (bys l) ex)(hl:l.length<=100000):
  Ret (F99 n cl (.int .i64 z) (pt bo) h) fun u h'=> ∃v' ex',u= .tuple ⟨[]⟩/\Sl h0 h' S m (ex'++(bo,.row .own 1 [v'])::rows)/\Gq v' (l++b3 z).length (bys (l++b3 z)) ex':=by
 unfold F99;have l1:xLd (pt bo) h=some v:=st.ld (List.mem_append_right _ (.head _)) rfl;have e1:=xShr_is (k:=.i64) (k':=.u64) (x:=z) (s:=8) (by decide);have e2:=xShr_is (k:=.i64) (k':=.u64) (x:=z) (s:=16) (by decide);have e1:xShr (.int .i64 z) (.int .u64 (.ofNat 8))=some (.int .i64 (shrI z 8)):=e1;have e2:xShr (.int .i64 z) (.int .u64 (.ofNat 16))=some (.int .i64 (shrI z 16)):=e2;simp only[l1,vb_some,xConvI_i',w8z hz,e1,shr_z hz (.inl rfl),e2,shr_z hz (.inr rfl)];refine Ret.gqapps st g bs39_3 ai39 rfl (by decide) rfl (by omega) fun h' v' ex' st' g'=>?_;have hi:(ex'++(bo,AObj.row .own 1 [v])::rows)[ex'.length]?=some (bo,.row .own 1 [v]):=by
  rw[List.getElem?_append_right (Nat.le_refl _),Nat.sub_self];rfl
 refine Ret.lst1M st' rfl (by simp) g'.one fun h2 st2=>?_;refine Ret.of ⟨v',ex',rfl,st2,?_⟩;rw[bys_app,List.length_append];exact g'
end
def Sv(S:Vw)(bx:Nat)(s:Ss):Prop:= ∃fs av nv ov vs,S bx=some fs/\fs[2]?=some av/\xLenS av=some (.int .i64 (s.alls.length:Nat))/\fs[3]?=some nv/\SlV S nv vs/\(∀(i:Nat) r,s.nexts[i]?=some r-> ∃x,vs[i]?=some x/\SlV S x (zv r))/\fs[4]?=some ov/\SlV S ov (zv s.oks)
theorem Sv.mono{V W:Vw}{bx:Nat}{s:Ss}(hs:Vw.le V W)(h:Sv V bx s):Sv W bx s:=by
 obtain⟨fs,av,nv,ov,vs,a1,a2,a3,a4,a5,a6,a7,a8⟩:=h;exact⟨fs,av,nv,ov,vs,hs _ _ a1,a2,a3,a4,a5.mono hs,fun i r hi=>let⟨x,q1,q2⟩:=a6 i r hi;⟨x,q1,q2.mono hs⟩,a7,a8.mono hs⟩
structure Ss.Fin(s:Ss):Prop where
 nl:s.nexts.length=s.alls.length
 rl: ∀(i:Nat) r,s.nexts[i]?=some r->r.length=256
 to: ∀(i:Nat) r (c:Nat) (z:Int),s.nexts[i]?=some r->r[c]?=some z->z= -1\/(0<=z/\z<s.alls.length)
 ol:s.oks.length=s.alls.length
 one:1<=s.alls.length
 sz:s.alls.length<=3000
def mvZ(s:Ss)(i c:Nat):Int:=(s.nexts.getD i []).getD c (-1)
def mv(s:Ss)(i c:Nat):Nat:=if i<s.alls.length then(if mvZ s i c= -1 then s.alls.length else(mvZ s i c).toNat)else s.alls.length
theorem mvZ_at{s:Ss}{i c:Nat}{r:List Int}{z:Int}(h1:s.nexts[i]?=some r)(h2:r[c]?=some z):mvZ s i c=z:=by
 unfold mvZ;rw[List.getD_eq_getElem?_getD (l:=s.nexts),h1]
 show r.getD c (-1)=z
 rw[List.getD_eq_getElem?_getD,h2];rfl
theorem mv_le{s:Ss}(hf:s.Fin)(i c:Nat):mv s i c<=s.alls.length:=by
 unfold mv
 split
 ·rename_i hi
  split
  ·exact Nat.le_refl _
  ·rename_i hz
   by_cases hc:c<256
   ·have hx:=List.getElem?_eq_getElem (l:=s.nexts) (i:=i) (by rw[hf.nl];exact hi);have hr:=hf.rl i _ hx;have hy:=List.getElem?_eq_getElem (l:=s.nexts[i]'(by rw[hf.nl];exact hi)) (i:=c) (by omega);rw[mvZ_at hx hy]at hz ⊢;have:=hf.to i _ c _ hx hy;omega
   ·exfalso
    apply hz
    have hx:=List.getElem?_eq_getElem (l:=s.nexts) (i:=i) (by rw[hf.nl];exact hi);have hr:=hf.rl i _ hx;unfold mvZ;rw[List.getD_eq_getElem?_getD (l:=s.nexts),hx]
    show(s.nexts[i]'(by rw[hf.nl];exact hi)).getD c (-1)= -1
    rw[List.getD_eq_getElem?_getD,List.getElem?_eq_none (by omega)];rfl
 ·exact Nat.le_refl _
def sgt(s:Ss)(cls:List Int)(i k:Nat):List Nat:=(List.range k).flatMap fun c=>b3 (cls.getD (mv s i c) 0)
def sgb(s:Ss)(cls:List Int)(i:Nat):List Nat:=b3 (cls.getD i 0)++sgt s cls i 256
theorem sgt_succ(s:Ss)(cls:List Int)(i k:Nat):sgt s cls i (k+1)=sgt s cls i k++b3 (cls.getD (mv s i k) 0):=by
 unfold sgt;rw[List.range_succ,List.flatMap_append];simp
theorem sgt_len(s:Ss)(cls:List Int)(i k:Nat):(sgt s cls i k).length=3*k:=by
 induction k with
 |zero=>rfl
 |succ k ih=>rw[sgt_succ,List.length_append,ih];show 3*k+3=_;omega
theorem sgt_256{s:Ss}{cls:List Int}{i:Nat}: ∀k, ∀x∈sgt s cls i k,x<256:=by
 intro k x hx;unfold sgt at hx;rw[List.mem_flatMap]at hx;obtain⟨c,_,hx⟩:=hx;exact b3_256 x hx
theorem sgb_256{s:Ss}{cls:List Int}{i:Nat}: ∀x∈sgb s cls i,x<256:=by
 intro x hx;unfold sgb at hx;rcases List.mem_append.1 hx with hx|hx
 ·exact b3_256 x hx
 ·exact sgt_256 _ x hx
theorem getD_sm{cls:List Int}(h: ∀z∈cls,Sm3 z)(i:Nat):Sm3 (cls.getD i 0):=by
 rw[List.getD_eq_getElem?_getD];cases hq:cls[i]? with
 |none=>exact .inr ⟨by decide,by decide⟩
 |some z=>exact h z (List.mem_of_getElem? hq)
theorem sgt_inj{s:Ss}{cls:List Int}(hc: ∀z∈cls,Sm3 z){i k:Nat}: ∀m,sgt s cls i m=sgt s cls k m↔ ∀c,c<m->cls.getD (mv s i c) 0=cls.getD (mv s k c) 0
 |0=>⟨fun _ c h=>by omega,fun _=>rfl⟩
 |m+1=>by
  rw[sgt_succ,sgt_succ];constructor
  ·intro h c hcm;obtain⟨h1,h2⟩:=List.append_inj h (by rw[sgt_len,sgt_len])
   by_cases e:c=m
   ·subst e;exact b3_inj (getD_sm hc _) (getD_sm hc _) h2
   ·exact(sgt_inj hc m).1 h1 c (by omega)
  ·intro h;rw[(sgt_inj hc m).2 fun c hcm=>h c (by omega),h m (by omega)]
theorem sgb_inj{s:Ss}{cls:List Int}(hc: ∀z∈cls,Sm3 z){i k:Nat}:bstr (sgb s cls i)=bstr (sgb s cls k)↔cls.getD i 0=cls.getD k 0/\ ∀c,c<256->cls.getD (mv s i c) 0=cls.getD (mv s k c) 0:=by
 constructor
 ·intro h;have h:=bstr_inj sgb_256 sgb_256 h;unfold sgb at h;obtain⟨h1,h2⟩:=List.append_inj h rfl;exact⟨b3_inj (getD_sm hc _) (getD_sm hc _) h1,(sgt_inj hc 256).1 h2⟩
 ·rintro⟨h1,h2⟩;unfold sgb;rw[h1,(sgt_inj hc 256).2 h2]
section
variable {Q:Value->PH->Prop}{n:Nat}{cl cl' cl'':CL}{h h0:PH}{S:Vw}{m:OM}{rows rest:Rws}{K2:Value->PH->R}
theorem c74[OkH h](hn:4611686018427387904<=n)(h99: ∀u v h,cl 99 [u,v] h=F99 n cl' u v h)(hS:Vw.le S h.cells){bx i:Nat}{s:Ss}{cv:Value}{cls:List Int}(sv:Sv S bx s)(hf:s.Fin)(hcv:SlV S cv (zv cls))(hcl:cls.length=s.alls.length+1)(hsm: ∀z∈cls,Sm3 z)(hi:i<=s.alls.length):
  pcall (F74 n cl (pt bx) cv (.int .i64 (i:Nat)) h)=some (.string (bstr (sgb s cls i))):=by
 obtain⟨fs,av,nv,ov,vs,a1,a2,a3,a4,a5,a6,a7,a8⟩:=sv;have hsz:=hf.sz;have key:Ret (F74 n cl (pt bx) cv (.int .i64 (i:Nat)) h) fun u _=>u= .string (bstr (sgb s cls i)):=by
  unfold F74;have st0:=Sl.start h hS;have l2:xLd (.pointer (some ⟨bx,2,none⟩)) h=some av:=st0.ldS a1 a2;simp only[xNil_p,vb_some,xFld_p,Nat.zero_add,l2,a3];refine Ret.lbs st0 bs39_0 fun h1 b0 st1=>?_;refine Ret.lalloc st1 zc39 fun h2 bo st2=>?_;refine Ret.lst1 st2 0 rfl rfl (by simp) rfl fun h3 st3=>?_;have st3:Sl h h3 S OM.emp ((bo,.row .own 1 [.slice (some ⟨b0,0,none⟩) 0 0])::[(b0,.row .own 1 [])]):=st3;have st3:Sl h h3 S OM.emp ([(b0,.row .own 1 [])]++[(bo,.row .own 1 [.slice (some ⟨b0,0,none⟩) 0 0])]):=st3.perm (List.Perm.swap _ _ _);have hx:=List.getElem?_eq_getElem (l:=cls) (i:=i) (by omega);have hD:cls.getD i 0=cls[i]'(by omega):=by rw[List.getD_eq_getElem?_getD,hx];rfl
  have hsi:=hsm _ (List.getElem_mem (l:=cls) (n:=i) (by omega));obtain⟨b1,o1,cs1,e1,e2,e3⟩:=hcv.at (k:=.i64) (zv_get hx);have l3:=st3.ldS e2 e3;simp only[vb_some,e1,l3];have hcall: ∀z h,xCall cl (.func (.func 99) ⟨[]⟩ ⟨[pt bo]⟩) [.int .i64 z] h=F99 n cl' (.int .i64 z) (pt bo) h:=fun z h=>h99 _ _ _;rw[hcall];have g0:Gq (.slice (some ⟨b0,0,none⟩) 0 0) ([]:List Nat).length (bys []) [(b0,.row .own 1 [])]:=.inr ⟨b0,rfl,rfl,rfl,by decide⟩;refine Ret.hb (c99 (n:=n) (cl:=cl') (rows:=[]) hsi st3 g0 (by simp)) fun u h4 ⟨v',ex',hu,st4,g4⟩=>?_;subst hu;rw[List.nil_append, <-hD]at g4;have loop: ∀(k q c:Nat)(h1:PH)(v:Value)(ex:Rws),256-c<=k->k<q->c<=256->Sl h h1 S OM.emp (ex++[(bo,.row .own 1 [v])])->Gq v (b3 (cls.getD i 0)++sgt s cls i c).length (bys (b3 (cls.getD i 0)++sgt s cls i c)) ex->
    Ret (lp q (F74_8 n cl) [pt bx,cv,.int .i64 (i:Nat),.int .i64 (s.alls.length:Nat),pt bo,.func (.func 99) ⟨[]⟩ ⟨[pt bo]⟩,.int .i64 (c:Nat)] h1) fun u _=>u= .string (bstr (sgb s cls i)):=by
   intro k
   induction k with
   |zero=>
    intro q c h1 v ex c1 c2 c3 st g;obtain⟨q,rfl⟩: ∃r,q=r+1:=⟨q-1,by omega⟩;rw[lp_succ];have hc:c=256:=by omega
    subst hc;have dc:decide (((256:Nat):Int)<((256:Nat):Int))=false:=by decide
    have lo:xLd (pt bo) h1=some v:=st.ld (List.mem_append_right _ (.head _)) rfl;simp only[F74_8,F74_7,F74_6,ucons_cons,vN_eq,xLt_i,dc,vb_some,bite_f,lo,st.b2q g];exact Ret.of rfl
   |succ k ih=>
    intro q c h1 v ex c1 c2 c3 st g
    by_cases hc:c<256
    ·obtain⟨q,rfl⟩: ∃r,q=r+1:=⟨q-1,by omega⟩;rw[lp_succ];generalize hL:lp q (F74_8 n cl)=LL;have dc:decide (((c:Nat):Int)<((256:Nat):Int))=true:=by simp;omega
     have go: ∀h1,Sl h h1 S OM.emp (ex++[(bo,.row .own 1 [v])])->Ret (F74_1 n cl LL [pt bx,cv,.int .i64 (i:Nat),.int .i64 (s.alls.length:Nat),pt bo,.func (.func 99) ⟨[]⟩ ⟨[pt bo]⟩,.int .i64 (mv s i c:Nat),.int .i64 (c:Nat)] h1) fun u _=>u= .string (bstr (sgb s cls i)):=by
      intro h1 st;have hml:=mv_le hf i c;have hy:=List.getElem?_eq_getElem (l:=cls) (i:=mv s i c) (by omega);have hDm:cls.getD (mv s i c) 0=cls[mv s i c]'(by omega):=by rw[List.getD_eq_getElem?_getD,hy];rfl
      have hsc:=hsm _ (List.getElem_mem (l:=cls) (n:=mv s i c) (by omega));obtain⟨b2,o2,cs2,f1,f2,f3⟩:=hcv.at (k:=.i64) (zv_get hy);have l4:=st.ldS f2 f3;simp only[F74_1,F74_0,ucons_cons,f1,vb_some,l4,hcall];have hlen:(b3 (cls.getD i 0)++sgt s cls i c).length<=100000:=by rw[List.length_append,sgt_len];show 3+3*c<=_;omega
      refine Ret.hb (c99 (n:=n) (cl:=cl') (rows:=[]) hsc st g hlen) fun u h5 ⟨v5,ex5,hu,st5,g5⟩=>?_;subst hu;simp only[vN_eq,xAdd_i,wrapN (show c<4611686018427387904 by omega),vb_some];rw[<-hL];refine ih q (c+1) h5 v5 ex5 (by omega) (by omega) (by omega) st5 ?_;rw[sgt_succ, <-List.append_assoc,hDm];exact g5
     by_cases hin:i<s.alls.length
     ·have dn:decide (((i:Nat):Int)<((s.alls.length:Nat):Int))=true:=by simp;omega
      have hr:=List.getElem?_eq_getElem (l:=s.nexts) (i:=i) (by rw[hf.nl];exact hin);have hrl:=hf.rl i _ hr;obtain⟨xr,x1,x2⟩:=a6 i _ hr;have hz:=List.getElem?_eq_getElem (l:=s.nexts[i]'(by rw[hf.nl];exact hin)) (i:=c) (by omega);have hto:=hf.to i _ c _ hr hz;have hmz:=mvZ_at hr hz;generalize(s.nexts[i]'(by rw[hf.nl];exact hin))[c]'(by omega)=z at hz hto hmz;obtain⟨b2,o2,cs2,f1,f2,f3⟩:=a5.at (k:=.i64) x1;obtain⟨b4,o4,cs4,g1,g2,g3⟩:=x2.at (k:=.i64) (zv_get hz);have l3:xLd (.pointer (some ⟨bx,3,none⟩)) h1=some nv:=st.ldS a1 a4;have l4:=st.ldS f2 f3;have l5:=st.ldS g2 g3;simp only[F74_8,F74_7,ucons_cons,vN_eq,xLt_i,dc,vb_some,bite_t,jn_eq,F74_5,dn,F74_3,xNil_p,xFld_p,Nat.zero_add,l3,f1,l4,g1,l5,F74_4,F74_2];have em:vM 0= .int .i64 (-1):=rfl;simp only[em,xEq_i,vb_some]
      by_cases hz1:z= -1
      ·have dz:decide (z= -1)=true:=by simp[hz1]
       have hm:mv s i c=s.alls.length:=by unfold mv;rw[if_pos hin,hmz,if_pos hz1]
       have:=go h1 st;rw[hm]at this;simp only[dz,bite_t];exact this
      ·have dz:decide (z= -1)=false:=by simp[hz1]
       have hm:((mv s i c:Nat):Int)=z:=by unfold mv;rw[if_pos hin,hmz,if_neg hz1];omega
       have:=go h1 st;rw[hm]at this;simp only[dz,bite_f];exact this
     ·have dn:decide (((i:Nat):Int)<((s.alls.length:Nat):Int))=false:=by simp;omega
      have hm:mv s i c=s.alls.length:=by unfold mv;rw[if_neg hin]
      have em:vM 0= .int .i64 (-1):=rfl;have dz:decide ((-1:Int)= -1)=true:=by decide
      have:=go h1 st;rw[hm]at this;simp only[F74_8,F74_7,ucons_cons,vN_eq,xLt_i,dc,vb_some,bite_t,jn_eq,F74_5,dn,bite_f,F74_4,F74_2,em,xEq_i,dz];exact this
    ·exact ih q c h1 v ex (by omega) (by omega) c3 st g
  have:=loop 256 n 0 h4 v' ex' (by omega) (by omega) (by omega) st4 (by
   have e:b3 (cls.getD i 0)++sgt s cls i 0=b3 (cls.getD i 0):=by simp[sgt]
   rw[e];exact g4)
  rw[vN_eq];exact this
 obtain⟨u,h1,e,rfl⟩:=key;rw[e];exact pcall_some rfl
end
theorem all_le: ∀{K:Nat}{l:List Nat},(∀t,t<K->t∈l)->K<=l.length
 |0,_,_=>Nat.zero_le _
 |K+1,l,h=>by
  have hm:=h K (Nat.lt_succ_self _);have:=all_le (K:=K) (l:=l.erase K) fun t ht=>(List.mem_erase_of_ne (by omega)).2 (h t (by omega));rw[List.length_erase_of_mem hm]at this;have:=List.length_pos_of_mem hm;omega
theorem onto_inj{K:Nat}{f:Nat->Nat}(h: ∀t,t<K-> ∃j,j<K/\f j=t){a b:Nat}(ha:a<K)(hb:b<K)(he:f a=f b):a=b:=by
 refine Classical.byContradiction fun hne=>?_;have:=all_le (K:=K) (l:=((List.range K).erase b).map f) fun t ht=>by
  obtain⟨j,hj,rfl⟩:=h t ht
  by_cases e:j=b
  ·subst e;exact List.mem_map.2 ⟨a,(List.mem_erase_of_ne hne).2 (by simpa using ha),he⟩
  ·exact List.mem_map.2 ⟨j,(List.mem_erase_of_ne e).2 (by simpa using hj),rfl⟩
 rw[List.length_map,List.length_erase_of_mem (by simpa using hb),List.length_range]at this;omega
def accv(s:Ss)(j:Nat):Int:=(s.oks++[-1]).getD j (-1)
def SE(s:Ss)(cls:List Int)(i k:Nat):Prop:=cls.getD i 0=cls.getD k 0/\ ∀c,c<256->cls.getD (mv s i c) 0=cls.getD (mv s k c) 0
def Bisim(s:Ss)(R:Nat->Nat->Prop):Prop:= ∀j k,j<=s.alls.length->k<=s.alls.length->R j k->accv s j=accv s k/\ ∀c,c<256->R (mv s j c) (mv s k c)
structure Num(s:Ss)(cls:List Int)(K:Nat):Prop where
 len:cls.length=s.alls.length+1
 num: ∀j,j<=s.alls.length-> ∃t:Nat,t<K/\cls[j]?=some (t:Int)
 onto: ∀t,t<K-> ∃j,j<=s.alls.length/\cls[j]?=some ((t:Nat):Int)
theorem Num.getD{s:Ss}{cls:List Int}{K:Nat}(h:Num s cls K){j:Nat}(hj:j<=s.alls.length): ∃t:Nat,t<K/\cls.getD j 0=(t:Int)/\cls[j]?=some (t:Int):=by
 obtain⟨t,h1,h2⟩:=h.num j hj;exact⟨t,h1,by rw[List.getD_eq_getElem?_getD,h2];rfl,h2⟩
theorem Num.le{s:Ss}{cls:List Int}{K:Nat}(h:Num s cls K):K<=s.alls.length+1:=by
 have:=all_le (K:=K) (l:=cls.map Int.toNat) fun t ht=>by
  obtain⟨j,hj,hx⟩:=h.onto t ht;exact List.mem_map.2 ⟨_,List.mem_of_getElem? hx,by simp⟩
 rw[List.length_map,h.len]at this;exact this
theorem Num.sm{s:Ss}{cls:List Int}{K:Nat}(h:Num s cls K)(hs:s.alls.length<=3000): ∀z∈cls,Sm3 z:=by
 intro z hz;obtain⟨j,hj⟩:=List.getElem?_of_mem hz;have hlt:=(List.getElem?_eq_some_iff.1 hj).1;obtain⟨t,h1,h2⟩:=h.num j (by have:=h.len;omega);rw[hj]at h2;have:=Option.some.inj h2;have:=h.le;exact .inr ⟨by omega,by omega⟩
theorem Num.refine{s:Ss}{cls cls':List Int}{K K':Nat}(h:Num s cls K)(h':Num s cls' K')(hr: ∀j k,j<=s.alls.length->k<=s.alls.length->cls'.getD j 0=cls'.getD k 0->cls.getD j 0=cls.getD k 0):K<=K'/\(K=K'-> ∀j k,j<=s.alls.length->k<=s.alls.length->cls.getD j 0=cls.getD k 0->cls'.getD j 0=cls'.getD k 0):=by
 classical
 let rep:Nat->Nat:=fun t=>if ht:t<K' then Classical.choose (h'.onto t ht)else 0
 have hrep: ∀t,t<K'->rep t<=s.alls.length/\cls'[rep t]?=some ((t:Nat):Int):=by
  intro t ht;have:rep t=Classical.choose (h'.onto t ht):=dif_pos ht;rw[this];exact Classical.choose_spec (h'.onto t ht)
 let f:Nat->Nat:=fun t=>(cls.getD (rep t) 0).toNat
 have hf: ∀j t,j<=s.alls.length->t<K'->cls'[j]?=some ((t:Nat):Int)->cls.getD j 0=(f t:Int):=by
  intro j t hj ht hx;obtain⟨r1,r2⟩:=hrep t ht;have e:cls.getD j 0=cls.getD (rep t) 0:=hr j (rep t) hj r1 (by rw[List.getD_eq_getElem?_getD,List.getD_eq_getElem?_getD,hx,r2]);obtain⟨u,_,u2,_⟩:=h.getD r1;rw[e]
  show cls.getD (rep t) 0=(((cls.getD (rep t) 0).toNat:Nat):Int)
  rw[u2];simp
 have onto: ∀t,t<K-> ∃u,u<K'/\f u=t:=by
  intro t ht;obtain⟨j,hj,hx⟩:=h.onto t ht;obtain⟨u,hu,hux⟩:=h'.num j hj;refine⟨u,hu,?_⟩;have:=hf j u hj hu hux;rw[List.getD_eq_getElem?_getD,hx]at this;have this:((t:Nat):Int)=((f u:Nat):Int):=this;omega
 refine⟨?_,fun hK=>?_⟩
 ·have:=all_le (K:=K) (l:=(List.range K').map f) fun t ht=>by
   obtain⟨u,hu,rfl⟩:=onto t ht;exact List.mem_map.2 ⟨u,by simpa using hu,rfl⟩
  simpa using this
 ·subst hK;intro j k hj hk he;obtain⟨t,t1,t2,t3⟩:=h'.getD hj;obtain⟨u,u1,u2,u3⟩:=h'.getD hk;rw[hf j t hj t1 t3,hf k u hk u1 u3]at he;have:t=u:=onto_inj onto t1 u1 (by omega);rw[t2,u2,this]
theorem nil28{b o n c:Nat}{o1 o2:Operand}:abin Try.prog .eql 28 o1 o2 (.slice (some ⟨b,o,none⟩) n c) nils=some (.bool false):=by kernel_rfl
theorem bs28_0:bsRow Try.prog 28 0 []=some (1,[]):=by kernel_rfl
theorem zv_one(l:List Int):oneCells (zv l)=true:=by
 unfold oneCells zv;rw[List.all_map];exact List.all_eq_true.2 fun x _=>rfl
section
variable {Q:Value->PH->Prop}{n:Nat}{cl cl' cl'':CL}{h h0:PH}{S:Vw}{m:OM}{rows rest:Rws}{K2:Value->PH->R}
theorem SlV.take{V:Vw}{v:Value}{vs:List Value}{b o c:Nat}{cs:List Value}(h1:o+vs.length<=cs.length)(h2: ∀(i:Nat) x,vs[i]?=some x->cs[o+i]?=some x):(cs.drop o).take vs.length=vs:=by
 apply List.ext_getElem?
 intro i
 by_cases hi:i<vs.length
 ·have hx:=List.getElem?_eq_getElem hi;rw[List.getElem?_take,if_pos hi,List.getElem?_drop,hx];exact h2 i _ hx
 ·rw[List.getElem?_take,if_neg hi,List.getElem?_eq_none (by omega)]
theorem f73[OkH h](hS:Vw.le S h.cells){v:Value}{l:List Int}(hv:SlV S v (zv l))(h0l:0<l.length)(hl:l.length<1000000):
  Fr h S (F73 n cl v h) fun u ex=>Gq u l.length (zv l) ex:=by
 rcases hv with⟨he,_⟩|⟨b,o,c,cs,rfl,h1,h2,h3⟩
 ·have:=congrArg List.length he;rw[zv_len]at this;have this:l.length=0:=this;omega
 ·rw[zv_len]at h2 ⊢;unfold Fr F73;simp only[nil28,vb_some,bite_f,F73_0];refine Ret.lbs (Sl.start h hS) bs28_0 fun h1' b1 st=>?_;have hx:=st.sm.ptailS (b:=b) (o:=o) (n:=l.length) (sz:=1) (c:=c) h1 (by omega);have htk:(cs.drop o).take (l.length*1)=zv l:=by
   rw[Nat.mul_one];have:=SlV.take (V:=S) (v:=nils) (vs:=zv l) (b:=b) (o:=o) (c:=c) (cs:=cs) (by rw[zv_len];omega) h3
   rwa [zv_len]at this
  rw[htk]at hx;rw[ai28];refine Ret.lappF st (st.mem (.head _)) (by simp) (by omega) hx h0l (zv_one _) (by omega) fun h2' b2 st2=>?_;rw[Nat.zero_add];refine Fr.ret (st2.drop (rows':=[(b2,.row .opn 1 (zv l))]) (.cons_cons _ (List.nil_sublist _))) (.inl ⟨.inr ⟨b2,0,openCap,zv l,rfl,rfl,?_,?_,?_,Nat.le_refl _,by decide⟩⟩)
  ·rw[List.drop_zero,Nat.mul_one,List.take_of_length_le (by rw[zv_len];omega)]
  ·rw[zv_len];omega
  ·rw[Nat.sub_self,Nat.zero_mul]
theorem Gq.view{ex:Rws}{v:Value}{k:Nat}{cells:List Value}(g:Gq v k cells ex)(s:Sl h0 h S m rows)(hex: ∀p∈ex,p∈rows):SlV (vall S (over rows m)) v cells:=by
 rcases g with g|⟨b,rfl,rfl,h1,h2⟩
 ·rcases g.h with⟨rfl,rfl,rfl,rfl⟩|⟨b,o,cap,all,rfl,rfl,h1,h2,_⟩
  ·exact .inl ⟨rfl,rfl⟩
  ·have hl:cells.length=k:=by rw[h1,List.length_take,List.length_drop];omega
   refine .inr ⟨b,o,cap,all,by rw[hl],vall_m (s.mem (hex _ (.head _))),by omega,fun i x hx=>?_⟩;rw[h1,List.getElem?_take]at hx
   split at hx
   ·rw[List.getElem?_drop]at hx;exact hx
   ·cases hx
 ·exact .inr ⟨b,0,k,cells,by rw[h1],vall_m (s.mem (hex _ (.head _))),by omega,fun i x hx=>by rw[Nat.zero_add];exact hx⟩
end
structure ClsOk(s:Ss)(cls:List Int):Prop where
 len:cls.length=s.alls.length+1
 num: ∀j,j<=s.alls.length-> ∃t:Nat,t<=s.alls.length/\cls[j]?=some (t:Int)
 acc: ∀j k,j<=s.alls.length->k<=s.alls.length->cls.getD j 0=cls.getD k 0->accv s j=accv s k
 stab: ∀j k,j<=s.alls.length->k<=s.alls.length->cls.getD j 0=cls.getD k 0-> ∀c,c<256->cls.getD (mv s j c) 0=cls.getD (mv s k c) 0
 coarse: ∀R,Bisim s R-> ∀j k,j<=s.alls.length->k<=s.alls.length->R j k->cls.getD j 0=cls.getD k 0
structure Kn(s:Ss)(cls:List Int)(kv:List ((ByteArray×Nat)×Nat))(nx:List Int)(i:Nat):Prop where
 len:nx.length=s.alls.length+1
 ent: ∀(t:Nat) p,kv[t]?=some p->p.1.2=t/\ ∃j,j<i/\p.1.1=bstr (sgb s cls j)/\nx[j]?=some ((t:Nat):Int)
 dis: ∀(t u:Nat)(p q:(ByteArray×Nat)×Nat),kv[t]?=some p->kv[u]?=some q->p.1.1=q.1.1->t=u
 got: ∀j,j<i-> ∃(t:Nat) (p:(ByteArray×Nat)×Nat),kv[t]?=some p/\p.1.1=bstr (sgb s cls j)/\nx[j]?=some ((t:Nat):Int)
theorem Kn.num{s:Ss}{cls:List Int}{kv:List ((ByteArray×Nat)×Nat)}{nx:List Int}(h:Kn s cls kv nx (s.alls.length+1)):Num s nx kv.length:=by
 refine⟨h.len,fun j hj=>?_,fun t ht=>?_⟩
 ·obtain⟨t,p,h1,h2,h3⟩:=h.got j (by omega);exact⟨t,(List.getElem?_eq_some_iff.1 h1).1,h3⟩
 ·obtain⟨h1,j,h2,h3,h4⟩:=h.ent t _ (List.getElem?_eq_getElem ht);exact⟨j,by omega,h4⟩
theorem Kn.eq_iff{s:Ss}{cls:List Int}{kv:List ((ByteArray×Nat)×Nat)}{nx:List Int}(hsm: ∀z∈cls,Sm3 z)(h:Kn s cls kv nx (s.alls.length+1)){j k:Nat}(hj:j<=s.alls.length)(hk:k<=s.alls.length):nx.getD j 0=nx.getD k 0↔SE s cls j k:=by
 obtain⟨t,p,h1,h2,h3⟩:=h.got j (by omega);obtain⟨u,q,g1,g2,g3⟩:=h.got k (by omega);have e1:nx.getD j 0=(t:Int):=by rw[List.getD_eq_getElem?_getD,h3];rfl
 have e2:nx.getD k 0=(u:Int):=by rw[List.getD_eq_getElem?_getD,g3];rfl
 rw[e1,e2];have hSE:SE s cls j k↔bstr (sgb s cls j)=bstr (sgb s cls k):=(sgb_inj hsm).symm;rw[hSE];constructor
 ·intro e;have e:t=u:=by omega
  subst e;rw[h1]at g1;cases g1;rw[<-h2, <-g2]
 ·intro e;have:=h.dis t u p q h1 g1 (by rw[h2,g2,e]);rw[this]
section
variable {Q:Value->PH->Prop}{n:Nat}{cl cl' cl'':CL}{h h0:PH}{S:Vw}{m:OM}{rows rest:Rws}{K2:Value->PH->R}
theorem loop41i(hn:4611686018427387904<=n)(h99: ∀u v h,cl 99 [u,v] h=F99 n cl' u v h){bx bn bm:Nat}{s:Ss}{cls:List Int}{cv cnt:Value}{exC:Rws}{r12:Kt}(sv:Sv S bx s)(hf:s.Fin)(g:Gq cv (s.alls.length+1) (zv cls) exC)(hcl:cls.length=s.alls.length+1)(hsm: ∀z∈cls,Sm3 z)
  (hk: ∀h' kv c nx,Sl h0 h' S OM.emp ((bm,.map (mS kv) c)::(bn,.row .own 1 (zv nx))::exC)->Kn s cls kv nx (s.alls.length+1)->Ret (F41_7 n cl (.map (some bm)) cnt (.slice (some ⟨bn,0,none⟩) (s.alls.length+1) (s.alls.length+1)) (.int .i64 (s.alls.length:Nat)) r12 (pt bx) h') Q):
  ∀(k q i c:Nat)(h:PH)(kv:List ((ByteArray×Nat)×Nat))(nx:List Int),s.alls.length+1-i<=k->k<q->i<=s.alls.length+1->Sl h0 h S OM.emp ((bm,.map (mS kv) c)::(bn,.row .own 1 (zv nx))::exC)->Kn s cls kv nx i->
   Ret (lp q (F41_9 n cl r12) [pt bx,.int .i64 (s.alls.length:Nat),cv,cnt,.map (some bm),.slice (some ⟨bn,0,none⟩) (s.alls.length+1) (s.alls.length+1),.int .i64 ((s.alls.length+1:Nat):Int),.int .i64 (i:Nat)] h) Q:=by
 intro k
 induction k with
 |zero=>
  intro q i c h kv nx h1 h2 h3 st kn;obtain⟨q,rfl⟩: ∃r,q=r+1:=⟨q-1,by omega⟩;rw[lp_succ];have hi:i=s.alls.length+1:=by omega
  subst hi;have dc:decide (((s.alls.length+1:Nat):Int)<((s.alls.length+1:Nat):Int))=false:=by simp
  simp only[F41_9,F41_8,ucons_cons,xLt_i,dc,vb_some,bite_f];exact hk h kv c nx st kn
 |succ k ih=>
  intro q i c h kv nx h1 h2 h3 st kn
  by_cases hi:i<s.alls.length+1
  ·obtain⟨q,rfl⟩: ∃r,q=r+1:=⟨q-1,by omega⟩;rw[lp_succ];generalize hL:lp q (F41_9 n cl r12)=LL;have hsz:=hf.sz;have dc:decide (((i:Nat):Int)<((s.alls.length+1:Nat):Int))=true:=by simp;omega
   have:=st.ok;have hmem: ∀p∈exC,p∈(bm,AObj.map (mS kv) c)::(bn,AObj.row .own 1 (zv nx))::exC:=fun p hp=>.tail _ (.tail _ hp);have hpc:=c74 (n:=n) (cl:=cl) (cl':=cl') (h:=h.fzn) hn h99 st.fz (sv.mono st.sm.S_all) hf (g.view st hmem) hcl hsm (i:=i) (by omega);simp only[F41_9,F41_8,F41_4,ucons_cons,xLt_i,dc,vb_some,bite_t,hpc,jn_eq,F41_3];have go: ∀(h:PH)(kv':List ((ByteArray×Nat)×Nat))(c' t:Nat) l1 l2 cc,kv'=l1++((bstr (sgb s cls i),t),cc)::l2->(∀p∈l1,p.1.1≠bstr (sgb s cls i))->Sl h0 h S OM.emp ((bm,.map (mS kv') c')::(bn,.row .own 1 (zv nx))::exC)->Kn s cls kv' (nx.set i (t:Int)) (i+1)->
     Ret (F41_2 n cl LL [pt bx,.int .i64 (s.alls.length:Nat),cv,cnt,.map (some bm),.slice (some ⟨bn,0,none⟩) (s.alls.length+1) (s.alls.length+1),.int .i64 (i:Nat),.string (bstr (sgb s cls i)),.int .i64 ((s.alls.length+1:Nat):Int),.int .i64 (i:Nat)] h) Q:=by
    intro h kv' c' t l1 l2 cc hkv hl1 st kn';have hmk:over ((bm,.map (mS kv') c')::(bn,.row .own 1 (zv nx))::exC) OM.emp bm=some (.map (mS kv') c'):=st.mem (.head _);subst hkv;have e1:xIdxS 1 (.slice (some ⟨bn,0,none⟩) (s.alls.length+1) (s.alls.length+1)) (.int .i64 (i:Nat))=some (.pointer (some ⟨bn,i,none⟩)):=by
     rw[xIdxS_at (by omega) (by omega)];simp
    simp only[F41_2,F41_0,ucons_cons,lkS_hit st hmk hl1 (ok:=false),Bool.false_eq_true,if_false,vb_some,e1];refine Ret.lst1 st 1 rfl rfl (by rw[zv_len,kn.len];exact hi) rfl fun h2 st2=>?_;have st2:Sl h0 h2 S OM.emp ((bm,.map (mS (l1++((bstr (sgb s cls i),t),cc)::l2)) c')::(bn,.row .own 1 ((zv nx).set i (.int .i64 (t:Nat))))::exC):=st2;rw[zv_set]at st2;simp only[vN_eq,xAdd_i,wrapN (show i<4611686018427387904 by omega),vb_some];rw[<-hL];exact ih q (i+1) c' h2 _ _ (by omega) (by omega) (by omega) st2 kn'
   have hmk:over ((bm,.map (mS kv) c)::(bn,.row .own 1 (zv nx))::exC) OM.emp bm=some (.map (mS kv) c):=st.mem (.head _);have hset: ∀j (t:Int),j<i->(nx.set i t)[j]?=nx[j]?:=fun j t hj=>List.getElem?_set_ne (by omega);have hself: ∀t:Int,(nx.set i t)[i]?=some t:=fun t=>List.getElem?_set_self (by rw[kn.len];exact hi)
   by_cases hex: ∃(t:Nat) (p:(ByteArray×Nat)×Nat),kv[t]?=some p/\p.1.1=bstr (sgb s cls i)
   ·obtain⟨t,p,ht,hp⟩:=hex;have hlt:=(List.getElem?_eq_some_iff.1 ht).1;have h3:kv.drop t=kv[t]::kv.drop (t+1):=List.drop_eq_getElem_cons hlt;have hpe:kv[t]=p:=by rw[List.getElem?_eq_getElem hlt]at ht;exact Option.some.inj ht
    have hp2:=(kn.ent t p ht).1;have hkv:kv=kv.take t++((bstr (sgb s cls i),t),p.2)::kv.drop (t+1):=by
     have e:p=((bstr (sgb s cls i),t),p.2):=by
      obtain⟨⟨p1,p2⟩,p3⟩:=p;simp only at hp hp2 ⊢;rw[hp,hp2]
     rw[<-e, <-hpe, <-h3,List.take_append_drop]
    have hl1: ∀q∈kv.take t,q.1.1≠bstr (sgb s cls i):=by
     intro q hq e;obtain⟨u,hu⟩:=List.getElem?_of_mem hq;rw[List.getElem?_take]at hu
     split at hu
     ·have:=kn.dis u t q p hu ht (by rw[e,hp]);omega
     ·cases hu
    have hmk':over ((bm,.map (mS kv) c)::(bn,.row .own 1 (zv nx))::exC) OM.emp bm=some (.map (mS (kv.take t++((bstr (sgb s cls i),t),p.2)::kv.drop (t+1))) c):=by rw[<-hkv];exact hmk
    have hlk:=lkS_hit st hmk' hl1 (ok:=true);simp only[hlk,if_true,vb_some,xExt_t',List.getElem?_cons_zero,List.getElem?_cons_succ,xNot_b,Bool.not_true,bite_f];refine go h kv c t _ _ _ hkv hl1 st ⟨by rw[List.length_set];exact kn.len,fun u q hu=>?_,kn.dis,fun j hj=>?_⟩
    ·obtain⟨q1,j,q2,q3,q4⟩:=kn.ent u q hu;exact⟨q1,j,by omega,q3,by rw[hset j _ q2];exact q4⟩
    ·by_cases e:j=i
     ·subst e;exact⟨t,p,ht,hp,hself _⟩
     ·obtain⟨u,q,q1,q2,q3⟩:=kn.got j (by omega);exact⟨u,q,q1,q2,by rw[hset j _ (by omega)];exact q3⟩
   ·have hno: ∀p∈kv,p.1.1≠bstr (sgb s cls i):=by
     intro p hp e;obtain⟨t,ht⟩:=List.getElem?_of_mem hp;exact hex ⟨t,p,ht,e⟩
    simp only[lkS_none st hmk hno (ok:=true),if_true,vb_some,xExt_t',List.getElem?_cons_zero,List.getElem?_cons_succ,xNot_b,Bool.not_false,bite_t,F41_1,xMLenS st hmk];have hml:(mS kv).length=kv.length:=by simp[mS]
    rw[hml];refine Ret.lmupS st 0 rfl hno fun h2 st2=>?_;have st2:Sl h0 h2 S OM.emp ((bm,.map (mS (kv++[((bstr (sgb s cls i),kv.length),c)])) (c+1))::(bn,.row .own 1 (zv nx))::exC):=st2;have hlast: ∀(u:Nat) q,(kv++[((bstr (sgb s cls i),kv.length),c)])[u]?=some q->kv[u]?=some q\/(u=kv.length/\q=((bstr (sgb s cls i),kv.length),c)):=by
     intro u q hu
     by_cases hlt:u<kv.length
     ·rw[List.getElem?_append_left hlt]at hu;exact .inl hu
     ·rw[List.getElem?_append_right (by omega)]at hu;have hi0:u-kv.length=0:=by
       have:=(List.getElem?_eq_some_iff.1 hu).1;simp at this;omega
      rw[hi0]at hu;exact .inr ⟨by omega,by simpa using hu.symm⟩
    refine go h2 _ (c+1) kv.length kv [] c rfl hno st2 ⟨by rw[List.length_set];exact kn.len,fun u q hu=>?_,fun t u p q ht hu e=>?_,fun j hj=>?_⟩
    ·rcases hlast u q hu with hu|⟨rfl,rfl⟩
     ·obtain⟨q1,j,q2,q3,q4⟩:=kn.ent u q hu;exact⟨q1,j,by omega,q3,by rw[hset j _ q2];exact q4⟩
     ·exact⟨rfl,i,by omega,rfl,hself _⟩
    ·rcases hlast t p ht with ht|⟨rfl,rfl⟩<;>rcases hlast u q hu with hu|⟨rfl,rfl⟩
     ·exact kn.dis t u p q ht hu e
     ·exact absurd e (hno p (List.mem_of_getElem? ht))
     ·exact absurd e.symm (hno q (List.mem_of_getElem? hu))
     ·rfl
    ·by_cases e:j=i
     ·subst e;exact⟨kv.length,_,by rw[List.getElem?_append_right (Nat.le_refl _),Nat.sub_self];rfl,rfl,hself _⟩
     ·obtain⟨u,q,q1,q2,q3⟩:=kn.got j (by omega);exact⟨u,q,by rw[List.getElem?_append_left (List.getElem?_eq_some_iff.1 q1).1];exact q1,q2,by rw[hset j _ (by omega)];exact q3⟩
  ·exact ih q i c h kv nx (by omega) (by omega) h3 st kn
end
theorem getD_in{l:List Int}{j:Nat}{d e:Int}(h:j<l.length):l.getD j d=l.getD j e:=by
 rw[List.getD_eq_getElem?_getD,List.getD_eq_getElem?_getD,List.getElem?_eq_getElem h];rfl
structure Mid(s:Ss)(cls:List Int)(K:Nat):Prop where
 len:cls.length=s.alls.length+1
 sm: ∀z∈cls,Sm3 z
 num:1<=K->Num s cls K
 acc: ∀j k,j<=s.alls.length->k<=s.alls.length->cls.getD j 0=cls.getD k 0->accv s j=accv s k
 coarse: ∀R,Bisim s R-> ∀j k,j<=s.alls.length->k<=s.alls.length->R j k->cls.getD j 0=cls.getD k 0
theorem Mid.start{s:Ss}(hf:s.Fin)(ho: ∀z∈s.oks,Sm3 z):Mid s (s.oks++[-1]) 0:=by
 have hl:(s.oks++[-1]).length=s.alls.length+1:=by rw[List.length_append,hf.ol];rfl
 have e: ∀j,j<=s.alls.length->(s.oks++[-1]).getD j 0=accv s j:=fun j hj=>getD_in (by omega);refine⟨hl,fun z hz=>?_,by omega,fun j k hj hk h=>?_,fun R hR j k hj hk h=>?_⟩
 ·rcases List.mem_append.1 hz with hz|hz
  ·exact ho z hz
  ·exact .inl (by simpa using hz)
 ·rw[e j hj,e k hk]at h;exact h
 ·rw[e j hj,e k hk];exact(hR j k hj hk h).1
theorem Mid.round{s:Ss}{cls nx:List Int}{K:Nat}{kv:List ((ByteArray×Nat)×Nat)}(hf:s.Fin)(m:Mid s cls K)(kn:Kn s cls kv nx (s.alls.length+1)):
  Mid s nx kv.length/\1<=kv.length/\kv.length<=s.alls.length+1/\K<=kv.length/\(kv.length=K->ClsOk s nx):=by
 have num:=kn.num;have iff: ∀{j k},j<=s.alls.length->k<=s.alls.length->(nx.getD j 0=nx.getD k 0↔SE s cls j k):=fun hj hk=>kn.eq_iff m.sm hj hk;have acc: ∀j k,j<=s.alls.length->k<=s.alls.length->nx.getD j 0=nx.getD k 0->accv s j=accv s k:=fun j k hj hk h=>m.acc j k hj hk ((iff hj hk).1 h).1;have coarse: ∀R,Bisim s R-> ∀j k,j<=s.alls.length->k<=s.alls.length->R j k->nx.getD j 0=nx.getD k 0:=fun R hR j k hj hk h=>
  (iff hj hk).2 ⟨m.coarse R hR j k hj hk h,fun c hc=>m.coarse R hR _ _ (mv_le hf j c) (mv_le hf k c) ((hR j k hj hk h).2 c hc)⟩
 have one:1<=kv.length:=by
  obtain⟨t,h1,_⟩:=num.num 0 (Nat.zero_le _);omega
 have href:=fun h1:1<=K=>(m.num h1).refine num fun j k hj hk h=>((iff hj hk).1 h).1;refine⟨⟨num.len,num.sm hf.sz,fun _=>num,acc,coarse⟩,one,num.le,?_,fun hK=>⟨num.len,fun j hj=>?_,acc,fun j k hj hk h c hc=>?_,coarse⟩⟩
 ·by_cases h1:1<=K
  ·exact(href h1).1
  ·omega
 ·obtain⟨t,h1,h2⟩:=num.num j hj;have:=num.le;exact⟨t,by omega,h2⟩
 ·exact(href (by omega)).2 hK.symm _ _ (mv_le hf j c) (mv_le hf k c) (((iff hj hk).1 h).2 c hc)
section
variable {Q:Value->PH->Prop}{n:Nat}{cl cl' cl'':CL}{h h0:PH}{S:Vw}{m:OM}{rows rest:Rws}{K2:Value->PH->R}
theorem f41[OkH h](hn:4611686018427387904<=n)(h99: ∀u v h,cl 99 [u,v] h=F99 n cl' u v h)(hS:Vw.le S h.cells){bx:Nat}{s:Ss}(sv:Sv S bx s)(hf:s.Fin)(ho: ∀z∈s.oks,Sm3 z):
  Fr h S (F41 n cl (pt bx) h) fun v ex=> ∃b c cls,v= .tuple ⟨[.slice (some ⟨b,0,none⟩) s.alls.length c,.int .i64 (cls.getD s.alls.length 0)]⟩/\ex=[(b,.row .own 1 (zv cls))]/\ClsOk s cls:=by
 have hsz:=hf.sz;have sv0:=sv;obtain⟨fs,av,nv,ov,vs,a1,a2,a3,a4,a5,a6,a7,a8⟩:=sv;unfold Fr F41;have st0:=Sl.start h hS;have l2:xLd (.pointer (some ⟨bx,2,none⟩)) h=some av:=st0.ldS a1 a2;have l4:xLd (.pointer (some ⟨bx,4,none⟩)) h=some ov:=st0.ldS a1 a7;simp only[xNil_p,vb_some,xFld_p,Nat.zero_add,l2,a3,l4];have hol:=hf.ol;have hone:=hf.one;refine Ret.lfcall st0 (f73 (n:=n) (cl:=cl) (h:=h.fzn) (S:=S) (fun b cs e=>st0.leS b cs e) a8 (by omega) (by omega)) fun v8 h1 ex8 g8 st1=>?_;have em:vM 0= .int .i64 (-1):=rfl;rw[em];refine Ret.gqapp st1 g8 bs28 ai28 rfl (sz_le (c:=3000) (by omega) (by decide)) fun h2 v10 ex10 st2 g10=>?_;have e1:zv s.oks++[.int .i64 (-1)]=zv (s.oks++[-1]):=by simp[zv]
 rw[e1,hol]at g10;rw[List.append_nil]at st2;have key: ∀(k q K:Nat)(h1:PH)(cv:Value)(cls:List Int)(exC:Rws),s.alls.length+2-K<=k->k<q->Mid s cls K->Gq cv (s.alls.length+1) (zv cls) exC->Sl h h1 S OM.emp exC->
   Ret (lp q (F41_11 n cl) [pt bx,.int .i64 (s.alls.length:Nat),cv,.int .i64 (K:Nat)] h1) fun v h'=> ∃rows,Sl h h' S OM.emp rows/\ ∃b c cls,v= .tuple ⟨[.slice (some ⟨b,0,none⟩) s.alls.length c,.int .i64 (cls.getD s.alls.length 0)]⟩/\rows=[(b,.row .own 1 (zv cls))]/\ClsOk s cls:=by
  intro k
  induction k with
  |zero=>
   intro q K h1 cv cls exC h3 h4 mid g st;have:=(mid.num (by omega)).le;omega
  |succ k ih=>
   intro q K h1 cv cls exC h3 h4 mid g st;obtain⟨q,rfl⟩: ∃r,q=r+1:=⟨q-1,by omega⟩;rw[lp_succ];generalize hL:lp q (F41_11 n cl)=LL;have hw:IntKind.i64.wrap (((s.alls.length:Nat):Int)+((1:Nat):Int))=((s.alls.length+1:Nat):Int):=by rw[wrap_in (by omega) (by omega)];omega
   simp only[F41_11,F41_10,ucons_cons];refine Ret.lmmk st fun h5 bm st5=>?_;simp only[vN_eq,xAdd_i,hw,vb_some];refine Ret.lmk st5 zi28 (by omega) (by omega) (by omega) (by omega) fun h6 bn st6=>?_;rw[Int.toNat_natCast,zv_zrows]at st6;rw[Int.toNat_natCast];have st6:Sl h h6 S OM.emp ((bm,.map (mS []) 0)::(bn,.row .own 1 (zv (List.replicate (s.alls.length+1) 0)))::exC):=st6.perm (List.Perm.swap _ _ _);refine loop41i hn h99 sv0 hf g mid.len mid.sm (fun h7 kv c nx st7 kn=>?_) (s.alls.length+1) n 0 0 h6 [] (List.replicate (s.alls.length+1) 0) (by omega) (by omega) (by omega) st6 ⟨by rw[List.length_replicate],(fun t p h=>by simp at h),(fun t u p q h=>by simp at h),fun j hj=>by omega⟩;obtain⟨mid',o1,o2,o3,hok⟩:=mid.round hf kn;have hmk:over ((bm,.map (mS kv) c)::(bn,.row .own 1 (zv nx))::exC) OM.emp bm=some (.map (mS kv) c):=st7.mem (.head _);have hml:(mS kv).length=kv.length:=by simp[mS]
   have hnl:=kn.len;have st8:Sl h h7 S OM.emp [(bn,.row .own 1 (zv nx))]:=st7.drop (.cons _ (.cons_cons _ (List.nil_sublist _)));simp only[F41_7,xMLenS st7 hmk,hml,vb_some,xEq_i]
   by_cases hK:kv.length=K
   ·have d:decide (((kv.length:Nat):Int)=((K:Nat):Int))=true:=by simp[hK]
    have hc:=hok hK;obtain⟨inf,hu,hi',hsz1⟩:=u28;have hcut:=acut_at (P:=Try.prog) (T:=28) (e:=3) (b:=bn) (o:=0) (n:=s.alls.length+1) (c:=s.alls.length+1) (l:=0) (r:=s.alls.length) (lo:=none) (hi:=some (.int .i64 (s.alls.length:Nat))) hu hi' (CapOk.self (by omega)) (bd_i (by omega) (by omega)) rfl (Nat.zero_le _) (by omega);have hne: ¬ s.alls.length+1=0:=by omega
    rw[if_neg hne,Nat.zero_mul,Nat.sub_zero,Nat.sub_zero]at hcut;have hx:=List.getElem?_eq_getElem (l:=nx) (i:=s.alls.length) (by omega);have hD:nx.getD s.alls.length 0=nx[s.alls.length]'(by omega):=by rw[List.getD_eq_getElem?_getD,hx];rfl
    have e2:xIdxS 1 (.slice (some ⟨bn,0,none⟩) (s.alls.length+1) (s.alls.length+1)) (.int .i64 (s.alls.length:Nat))=some (.pointer (some ⟨bn,s.alls.length,none⟩)):=by
     rw[xIdxS_at (by omega) (by omega)];simp
    have l5:xLd (.pointer (some ⟨bn,s.alls.length,none⟩)) h7=some (.int .i64 (nx.getD s.alls.length 0)):=by
     rw[hD];exact st8.ld (.head _) (zv_get hx)
    simp only[d,bite_t,F41_5,hcut,vb_some,e2,l5];exact Ret.of ⟨_,st8,bn,s.alls.length+1,nx,rfl,rfl,hc⟩
   ·have d:decide (((kv.length:Nat):Int)=((K:Nat):Int))=false:=by simp;omega
    simp only[d,bite_f,F41_6,xMLenS st7 hmk,hml,vb_some];rw[<-hL];exact ih q kv.length h7 _ nx [(bn,.row .own 1 (zv nx))] (by omega) (by omega) mid' (.inr ⟨bn,rfl,rfl,by rw[zv_len,hnl],by omega⟩) st8
 rw[vN_eq];exact key (s.alls.length+2) n 0 h2 v10 (s.oks++[-1]) ex10 (by omega) (by omega) (Mid.start hf ho) g10 st2
end
theorem inj_le: ∀(n k:Nat)(f:Nat->Nat),(∀i,i<k->f i<n)->(∀i j,i<k->j<k->f i=f j->i=j)->k<=n
 |0,k,f,h1,_=>by
  by_cases e:k=0
  ·omega
  ·have:=h1 0 (by omega);omega
 |n+1,k,f,h1,h2=>by
  by_cases hex: ∃i,i<k/\f i=n
  ·obtain⟨i0,hi0,hf⟩:=hex;have:=inj_le n (k-1) (fun j=>if j<i0 then f j else f (j+1)) (fun j hj=>by
    show(if j<i0 then f j else f (j+1))<n
    split
    ·rename_i hlt;have h3:=h1 j (by omega);have h4:f j≠n:=fun e=>by have:=h2 j i0 (by omega) hi0 (by rw[e,hf]);omega
     omega
    ·rename_i hlt;have h3:=h1 (j+1) (by omega);have h4:f (j+1)≠n:=fun e=>by have:=h2 (j+1) i0 (by omega) hi0 (by rw[e,hf]);omega
     omega) (fun a b ha hb hab=>by
    have hab:(if a<i0 then f a else f (a+1))=(if b<i0 then f b else f (b+1)):=hab
    split at hab<;>split at hab
    ·exact h2 a b (by omega) (by omega) hab
    ·have:=h2 a (b+1) (by omega) (by omega) hab;omega
    ·have:=h2 (a+1) b (by omega) (by omega) hab;omega
    ·have:=h2 (a+1) (b+1) (by omega) (by omega) hab;omega)
   omega
  ·have:=inj_le n k f (fun i hi=>by
    have h3:=h1 i hi;have h4:f i≠n:=fun e=>hex ⟨i,hi,e⟩;omega) h2
   omega
def Nw(h0:PH)(V:Vw):Vw:=fun b=>if h0.n<=b then V b else none
theorem Nw.mono{h0:PH}{V W:Vw}(h:Vw.le V W):Vw.le (Nw h0 V) (Nw h0 W):=by
 intro b cs hb;unfold Nw at hb ⊢
 split at hb
 ·rename_i hn;rw[if_pos hn];exact h _ _ hb
 ·cases hb
theorem Nw.at{h0:PH}{V:Vw}{b:Nat}{cs:List Value}(hn:h0.n<=b)(h:V b=some cs):Nw h0 V b=some cs:=by
 unfold Nw;rw[if_pos hn];exact h
section
variable {Q:Value->PH->Prop}{n:Nat}{cl cl' cl'':CL}{h h0:PH}{S:Vw}{m:OM}{rows rest:Rws}{K2:Value->PH->R}
theorem Ret.lfcallN(s:Sl h0 h S m rows){r:R}{P:Value->Vw->Prop}(hP: ∀v V W,Vw.le V W->P v V->P v W)(a:Ret r fun v h1=> ∃S',Sl h.fzn h1 S' OM.emp []/\P v (Nw h.fzn S'))
  (hk: ∀v h' S2,Vw.le S S2->Sl h0 h' S2 m rows->P v S2->Ret (K2 v h') Q):Ret (Go.Am.hb (Go.Am.fcall h r) K2) Q:=by
 obtain⟨v,h1,rfl,S',s1,hp⟩:=a;have ok:=s.ok;have e:Go.Am.fcall h (some (v,h1))=some (v,h.back h1):=by
  show Bool.rec (motive:=fun _=>R) none (some (v,h.back h1)) (Nat.ble h.fz h.n)=_
  rw[Nat.ble_eq_true_of_le ok.fz]
 rw[e];have kp:=s1.sm.kp;have hle:h.n<=h1.n:=kp.le;have le0:=s.sm.kp.le;have hraw: ∀b,(h.back h1).raw b=h1.raw b:=fun b=>rfl;have hold: ∀b,b<h.n->h1.raw b=h.raw b:=fun b hb=>kp.raw b hb;refine hk v (h.back h1) (fun b=>if h.n<=b then S' b else S b) ?_ ⟨⟨⟨⟨by show h.fz<=h1.n;have:=ok.fz;omega,kp.ok.full⟩,by show h0.n<=h1.n;omega,s.sm.kp.fz,fun b hb=>?_,opK_of fun b hb=>?_⟩,s.sm.fz,fun b o hb=>?_,fun b cs hb=>?_⟩,s.nd,s.out⟩ (hP _ _ _ ?_ hp)
 ·intro b cs hb;have hlt:=s.sm.ltS hb
  show(if h.n<=b then S' b else S b)=_
  rw[if_neg (by omega)];exact hb
 ·rw[hraw,hold b (by omega)];exact s.sm.kp.raw b hb
 ·rw[hraw,hold b (by omega)];exact s.sm.kp.raw b hb
 ·have:=s.sm.own b o hb;exact⟨by rw[hraw,hold b (s.sm.lt hb)];exact this.1,this.2⟩
 ·have hb:(if h.n<=b then S' b else S b)=some cs:=hb
  split at hb
  ·rename_i hn;obtain⟨h2,h3⟩:=s1.sm.see b cs hb;refine⟨?_,?_⟩
   ·unfold PH.cells at h2 ⊢;rw[hraw];exact h2
   ·cases hq:over rows m b with
    |none=>rfl
    |some o=>have:=s.sm.lt hq;omega
  ·rename_i hn;obtain⟨h2,h3⟩:=s.sm.see b cs hb;refine⟨?_,h3⟩;unfold PH.cells at h2 ⊢;rw[hraw,hold b (by omega)];exact h2
 ·intro b cs hb;unfold Nw at hb
  show(if h.n<=b then S' b else S b)=_
  split at hb
  ·rename_i hn;have hn:h.n<=b:=hn;rw[if_pos hn];exact hb
  ·cases hb
theorem Gq.settleN{ex:Rws}{k:Nat}{v:Value}{cells:List Value}(s:Sl h0 h S m (ex++rows))(g:Gq v k cells ex): ∃S',Vw.le S S'/\Sl h0 h S' m rows/\SlV (Nw h0 S') v cells:=by
 rcases g with g|⟨b,rfl,rfl,h1,h2⟩
 ·rcases g.h with⟨rfl,rfl,rfl,rfl⟩|⟨b,o,cap,all,rfl,rfl,h1,h2,_⟩
  ·exact⟨S,Vw.le.refl _,s,.inl ⟨rfl,rfl⟩⟩
  ·have hn:=(s.sm.own b _ (s.mem (.head _))).2;obtain⟨s1,hS⟩:=s.settle (i:=0) rfl;have hl:cells.length=k:=by rw[h1,List.length_take,List.length_drop];omega
   refine⟨_,Vw.le_put hS,s1,.inr ⟨b,o,cap,all,by rw[hl],Nw.at hn Vw.put_self,by omega,fun i x hx=>?_⟩⟩;rw[h1,List.getElem?_take]at hx
   split at hx
   ·rw[List.getElem?_drop]at hx;exact hx
   ·cases hx
 ·have hn:=(s.sm.own b _ (s.mem (.head _))).2;obtain⟨s1,hS⟩:=s.settle (i:=0) rfl;exact⟨_,Vw.le_put hS,s1,.inr ⟨b,0,k,cells,by rw[h1],Nw.at hn Vw.put_self,by omega,fun i x hx=>by rw[Nat.zero_add];exact hx⟩⟩
end
structure Dfa where
 next:List (List Int)
 acc:List Int
def DfV(V:Vw)(v:Value)(d:Dfa):Prop:= ∃nv av vs,v= .agg ⟨[nv,av]⟩/\SlV V nv vs/\vs.length=d.next.length/\(∀(i:Nat) r,d.next[i]?=some r-> ∃x,vs[i]?=some x/\SlV V x (zv r))/\SlV V av (zv d.acc)
theorem DfV.mono{V W:Vw}{v:Value}{d:Dfa}(hs:Vw.le V W)(h:DfV V v d):DfV W v d:=by
 obtain⟨nv,av,vs,a1,a2,a3,a4,a5⟩:=h;exact⟨nv,av,vs,a1,a2.mono hs,a3,fun i r hi=>let⟨x,q1,q2⟩:=a4 i r hi;⟨x,q1,q2.mono hs⟩,a5.mono hs⟩
def Tb(nxs:List (List Int))(nr:List Int)(c i' c':Nat)(z:Int):Prop:=(∃r,nxs[i']?=some r/\r[c']?=some z)\/(i'=nxs.length/\c'<c/\nr[c']?=some z)
def Ent(s:Ss)(cls:List Int)(st:List Nat)(q c:Nat)(z:Int):Prop:=
 (cls.getD (mv s q c) 0=cls.getD s.alls.length 0/\z= -1)\/(cls.getD (mv s q c) 0≠cls.getD s.alls.length 0/\ ∃j:Nat,z=j/\ ∃u,st[j]?=some u/\cls.getD u 0=cls.getD (mv s q c) 0)
theorem Ent.app{s:Ss}{cls:List Int}{st l:List Nat}{q c:Nat}{z:Int}(h:Ent s cls st q c z):Ent s cls (st++l) q c z:=by
 rcases h with h|⟨h1,j,h2,u,h3,h4⟩
 ·exact .inl h
 ·exact .inr ⟨h1,j,h2,u,by rw[List.getElem?_append_left (List.getElem?_eq_some_iff.1 h3).1];exact h3,h4⟩
def Bef(i'' c'' i' c':Nat):Prop:=i''<i'\/(i''=i'/\c''<c')
structure Nb(s:Ss)(cls:List Int)(st:List Nat)(nxs:List (List Int))(accs:List Int)(nr:List Int)(c:Nat):Prop where
 st0:st[0]?=some 0
 stl: ∀u∈st,u<s.alls.length
 dis: ∀(i j u v:Nat),st[i]?=some u->st[j]?=some v->cls.getD u 0=cls.getD v 0->i=j
 rl: ∀r∈nxs,r.length=256
 nrl:nr.length=256
 al:accs.length=nxs.length
 acc: ∀(i q:Nat),i<nxs.length->st[i]?=some q->accs[i]?=s.oks[q]?
 il:nxs.length<=st.length
 e: ∀(i' c':Nat) z,Tb nxs nr c i' c' z-> ∃q,st[i']?=some q/\Ent s cls st q c' z
 o: ∀k,1<=k->k<st.length-> ∃i' c',i'<k/\Tb nxs nr c i' c' ((k:Nat):Int)
 d: ∀(i' c' j k:Nat),Tb nxs nr c i' c' ((j:Nat):Int)->1<=k->k<j-> ∃i'' c'',Bef i'' c'' i' c'/\Tb nxs nr c i'' c'' ((k:Nat):Int)
theorem Nb.len{s:Ss}{cls:List Int}{st:List Nat}{nxs:List (List Int)}{accs nr:List Int}{c:Nat}(h:Nb s cls st nxs accs nr c):st.length<=s.alls.length:=by
 refine inj_le _ _ (fun i=>st.getD i 0) (fun i hi=>?_) (fun i j hi hj he=>?_)
 ·have hx:=List.getElem?_eq_getElem hi
  show st.getD i 0<_
  rw[List.getD_eq_getElem?_getD,hx];exact h.stl _ (List.getElem_mem hi)
 ·have hx:=List.getElem?_eq_getElem hi;have hy:=List.getElem?_eq_getElem hj;have he:st.getD i 0=st.getD j 0:=he;rw[List.getD_eq_getElem?_getD,List.getD_eq_getElem?_getD,hx,hy]at he;have he:st[i]=st[j]:=he;exact h.dis i j _ _ hx hy (by rw[he])
theorem Tb.set{nxs:List (List Int)}{nr:List Int}{c i' c':Nat}{z z':Int}(hc:c<nr.length):Tb nxs (nr.set c z) (c+1) i' c' z'↔Tb nxs nr c i' c' z'\/(i'=nxs.length/\c'=c/\z'=z):=by
 unfold Tb;constructor
 ·rintro(h|⟨h1,h2,h3⟩)
  ·exact .inl (.inl h)
  ·by_cases e:c'=c
   ·rw[e,List.getElem?_set_self hc]at h3;exact .inr ⟨h1,e,(Option.some.inj h3).symm⟩
   ·rw[List.getElem?_set_ne (fun h=>e h.symm)]at h3;exact .inl (.inr ⟨h1,by omega,h3⟩)
 ·rintro((h|⟨h1,h2,h3⟩)|⟨h1,h2,h3⟩)
  ·exact .inl h
  ·exact .inr ⟨h1,by omega,by rw[List.getElem?_set_ne (by omega)];exact h3⟩
  ·exact .inr ⟨h1,by omega,by rw[h2,h3,List.getElem?_set_self hc]⟩
theorem Nb.put{s:Ss}{cls:List Int}{st:List Nat}{nxs:List (List Int)}{accs nr:List Int}{c q:Nat}{z:Int}(h:Nb s cls st nxs accs nr c)(hc:c<256)(hq:st[nxs.length]?=some q)(he:Ent s cls st q c z)(hz:z<st.length):Nb s cls st nxs accs (nr.set c z) (c+1):=by
 have hcl:c<nr.length:=by rw[h.nrl];exact hc
 refine⟨h.st0,h.stl,h.dis,h.rl,by rw[List.length_set];exact h.nrl,h.al,h.acc,h.il,fun i' c' z' ht=>?_,fun k h1 h2=>?_,fun i' c' j k ht h1 h2=>?_⟩
 ·rcases(Tb.set hcl).1 ht with ht|⟨rfl,rfl,rfl⟩
  ·exact h.e i' c' z' ht
  ·exact⟨q,hq,he⟩
 ·obtain⟨i',c',e1,e2⟩:=h.o k h1 h2;exact⟨i',c',e1,(Tb.set hcl).2 (.inl e2)⟩
 ·rcases(Tb.set hcl).1 ht with ht|⟨rfl,rfl,e⟩
  ·obtain⟨i'',c'',e1,e2⟩:=h.d i' c' j k ht h1 h2;exact⟨i'',c'',e1,(Tb.set hcl).2 (.inl e2)⟩
  ·obtain⟨i'',c'',e1,e2⟩:=h.o k h1 (by omega);refine⟨i'',c'',?_,(Tb.set hcl).2 (.inl e2)⟩;rcases e2 with⟨r,r1,_⟩|⟨r1,r2,_⟩
   ·exact .inl (List.getElem?_eq_some_iff.1 r1).1
   ·exact .inr ⟨r1,r2⟩
theorem Nb.more{s:Ss}{cls:List Int}{st:List Nat}{nxs:List (List Int)}{accs nr:List Int}{c q:Nat}(h:Nb s cls st nxs accs nr c)(hc:c<256)(hq:st[nxs.length]?=some q)(hm:mv s q c<s.alls.length)(hne:cls.getD (mv s q c) 0≠cls.getD s.alls.length 0)(hno: ∀(j u:Nat),st[j]?=some u->cls.getD u 0≠cls.getD (mv s q c) 0):
  Nb s cls (st++[mv s q c]) nxs accs (nr.set c ((st.length:Nat):Int)) (c+1):=by
 have hcl:c<nr.length:=by rw[h.nrl];exact hc
 have hql:=(List.getElem?_eq_some_iff.1 hq).1;have hget: ∀{i u:Nat},(st++[mv s q c])[i]?=some u->st[i]?=some u\/(i=st.length/\u=mv s q c):=by
  intro i u hi
  by_cases hlt:i<st.length
  ·rw[List.getElem?_append_left hlt]at hi;exact .inl hi
  ·rw[List.getElem?_append_right (by omega)]at hi;have hi0:i-st.length=0:=by
    have:=(List.getElem?_eq_some_iff.1 hi).1;simp at this;omega
   rw[hi0]at hi;exact .inr ⟨by omega,by simpa using hi.symm⟩
 have hlast:(st++[mv s q c])[st.length]?=some (mv s q c):=by rw[List.getElem?_append_right (Nat.le_refl _),Nat.sub_self];rfl
 have hold: ∀{i u:Nat},st[i]?=some u->(st++[mv s q c])[i]?=some u:=fun {i u} hi=>by rw[List.getElem?_append_left (List.getElem?_eq_some_iff.1 hi).1];exact hi
 refine⟨hold h.st0,fun u hu=>?_,fun i j u v hi hj huv=>?_,h.rl,by rw[List.length_set];exact h.nrl,h.al,fun i r hi hr=>?_,by rw[List.length_append];have:=h.il;omega,fun i' c' z' ht=>?_,fun k h1 h2=>?_,fun i' c' j k ht h1 h2=>?_⟩
 ·rcases List.mem_append.1 hu with hu|hu
  ·exact h.stl u hu
  ·have:u=mv s q c:=by simpa using hu
   rw[this];exact hm
 ·rcases hget hi with hi|⟨rfl,rfl⟩<;>rcases hget hj with hj|⟨rfl,rfl⟩
  ·exact h.dis i j u v hi hj huv
  ·exact absurd huv (hno i u hi)
  ·exact absurd huv.symm (hno j v hj)
  ·rfl
 ·rcases hget hr with hr|⟨rfl,rfl⟩
  ·exact h.acc i r hi hr
  ·have:=h.il;omega
 ·rcases(Tb.set hcl).1 ht with ht|⟨rfl,rfl,rfl⟩
  ·obtain⟨q',e1,e2⟩:=h.e i' c' z' ht;exact⟨q',hold e1,e2.app⟩
  ·exact⟨q,hold hq,.inr ⟨hne,st.length,rfl,_,hlast,rfl⟩⟩
 ·rw[List.length_append]at h2
  by_cases e:k=st.length
  ·exact⟨nxs.length,c,by omega,(Tb.set hcl).2 (.inr ⟨rfl,rfl,by rw[e]⟩)⟩
  ·obtain⟨i',c',e1,e2⟩:=h.o k h1 (by simp at h2;omega);exact⟨i',c',e1,(Tb.set hcl).2 (.inl e2)⟩
 ·rcases(Tb.set hcl).1 ht with ht|⟨rfl,rfl,e⟩
  ·obtain⟨i'',c'',e1,e2⟩:=h.d i' c' j k ht h1 h2;exact⟨i'',c'',e1,(Tb.set hcl).2 (.inl e2)⟩
  ·obtain⟨i'',c'',e1,e2⟩:=h.o k h1 (by omega);refine⟨i'',c'',?_,(Tb.set hcl).2 (.inl e2)⟩;rcases e2 with⟨r,r1,_⟩|⟨r1,r2,_⟩
   ·exact .inl (List.getElem?_eq_some_iff.1 r1).1
   ·exact .inr ⟨r1,r2⟩
theorem Tb.end'{nxs:List (List Int)}{nr nr':List Int}{i' c':Nat}{z:Int}(hl:nr.length=256):Tb (nxs++[nr]) nr' 0 i' c' z↔Tb nxs nr 256 i' c' z:=by
 unfold Tb;constructor
 ·rintro(⟨r,h1,h2⟩|⟨_,h,_⟩)
  ·by_cases hlt:i'<nxs.length
   ·rw[List.getElem?_append_left hlt]at h1;exact .inl ⟨r,h1,h2⟩
   ·rw[List.getElem?_append_right (by omega)]at h1;have hi0:i'-nxs.length=0:=by
     have:=(List.getElem?_eq_some_iff.1 h1).1;simp at this;omega
    rw[hi0]at h1;obtain rfl:nr=r:=by simpa using h1
    exact .inr ⟨by omega,by have:=(List.getElem?_eq_some_iff.1 h2).1;omega,h2⟩
  ·omega
 ·rintro(⟨r,h1,h2⟩|⟨rfl,h2,h3⟩)
  ·exact .inl ⟨r,by rw[List.getElem?_append_left (List.getElem?_eq_some_iff.1 h1).1];exact h1,h2⟩
  ·exact .inl ⟨nr,by rw[List.getElem?_append_right (Nat.le_refl _),Nat.sub_self];rfl,h3⟩
theorem Nb.row{s:Ss}{cls:List Int}{st:List Nat}{nxs:List (List Int)}{accs nr nr':List Int}{q:Nat}{a:Int}(h:Nb s cls st nxs accs nr 256)(hq:st[nxs.length]?=some q)(ha:s.oks[q]?=some a)(hl':nr'.length=256):Nb s cls st (nxs++[nr]) (accs++[a]) nr' 0:=by
 have hql:=(List.getElem?_eq_some_iff.1 hq).1;refine⟨h.st0,h.stl,h.dis,fun r hr=>?_,hl',by rw[List.length_append,List.length_append,h.al];rfl,fun i r hi hr=>?_,by rw[List.length_append];exact hql,fun i' c' z ht=>h.e i' c' z ((Tb.end' h.nrl).1 ht),fun k h1 h2=>?_,fun i' c' j k ht h1 h2=>?_⟩
 ·rcases List.mem_append.1 hr with hr|hr
  ·exact h.rl r hr
  ·have:r=nr:=by simpa using hr
   rw[this];exact h.nrl
 ·have hal:=h.al
  by_cases hlt:i<nxs.length
  ·rw[List.getElem?_append_left (by omega)];exact h.acc i r hlt hr
  ·rw[List.length_append]at hi;have hi:i<nxs.length+1:=hi;have e:i=nxs.length:=by omega
   subst e;rw[hq]at hr;cases hr;rw[List.getElem?_append_right (by omega),show nxs.length-accs.length=0 by omega,ha];rfl
 ·obtain⟨i',c',e1,e2⟩:=h.o k h1 h2;exact⟨i',c',e1,(Tb.end' h.nrl).2 e2⟩
 ·obtain⟨i'',c'',e1,e2⟩:=h.d i' c' j k ((Tb.end' h.nrl).1 ht) h1 h2;exact⟨i'',c'',e1,(Tb.end' h.nrl).2 e2⟩
def KI(kv:List ((Int×Nat)×Nat))(st:List Nat)(cls:List Int):Prop:=kv.length=st.length/\ ∀(k:Nat) p,kv[k]?=some p-> ∃u,st[k]?=some u/\p.1=(cls.getD u 0,k)
theorem KI.hit{kv:List ((Int×Nat)×Nat)}{st:List Nat}{cls:List Int}(h:KI kv st cls)(hd: ∀(i j u v:Nat),st[i]?=some u->st[j]?=some v->cls.getD u 0=cls.getD v 0->i=j){j u:Nat}{z:Int}(hj:st[j]?=some u)(hz:cls.getD u 0=z): ∃l1 l2 c,kv=l1++((z,j),c)::l2/\ ∀p∈l1,p.1.1≠z:=by
 have hlt:=(List.getElem?_eq_some_iff.1 hj).1;have hl:=h.1;have hx:=List.getElem?_eq_getElem (l:=kv) (i:=j) (by omega);obtain⟨u',q1,q2⟩:=h.2 _ _ hx;rw[hj]at q1;cases q1;rw[hz]at q2;refine⟨kv.take j,kv.drop (j+1),(kv[j]'(by omega)).2,?_,fun p hp he=>?_⟩
 ·have h3:kv.drop j=kv[j]'(by omega)::kv.drop (j+1):=List.drop_eq_getElem_cons (by omega);have h4:kv[j]'(by omega)=((z,j),(kv[j]'(by omega)).2):=by rw[<-q2]
  rw[<-h4, <-h3,List.take_append_drop]
 ·obtain⟨i,hi⟩:=List.getElem?_of_mem hp;rw[List.getElem?_take]at hi
  split at hi
  ·rename_i hij;obtain⟨v,r1,r2⟩:=h.2 i p hi;rw[r2]at he;have:=hd i j v u r1 hj (by rw[hz];exact he);omega
  ·cases hi
theorem KI.none{kv:List ((Int×Nat)×Nat)}{st:List Nat}{cls:List Int}(h:KI kv st cls){z:Int}(hno: ∀(j u:Nat),st[j]?=some u->cls.getD u 0≠z): ∀p∈kv,p.1.1≠z:=by
 intro p hp he;obtain⟨k,hk⟩:=List.getElem?_of_mem hp;obtain⟨u,h1,h2⟩:=h.2 k p hk;rw[h2]at he;exact hno k u h1 he
theorem KI.snoc{kv:List ((Int×Nat)×Nat)}{st:List Nat}{cls:List Int}(h:KI kv st cls){u c:Nat}:KI (kv++[((cls.getD u 0,st.length),c)]) (st++[u]) cls:=by
 refine⟨by rw[List.length_append,List.length_append,h.1];rfl,fun k p hk=>?_⟩;have hl:=h.1
 by_cases hlt:k<kv.length
 ·rw[List.getElem?_append_left hlt]at hk;obtain⟨v,h1,h2⟩:=h.2 k p hk;exact⟨v,by rw[List.getElem?_append_left (by omega)];exact h1,h2⟩
 ·rw[List.getElem?_append_right (by omega)]at hk;have hi0:k-kv.length=0:=by
   have:=(List.getElem?_eq_some_iff.1 hk).1;simp at this;omega
  rw[hi0]at hk;have hp:((cls.getD u 0,st.length),c)=p:=by simpa using hk
  refine⟨u,?_,?_⟩
  ·rw[List.getElem?_append_right (by omega),show k-st.length=0 by omega];rfl
  ·rw[<-hp,show k=st.length by omega]
theorem zc30:zcells Try.prog 30=some [nils,nils]:=by kernel_rfl
theorem ns_snoc'(l:List Nat)(i:Nat):ns l++[.int .i64 (i:Nat)]=ns (l++[i]):=by simp[ns]
def Nm(h0:PH)(S:Vw)(rows rest:Rws)(d2 bm:Nat)(sv:Value)(cls:List Int)(st:List Nat)(nxs:List (List Int))(accs:List Int):Prop:= ∃kv c nv av exS exN exA cN,
 rows=(d2,.row .own 1 [nv,av])::(bm,.map (mI kv) c)::(exS++(exN++(exA++rest)))/\KI kv st cls/\Gq sv st.length (ns st) exS/\Gq nv nxs.length cN exN/\(∀(i:Nat) r,nxs[i]?=some r-> ∃x,cN[i]?=some x/\SlV (Nw h0 S) x (zv r))/\Gq av accs.length (zv accs) exA
theorem Nm.mono{h0:PH}{V W:Vw}{rows rest:Rws}{d2 bm:Nat}{sv:Value}{cls:List Int}{st:List Nat}{nxs:List (List Int)}{accs:List Int}(hs:Vw.le V W)(h:Nm h0 V rows rest d2 bm sv cls st nxs accs):Nm h0 W rows rest d2 bm sv cls st nxs accs:=by
 obtain⟨kv,c,nv,av,exS,exN,exA,cN,a1,a2,a3,a4,a5,a6⟩:=h;exact⟨kv,c,nv,av,exS,exN,exA,cN,a1,a2,a3,a4,fun i r hi=>let⟨x,q1,q2⟩:=a5 i r hi;⟨x,q1,q2.mono (Nw.mono hs)⟩,a6⟩
theorem Nm.frame{h0:PH}{V:Vw}{rows rest:Rws}{d2 bm:Nat}{sv:Value}{cls:List Int}{st:List Nat}{nxs:List (List Int)}{accs:List Int}(h:Nm h0 V rows rest d2 bm sv cls st nxs accs): ∃A,rows=A++rest/\ ∀rest',Nm h0 V (A++rest') rest' d2 bm sv cls st nxs accs:=by
 obtain⟨kv,c,nv,av,exS,exN,exA,cN,rfl,a2,a3,a4,a5,a6⟩:=h;exact⟨(d2,.row .own 1 [nv,av])::(bm,.map (mI kv) c)::(exS++(exN++exA)),by simp[List.append_assoc],fun rest'=>⟨kv,c,nv,av,exS,exN,exA,cN,by simp[List.append_assoc],a2,a3,a4,a5,a6⟩⟩
section
variable {Q:Value->PH->Prop}{n:Nat}{cl cl' cl'':CL}{h h0:PH}{S:Vw}{m:OM}{rows rest:Rws}{K2:Value->PH->R}
theorem loop42i(hn:4611686018427387904<=n){bx d1 d2 bm bn q0:Nat}{s:Ss}{cls:List Int}{cv:Value}{S0:Vw}{nxs:List (List Int)}{accs:List Int}{r8:Kt}(sv:Sv S0 bx s)(hf:s.Fin)(ck:ClsOk s cls)(hcv:SlV S0 cv (zv (cls.take s.alls.length)))
  (hk: ∀h' rows' stv st nr,Sl h0 h' S OM.emp rows'->Nm h0 S rows' ((bn,.row .own 1 (zv nr))::rest) d2 bm stv cls st nxs accs->Nb s cls st nxs accs nr 256->st[nxs.length]?=some q0->Ret (F42_7 n cl (pt d2) (.slice (some ⟨bn,0,none⟩) 256 256) (pt bx) stv (.int .i64 (nxs.length:Nat)) r8 cv (.int .i64 (cls.getD s.alls.length 0)) (pt d1) (.map (some bm)) h') Q) (le:Vw.le S0 S):
  ∀(k q c:Nat)(h:PH)(rows:Rws)(stv:Value)(st:List Nat)(nr:List Int),256-c<=k->k<q->c<=256->Sl h0 h S OM.emp rows->Nm h0 S rows ((bn,.row .own 1 (zv nr))::rest) d2 bm stv cls st nxs accs->Nb s cls st nxs accs nr c->st[nxs.length]?=some q0->
   Ret (lp q (F42_9 n cl r8) [pt bx,cv,.int .i64 (cls.getD s.alls.length 0),pt d1,pt d2,.map (some bm),stv,.int .i64 (nxs.length:Nat),.slice (some ⟨bn,0,none⟩) 256 256,.int .i64 ((256:Nat):Int),.int .i64 (c:Nat)] h) Q:=by
 obtain⟨fs,av0,nv0,ov0,vs0,b1,b2,b3',b4,b5,b6,b7,b8⟩:=sv;have hsz:=hf.sz;intro k
 induction k with
 |zero=>
  intro q c h rows stv st nr h1 h2 h3 sl nm nb hq0;obtain⟨q,rfl⟩: ∃r,q=r+1:=⟨q-1,by omega⟩;rw[lp_succ];have hc:c=256:=by omega
  subst hc;have dc:decide (((256:Nat):Int)<((256:Nat):Int))=false:=by decide
  simp only[F42_9,F42_8,ucons_cons,xLt_i,dc,vb_some,bite_f];exact hk h rows stv st nr sl nm nb hq0
 |succ k ih=>
  intro q c h rows stv st nr h1 h2 h3 sl nm nb hq0
  by_cases hc:c<256
  ·obtain⟨q,rfl⟩: ∃r,q=r+1:=⟨q-1,by omega⟩;rw[lp_succ];generalize hL:lp q (F42_9 n cl r8)=LL;have dc:decide (((c:Nat):Int)<((256:Nat):Int))=true:=by simp;omega
   have hw:=wrapN (x:=c) (by omega);have hnrl:=nb.nrl;have e1:xIdxS 1 (.slice (some ⟨bn,0,none⟩) 256 256) (.int .i64 (c:Nat))=some (.pointer (some ⟨bn,c,none⟩)):=by
    rw[xIdxS_at (by omega) (by omega)];simp
   simp only[F42_9,F42_8,F42_6,ucons_cons,xLt_i,dc,vb_some,bite_t,jn_eq,e1];obtain⟨A,hA,hfr⟩:=nm.frame;subst hA;have em:vM 0= .int .i64 (-1):=rfl;rw[em];refine Ret.lst1M sl rfl (by rw[zv_len,hnrl];exact hc) rfl fun h2 sl2=>?_;rw[zv_set]at sl2;have nm2:=hfr ((bn,.row .own 1 (zv (nr.set c (-1))))::rest);have nm2':=nm2;obtain⟨kv,kc,nv,av,exS,exN,exA,cN,hrows,hKI,gS,gN,hNx,gA⟩:=nm2;have hqn:=nb.stl q0 (List.mem_of_getElem? hq0);have l3:xLd (.pointer (some ⟨bx,3,none⟩)) h2=some nv0:=sl2.ldS (le _ _ b1) b4;obtain⟨sb,so,f1,f2⟩:=gS.at sl2 (fun pr hpr=>by rw[hrows];exact .tail _ (.tail _ (List.mem_append_left _ hpr))) (ns_get hq0);have hr:=List.getElem?_eq_getElem (l:=s.nexts) (i:=q0) (by rw[hf.nl];exact hqn);have hrl:=hf.rl q0 _ hr;obtain⟨xr,x1,x2⟩:=b6 q0 _ hr;obtain⟨b9,o9,cs9,g1,g2,g3⟩:=b5.at (k:=.i64) x1;have l4:=sl2.ldS (le _ _ g2) g3;have hz:=List.getElem?_eq_getElem (l:=s.nexts[q0]'(by rw[hf.nl];exact hqn)) (i:=c) (by omega);have hto:=hf.to q0 _ c _ hr hz;have hmz:=mvZ_at hr hz;generalize(s.nexts[q0]'(by rw[hf.nl];exact hqn))[c]'(by omega)=z at hz hto hmz;obtain⟨b10,o10,cs10,g4,g5,g6⟩:=x2.at (k:=.i64) (zv_get hz);have l5:=sl2.ldS (le _ _ g5) g6;simp only[xNil_p,xFld_p,Nat.zero_add,vb_some,l3,f1,f2,g1,l4,g4,l5,xEq_i];have next: ∀(h:PH)(rows:Rws)(stv:Value)(st:List Nat)(nr':List Int),Sl h0 h S OM.emp rows->Nm h0 S rows ((bn,.row .own 1 (zv nr'))::rest) d2 bm stv cls st nxs accs->Nb s cls st nxs accs nr' (c+1)->st[nxs.length]?=some q0->
     Ret (F42_5 n cl LL [pt bx,cv,.int .i64 (cls.getD s.alls.length 0),pt d1,pt d2,.map (some bm),stv,.int .i64 (nxs.length:Nat),.slice (some ⟨bn,0,none⟩) 256 256,.int .i64 ((256:Nat):Int),.int .i64 (c:Nat)] h) Q:=by
    intro h rows stv st nr' sl nm nb hq0;simp only[F42_5,F42_0,ucons_cons,vN_eq,xAdd_i,hw,vb_some];rw[<-hL];exact ih q (c+1) h rows stv st nr' (by omega) (by omega) (by omega) sl nm nb hq0
   have skip:cls.getD (mv s q0 c) 0=cls.getD s.alls.length 0->Ret (F42_5 n cl LL [pt bx,cv,.int .i64 (cls.getD s.alls.length 0),pt d1,pt d2,.map (some bm),stv,.int .i64 (nxs.length:Nat),.slice (some ⟨bn,0,none⟩) 256 256,.int .i64 ((256:Nat):Int),.int .i64 (c:Nat)] h2) Q:=fun he=>
    next h2 _ stv st _ sl2 nm2' (nb.put hc hq0 (.inl ⟨he,rfl⟩) (by omega)) hq0
   by_cases hz1:z= -1
   ·have dz:decide (z= -1)=true:=by simp[hz1]
    have hm:mv s q0 c=s.alls.length:=by unfold mv;rw[if_pos hqn,hmz,if_pos hz1]
    simp only[dz,isB_f,Bool.not_true,gd_false,vb_some,xPick_t,bite_t];exact skip (by rw[hm])
   ·have dz:decide (z= -1)=false:=by simp[hz1]
    have hm:((mv s q0 c:Nat):Int)=z:=by unfold mv;rw[if_pos hqn,hmz,if_neg hz1];omega
    have hml:mv s q0 c<s.alls.length:=by omega
    obtain⟨t,t1,t2⟩:=ck.num (mv s q0 c) (by omega);have hck:(cls.take s.alls.length)[mv s q0 c]?=some (t:Int):=by rw[List.getElem?_take,if_pos hml];exact t2
    have hDt:cls.getD (mv s q0 c) 0=(t:Int):=by rw[List.getD_eq_getElem?_getD,t2];rfl
    obtain⟨b11,o11,cs11,u1,u2,u3⟩:=hcv.at (k:=.i64) (zv_get hck);have l6:=sl2.ldS (le _ _ u2) u3;rw[<-hm];have dz:decide (((mv s q0 c:Nat):Int)= -1)=false:=by simp
    simp only[dz,isB_f,Bool.not_false,gd_true,vb_some,u1,l6,xEq_i,xPick_f]
    by_cases he:cls.getD (mv s q0 c) 0=cls.getD s.alls.length 0
    ·have d2':decide ((t:Int)=cls.getD s.alls.length 0)=true:=decide_eq_true (by rw[<-hDt];exact he);simp only[d2',bite_t];exact skip he
    ·have d2':decide ((t:Int)=cls.getD s.alls.length 0)=false:=decide_eq_false (by rw[<-hDt];exact he);simp only[d2',bite_f,jn_eq,F42_4,u1,vb_some,l6];have hmk:over (A++(bn,.row .own 1 (zv (nr.set c (-1))))::rest) OM.emp bm=some (.map (mI kv) kc):=sl2.mem (by rw[hrows];exact .tail _ (.head _));have put: ∀(h3:PH)(rows3:Rws)(stv3:Value)(st3:List Nat)(j u:Nat),Sl h0 h3 S OM.emp rows3->Nm h0 S rows3 ((bn,.row .own 1 (zv (nr.set c (-1))))::rest) d2 bm stv3 cls st3 nxs accs->st3[j]?=some u->cls.getD u 0=(t:Int)->(∀(i j u v:Nat),st3[i]?=some u->st3[j]?=some v->cls.getD u 0=cls.getD v 0->i=j)->Nb s cls st3 nxs accs (nr.set c (j:Int)) (c+1)->st3[nxs.length]?=some q0->
       Ret (F42_3 n cl (F42_5 n cl LL) [pt bx,cv,.int .i64 (cls.getD s.alls.length 0),pt d1,pt d2,.map (some bm),stv3,.int .i64 (nxs.length:Nat),.slice (some ⟨bn,0,none⟩) 256 256,.int .i64 (c:Nat),.int .i64 (mv s q0 c:Nat),.int .i64 ((256:Nat):Int),.int .i64 (c:Nat)] h3) Q:=by
      intro h3 rows3 stv3 st3 j u sl3 nm3 hj hu hd3 nb3 hq3;obtain⟨A3,hA3,hfr3⟩:=nm3.frame;subst hA3;obtain⟨kv3,kc3,nv3,av3,exS3,exN3,exA3,cN3,hrows3,hKI3,_⟩:=nm3;obtain⟨l1,l2,cc,rfl,hl1⟩:=hKI3.hit hd3 hj hu;have hmk3:over (A3++(bn,.row .own 1 (zv (nr.set c (-1))))::rest) OM.emp bm=some (.map (mI (l1++(((t:Int),j),cc)::l2)) kc3):=sl3.mem (by rw[hrows3];exact .tail _ (.head _));have l7:=sl3.ldS (le _ _ u2) u3;have hlk:=lkI_hit sl3 hmk3 hl1 (ok:=false);simp only[F42_3,F42_1,ucons_cons,u1,vb_some,l7,hlk,Bool.false_eq_true,if_false,e1];refine Ret.lst1M sl3 rfl (by rw[zv_len,List.length_set,hnrl];exact hc) rfl fun h4 sl4=>?_;rw[zv_set,List.set_set]at sl4;exact next h4 _ stv3 st3 _ sl4 (hfr3 _) nb3 hq3
     by_cases hex: ∃(j u:Nat),st[j]?=some u/\cls.getD u 0=(t:Int)
     ·obtain⟨j,u,hj,hu⟩:=hex;obtain⟨l1,l2,cc,hkv,hl1⟩:=hKI.hit nb.dis hj hu;have hmk':over (A++(bn,.row .own 1 (zv (nr.set c (-1))))::rest) OM.emp bm=some (.map (mI (l1++(((t:Int),j),cc)::l2)) kc):=by rw[<-hkv];exact hmk
      have hlk:=lkI_hit sl2 hmk' hl1 (ok:=true);simp only[hlk,if_true,vb_some,xExt_t',List.getElem?_cons_zero,List.getElem?_cons_succ,xNot_b,Bool.not_true,bite_f];have hjl:=(List.getElem?_eq_some_iff.1 hj).1;exact put h2 _ stv st j u sl2 nm2' hj hu nb.dis (nb.put hc hq0 (.inr ⟨he,j,rfl,u,hj,by rw[hDt];exact hu⟩) (by omega)) hq0
     ·have hno: ∀(j u:Nat),st[j]?=some u->cls.getD u 0≠(t:Int):=fun j u hj hu=>hex ⟨j,u,hj,hu⟩;have hkn:=hKI.none hno;simp only[lkI_none sl2 hmk hkn (ok:=true),if_true,vb_some,xExt_t',List.getElem?_cons_zero,List.getElem?_cons_succ,xNot_b,Bool.not_false,bite_t,F42_2,u1,l6,gS.len];rw[hrows]at sl2;refine Ret.lmupI sl2 1 rfl hkn fun h3 sl3=>?_;have sl3:Sl h0 h3 S OM.emp ((d2,.row .own 1 [nv,av])::(bm,.map (mI (kv++[(((t:Int),st.length),kc)])) (kc+1))::(exS++(exN++(exA++(bn,.row .own 1 (zv (nr.set c (-1))))::rest)))):=sl3;have sl3p:=sl3.perm (pmA _ _ exS _);have hstl:=nb.len;refine Ret.gqapp sl3p gS bs28 ai28 rfl (sz_le (c:=3000) (by omega) (by decide)) fun h4 stv' exS' sl4 gS'=>?_;have sl4:=sl4.perm (pmA _ _ exS' _).symm;have hmore:=nb.more hc hq0 hml he (fun j u hj=>by rw[hDt];exact hno j u hj);refine put h4 _ stv' (st++[mv s q0 c]) st.length (mv s q0 c) sl4 ?_ (by rw[List.getElem?_append_right (Nat.le_refl _),Nat.sub_self];rfl) hDt hmore.dis hmore (by rw[List.getElem?_append_left (List.getElem?_eq_some_iff.1 hq0).1];exact hq0);refine⟨_,_,nv,av,exS',exN,exA,cN,rfl,?_,?_,gN,hNx,gA⟩
      ·rw[<-hDt];exact hKI.snoc
      ·show Gq stv' (st++[mv s q0 c]).length (ns (st++[mv s q0 c])) exS'
       rw[List.length_append, <-ns_snoc'];exact gS'
  ·exact ih q c h rows stv st nr (by omega) (by omega) h3 sl nm nb hq0
end
def NumD(s:Ss)(cls:List Int)(d:Dfa):Prop:= ∃st nr,Nb s cls st d.next d.acc nr 0/\d.next.length=st.length
theorem Nb.any{s:Ss}{cls:List Int}{st:List Nat}{nxs:List (List Int)}{accs nr nr':List Int}(h:Nb s cls st nxs accs nr 0)(hl:nr'.length=256):Nb s cls st nxs accs nr' 0:=by
 have e: ∀{i' c':Nat}{z:Int},Tb nxs nr' 0 i' c' z↔Tb nxs nr 0 i' c' z:=fun {i' c' z}=>by
  unfold Tb;exact⟨fun h=>h.elim .inl fun h=>by omega,fun h=>h.elim .inl fun h=>by omega⟩
 exact⟨h.st0,h.stl,h.dis,h.rl,hl,h.al,h.acc,h.il,fun i' c' z ht=>h.e i' c' z (e.1 ht),fun k h1 h2=>let⟨i',c',q1,q2⟩:=h.o k h1 h2;⟨i',c',q1,e.2 q2⟩,fun i' c' j k ht h1 h2=>let⟨i'',c'',q1,q2⟩:=h.d i' c' j k (e.1 ht) h1 h2;⟨i'',c'',q1,e.2 q2⟩⟩
section
variable {Q:Value->PH->Prop}{n:Nat}{cl cl' cl'':CL}{h h0:PH}{S:Vw}{m:OM}{rows rest:Rws}{K2:Value->PH->R}
theorem loop42o(hn:4611686018427387904<=n){bx d1 d2 bm:Nat}{s:Ss}{cls:List Int}{cv:Value}{S0:Vw}{x1 x2:Value}(sv:Sv S0 bx s)(hf:s.Fin)(ck:ClsOk s cls)(hcv:SlV S0 cv (zv (cls.take s.alls.length))):
  ∀(k q:Nat)(S:Vw)(h:PH)(rows:Rws)(stv:Value)(st:List Nat)(nxs:List (List Int))(accs nr:List Int),s.alls.length+1-nxs.length<=k->k<q->Vw.le S0 S->Sl h0 h S OM.emp rows->Nm h0 S rows [(d1,.row .own 1 [x1,x2])] d2 bm stv cls st nxs accs->Nb s cls st nxs accs nr 0->
   Ret (lp q (F42_13 n cl) [pt bx,cv,.int .i64 (cls.getD s.alls.length 0),pt d1,pt d2,.map (some bm),stv,.int .i64 (nxs.length:Nat)] h) fun v h'=> ∃S' d,Sl h0 h' S' OM.emp []/\DfV (Nw h0 S') v d/\NumD s cls d:=by
 have hsz:=hf.sz;have sv0:=sv;obtain⟨fs,av0,nv0,ov0,vs0,b1,b2,b3',b4,b5,b6,b7,b8⟩:=sv;intro k
 induction k with
 |zero=>
  intro q S h rows stv st nxs accs nr h1 h2 le sl nm nb;have:=nb.len;have:=nb.il;omega
 |succ k ih=>
  intro q S h rows stv st nxs accs nr h1 h2 le sl nm nb;obtain⟨q,rfl⟩: ∃r,q=r+1:=⟨q-1,by omega⟩;rw[lp_succ];generalize hL:lp q (F42_13 n cl)=LL;have nm0:=nm;have hstl:=nb.len;obtain⟨kv,kc,nv,av,exS,exN,exA,cN,hrows,hKI,gS,gN,hNx,gA⟩:=nm;simp only[F42_13,F42_12,ucons_cons,gS.len,vb_some,xLt_i]
  by_cases hi:nxs.length<st.length
  ·have dc:decide (((nxs.length:Nat):Int)<((st.length:Nat):Int))=true:=by simp;omega
   obtain⟨q0,hq0⟩: ∃q0,st[nxs.length]?=some q0:=⟨_,List.getElem?_eq_getElem hi⟩;have hqn:=nb.stl q0 (List.mem_of_getElem? hq0);simp only[dc,bite_t,F42_10,vN_eq];refine Ret.lmk sl zi28 (by omega) (by omega) (by omega) (by omega) fun h2 bn sl2=>?_;rw[Int.toNat_natCast,zv_zrows]at sl2;rw[Int.toNat_natCast];have hlen:xLenS (.slice (some ⟨bn,0,none⟩) 256 256)=some (.int .i64 ((256:Nat):Int)):=by simp
   obtain⟨A,hA,hfr⟩:=nm0.frame;subst hA;have sl2:=sl2.perm (rows':=A++(bn,.row .own 1 (zv (List.replicate 256 0)))::[(d1,.row .own 1 [x1,x2])]) List.perm_middle.symm;simp only[hlen,vb_some];refine loop42i (rest:=[(d1,.row .own 1 [x1,x2])]) (q0:=q0) hn sv0 hf ck hcv (fun h3 rows3 stv3 st3 nr3 sl3 nm3 nb3 hq3=>?_) le 256 n 0 h2 _ stv st (List.replicate 256 0) (by omega) (by omega) (by omega) sl2 (hfr _) (nb.any (by rw[List.length_replicate])) hq0;obtain⟨A3,hA3,hfr3⟩:=nm3.frame;subst hA3;have sl3:=sl3.perm (rows':=(bn,.row .own 1 (zv nr3))::(A3++[(d1,.row .own 1 [x1,x2])])) List.perm_middle;have hnb:=(sl3.sm.own bn _ (sl3.mem (.head _))).2;obtain⟨sl4,hSb⟩:=sl3.settle (i:=0) rfl;have sl4:Sl h0 h3 (S.put bn (zv nr3)) OM.emp (A3++[(d1,.row .own 1 [x1,x2])]):=sl4;have le4:Vw.le S (S.put bn (zv nr3)):=Vw.le_put hSb;have hnrl:=nb3.nrl;have hnv:SlV (Nw h0 (S.put bn (zv nr3))) (.slice (some ⟨bn,0,none⟩) 256 256) (zv nr3):=.inr ⟨bn,0,256,zv nr3,by rw[zv_len,hnrl],Nw.at hnb Vw.put_self,by omega,fun j x hx=>by rw[Nat.zero_add];exact hx⟩;have nm4:=(hfr3 [(d1,.row .own 1 [x1,x2])]).mono le4;obtain⟨kv,kc,nv,av,exS,exN,exA,cN,hrows,hKI,gS,gN,hNx,gA⟩:=nm4;rw[hrows]at sl4;have ln:xLd (.pointer (some ⟨d2,0,none⟩)) h3=some nv:=sl4.ld (.head _) rfl;simp only[F42_7,xFld_p,Nat.zero_add,vb_some,ln];have sl4p:=sl4.perm (pmB _ _ exS exN (exA++[(d1,.row .own 1 [x1,x2])]));have hstl3:=nb3.len;have hil3:=nb3.il;have hal3:=nb3.al;refine Ret.gqapp sl4p gN (bs27 rfl) ai27 rfl (sz_le (c:=3000) (by omega) (by decide)) fun h5 nv' exN' sl5 gN'=>?_;have sl5:=sl5.perm (pmB _ _ exS exN' (exA++[(d1,.row .own 1 [x1,x2])])).symm;refine Ret.lst1 sl5 0 rfl rfl (by simp) gN'.one fun h6 sl6=>?_;have sl6:Sl h0 h6 (S.put bn (zv nr3)) OM.emp ((d2,.row .own 1 [nv',av])::(bm,.map (mI kv) kc)::(exS++(exN'++(exA++[(d1,.row .own 1 [x1,x2])])))):=sl6;have leT:Vw.le S0 (S.put bn (zv nr3)):=le.trans le4;have la:xLd (.pointer (some ⟨d2,1,none⟩)) h6=some av:=sl6.ld (.head _) rfl;have lo:xLd (.pointer (some ⟨bx,4,none⟩)) h6=some ov0:=sl6.ldS (leT _ _ b1) b7;obtain⟨sb,so,f1,f2⟩:=gS.at sl6 (fun pr hpr=>.tail _ (.tail _ (List.mem_append_left _ hpr))) (ns_get hq3);have hol:=hf.ol;have hoq:=List.getElem?_eq_getElem (l:=s.oks) (i:=q0) (by omega);generalize s.oks[q0]'(by omega)=a at hoq;obtain⟨b9,o9,cs9,g1,g2,g3⟩:=b8.at (k:=.i64) (zv_get hoq);have l9:=sl6.ldS (leT _ _ g2) g3;simp only[xFld_p,Nat.zero_add,xNil_p,vb_some,la,lo,f1,f2,g1,l9];have sl6p:=sl6.perm (pmC _ _ exS exN' exA [(d1,.row .own 1 [x1,x2])]);refine Ret.gqapp sl6p gA bs28 ai28 rfl (sz_le (c:=3000) (by omega) (by decide)) fun h7 av' exA' sl7 gA'=>?_;have sl7:=sl7.perm (pmC _ _ exS exN' exA' [(d1,.row .own 1 [x1,x2])]).symm;refine Ret.lst1 sl7 0 rfl rfl (by simp) gA'.one fun h8 sl8=>?_;have sl8:Sl h0 h8 (S.put bn (zv nr3)) OM.emp ((d2,.row .own 1 [nv',av'])::(bm,.map (mI kv) kc)::(exS++(exN'++(exA'++[(d1,.row .own 1 [x1,x2])])))):=sl8;simp only[vN_eq,xAdd_i,wrapN (show nxs.length<4611686018427387904 by omega),vb_some];rw[<-hL];have hlast:=ih q (S.put bn (zv nr3)) h8 _ stv3 st3 (nxs++[nr3]) (accs++[a]) (List.replicate 256 0) (by rw[List.length_append];show s.alls.length+1-(nxs.length+1)<=k;omega) (by omega) leT sl8 ?_ (nb3.row hq3 hoq (by rw[List.length_replicate]))
   ·rw[List.length_append]at hlast;exact hlast
   ·refine⟨kv,kc,nv',av',exS,exN',exA',cN++[.slice (some ⟨bn,0,none⟩) 256 256],rfl,hKI,gS,?_,fun i r hir=>?_,?_⟩
    ·rw[List.length_append];exact gN'
    ·have hlN:=gN.length
     by_cases hlt:i<nxs.length
     ·rw[List.getElem?_append_left hlt]at hir;obtain⟨x,e1,e2⟩:=hNx i r hir;exact⟨x,by rw[List.getElem?_append_left (by omega)];exact e1,e2⟩
     ·rw[List.getElem?_append_right (by omega)]at hir;have hi0:i-nxs.length=0:=by
       have:=(List.getElem?_eq_some_iff.1 hir).1;simp at this;omega
      rw[hi0]at hir;obtain rfl:nr3=r:=by simpa using hir
      refine⟨_,?_,hnv⟩;rw[List.getElem?_append_right (by omega),show i-cN.length=0 by omega];rfl
    ·have e:zv (accs++[a])=zv accs++[.int .i64 a]:=by simp[zv]
     rw[List.length_append,e];exact gA'
  ·have dc:decide (((nxs.length:Nat):Int)<((st.length:Nat):Int))=false:=by simp;omega
   rw[hrows]at sl;have ld2:xLdA 2 (pt d2) h=some (.agg ⟨[nv,av]⟩):=sl.ldA (.head _) rfl (by simp);have hmem1:(exS++(exN++(exA++[(d1,AObj.row .own 1 [x1,x2])])))=(exS++(exN++exA))++[(d1,AObj.row .own 1 [x1,x2])]:=by simp[List.append_assoc]
   have sl1:Sl h0 h S OM.emp ((d1,.row .own 1 [x1,x2])::(exN++exA)):=by
    have hs:(exN++(exA++[(d1,AObj.row .own 1 [x1,x2])])).Sublist ((d2,AObj.row .own 1 [nv,av])::(bm,.map (mI kv) kc)::(exS++(exN++(exA++[(d1,.row .own 1 [x1,x2])])))):=.cons _ (.cons _ (List.sublist_append_right _ _));refine(sl.drop hs).perm ?_;have:=(pm1 (d1,AObj.row .own 1 [x1,x2]) (exN++exA) []).symm;simpa[List.append_assoc]using this
   simp only[dc,bite_f,F42_11,ld2,vb_some];have hone:oneCells [nv,av]=true:=by unfold oneCells;simp[gN.one,gA.one]
   refine Ret.lstA sl1 0 rfl rfl rfl (by simp) hone fun h2 sl2=>?_;rw[setsL_all (by rfl)]at sl2;have sl2:Sl h0 h2 S OM.emp ((d1,.row .own 1 [nv,av])::(exN++exA)):=sl2;have ld1:xLdA 2 (pt d1) h2=some (.agg ⟨[nv,av]⟩):=sl2.ldA (.head _) rfl (by simp);simp only[ld1,vb_some];have sl3:Sl h0 h2 S OM.emp (exN++exA):=sl2.drop (List.sublist_cons_self _ _);obtain⟨S3,le3,sl4,hN⟩:=gN.settleN sl3;obtain⟨S4,le4,sl5,hA⟩:=gA.settleN (rows:=[]) (by rw[List.append_nil];exact sl4);have heq:nxs.length=st.length:=by have:=nb.il;omega
   have lNw:Vw.le (Nw h0 S) (Nw h0 S4):=Nw.mono (le3.trans le4);exact Ret.of ⟨S4,⟨nxs,accs⟩,sl5,⟨nv,av,cN,rfl,hN.mono (Nw.mono le4),gN.length,fun i r hi=>let⟨x,e1,e2⟩:=hNx i r hi;⟨x,e1,e2.mono lNw⟩,hA⟩,st,nr,nb,heq⟩
theorem c42[OkH h](hn:4611686018427387904<=n)(hS:Vw.le S h.cells){bx:Nat}{s:Ss}{cls:List Int}{cv:Value}(sv:Sv S bx s)(hf:s.Fin)(ck:ClsOk s cls)(hcv:SlV S cv (zv (cls.take s.alls.length))):
  Ret (F42 n cl (pt bx) cv (.int .i64 (cls.getD s.alls.length 0)) h) fun v h'=> ∃S' d,Sl h h' S' OM.emp []/\DfV (Nw h S') v d/\NumD s cls d:=by
 have hone:=hf.one;unfold F42;refine Ret.lalloc (Sl.start h hS) zc30 fun h1 d1 sl1=>?_;refine Ret.lalloc sl1 zc30 fun h2 d2 sl2=>?_;refine Ret.lmmk sl2 fun h3 bm sl3=>?_;have sl3:Sl h h3 S OM.emp ((bm,.map (mI []) 0)::(d2,.row .own 1 [nils,nils])::[(d1,.row .own 1 [nils,nils])]):=sl3;obtain⟨t,t1,t2⟩:=ck.num 0 (Nat.zero_le _);have hck:(cls.take s.alls.length)[0]?=some (t:Int):=by rw[List.getElem?_take,if_pos (by omega)];exact t2
 have hDt:cls.getD 0 0=(t:Int):=by rw[List.getD_eq_getElem?_getD,t2];rfl
 obtain⟨b11,o11,cs11,u1,u2,u3⟩:=hcv.at (k:=.i64) (zv_get hck);have l6:=sl3.ldS u2 u3;simp only[vN_eq,u1,vb_some,l6];refine Ret.lmupI sl3 0 rfl (fun p hp=>by cases hp) fun h4 sl4=>?_;have sl4:Sl h h4 S OM.emp ((bm,.map (mI [(((t:Int),0),0)]) 1)::(d2,.row .own 1 [nils,nils])::[(d1,.row .own 1 [nils,nils])]):=sl4;refine Ret.lbs sl4 bs28 fun h5 b0 sl5=>?_;have sl6:Sl h h5 S OM.emp ((d2,.row .own 1 [nils,nils])::(bm,.map (mI [(((t:Int),0),0)]) 1)::([(b0,.row .own 1 [.int .i64 ((0:Nat):Int)])]++([]++([]++[(d1,.row .own 1 [nils,nils])])))):=by
  refine sl5.perm ?_;have h1: [(b0,AObj.row .own 1 [Value.int .i64 ((0:Nat):Int)]),(bm,.map (mI [(((t:Int),0),0)]) 1),(d2,.row .own 1 [nils,nils]),(d1,.row .own 1 [nils,nils])].Perm [(d2,.row .own 1 [nils,nils]),(bm,.map (mI [(((t:Int),0),0)]) 1),(b0,AObj.row .own 1 [Value.int .i64 ((0:Nat):Int)]),(d1,.row .own 1 [nils,nils])]:=
   ((List.Perm.swap _ _ _).trans (.cons _ (List.Perm.swap _ _ _))).trans (List.Perm.swap _ _ _)
  exact h1
 have hst0:([0]:List Nat)[0]?=some 0:=rfl;have hg: ∀{i u:Nat},([0]:List Nat)[i]?=some u->i=0/\u=0:=fun {i u} hi=>by
  have:=(List.getElem?_eq_some_iff.1 hi).1;have e:i=0:=by simp at this;omega
  subst e;exact⟨rfl,by simpa using hi.symm⟩
 refine loop42o (x1:=nils) (x2:=nils) hn sv hf ck hcv (s.alls.length+1) n S h5 _ (.slice (some ⟨b0,0,none⟩) 1 1) [0] [] [] (List.replicate 256 0) (by simp) (by have:=hf.sz;omega) (Vw.le.refl _) sl6 ?_ ?_
 ·refine⟨_,_,nils,nils,_,[],[],[],rfl,⟨rfl,fun k p hk=>?_⟩,.inr ⟨b0,rfl,rfl,rfl,by decide⟩,.inl Gl.nil,(fun i r hi=>by simp at hi),.inl Gl.nil⟩;have hk1:=(List.getElem?_eq_some_iff.1 hk).1;have e:k=0:=by simp at hk1;omega
  subst e;have hp:(((t:Int),0),0)=p:=by simpa using hk
  exact⟨0,rfl,by rw[<-hp,hDt]⟩
 ·refine⟨rfl,fun u hu=>?_,fun i j u v hi hj _=>?_,(fun r hr=>by cases hr),by rw[List.length_replicate],rfl,(fun i q hi=>by simp at hi),by simp,fun i' c' z ht=>?_,fun k h1 h2=>by simp at h2;omega,fun i' c' j k ht=>?_⟩
  ·have:u=0:=by simpa using hu
   omega
  ·have:=(hg hi).1;have:=(hg hj).1;omega
  ·rcases ht with⟨r,hr,_⟩|⟨_,h,_⟩
   ·simp at hr
   ·omega
  ·rcases ht with⟨r,hr,_⟩|⟨_,h,_⟩
   ·simp at hr
   ·omega
end
theorem ab30:abuild Try.prog 30 []=some (.agg ⟨[nils,nils]⟩):=by kernel_rfl
theorem ab90{bp bm b1 b2:Nat}{n1 c1 n2 c2:Nat}:abuild Try.prog 90 [(0,pt bp),(1,.map (some bm)),(2,.slice (some ⟨b1,0,none⟩) n1 c1),(4,.slice (some ⟨b2,0,none⟩) n2 c2)]=some (.agg ⟨[pt bp,.map (some bm),.slice (some ⟨b1,0,none⟩) n1 c1,nils,.slice (some ⟨b2,0,none⟩) n2 c2]⟩):=by kernel_rfl
section
variable {Q:Value->PH->Prop}{n:Nat}{cl cl' cl'':CL}{h h0:PH}{S:Vw}{m:OM}{rows rest:Rws}{K2:Value->PH->R}
theorem Ret.lfillBox(s:Sl h0 h S m rows)(i:Nat){b:Nat}{v:Value}(hi:rows[i]?=some (b,.hole))(hk: ∀h',Sl h0 h' S m (rows.set i (b,.row .own 1 (cellsL v)))->Ret (K2 (.pointer (some ⟨b,0,none⟩)) h') Q):Ret (Go.Am.hb (xfill b h (xBox v hE)) K2) Q:=by
 obtain⟨h1',hp,hg⟩:=hE_push (.row .own 1 (cellsL v));refine Ret.lfill s i hi (v1:=.pointer (some ⟨0,0,none⟩)) (h1:=h1') ?_ hg ?_ hk
 ·unfold xBox xNewP;rw[hp];rfl
 ·unfold atB;rw[seqN_eq]
theorem c39[OkH h](hn:4611686018427387904<=n)(hS:Vw.le S h.cells){v:Value}{l:List Bool}(hv:SlV S v (bvs l))(hl:l.length<1000000): ∃z:Int,pcall (F39 n cl v tt h)=some (.int .i64 z)/\FstI l.length (fun k=>l[k]?=some true) z:=by
 have hlen:=hv.len;have hbl:(bvs l).length=l.length:=by simp[bvs]
 rw[hbl]at hlen;have key: ∀(d q i:Nat),l.length-i<=d->d<q->i<=l.length->(∀k,k<i-> ¬ l[k]?=some true)->
   Ret (lp q (F39_3 n cl) [v,tt,.int .i64 (l.length:Nat),.int .i64 (i:Nat)] h) fun u _=> ∃z:Int,u= .int .i64 z/\FstI l.length (fun k=>l[k]?=some true) z:=by
  intro d
  induction d with
  |zero=>
   intro q i a1 a2 a3 hno;obtain⟨q,rfl⟩: ∃r,q=r+1:=⟨q-1,by omega⟩;rw[lp_succ];have dc:decide (((i:Nat):Int)<((l.length:Nat):Int))=false:=by simp;omega
   simp only[F39_3,F39_2,ucons_cons,xLt_i,dc,vb_some,bite_f];exact Ret.of ⟨-1,rfl,.inl ⟨rfl,fun k hk=>hno k (by omega)⟩⟩
  |succ d ih=>
   intro q i a1 a2 a3 hno
   by_cases hi:i<l.length
   ·obtain⟨q,rfl⟩: ∃r,q=r+1:=⟨q-1,by omega⟩;rw[lp_succ];generalize hL:lp q (F39_3 n cl)=LL;have dc:decide (((i:Nat):Int)<((l.length:Nat):Int))=true:=by simp;omega
    have hy:=List.getElem?_eq_getElem hi;generalize l[i]=x at hy;obtain⟨b1,o1,cs1,e1,e2,e3⟩:=hv.at (k:=.i64) (i:=i) (x:=.bool x) (by simp[bvs,hy]);have l1:=(Sl.start h hS).ldS e2 e3;have htt:tt= .bool true:=rfl;simp only[F39_3,F39_2,F39_1,ucons_cons,xLt_i,dc,vb_some,bite_t,e1,l1,htt];refine Ret.vb abeq' ?_;cases x with
    |true=>
     simp only[beq_self_eq_true,bite_t];exact Ret.of ⟨i,rfl,.inr ⟨i,rfl,hi,hy,hno⟩⟩
    |false=>
     have:(true==false)=false:=rfl;simp only[this,bite_f,F39_0,vN_eq,xAdd_i,wrapN (show i<4611686018427387904 by omega),vb_some];rw[<-hL];have:=ih q (i+1) (by omega) (by omega) (by omega) fun k hk=>by
      by_cases e:k=i
      ·subst e;rw[hy];simp
      ·exact hno k (by omega)
     exact this
   ·exact ih q i (by omega) (by omega) a3 hno
 obtain⟨u,h1,e,z,rfl,hz⟩:=key l.length n 0 (by omega) (by omega) (Nat.zero_le _) (by omega);refine⟨z,?_,hz⟩;unfold F39;simp only[hlen,vb_some,vN_eq];rw[e];exact pcall_some rfl
theorem FstI.sm{n:Nat}{P:Nat->Prop}{z:Int}(h:FstI n P z)(hn:n<1000000):Sm3 z:=by
 rcases h with⟨rfl,_⟩|⟨k,rfl,hk,_⟩
 ·exact .inl rfl
 ·exact .inr ⟨by omega,by omega⟩
theorem Ss.Mk.fin{p:Pp}{a0:Int}{s:Ss}(h:s.Mk p a0)(hnl:s.nexts.length=s.alls.length):s.Fin:=by
 refine⟨hnl,fun i r hr=>(h.row i r hr).1,fun i r c z hr hz=>?_,h.ok.ol,h.ok.one,h.ok.sz⟩;obtain⟨t,_,h2⟩:=(h.row i r hr).2 c z hz;rcases h2 with⟨_,rfl⟩|⟨_,m,rfl,_,hm⟩
 ·exact .inl rfl
 ·have:=(List.getElem?_eq_some_iff.1 hm).1;exact .inr ⟨by omega,by omega⟩
theorem Ss.Mk.osm{p:Pp}{a0:Int}{s:Ss}(h:s.Mk p a0)(ha:Sm3 a0)(hl:p.last.length<1000000): ∀z∈s.oks,Sm3 z:=by
 intro z hz;obtain⟨k,hk⟩:=List.getElem?_of_mem hz
 by_cases e:k=0
 ·subst e;rw[h.acc0]at hk;cases hk;exact ha
 ·have hlt:=(List.getElem?_eq_some_iff.1 hk).1;have hol:=h.ok.ol;exact(h.acc k _ z (by omega) (List.getElem?_eq_getElem (by omega)) hk).sm hl
def OfV(l:List Po)(V:Vw)(v:Value):Prop:=
 (40<l.length/\v= .tuple ⟨[.agg ⟨[nils,nils]⟩,.int .i64 3]⟩)\/(l.length<=40/\ ∃p a0 s,PpOf l p/\FstI l.length (fun k=> ∃po:Po,l[k]?=some po/\po.null=true) a0/\s.Mk p a0/\
  ((2000<s.alls.length/\v= .tuple ⟨[.agg ⟨[nils,nils]⟩,.int .i64 3]⟩)\/(s.Fin/\ ∃cls d dv,v= .tuple ⟨[dv,.int .i64 0]⟩/\DfV V dv d/\ClsOk s cls/\NumD s cls d)))
theorem fst_null{l:List Po}{z:Int}(h:FstI (l.map (·.null)).length (fun k=>(l.map (·.null))[k]?=some true) z):FstI l.length (fun k=> ∃po:Po,l[k]?=some po/\po.null=true) z:=by
 have e: ∀k,(l.map (·.null))[k]?=some true↔ ∃po:Po,l[k]?=some po/\po.null=true:=fun k=>by
  rw[List.getElem?_map,Option.map_eq_some_iff]
 simp only[e,List.length_map]at h;exact h
theorem c16(hn:4611686018427387904<=n)(h109: ∀u v h,cl 109 [u,v] h=F109 n cl' u v h)(h107: ∀v h,cl 107 [v] h=F107 n cl' v h)(h107': ∀v h,cl' 107 [v] h=F107 n cl'' v h)(h99: ∀u v h,cl 99 [u,v] h=F99 n cl' u v h)
  (st:Sl h0 h S OM.emp rows) {av:Value} {l:List Po} (hav:PoL S av l) (hl:l.length<1000000000) (hsz:l.length<=40->tot l<100000) (hin: ∀po∈l,po.In):
  Ret (F16 n cl av h) fun v h'=> ∃S',Vw.le S S'/\Sl h0 h' S' OM.emp rows/\OfV l S' v:=by
 unfold F16;refine Ret.lalloc st zc30 fun h1 v1 sl1=>?_;simp only[hav.len,vb_some,vN_eq,xGt_i]
 by_cases h40:40<l.length
 ·have dc:decide (((40:Nat):Int)<((l.length:Nat):Int))=true:=by simp;omega
  simp only[dc,bite_t,F16_0];refine Ret.vb ab30 ?_;refine Ret.lstA sl1 0 rfl rfl rfl (by simp) rfl fun h2 sl2=>?_;have sl2:Sl h0 h2 S OM.emp ((v1,.row .own 1 [nils,nils])::rows):=sl2;have ld:xLdA 2 (pt v1) h2=some (.agg ⟨[nils,nils]⟩):=sl2.ldA (.head _) rfl (by simp);simp only[ld,vb_some];exact Ret.of ⟨S,Vw.le.refl _,sl2.drop (List.sublist_cons_self _ _),.inl ⟨h40,rfl⟩⟩
 have dc:decide (((40:Nat):Int)<((l.length:Nat):Int))=false:=by simp;omega
 simp only[dc,bite_f,F16_3];refine Ret.hb (c37 (n:=n) (cl:=cl) hn sl1 hav (by omega) (hsz (by omega)) hin) fun v h2 ⟨S2,bp,p,hv,le2,sl2,hpm,hpo⟩=>?_;subst hv;refine Ret.lkp sl2 fun h3 q sl3 hq1 hq2=>?_;have sl3:Sl h0 h3 S2 OM.emp ((q+1+1+1,.hole)::(q+1+1,.hole)::(q+1,.hole)::(q,.hole)::(v1,.row .own 1 [nils,nils])::rows):=sl3;have hpm0:=hpm;obtain⟨ps,w1,w2,w3,w4,a0',a1,a2,a4,a6,⟨a8,a9⟩,a10⟩:=hpm;have l4:xLd (.pointer (some ⟨bp,4,none⟩)) h3=some w4:=sl3.ldS a0' a8;have hbq:bp<q:=hq2 bp _ a0';simp only[xNil_p,vb_some,xFld_p,Nat.zero_add,l4];have av6:avL q 4 [pt bp]=true:=by simp[avL,avV,avV0,av1_t hbq]
 rw[avk_t av6];have hN:=hpo.ok.n;have:=sl3.ok;refine Ret.lfcall sl3 (f38 (n:=n) (cl:=cl) (h:=h3.fzn) (S:=S2) (fun b cs e=>sl3.leS b cs e) a0' a1 (by omega)) fun v h4 ex ⟨b11,hv,he⟩ sl4=>?_;subst hv;subst he;have sl4:Sl h0 h4 S2 OM.emp ((b11,.row .own 1 (bw (List.replicate (p.N / 64+1) 0)))::(q+1+1+1,.hole)::(q+1+1,.hole)::(q+1,.hole)::(q,.hole)::(v1,.row .own 1 [nils,nils])::rows):=sl4;have avt:avL q 4 [w4,tt]=true:=by
  rcases a9 with⟨_,rfl⟩|⟨b,o,c,cs,rfl,hb,_⟩
  ·rfl
  ·have:=hq2 b _ hb;have htt:tt= .bool true:=rfl;simp[avL,avV,avV0,av1_t this,htt]
 rw[avk_t avt];have:=sl4.ok;obtain⟨z,z1,z2⟩:=c39 (n:=n) (cl:=cl) (h:=h4.fzn) (S:=S2) hn (fun b cs e=>sl4.leS b cs e) a9 (by have:=hpo.ok.nl;omega);rw[hpo.null]at z2;have ha0:=fst_null z2;obtain⟨S5,le5,sl5,hb11⟩:=Bx.settle (c:=p.N / 64+1) sl4;have hrl:(List.replicate (p.N / 64+1) 0).length=p.N / 64+1:=by simp
 rw[hrl]at hb11;simp only[z1,vb_some];refine Ret.lfillMM sl5 3 rfl fun h6 sl6=>?_;have sl6:Sl h0 h6 S5 OM.emp ((q+1+1+1,.hole)::(q+1+1,.hole)::(q+1,.hole)::(q,.map [] 0)::(v1,.row .own 1 [nils,nils])::rows):=sl6;refine Ret.lfillBS sl6 2 rfl bs84 fun h7 sl7=>?_;have sl7:Sl h0 h7 S5 OM.emp ((q+1+1+1,.hole)::(q+1+1,.hole)::(q+1,.row .own 1 [.slice (some ⟨b11,0,none⟩) (p.N / 64+1) (p.N / 64+1)])::(q,.map [] 0)::(v1,.row .own 1 [nils,nils])::rows):=sl7;refine Ret.lfillBS sl7 1 rfl bs28 fun h8 sl8=>?_;have sl8:Sl h0 h8 S5 OM.emp ((q+1+1+1,.hole)::(q+1+1,.row .own 1 [.int .i64 z])::(q+1,.row .own 1 [.slice (some ⟨b11,0,none⟩) (p.N / 64+1) (p.N / 64+1)])::(q,.map [] 0)::(v1,.row .own 1 [nils,nils])::rows):=sl8;refine Ret.vb ab90 ?_;refine Ret.lfillBox sl8 0 rfl fun h9 sl9=>?_;have sl9:Sl h0 h9 S5 OM.emp ((q+1+1+1,.row .own 1 [pt bp,.map (some q),.slice (some ⟨q+1,0,none⟩) 1 1,nils,.slice (some ⟨q+1+1,0,none⟩) 1 1])::(q+1+1,.row .own 1 [.int .i64 z])::(q+1,.row .own 1 [.slice (some ⟨b11,0,none⟩) (p.N / 64+1) (p.N / 64+1)])::(q,.map [] 0)::(v1,.row .own 1 [nils,nils])::rows):=sl9;have sl9:Sl h0 h9 S5 OM.emp ((q+1+1+1,.row .own 1 [pt bp,.map (some q),.slice (some ⟨q+1,0,none⟩) 1 1,nils,.slice (some ⟨q+1+1,0,none⟩) 1 1])::(q,.map (mS []) 0)::([(q+1,.row .own 1 [.slice (some ⟨b11,0,none⟩) (p.N / 64+1) (p.N / 64+1)])]++([]++([(q+1+1,.row .own 1 [.int .i64 z])]++(v1,.row .own 1 [nils,nils])::rows)))):=by
  refine sl9.perm (.cons _ ?_);exact((List.Perm.swap _ _ _).trans (.cons _ (List.Perm.swap _ _ _))).trans (List.Perm.swap _ _ _)
 have hz0:Sm3 z:=ha0.sm (by omega);have hms:Ms S5 (q+1+1+1) bp _ ((v1,.row .own 1 [nils,nils])::rows) ⟨[List.replicate (p.N / 64+1) 0],[],[z]⟩:=
  ⟨q,[],0,_,nils,_,[(q+1,.row .own 1 [.slice (some ⟨b11,0,none⟩) (p.N / 64+1) (p.N / 64+1)])],[],[(q+1+1,.row .own 1 [.int .i64 z])],[.slice (some ⟨b11,0,none⟩) (p.N / 64+1) (p.N / 64+1)],[],rfl,.inr ⟨q+1,rfl,rfl,rfl,by show(1:Nat)<_;decide⟩,fun i ws hi=>by
   have h1:=(List.getElem?_eq_some_iff.1 hi).1;have e:i=0:=by simp at h1;omega
   subst e;have:List.replicate (p.N / 64+1) 0=ws:=by simpa using hi
   exact⟨_,rfl,by rw[<-this];exact hb11⟩,.inl Gl.nil,(fun i r hi=>by simp at hi),.inr ⟨q+1+1,rfl,rfl,rfl,by show(1:Nat)<_;decide⟩,rfl,fun i p hp=>by simp at hp⟩
 have hone: ∀{k:Nat}{ws:List Nat},1<=k->([List.replicate (p.N / 64+1) 0]:List (List Nat))[k]?=some ws->False:=fun {k ws} h1 h2=>by
  have:=(List.getElem?_eq_some_iff.1 h2).1;simp at this;omega
 have hmk:Ss.Mk p z ⟨[List.replicate (p.N / 64+1) 0],[],[z]⟩:=by
  refine⟨⟨fun ws hw=>?_,fun i j a h1 h2 h3=>(hone h1 h3).elim,by show 1<=1;omega,by show 1<=3000;omega,rfl,by show 0<=1;omega⟩,fun k ws h1 h2=>(hone h1 h2).elim,fun k r hr=>by simp at hr,rfl,fun k ws a h1 h2=>(hone h1 h2).elim,fun k ws h1 h2=>(hone h1 h2).elim⟩;have:ws=List.replicate (p.N / 64+1) 0:=by simpa using hw
  rw[this];exact Bk.rep _
 refine Ret.hb (c40 (n:=n) (cl:=cl) (cl':=cl') (cl'':=cl'') hn h109 h107 h107' sl9 ((hpm0.mono le5)) hpo.ok hms hmk rfl (by show 1<=2000;omega)) fun v h10 ⟨bb,S6,rows6,s6,hv,le6,sl10,ms6,mk6,ht6,hf6⟩=>?_;subst hv;have leT:Vw.le S S6:=le2.trans (le5.trans le6);obtain⟨A,hA,hfr⟩:=ms6.frame;subst hA;have sl10v:=sl10.perm (rows':=(v1,.row .own 1 [nils,nils])::(A++rows)) List.perm_middle;simp only[xNot_b,vb_some];cases bb with
 |false=>
  simp only[Bool.not_false,bite_t,F16_1];refine Ret.vb ab30 ?_;refine Ret.lstA sl10v 0 rfl rfl rfl (by simp) rfl fun h11 sl11=>?_;have sl11:Sl h0 h11 S6 OM.emp ((v1,.row .own 1 [nils,nils])::(A++rows)):=sl11;have ld:xLdA 2 (pt v1) h11=some (.agg ⟨[nils,nils]⟩):=sl11.ldA (.head _) rfl (by simp);simp only[ld,vb_some,vN_eq];exact Ret.of ⟨S6,leT,sl11.drop (.cons _ (List.sublist_append_right _ _)),.inr ⟨by omega,p,z,s6,hpo,ha0,mk6,.inl ⟨hf6 rfl,rfl⟩⟩⟩
 |true=>
  obtain⟨hnl6,hle6⟩:=ht6 rfl;have fin:=mk6.fin hnl6;have hosm:=mk6.osm hz0 (by rw[hpo.ll];omega);simp only[Bool.not_true,bite_f,F16_2];have msx:=ms6;obtain⟨bk,kv,c,av',nv',ov',exA,exN,exO,cA,cN,hrows,gA,hAx,gN,hNx,gO,hkv⟩:=msx;have sv6:Sv (vall S6 (over (A++(v1,.row .own 1 [nils,nils])::rows) OM.emp)) (q+1+1+1) s6:=by
   refine⟨_,av',nv',ov',cN,vall_m (sl10.mem (by rw[hrows];exact .head _)),rfl,gA.len,rfl,gN.view sl10 (fun pr hpr=>?_),fun i r hi=>?_,rfl,gO.view sl10 (fun pr hpr=>?_)⟩
   ·rw[hrows];exact .tail _ (.tail _ (List.mem_append_right _ (List.mem_append_left _ hpr)))
   ·obtain⟨x,e1,e2⟩:=hNx i r hi;exact⟨x,e1,e2.mono sl10.sm.S_all⟩
   ·rw[hrows];exact .tail _ (.tail _ (List.mem_append_right _ (List.mem_append_right _ (List.mem_append_left _ hpr))))
  have:=sl10.ok;refine Ret.lfcall sl10 (f41 (n:=n) (cl:=cl) (cl':=cl') (h:=h10.fzn) hn h99 sl10.fz sv6 fin hosm) fun v h11 ex ⟨bc,cc,cls,hv,he,hck⟩ sl11=>?_;subst hv;subst he;have sl11:Sl h0 h11 S6 OM.emp ((bc,.row .own 1 (zv cls))::(A++(v1,.row .own 1 [nils,nils])::rows)):=sl11;simp only[xExt_t',List.getElem?_cons_zero,List.getElem?_cons_succ,vb_some];have:=sl11.ok;have hbc:vall S6 (over ((bc,.row .own 1 (zv cls))::(A++(v1,.row .own 1 [nils,nils])::rows)) OM.emp) bc=some (zv cls):=vall_m (sl11.mem (.head _));have hcl:=hck.len;have hcv:SlV (vall S6 (over ((bc,.row .own 1 (zv cls))::(A++(v1,.row .own 1 [nils,nils])::rows)) OM.emp)) (.slice (some ⟨bc,0,none⟩) s6.alls.length cc) (zv (cls.take s6.alls.length)):=by
   have hln:(zv (cls.take s6.alls.length)).length=s6.alls.length:=by rw[zv_len,List.length_take];omega
   refine .inr ⟨bc,0,cc,zv cls,by rw[hln],hbc,by rw[hln,zv_len];omega,fun i x hx=>?_⟩;have hil:=(List.getElem?_eq_some_iff.1 hx).1;rw[hln]at hil;rw[Nat.zero_add];unfold zv at hx ⊢;rw[List.getElem?_map,List.getElem?_take,if_pos hil]at hx;rw[List.getElem?_map];exact hx
  have sv11:Sv (vall S6 (over ((bc,.row .own 1 (zv cls))::(A++(v1,.row .own 1 [nils,nils])::rows)) OM.emp)) (q+1+1+1) s6:=by
   refine⟨_,av',nv',ov',cN,vall_m (sl11.mem (by rw[hrows];exact .tail _ (.head _))),rfl,gA.len,rfl,gN.view sl11 (fun pr hpr=>?_),fun i r hi=>?_,rfl,gO.view sl11 (fun pr hpr=>?_)⟩
   ·rw[hrows];exact .tail _ (.tail _ (.tail _ (List.mem_append_right _ (List.mem_append_left _ hpr))))
   ·obtain⟨x,e1,e2⟩:=hNx i r hi;exact⟨x,e1,e2.mono sl11.sm.S_all⟩
   ·rw[hrows];exact .tail _ (.tail _ (.tail _ (List.mem_append_right _ (List.mem_append_right _ (List.mem_append_left _ hpr)))))
  refine Ret.lfcallN sl11 (P:=fun v V=> ∃d,DfV V v d/\NumD s6 cls d) (fun v V W le ⟨d,h1,h2⟩=>⟨d,h1.mono le,h2⟩) ((c42 (n:=n) (cl:=cl) (h:=h11.fzn) hn sl11.fz sv11 fin hck hcv).mono fun v h' ⟨S',d,q1,q2,q3⟩=>⟨S',q1,d,q2,q3⟩) fun dv h12 S7 le7 sl12 ⟨d,hdv,hnd⟩=>?_;have sl12:Sl h0 h12 S7 OM.emp ((v1,.row .own 1 [nils,nils])::(A++rows)):=(sl12.drop (List.sublist_cons_self _ _)).perm List.perm_middle;have hdv0:=hdv;obtain⟨dn,da,dvs,rfl,d1,d2,d3,d4⟩:=hdv;have hone2:oneCells [dn,da]=true:=by unfold oneCells;simp[d1.one,d4.one]
  refine Ret.lstA sl12 0 rfl rfl rfl (by simp) hone2 fun h13 sl13=>?_;rw[setsL_all (by rfl)]at sl13;have sl13:Sl h0 h13 S7 OM.emp ((v1,.row .own 1 [dn,da])::(A++rows)):=sl13;have ld:xLdA 2 (pt v1) h13=some (.agg ⟨[dn,da]⟩):=sl13.ldA (.head _) rfl (by simp);simp only[ld,vb_some,vN_eq];exact Ret.of ⟨S7,leT.trans le7,sl13.drop (.cons _ (List.sublist_append_right _ _)),.inr ⟨by omega,p,z,s6,hpo,ha0,mk6,.inr ⟨fin,cls,d,_,rfl,hdv0,hck,hnd⟩⟩⟩
end
def DP(po:Po):List Nat->Nat->Prop
 | [],_=>False
 |c::cs,y=>nowP po (fun i=>i∈po.first/\takesB po c i=true) cs y
theorem nowP_snoc{po:Po}: ∀(cs:List Nat)(X:Nat->Prop)(c i:Nat),nowP po X (cs++[c]) i↔(∃y,nowP po X cs y/\i∈po.follow.getD y [])/\takesB po c i=true
 | [],X,c,i=>Iff.rfl
 |d::cs,X,c,i=>nowP_snoc cs _ c i
theorem DP_snoc{po:Po}{w:List Nat}{c y:Nat}:DP po (w++[c]) y↔(if w=[]then y∈po.first else∃x,DP po w x/\y∈po.follow.getD x [])/\takesB po c y=true:=by
 cases w with
 |nil=>exact Iff.rfl
 |cons d cs=>
  rw[if_neg (by simp)];exact nowP_snoc cs _ c y
theorem takesB_lt{po:Po}{c y:Nat}(h:takesB po c y=true):y<po.sets.length:=by
 unfold takesB at h;rw[Bool.and_eq_true,decide_eq_true_eq]at h;exact h.1
theorem DP_lt{po:Po}{w:List Nat}{y:Nat}(h:DP po w y):y<po.sets.length:=by
 rcases List.eq_nil_or_concat w with rfl|⟨v,c,rfl⟩
 ·exact h.elim
 ·rw[List.concat_eq_append]at h;exact takesB_lt (DP_snoc.1 h).2
theorem takesP_DP{po:Po}{w:List Nat}(hw:w≠[]):takesP po w↔ ∃y,DP po w y/\y∈po.last:=by
 cases w with
 |nil=>exact absurd rfl hw
 |cons c cs=>exact Iff.rfl
def runm(s:Ss)(q:Nat)(w:List Nat):Nat:=w.foldl (fun q c=>mv s q c) q
theorem runm_snoc{s:Ss}{q:Nat}{w:List Nat}{c:Nat}:runm s q (w++[c])=mv s (runm s q w) c:=by
 unfold runm;rw[List.foldl_append];rfl
theorem mv_n{s:Ss}{c:Nat}:mv s s.alls.length c=s.alls.length:=by
 unfold mv;rw[if_neg (by omega)]
def SetIs(l:List Po)(s:Ss)(q:Nat)(D:Po->Nat->Prop):Prop:=
 (q=s.alls.length/\ ∀(k:Nat) po y,l[k]?=some po-> ¬ D po y)\/(1<=q/\q<s.alls.length/\ ∀g,hs (s.alls.getD q []) g=true↔ ∃k po y,l[k]?=some po/\g=off l k+y/\D po y)
section
variable {l:List Po}{p:Pp}{a0:Int}{s:Ss}
theorem mv_tgt(hmk:s.Mk p a0)(hf:s.Fin){i c:Nat}(hi:i<s.alls.length)(hc:c<256):
  (mv s i c=s.alls.length/\ ∀g, ¬(MayP p s.alls i g/\hs (p.takes.getD c []) g=true))\/(1<=mv s i c/\mv s i c<s.alls.length/\ ∀g,hs (s.alls.getD (mv s i c) []) g=true↔MayP p s.alls i g/\hs (p.takes.getD c []) g=true):=by
 have hr:=List.getElem?_eq_getElem (l:=s.nexts) (i:=i) (by rw[hf.nl];exact hi);have hrl:=hf.rl i _ hr;have hz:=List.getElem?_eq_getElem (l:=s.nexts[i]'(by rw[hf.nl];exact hi)) (i:=c) (by omega);have hmz:=mvZ_at hr hz;obtain⟨t,h1,h2⟩:=(hmk.row i _ hr).2 c _ hz;rcases h2 with⟨h2,h3⟩|⟨h2,m,h3,h4,h5⟩
 ·left
  refine⟨by unfold mv;rw[if_pos hi,hmz,if_pos h3],fun g hg=>?_⟩;have:=(h1.2 g).2 hg;rw[h2 g]at this;cases this
 ·right
  have hm:mv s i c=m:=by unfold mv;rw[if_pos hi,hmz,h3,if_neg (by omega)];simp
  have hml:=(List.getElem?_eq_some_iff.1 h5).1;have hD:s.alls.getD m []=t:=by rw[List.getD_eq_getElem?_getD,h5];rfl
  rw[hm];exact⟨h4,hml,fun g=>by rw[hD];exact h1.2 g⟩
theorem set_run(hpo:PpOf l p)(hmk:s.Mk p a0)(hf:s.Fin): ∀(n:Nat)(w:List Nat),w.length=n->w≠[]->(∀c∈w,c<256)->SetIs l s (runm s 0 w) (fun po y=>DP po w y):=by
 intro n
 induction n with
 |zero=>intro w hl hw;exact absurd (List.eq_nil_of_length_eq_zero hl) hw
 |succ n ih=>
  intro w hl hw hb;obtain⟨v,c,rfl⟩: ∃v c,w=v++[c]:=by
   rcases List.eq_nil_or_concat w with rfl|⟨v,c,rfl⟩
   ·exact absurd rfl hw
   ·exact⟨v,c,by rw[List.concat_eq_append]⟩
  have hc:c<256:=hb c (by simp);rw[runm_snoc];have hone:=hf.one;have may:runm s 0 v<s.alls.length-> ∀g,(MayP p s.alls (runm s 0 v) g/\hs (p.takes.getD c []) g=true)↔ ∃k po y,l[k]?=some po/\g=off l k+y/\DP po (v++[c]) y:=by
   intro hq g;rw[hpo.tks c hc];constructor
   ·rintro⟨h1,k,po,y,h2,h3,h4,rfl⟩;refine⟨k,po,y,h2,rfl,DP_snoc.2 ⟨?_,h4⟩⟩
    by_cases hv:v=[]
    ·subst hv;rw[if_pos rfl];have h1:hs p.first (off l k+y)=true:=h1;obtain⟨k',po',y',e1,e2,e3,e4⟩:=(hpo.first _).1 h1;obtain⟨rfl,rfl⟩:=off_inj h2 e1 h3 e3 e4;rw[h2]at e1;cases e1;exact e2
    ·rw[if_neg hv];rcases ih v (by simp at hl;exact hl) hv (fun d hd=>hb d (by simp[hd]))with⟨e,_⟩|⟨e1,e2,e3⟩
     ·omega
     ·unfold MayP at h1;rw[if_neg (by omega)]at h1;obtain⟨x,x1,x2,x3⟩:=h1;obtain⟨k1,po1,y1,f1,rfl,f3⟩:=(e3 x).1 x2;have hfo:=List.getElem?_eq_getElem (l:=p.follow) (i:=off l k1+y1) (by rw[hpo.ok.fl];exact x1);have hD:p.follow.getD (off l k1+y1) []=p.follow[off l k1+y1]'(by rw[hpo.ok.fl];exact x1):=by rw[List.getD_eq_getElem?_getD,hfo];rfl
      rw[hD]at x3;obtain⟨k2,po2,y2,z2,g1,g2,g3,g4,g5,g6⟩:=(hpo.fol _ _ hfo _).1 x3;have hy1:=DP_lt f3;obtain⟨rfl,rfl⟩:=off_inj f1 g1 hy1 g2 g3;rw[f1]at g1;cases g1;obtain⟨rfl,rfl⟩:=off_inj h2 f1 h3 g5 g6;rw[h2]at f1;cases f1;exact⟨y1,f3,g4⟩
   ·rintro⟨k,po,y,h2,rfl,h3⟩;obtain⟨h4,h5⟩:=DP_snoc.1 h3;have hy:=takesB_lt h5;refine⟨?_,k,po,y,h2,hy,h5,rfl⟩
    by_cases hv:v=[]
    ·subst hv;rw[if_pos rfl]at h4
     show hs p.first (off l k+y)=true
     exact(hpo.first _).2 ⟨k,po,y,h2,h4,hy,rfl⟩
    ·rw[if_neg hv]at h4;obtain⟨x,x1,x2⟩:=h4;rcases ih v (by simp at hl;exact hl) hv (fun d hd=>hb d (by simp[hd]))with⟨e,_⟩|⟨e1,e2,e3⟩
     ·omega
     ·have hxl:=DP_lt x1;have hoff:=off_lt h2 hxl;have hN:p.N=tot l:=hpo.N;unfold MayP;rw[if_neg (by omega)];refine⟨off l k+x,by omega,(e3 _).2 ⟨k,po,x,h2,rfl,x1⟩,?_⟩;have hfo:=List.getElem?_eq_getElem (l:=p.follow) (i:=off l k+x) (by rw[hpo.ok.fl];omega);have hD:p.follow.getD (off l k+x) []=p.follow[off l k+x]'(by rw[hpo.ok.fl];omega):=by rw[List.getD_eq_getElem?_getD,hfo];rfl
      rw[hD];exact(hpo.fol _ _ hfo _).2 ⟨k,po,x,y,h2,hxl,rfl,x2,hy,rfl⟩
  by_cases hq:runm s 0 v<s.alls.length
  ·rcases mv_tgt hmk hf hq hc with⟨h1,h2⟩|⟨h1,h2,h3⟩
   ·refine .inl ⟨h1,fun k po y h3 h4=>h2 _ ((may hq _).2 ⟨k,po,y,h3,rfl,h4⟩)⟩
   ·exact .inr ⟨h1,h2,fun g=>(h3 g).trans (may hq g)⟩
  ·
   have hv:v≠[]:=by
    rintro rfl;have:runm s 0 []=0:=rfl;omega
   rcases ih v (by simp at hl;exact hl) hv (fun d hd=>hb d (by simp[hd]))with⟨e1,e2⟩|⟨e1,e2,e3⟩
   ·rw[e1,mv_n];refine .inl ⟨rfl,fun k po y h3 h4=>?_⟩;obtain⟨h5,_⟩:=DP_snoc.1 h4;rw[if_neg hv]at h5;obtain⟨x,x1,_⟩:=h5;exact e2 k po x h3 x1
   ·exact absurd e2 hq
theorem FstI.congr{n:Nat}{P P':Nat->Prop}{z:Int}(h: ∀k,k<n->(P k↔P' k))(hf:FstI n P z):FstI n P' z:=by
 rcases hf with⟨h1,h2⟩|⟨k,h1,h2,h3,h4⟩
 ·exact .inl ⟨h1,fun k hk hp=>h2 k hk ((h k hk).2 hp)⟩
 ·exact .inr ⟨k,h1,h2,(h k h2).1 h3,fun j hj hp=>h4 j hj ((h j (by omega)).2 hp)⟩
theorem FstI.uniq{n:Nat}{P:Nat->Prop}{y z:Int}(h:FstI n P y)(h':FstI n P z):y=z:=by
 rcases h with⟨rfl,h2⟩|⟨k,rfl,h2,h3,h4⟩<;>rcases h' with⟨rfl,g2⟩|⟨j,rfl,g2,g3,g4⟩
 ·rfl
 ·exact absurd g3 (h2 j g2)
 ·exact absurd h3 (g2 k h2)
 ·rcases Nat.lt_trichotomy k j with h|h|h
  ·exact absurd h3 (g4 k h)
  ·rw[h]
  ·exact absurd g3 (h4 j h)
theorem acc_run(hpo:PpOf l p)(hmk:s.Mk p a0)(hf:s.Fin)(ha0:FstI l.length (fun k=> ∃po:Po,l[k]?=some po/\po.null=true) a0){w:List Nat}(hb: ∀c∈w,c<256):FstI l.length (fun k=> ∃po,l[k]?=some po/\takesP po w) (accv s (runm s 0 w)):=by
 have hone:=hf.one;have hol:=hf.ol
 by_cases hw:w=[]
 ·subst hw;have e:accv s (runm s 0 [])=a0:=by
   show(s.oks++[-1]).getD 0 (-1)=a0
   rw[List.getD_eq_getElem?_getD,List.getElem?_append_left (by omega),hmk.acc0];rfl
  rw[e];exact ha0
 ·rcases set_run hpo hmk hf _ w rfl hw hb with⟨e1,e2⟩|⟨e1,e2,e3⟩
  ·have e:accv s (runm s 0 w)= -1:=by
    rw[e1];unfold accv;rw[List.getD_eq_getElem?_getD,List.getElem?_append_right (by omega),show s.alls.length-s.oks.length=0 by omega];rfl
   rw[e];refine .inl ⟨rfl,fun k hk ⟨po,h1,h2⟩=>?_⟩;obtain⟨y,h3,_⟩:=(takesP_DP hw).1 h2;exact e2 k po y h1 h3
  ·have hx:=List.getElem?_eq_getElem e2;have hD:s.alls.getD (runm s 0 w) []=s.alls[runm s 0 w]:=by rw[List.getD_eq_getElem?_getD,hx];rfl
   have ho:=List.getElem?_eq_getElem (l:=s.oks) (i:=runm s 0 w) (by omega);have e:accv s (runm s 0 w)=s.oks[runm s 0 w]'(by omega):=by
    unfold accv;rw[List.getD_eq_getElem?_getD,List.getElem?_append_left (by omega),ho];rfl
   rw[e];have hfi:=hmk.acc _ _ _ e1 hx ho;rw[hpo.ll]at hfi;refine hfi.congr fun k hk=>?_;have hlk:=List.getElem?_eq_getElem (l:=p.last) (i:=k) (by rw[hpo.ll];exact hk);have hDl:p.last.getD k []=p.last[k]'(by rw[hpo.ll];exact hk):=by rw[List.getD_eq_getElem?_getD,hlk];rfl
   rw[hDl, <-hD];constructor
   ·rintro⟨g,h1,h2⟩;obtain⟨po,y,f1,f2,f3,rfl⟩:=(hpo.last k _ hlk g).1 h1;obtain⟨k',po',y',g1,g2,g3⟩:=(e3 _).1 h2;obtain⟨rfl,rfl⟩:=off_inj f1 g1 f3 (DP_lt g3) g2;rw[f1]at g1;cases g1;exact⟨po,f1,(takesP_DP hw).2 ⟨y,g3,f2⟩⟩
   ·rintro⟨po,f1,h1⟩;obtain⟨y,h2,h3⟩:=(takesP_DP hw).1 h1;exact⟨off l k+y,(hpo.last k _ hlk _).2 ⟨po,y,f1,h3,DP_lt h2,rfl⟩,(e3 _).2 ⟨k,po,y,f1,rfl,h2⟩⟩
end
def dstep(d:Dfa)(i:Int)(c:Nat):Int:=if i<0 then -1 else(d.next.getD i.toNat []).getD c (-1)
def drun(d:Dfa)(i:Int)(w:List Nat):Int:=w.foldl (dstep d) i
def dacc(d:Dfa)(i:Int):Int:=if i<0 then -1 else d.acc.getD i.toNat (-1)
def RelD(s:Ss)(cls:List Int)(st:List Nat)(i:Int)(q:Nat):Prop:=
 (i= -1/\cls.getD q 0=cls.getD s.alls.length 0)\/ ∃(k u:Nat),i=k/\st[k]?=some u/\cls.getD u 0=cls.getD q 0
section
variable {l:List Po}{p:Pp}{a0:Int}{s:Ss}{cls:List Int}{d:Dfa}{st:List Nat}{nr:List Int}
theorem Nb.tb{nxs:List (List Int)}{accs:List Int}{k c:Nat}(nb:Nb s cls st nxs accs nr 0)(hl:nxs.length=st.length)(hk:k<st.length)(hc:c<256): ∃r z,nxs[k]?=some r/\r[c]?=some z/\(nxs.getD k []).getD c (-1)=z/\Tb nxs nr 0 k c z:=by
 have hr:=List.getElem?_eq_getElem (l:=nxs) (i:=k) (by omega);have hrl:=nb.rl _ (List.getElem_mem (l:=nxs) (n:=k) (by omega));have hz:=List.getElem?_eq_getElem (l:=nxs[k]'(by omega)) (i:=c) (by omega);refine⟨_,_,hr,hz,?_,.inl ⟨_,hr,hz⟩⟩;have e1:nxs.getD k []=nxs[k]'(by omega):=by rw[List.getD_eq_getElem?_getD,hr];rfl
 rw[e1,List.getD_eq_getElem?_getD,hz];rfl
theorem RelD.step(hf:s.Fin)(ck:ClsOk s cls)(nb:Nb s cls st d.next d.acc nr 0)(hl:d.next.length=st.length){i:Int}{q c:Nat}(hq:q<=s.alls.length)(hc:c<256)(h:RelD s cls st i q):RelD s cls st (dstep d i c) (mv s q c):=by
 rcases h with⟨rfl,h⟩|⟨k,u,rfl,h1,h2⟩
 ·refine .inl ⟨rfl,?_⟩;have:=ck.stab q s.alls.length hq (Nat.le_refl _) h c hc;rw[mv_n]at this;exact this
 ·have hk:=(List.getElem?_eq_some_iff.1 h1).1;obtain⟨r,z,hr,hz,hD,ht⟩:=nb.tb hl hk hc;have hu:=nb.stl u (List.mem_of_getElem? h1);have hst:=ck.stab u q (by omega) hq h2 c hc;have e:dstep d ((k:Nat):Int) c=z:=by
   unfold dstep;rw[if_neg (by omega)];exact hD
  rw[e];obtain⟨q',hq',he⟩:=nb.e k c z ht;rw[h1]at hq';cases hq';rcases he with⟨e1,rfl⟩|⟨e1,j,rfl,u',e2,e3⟩
  ·exact .inl ⟨rfl,by rw[<-hst];exact e1⟩
  ·exact .inr ⟨j,u',rfl,e2,by rw[e3,hst]⟩
theorem RelD.run(hf:s.Fin)(ck:ClsOk s cls)(nb:Nb s cls st d.next d.acc nr 0)(hl:d.next.length=st.length): ∀(w:List Nat){i:Int}{q:Nat},q<=s.alls.length->(∀c∈w,c<256)->RelD s cls st i q->RelD s cls st (drun d i w) (runm s q w)
 | [],i,q,hq,hw,h=>h
 |c::w,i,q,hq,hw,h=>RelD.run hf ck nb hl w (mv_le hf q c) (fun d hd=>hw d (.tail _ hd)) (h.step hf ck nb hl hq (hw c (.head _)))
theorem runm_le(hf:s.Fin){w:List Nat}{q:Nat}(hq:q<=s.alls.length):runm s q w<=s.alls.length:=by
 rcases List.eq_nil_or_concat w with rfl|⟨v,c,rfl⟩
 ·exact hq
 ·rw[List.concat_eq_append,runm_snoc];exact mv_le hf _ _
theorem accv_n(hf:s.Fin):accv s s.alls.length= -1:=by
 have:=hf.ol;unfold accv;rw[List.getD_eq_getElem?_getD,List.getElem?_append_right (by omega),show s.alls.length-s.oks.length=0 by omega];rfl
theorem accv_lt(hf:s.Fin){q:Nat}(hq:q<s.alls.length):s.oks[q]?=some (accv s q):=by
 have:=hf.ol;have ho:=List.getElem?_eq_getElem (l:=s.oks) (i:=q) (by omega);rw[ho];unfold accv;rw[List.getD_eq_getElem?_getD,List.getElem?_append_left (by omega),ho];rfl
theorem RelD.acc(hf:s.Fin)(ck:ClsOk s cls)(nb:Nb s cls st d.next d.acc nr 0)(hl:d.next.length=st.length){i:Int}{q:Nat}(hq:q<=s.alls.length)(h:RelD s cls st i q):dacc d i=accv s q:=by
 rcases h with⟨rfl,h⟩|⟨k,u,rfl,h1,h2⟩
 ·rw[ck.acc q s.alls.length hq (Nat.le_refl _) h,accv_n hf];rfl
 ·have hk:=(List.getElem?_eq_some_iff.1 h1).1;have hu:=nb.stl u (List.mem_of_getElem? h1);have ha:=nb.acc k u (by omega) h1;rw[accv_lt hf hu]at ha;rw[<-ck.acc u q (by omega) hq h2];unfold dacc;rw[if_neg (by omega),List.getD_eq_getElem?_getD]
  show(d.acc[((k:Nat):Int).toNat]?).getD (-1)=_
  rw[show((k:Nat):Int).toNat=k from rfl,ha];rfl
theorem RelD.start(nb:Nb s cls st d.next d.acc nr 0):RelD s cls st 0 0:=.inr ⟨0,0,rfl,nb.st0,rfl⟩
theorem of_run(hpo:PpOf l p)(hmk:s.Mk p a0)(hf:s.Fin)(ha0:FstI l.length (fun k=> ∃po:Po,l[k]?=some po/\po.null=true) a0)(ck:ClsOk s cls)(hd:NumD s cls d){w:List Nat}(hb: ∀c∈w,c<256):FstI l.length (fun k=> ∃po,l[k]?=some po/\takesP po w) (dacc d (drun d 0 w)):=by
 obtain⟨st,nr,nb,hl⟩:=hd;have h:=RelD.run hf ck nb hl w (Nat.zero_le _) hb (RelD.start nb);rw[h.acc hf ck nb hl (runm_le hf (Nat.zero_le _))];exact acc_run hpo hmk hf ha0 hb
end
end Go.Am
