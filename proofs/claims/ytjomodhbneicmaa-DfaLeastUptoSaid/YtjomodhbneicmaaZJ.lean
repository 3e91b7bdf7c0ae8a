import Derived.Test.YtjomodhbneicmaaZG
import Derived.Test.YtjomodhbneicmaaZW
import Derived.Test.YtjomodhbneicmaaRows
import Derived.Test.YtjomodhbneicmaaZT
import Derived.Test.YtjomodhbneicmaaZF
set_option linter.unusedSimpArgs false
set_option linter.unusedVariables false
namespace Go.Am
open Go Go.RowKit Go.Proofs
def rawS(N:Nat)(nxs:List (List Int))(oks:List Int):Ss:=⟨List.replicate N [],nxs,oks⟩
theorem rawS_n{N:Nat}{nxs:List (List Int)}{oks:List Int}:(rawS N nxs oks).alls.length=N:=by unfold rawS;simp
theorem rawS_mv{N:Nat}{nxs:List (List Int)}{oks:List Int}(i c:Nat):mv (rawS N nxs oks) i c=if i<N then(if entZ nxs i c= -1 then N else(entZ nxs i c).toNat)else N:=by
 unfold mv;rw[rawS_n];rfl
theorem rawS_acc{N:Nat}{nxs:List (List Int)}{oks:List Int}(hol:oks.length=N)(i:Nat):accv (rawS N nxs oks) i=if i<N then oks.getD i (-1)else -1:=by
 unfold accv
 show(oks++[-1]).getD i (-1)=_
 rw[List.getD_eq_getElem?_getD]
 by_cases h:i<N
 ·rw[if_pos h,List.getElem?_append_left (by omega),List.getD_eq_getElem?_getD]
 ·rw[if_neg h,List.getElem?_append_right (by omega)]
  by_cases e:i-oks.length=0
  ·rw[e];rfl
  ·rw[List.getElem?_eq_none (by simp;omega)];rfl
def prn(bs:List Bool)(z:Int):Int:=if 0<=z/\bs[z.toNat]?≠some true then -1 else z
structure Prn(N:Nat)(nxs nx2:List (List Int))(bs:List Bool):Prop where
 ok:NxOk N nxs
 ok2:NxOk N nx2
 ent: ∀i c,i<N->c<256->entZ nx2 i c=prn bs (entZ nxs i c)
section
variable {N:Nat}{nxs nx2:List (List Int)}{bs:List Bool}{oks cls:List Int}
theorem Prn.to(h:Prn N nxs nx2 bs){i c:Nat}(hi:i<N)(hc:c<256):(entZ nx2 i c= -1/\(entZ nxs i c= -1\/ ∃k:Nat,k<N/\entZ nxs i c=k/\bs[k]?≠some true))\/ ∃k:Nat,k<N/\entZ nxs i c=k/\entZ nx2 i c=k/\bs[k]?=some true:=by
 have e:=h.ent i c hi hc;have hz:=(h.ok.get hi hc).choose_spec.2.2;rcases hz with hz|⟨hz1,hz2⟩
 ·rw[hz]at e;exact .inl ⟨by rw[e];rfl,.inl hz⟩
 ·obtain⟨k,hk⟩: ∃k:Nat,entZ nxs i c=k:=⟨(entZ nxs i c).toNat,by omega⟩
  by_cases hb:bs[k]?=some true
  ·refine .inr ⟨k,by omega,hk,?_,hb⟩;rw[e,hk];unfold prn;rw[if_neg];rintro⟨_,h⟩;exact h hb
  ·refine .inl ⟨?_,.inr ⟨k,by omega,hk,hb⟩⟩;rw[e,hk];unfold prn;rw[if_pos];exact⟨by omega,hb⟩
theorem Prn.live(h:Prn N nxs nx2 bs)(hb: ∀i,i<N->(bs[i]?=some true↔Live nxs oks i)){i:Nat}(hi:i<N):Live nx2 oks i↔bs[i]?=some true:=by
 constructor
 ·intro hl;rw[hb i hi]
  induction hl with
  |acc i h=>exact .acc i h
  |step i c k h1 h2 h3 ih=>
   rcases h.to hi h1 with⟨q1,_⟩|⟨k',q1,q2,q3,q4⟩
   ·rw[q1]at h2;omega
   ·rw[q3]at h2;have:k'=k:=by omega
    subst this;exact .step i c k' h1 q2 (ih q1)
 ·intro hl;rw[hb i hi]at hl
  induction hl with
  |acc i h=>exact .acc i h
  |step i c k h1 h2 h3 ih=>
   rcases h.to hi h1 with⟨_,q2|⟨k',q1,q2,q3⟩⟩|⟨k',q1,q2,q3,q4⟩
   ·rw[q2]at h2;omega
   ·rw[q2]at h2;have:k'=k:=by omega
    subst this;exact absurd ((hb k' q1).2 h3) q3
   ·rw[q2]at h2;have:k'=k:=by omega
    subst this;exact .step i c k' h1 q3 (ih q1)
def cls2(N:Nat)(bs:List Bool)(cls:List Int):List Int:=(List.range N).map (fun i=>if bs[i]?=some true then cls.getD i 0 else(N:Int))++[(N:Int)]
theorem cls2_at{j:Nat}(hj:j<=N):(cls2 N bs cls)[j]?=some (if j<N/\bs[j]?=some true then cls.getD j 0 else(N:Int)):=by
 unfold cls2
 by_cases h:j<N
 ·rw[List.getElem?_append_left (by simp;exact h),List.getElem?_map,List.getElem?_range h,Option.map_some];simp[h]
 ·rw[List.getElem?_append_right (by simp;omega)];have:j-(List.map (fun i=>if bs[i]?=some true then cls.getD i 0 else(N:Int)) (List.range N)).length=0:=by simp;omega
  rw[this];simp[h]
theorem cls2_get{j:Nat}(hj:j<=N):(cls2 N bs cls).getD j 0=if j<N/\bs[j]?=some true then cls.getD j 0 else(N:Int):=by
 rw[List.getD_eq_getElem?_getD,cls2_at hj];rfl
theorem ClsR.lt(h:ClsR nx2 oks cls N){j:Nat}(hj:j<N):0<=cls.getD j 0/\cls.getD j 0<N:=by
 obtain⟨t,h1,h2⟩:=h.num j hj;rw[getD_of h2];omega
theorem ClsR.live(hok:NxOk N nx2)(h:ClsR nx2 oks cls N){u:Nat}(hl:Live nx2 oks u):u<N-> ∀v,v<N->cls.getD u 0=cls.getD v 0->Live nx2 oks v:=by
 induction hl with
 |acc i h1=>intro hu v hv he;exact .acc v (by rw[<-h.ci.acc i v hu hv he];exact h1)
 |step i c k h1 h2 h3 ih=>
  intro hu v hv he;obtain⟨q1,q2⟩:=h.stab i v hu hv he c h1;have q2:=q2 (by omega);rw[h2]at q1 q2;have hz:=(hok.get hv h1).choose_spec.2.2;have hk:=(hok.get hu h1).choose_spec.2.2;obtain⟨z,hz'⟩: ∃z:Nat,entZ nx2 v c=z:=⟨(entZ nx2 v c).toNat,by omega⟩;rw[hz']at q2;exact .step v c z h1 hz' (ih (by omega) z (by omega) q2)
theorem ClsR.same(hp:Prn N nxs nx2 bs)(hb: ∀i,i<N->(bs[i]?=some true↔Live nxs oks i))(h:ClsR nx2 oks cls N){u t:Nat}(hu:u<N)(ht:t<N)(hl:bs[t]?=some true):cls.getD u 0=cls.getD t 0↔(cls2 N bs cls).getD u 0=(cls2 N bs cls).getD t 0:=by
 rw[cls2_get (by omega),cls2_get (by omega),if_pos (show t<N/\bs[t]?=some true from⟨ht,hl⟩)];have hlt:=h.lt ht
 by_cases hbu:bs[u]?=some true
 ·rw[if_pos ⟨hu,hbu⟩]
 ·rw[if_neg (fun h=>hbu h.2)];refine⟨fun he=>?_,fun he=>by omega⟩;have:=h.live hp.ok2 ((hp.live hb ht).2 hl) ht u hu he.symm;exact absurd ((hp.live hb hu).1 this) hbu
theorem rawS_fin(hok:NxOk N nx2)(hol:oks.length=N)(h1:1<=N)(hN:N<=400):(rawS N nx2 oks).Fin:=by
 refine⟨?_,fun i r hr=>(hok.row i r hr).1,fun i r c z hr hz=>?_,?_,?_,?_⟩
 ·rw[rawS_n];exact hok.len
 ·rw[rawS_n];exact(hok.row i r hr).2 c z hz
 ·rw[rawS_n];exact hol
 ·rw[rawS_n];exact h1
 ·rw[rawS_n];omega
theorem bisim_live{R:Nat->Nat->Prop}(hok:NxOk N nx2)(hol:oks.length=N)(hR:Bisim (rawS N nx2 oks) R){j:Nat}(hl:Live nx2 oks j):j<N-> ∀k,k<=N->R j k->k<N/\Live nx2 oks k:=by
 induction hl with
 |acc j h1=>
  intro hj k hk hr;have:=(hR j k (by rw[rawS_n];omega) (by rw[rawS_n];exact hk) hr).1;rw[rawS_acc hol,rawS_acc hol,if_pos hj]at this
  by_cases hkN:k<N
  ·rw[if_pos hkN]at this;exact⟨hkN,.acc k (by omega)⟩
  ·rw[if_neg hkN]at this;omega
 |step j c t h1 h2 h3 ih=>
  intro hj k hk hr;have hm:=(hR j k (by rw[rawS_n];omega) (by rw[rawS_n];exact hk) hr).2 c h1;have ht:=(hok.get hj h1).choose_spec.2.2;rw[rawS_mv,if_pos hj,if_neg (by omega),h2,rawS_mv]at hm
  by_cases hkN:k<N
  ·rw[if_pos hkN]at hm;have hw:=(hok.get hkN h1).choose_spec.2.2
   by_cases hz:entZ nx2 k c= -1
   ·rw[if_pos hz]at hm;have:=ih (by omega) N (Nat.le_refl _) hm;omega
   ·rw[if_neg hz]at hm;have:=ih (by omega) _ (by omega) hm;exact⟨hkN,.step k c _ h1 (by omega) this.2⟩
  ·rw[if_neg hkN]at hm;have:=ih (by omega) N (Nat.le_refl _) hm;omega
theorem Bisim.symm{s:Ss}{R:Nat->Nat->Prop}(h:Bisim s R):Bisim s fun a b=>R b a:=fun j k hj hk hr=>⟨(h k j hk hj hr).1.symm,(h k j hk hj hr).2⟩
theorem ClsR.ok(hp:Prn N nxs nx2 bs)(hb: ∀i,i<N->(bs[i]?=some true↔Live nxs oks i))(hol:oks.length=N)(hob: ∀z∈oks, -1<=z)(h:ClsR nx2 oks cls N):ClsOk (rawS N nx2 oks) (cls2 N bs cls):=by
 have dead: ∀{j:Nat}, ¬(j<N/\bs[j]?=some true)->accv (rawS N nx2 oks) j= -1/\ ∀c,c<256->mv (rawS N nx2 oks) j c=N:=by
  intro j hj
  by_cases hjN:j<N
  ·have hnl: ¬ Live nx2 oks j:=fun hl=>hj ⟨hjN,(hp.live hb hjN).1 hl⟩;constructor
   ·rw[rawS_acc hol,if_pos hjN];have ho:=List.getElem?_eq_getElem (l:=oks) (i:=j) (by omega);have h1:=hob _ (List.getElem_mem (l:=oks) (n:=j) (by omega));have h2: ¬ 0<=oks.getD j (-1):=fun h=>hnl (.acc j h);rw[List.getD_eq_getElem?_getD,ho]at h2 ⊢;simp at h2 ⊢;omega
   ·intro c hc;rw[rawS_mv,if_pos hjN];rcases hp.to hjN hc with⟨q1,_⟩|⟨k,q1,q2,q3,q4⟩
    ·rw[if_pos q1]
    ·exact absurd (.step j c k hc q3 ((hp.live hb q1).2 q4)) hnl
  ·exact⟨by rw[rawS_acc hol,if_neg hjN],fun c _=>by rw[rawS_mv,if_neg hjN]⟩
 have tgt: ∀{j c:Nat},j<N->c<256->(entZ nx2 j c= -1/\mv (rawS N nx2 oks) j c=N)\/ ∃k,k<N/\bs[k]?=some true/\entZ nx2 j c=((k:Nat):Int)/\mv (rawS N nx2 oks) j c=k:=by
  intro j c hj hc;rw[rawS_mv,if_pos hj];rcases hp.to hj hc with⟨q1,_⟩|⟨k,q1,q2,q3,q4⟩
  ·exact .inl ⟨q1,by rw[if_pos q1]⟩
  ·exact .inr ⟨k,q1,q4,q3,by rw[q3,if_neg (by omega)];rfl⟩
 have num: ∀{j k:Nat},j<=N->k<=N->(cls2 N bs cls).getD j 0=(cls2 N bs cls).getD k 0->(¬(j<N/\bs[j]?=some true)/\ ¬(k<N/\bs[k]?=some true))\/((j<N/\bs[j]?=some true)/\(k<N/\bs[k]?=some true)/\cls.getD j 0=cls.getD k 0):=by
  intro j k hj hk he;rw[cls2_get hj,cls2_get hk]at he
  by_cases cj:j<N/\bs[j]?=some true<;>by_cases ck:k<N/\bs[k]?=some true
  ·rw[if_pos cj,if_pos ck]at he;exact .inr ⟨cj,ck,he⟩
  ·rw[if_pos cj,if_neg ck]at he;have:=h.lt cj.1;omega
  ·rw[if_neg cj,if_pos ck]at he;have:=h.lt ck.1;omega
  ·exact .inl ⟨cj,ck⟩
 refine⟨?_,fun j hj=>?_,fun j k hj hk he=>?_,fun j k hj hk he c hc=>?_,fun R hR j k hj hk hr=>?_⟩
 ·rw[rawS_n];unfold cls2;simp
 ·rw[rawS_n]at hj ⊢;rw[cls2_at hj]
  by_cases cj:j<N/\bs[j]?=some true
  ·have:=h.lt cj.1;exact⟨(cls.getD j 0).toNat,by omega,by rw[if_pos cj];congr 1;omega⟩
  ·exact⟨N,Nat.le_refl _,by rw[if_neg cj]⟩
 ·rw[rawS_n]at hj hk;rcases num hj hk he with⟨q1,q2⟩|⟨q1,q2,q3⟩
  ·rw[(dead q1).1,(dead q2).1]
  ·rw[rawS_acc hol,rawS_acc hol,if_pos q1.1,if_pos q2.1];exact h.ci.acc j k q1.1 q2.1 q3
 ·rw[rawS_n]at hj hk;rcases num hj hk he with⟨q1,q2⟩|⟨q1,q2,q3⟩
  ·rw[(dead q1).2 c hc,(dead q2).2 c hc]
  ·obtain⟨g1,g2⟩:=h.stab j k q1.1 q2.1 q3 c hc;rcases tgt q1.1 hc with⟨a1,a2⟩|⟨z,a1,a2,a3,a4⟩<;>rcases tgt q2.1 hc with⟨b1,b2⟩|⟨w,b1,b2,b3,b4⟩
   ·rw[a2,b2]
   ·rw[a1,b3]at g1;have:=g1.1 (by omega);omega
   ·rw[a3,b1]at g1;have:=g1.2 (by omega);omega
   ·rw[a4,b4,cls2_get (by omega),cls2_get (by omega),if_pos ⟨a1,a2⟩,if_pos ⟨b1,b2⟩];rw[a3,b3]at g2;exact g2 (by omega)
 ·rw[rawS_n]at hj hk;have lv: ∀{j:Nat},Live nx2 oks j->j<N-> ∀k,k<=N->R j k->k<N/\Live nx2 oks k:=fun hl=>bisim_live hp.ok2 hol hR hl;have lv': ∀{j:Nat},Live nx2 oks j->j<N-> ∀k,k<=N->R k j->k<N/\Live nx2 oks k:=fun hl=>bisim_live hp.ok2 hol hR.symm hl;rw[cls2_get hj,cls2_get hk]
  by_cases cj:j<N/\bs[j]?=some true
  ·obtain⟨k1,k2⟩:=lv ((hp.live hb cj.1).2 cj.2) cj.1 k hk hr;have ck:k<N/\bs[k]?=some true:=⟨k1,(hp.live hb k1).1 k2⟩;rw[if_pos cj,if_pos ck];refine h.ci.coarse R (fun a b ha hb' hab=>⟨?_,fun c hc=>?_⟩) j k cj.1 ck.1 hr
   ·have:=(hR a b (by rw[rawS_n];omega) (by rw[rawS_n];omega) hab).1
    rwa [rawS_acc hol,rawS_acc hol,if_pos ha,if_pos hb']at this
   ·have hm:=(hR a b (by rw[rawS_n];omega) (by rw[rawS_n];omega) hab).2 c hc;rcases tgt ha hc with⟨a1,a2⟩|⟨z,a1,a2,a3,a4⟩<;>rcases tgt hb' hc with⟨b1,b2⟩|⟨w,b1,b2,b3,b4⟩
    ·rw[a1,b1];exact⟨Iff.rfl,fun h=>by omega⟩
    ·rw[a2,b4]at hm;have:=lv' ((hp.live hb b1).2 b2) b1 N (Nat.le_refl _) hm;omega
    ·rw[a4,b2]at hm;have:=lv ((hp.live hb a1).2 a2) a1 N (Nat.le_refl _) hm;omega
    ·rw[a4,b4]at hm;rw[a3,b3];exact⟨by constructor<;>intro h<;>omega,fun _=>hm⟩
  ·by_cases ck:k<N/\bs[k]?=some true
   ·obtain⟨j1,j2⟩:=lv' ((hp.live hb ck.1).2 ck.2) ck.1 j hj hr;exact absurd ⟨j1,(hp.live hb j1).1 j2⟩ cj
   ·rw[if_neg cj,if_neg ck]
end
section
variable {l:List Po}{all:List (List Spt)}{nxs nx2:List (List Int)}{oks:List Int}{bs:List Bool}
theorem SubI.nxok(si:SubI l all nxs oks)(hn:nxs.length=all.length):NxOk all.length nxs:=by
 refine⟨hn,fun i r hr=>⟨(si.row i r hr).1,fun c z hz=>?_⟩⟩;obtain⟨s,h1,h2⟩:=(si.row i r hr).2 c z hz;rcases h2 with⟨h,_⟩|⟨k,t,rfl,h3,_⟩
 ·exact .inl h
 ·exact .inr ⟨by omega,by have:=(List.getElem?_eq_some_iff.1 h3).1;omega⟩
def SpotW(l:List Po)(w:List Nat)(x:Spt):Prop:= ∃po,l[x.1]?=some po/\(if w=[]then x.2= -1 else∃y:Nat,x.2=y/\DP po w y)
theorem step_spot{w:List Nat}{c:Nat}{t:List Spt}(ht: ∀x,x∈t↔SpotW l w x)(x:Spt):StepS l c t x↔SpotW l (w++[c]) x:=by
 constructor
 ·rintro⟨z0,h1,po,y,h2,h3,h4,rfl⟩;obtain⟨po',h5,h6⟩:=(ht z0).1 h1;rw[h2]at h5;cases h5;refine⟨po,h2,?_⟩;rw[if_neg (by simp)];refine⟨y,rfl,DP_snoc.2 ⟨?_,h4⟩⟩
  by_cases hw:w=[]
  ·rw[if_pos hw]at h6 ⊢;unfold nextP at h3;rw[if_pos (by omega)]at h3;exact h3
  ·rw[if_neg hw]at h6 ⊢;obtain⟨a,ha,hd⟩:=h6;unfold nextP at h3;rw[if_neg (by omega),ha]at h3;exact⟨a,hd,h3⟩
 ·rintro⟨po,h2,h3⟩;rw[if_neg (by simp)]at h3;obtain⟨y,h4,h5⟩:=h3;obtain⟨h6,h7⟩:=DP_snoc.1 h5
  by_cases hw:w=[]
  ·rw[if_pos hw]at h6;refine⟨(x.1, -1),(ht _).2 ⟨po,h2,by rw[if_pos hw]⟩,po,y,h2,?_,h7,Prod.ext rfl h4⟩;unfold nextP;rw[if_pos (by show(-1:Int)<0;omega)];exact h6
  ·rw[if_neg hw]at h6;obtain⟨a,ha,hf⟩:=h6;refine⟨(x.1,((a:Nat):Int)),(ht _).2 ⟨po,h2,by rw[if_neg hw];exact⟨a,rfl,ha⟩⟩,po,y,h2,?_,h7,Prod.ext rfl h4⟩;unfold nextP;rw[if_neg (by show ¬((a:Nat):Int)<0;omega)];exact hf
theorem raw_run(si:SubI l all nxs oks)(hn:nxs.length=all.length): ∀(n:Nat)(w:List Nat),w.length=n->Byt w->(runm (rawS all.length nxs oks) 0 w=all.length/\ ∀x, ¬ SpotW l w x)\/ ∃t,all[runm (rawS all.length nxs oks) 0 w]?=some t/\ ∀x,x∈t↔SpotW l w x:=by
 intro n
 induction n with
 |zero=>
  intro w hw _;have:w=[]:=List.eq_nil_of_length_eq_zero hw;subst this;obtain⟨f,f1,f2⟩:=si.a0;refine .inr ⟨f,f1,fun x=>(f2 x).trans ?_⟩;constructor
  ·rintro⟨q1,q2⟩;exact⟨_,List.getElem?_eq_getElem q2,by rw[if_pos rfl];exact q1⟩
  ·rintro⟨po,q1,q2⟩;rw[if_pos rfl]at q2;exact⟨q2,(List.getElem?_eq_some_iff.1 q1).1⟩
 |succ n ih=>
  intro w hw hb;obtain⟨v,c,rfl⟩: ∃v c,w=v++[c]:=by
   rcases List.eq_nil_or_concat w with rfl|⟨v,c,rfl⟩
   ·cases hw
   ·exact⟨v,c,by rw[List.concat_eq_append]⟩
  have hc:c<256:=hb c (by simp);rw[runm_snoc];rcases ih v (by simp at hw;exact hw) (fun d hd=>hb d (by simp[hd]))with⟨h1,h2⟩|⟨t,h1,h2⟩
  ·refine .inl ⟨by rw[h1,rawS_mv,if_neg (by omega)],fun x hx=>?_⟩;obtain⟨z0,q1,_⟩:=(step_spot (t:=[]) (fun x=>⟨(fun h=>by cases h),fun h=>absurd h (h2 x)⟩) x).2 hx;cases q1
  ·have hq:=(List.getElem?_eq_some_iff.1 h1).1;obtain⟨r,r1,r2,_⟩:=(si.nxok hn).get hq hc;obtain⟨s,s1,s2⟩:=(si.row _ r r1).2 c _ r2;rw[h1]at s1;cases s1;rw[rawS_mv,if_pos hq];rcases s2 with⟨e,hno⟩|⟨k,t',e,e2,⟨y,e3⟩,e4⟩
   ·rw[if_pos e];exact .inl ⟨rfl,fun x hx=>hno x ((step_spot h2 x).2 hx)⟩
   ·rw[e,if_neg (by omega)];exact .inr ⟨t',e2,fun x=>(e4 x).trans (step_spot h2 x)⟩
theorem prn_run(si:SubI l all nxs oks)(hp:Prn all.length nxs nx2 bs)(hb: ∀i,i<all.length->(bs[i]?=some true↔Live nxs oks i)): ∀(n:Nat)(w:List Nat),w.length=n->Byt w->runm (rawS all.length nx2 oks) 0 w=runm (rawS all.length nxs oks) 0 w\/(runm (rawS all.length nx2 oks) 0 w=all.length/\(runm (rawS all.length nxs oks) 0 w<all.length-> ¬ Live nxs oks (runm (rawS all.length nxs oks) 0 w))):=by
 intro n
 induction n with
 |zero=>
  intro w hw _;have:w=[]:=List.eq_nil_of_length_eq_zero hw;subst this;exact .inl rfl
 |succ n ih=>
  intro w hw hb';obtain⟨v,c,rfl⟩: ∃v c,w=v++[c]:=by
   rcases List.eq_nil_or_concat w with rfl|⟨v,c,rfl⟩
   ·cases hw
   ·exact⟨v,c,by rw[List.concat_eq_append]⟩
  have hc:c<256:=hb' c (by simp);rw[runm_snoc,runm_snoc];rcases ih v (by simp at hw;exact hw) (fun d hd=>hb' d (by simp[hd]))with h|⟨h1,h2⟩
  ·rw[h];generalize runm (rawS all.length nxs oks) 0 v=q;rw[rawS_mv,rawS_mv]
   by_cases hq:q<all.length
   ·rw[if_pos hq,if_pos hq];rcases hp.to hq hc with⟨q1,q2|⟨k,q2,q3,q4⟩⟩|⟨k,q1,q2,q3,q4⟩
    ·rw[if_pos q1,if_pos q2];exact .inl rfl
    ·rw[if_pos q1,q3,if_neg (by omega)];refine .inr ⟨rfl,fun _ hl=>q4 ((hb k q2).2 hl)⟩
    ·rw[q2,q3];exact .inl rfl
   ·rw[if_neg hq,if_neg hq];exact .inl rfl
  ·rw[h1,rawS_mv,if_neg (by omega),rawS_mv];generalize runm (rawS all.length nxs oks) 0 v=q at h2;refine .inr ⟨rfl,fun hlt hl=>?_⟩
   by_cases hq:q<all.length
   ·rw[if_pos hq]at hlt hl;rcases hp.to hq hc with⟨q1,q2|⟨k,q2,q3,q4⟩⟩|⟨k,q1,q2,q3,q4⟩
    ·rw[if_pos q2]at hlt;omega
    ·rw[q3,if_neg (by omega)]at hl;exact h2 hq (.step q c k hc q3 hl)
    ·rw[q2,if_neg (by omega)]at hl;exact h2 hq (.step q c k hc q2 hl)
   ·rw[if_neg hq]at hlt;omega
theorem raw_tells(si:SubI l all nxs oks)(hn:nxs.length=all.length)(hp:Prn all.length nxs nx2 bs)(hb: ∀i,i<all.length->(bs[i]?=some true↔Live nxs oks i)){w:List Nat}(hw:Byt w):FstI l.length (fun k=> ∃po,l[k]?=some po/\takesP po w) (accv (rawS all.length nx2 oks) (runm (rawS all.length nx2 oks) 0 w)):=by
 have hol:oks.length=all.length:=si.ol.trans hn;have e:accv (rawS all.length nx2 oks) (runm (rawS all.length nx2 oks) 0 w)=accv (rawS all.length nxs oks) (runm (rawS all.length nxs oks) 0 w):=by
  rw[rawS_acc hol,rawS_acc hol];rcases prn_run si hp hb _ w rfl hw with h|⟨h1,h2⟩
  ·rw[h]
  ·rw[h1,if_neg (by omega)]
   by_cases hq:runm (rawS all.length nxs oks) 0 w<all.length
   ·rw[if_pos hq];have hx:=List.getElem?_eq_getElem (l:=oks) (i:=runm (rawS all.length nxs oks) 0 w) (by omega);have ha:=List.getElem?_eq_getElem hq;have hf:=si.acc _ _ _ ha hx;have hnl:=h2 hq;rw[getD_of hx];rcases hf with⟨h,_⟩|⟨k,h,_⟩
    ·exact h.symm
    ·refine absurd (.acc _ ?_) hnl;rw[getD_of hx,h];omega
   ·rw[if_neg hq]
 rw[e,rawS_acc hol];rcases raw_run si hn _ w rfl hw with⟨h1,h2⟩|⟨t,h1,h2⟩
 ·rw[h1,if_neg (by omega)];refine .inl ⟨rfl,fun k hk ⟨po,q1,q2⟩=>?_⟩
  by_cases hw0:w=[]
  ·exact h2 (k, -1) ⟨po,q1,by rw[if_pos hw0]⟩
  ·obtain⟨y,y1,_⟩:=(takesP_DP hw0).1 q2;exact h2 (k,((y:Nat):Int)) ⟨po,q1,by rw[if_neg hw0];exact⟨y,rfl,y1⟩⟩
 ·have hq:=(List.getElem?_eq_some_iff.1 h1).1;have hx:=List.getElem?_eq_getElem (l:=oks) (i:=runm (rawS all.length nxs oks) 0 w) (by omega);rw[if_pos hq,getD_of hx];refine(si.acc _ _ _ h1 hx).congr fun k hk=>?_;constructor
  ·rintro⟨a,po,q1,q2,q3⟩;refine⟨po,q2,?_⟩;obtain⟨po',q4,q5⟩:=(h2 _).1 q1;rw[show((k,a):Spt).1=k from rfl,q2]at q4;cases q4
   by_cases hw0:w=[]
   ·rw[if_pos hw0]at q5;have q5:a= -1:=q5;subst hw0;rcases q3 with⟨_,h⟩|⟨h,_⟩
    ·exact h
    ·omega
   ·rw[if_neg hw0]at q5;obtain⟨y,y1,y2⟩:=q5;have y1:a=y:=y1;refine(takesP_DP hw0).2 ⟨y,y2,?_⟩;rcases q3 with⟨h,_⟩|⟨_,h⟩
    ·omega
    ·rw[y1]at h;exact h
  ·rintro⟨po,q1,q2⟩
   by_cases hw0:w=[]
   ·refine⟨-1,po,(h2 _).2 ⟨po,q1,by rw[if_pos hw0]⟩,q1,.inl ⟨by omega,?_⟩⟩;subst hw0;exact q2
   ·obtain⟨y,y1,y2⟩:=(takesP_DP hw0).1 q2;exact⟨((y:Nat):Int),po,(h2 _).2 ⟨po,q1,by rw[if_neg hw0];exact⟨y,rfl,y1⟩⟩,q1,.inr ⟨by omega,y2⟩⟩
end
theorem nrows_at{rbs:List Nat}{nxs:List (List Int)}{i b:Nat}{r:List Int}(h1:rbs[i]?=some b)(h2:nxs[i]?=some r):(nrows rbs nxs)[i]?=some (b,.row .own 1 (zv r)):=by
 unfold nrows;have:(rbs.zip nxs)[i]?=some (b,r):=List.getElem?_zip_eq_some.2 ⟨h1,h2⟩;rw[List.getElem?_map,this];rfl
theorem nrows_set: ∀{rbs:List Nat}{nxs:List (List Int)}{i b:Nat}{r:List Int},rbs[i]?=some b->(nrows rbs nxs).set i (b,.row .own 1 (zv r))=nrows rbs (nxs.set i r)
 | [],nxs,i,b,r,h=>by simp at h
 |b0::rbs,[],i,b,r,h=>by simp[nrows]
 |b0::rbs,x::nxs,0,b,r,h=>by
  simp at h;subst h;simp[nrows]
 |b0::rbs,x::nxs,i+1,b,r,h=>by
  have:=nrows_set (rbs:=rbs) (nxs:=nxs) (i:=i) (b:=b) (r:=r) (by simpa using h)
  show(b0,AObj.row .own 1 (zv x))::(nrows rbs nxs).set i _=(b0,AObj.row .own 1 (zv x))::nrows rbs (nxs.set i r)
  rw[this]
theorem entZ_set{nxs:List (List Int)}{i c i' c':Nat}{r:List Int}{z:Int}(h1:nxs[i]?=some r)(h2:c<r.length):entZ (nxs.set i (r.set c z)) i' c'=if i'=i/\c'=c then z else entZ nxs i' c':=by
 have hl:=(List.getElem?_eq_some_iff.1 h1).1
 by_cases e:i'=i
 ·subst e;have e1:(nxs.set i' (r.set c z)).getD i' []=r.set c z:=by rw[List.getD_eq_getElem?_getD,List.getElem?_set_self hl];rfl
  have e2:nxs.getD i' []=r:=by rw[List.getD_eq_getElem?_getD,h1];rfl
  unfold entZ;rw[e1,e2]
  by_cases ec:c'=c
  ·subst ec;rw[if_pos ⟨rfl,rfl⟩,getD_set_self h2]
  ·rw[if_neg (fun h=>ec h.2),getD_set_ne (Ne.symm ec)]
 ·have e1:(nxs.set i (r.set c z)).getD i' []=nxs.getD i' []:=by rw[List.getD_eq_getElem?_getD,List.getElem?_set_ne (Ne.symm e),List.getD_eq_getElem?_getD]
  unfold entZ;rw[e1,if_neg (fun h=>e h.1)]
theorem NxOk.set{N:Nat}{nxs:List (List Int)}(h:NxOk N nxs){i c:Nat}{r:List Int}(h1:nxs[i]?=some r):NxOk N (nxs.set i (r.set c (-1))):=by
 have hl:=(List.getElem?_eq_some_iff.1 h1).1;refine⟨by rw[List.length_set];exact h.len,fun j y hy=>?_⟩
 by_cases e:i=j
 ·subst e;rw[List.getElem?_set_self hl]at hy;cases hy;refine⟨by rw[List.length_set];exact(h.row i r h1).1,fun c' z hz=>?_⟩
  by_cases ec:c=c'
  ·subst ec;have hlt:c<r.length:=by
    have:=(List.getElem?_eq_some_iff.1 hz).1
    rwa [List.length_set]at this
   rw[List.getElem?_set_self hlt]at hz;cases hz;exact .inl rfl
  ·rw[List.getElem?_set_ne ec]at hz;exact(h.row i r h1).2 c' z hz
 ·rw[List.getElem?_set_ne e]at hy;exact h.row j y hy
structure PrI(N:Nat)(nxs nx2:List (List Int))(bs:List Bool)(i c:Nat):Prop where
 ok2:NxOk N nx2
 done: ∀i' c',i'<N->c'<256->Bef i' c' i c->entZ nx2 i' c'=prn bs (entZ nxs i' c')
 todo: ∀i' c',i'<N->c'<256-> ¬ Bef i' c' i c->entZ nx2 i' c'=entZ nxs i' c'
section
variable {Q:Value->PH->Prop}{n:Nat}{cl:CL}{h h0:PH}{S:Vw}{m:OM}{rest:Rws}{K2:Value->PH->R}
theorem loop15p(hn:4611686018427387904<=n){bx b1 bo N:Nat}{nv ov:Value}{exN:Rws}{nxs:List (List Int)}{rbs:List Nat}{bs:List Bool}(hok:NxOk N nxs)(hN:N<=400)(hrl:rbs.length=N)(hbl:bs.length=N)(gN:Gl 1 nv N (rbs.map sl256) exN)(hexN: ∀p∈exN,p∈rest)
  (hbx:(bx,AObj.row .own 1 [nv,ov,.bool false])∈rest) (hbo:(bo,AObj.row .own 1 (bvs bs))∈rest)
  (hk: ∀h nx2,Sl h0 h S m (nrows rbs nx2++rest)->Prn N nxs nx2 bs->Ret (F15_27 n cl (pt bx) (pt b1) h) Q):
  ∀(d q i:Nat)(h:PH)(nx2:List (List Int)),N-i<=d->d<q->i<=N->Sl h0 h S m (nrows rbs nx2++rest)->PrI N nxs nx2 bs i 0->
   Ret (lp q (F15_29 n cl) [pt b1,pt bx,.slice (some ⟨bo,0,none⟩) N N,.int .i64 (i:Nat)] h) Q:=by
 intro d
 induction d with
 |zero=>
  intro q i h nx2 h1 h2 h3 st pr;obtain⟨q,rfl⟩: ∃r,q=r+1:=⟨q-1,by omega⟩;rw[lp_succ];have hi:i=N:=by omega
  subst hi;have l1:xLd (.pointer (some ⟨bx,0,none⟩)) h=some nv:=st.ld (List.mem_append_right _ hbx) rfl;have dc:decide (((i:Nat):Int)<((i:Nat):Int))=false:=by simp
  simp only[F15_29,F15_28,ucons_cons,xFld_p,Nat.zero_add,vb_some,l1,gN.len,xLt_i,dc,bite_f];exact hk h nx2 st ⟨hok,pr.ok2,fun i' c' hi' hc'=>pr.done i' c' hi' hc' (.inl hi')⟩
 |succ d ih=>
  intro q i h nx2 h1 h2 h3 st pr
  by_cases hi:i<N
  ·obtain⟨q,rfl⟩: ∃r,q=r+1:=⟨q-1,by omega⟩;rw[lp_succ];generalize hL:lp q (F15_29 n cl)=LL;have l1:xLd (.pointer (some ⟨bx,0,none⟩)) h=some nv:=st.ld (List.mem_append_right _ hbx) rfl;have dc:decide (((i:Nat):Int)<((N:Nat):Int))=true:=by simp;omega
   simp only[F15_29,F15_28,ucons_cons,xFld_p,Nat.zero_add,vb_some,l1,gN.len,xLt_i,dc,bite_t,vN_eq];have inner: ∀(d2 q2 c:Nat)(h:PH)(nx2:List (List Int)),256-c<=d2->d2<q2->c<=256->Sl h0 h S m (nrows rbs nx2++rest)->PrI N nxs nx2 bs i c->
     Ret (lp q2 (F15_8 n cl LL) [pt b1,pt bx,.slice (some ⟨bo,0,none⟩) N N,.int .i64 (i:Nat),.int .i64 (c:Nat)] h) Q:=by
    intro d2
    induction d2 with
    |zero=>
     intro q2 c h nx2 g1 g2 g3 st pr;obtain⟨q2,rfl⟩: ∃r,q2=r+1:=⟨q2-1,by omega⟩;rw[lp_succ];have hc:c=256:=by omega
     subst hc;have dc:decide (((256:Nat):Int)<((256:Nat):Int))=false:=by decide
     simp only[F15_8,F15_7,ucons_cons,vN_eq,xLt_i,dc,vb_some,bite_f,F15_6,xAdd_i,wrapN (show i<4611686018427387904 by omega)];rw[<-hL];refine ih q (i+1) h nx2 (by omega) (by omega) (by omega) st ⟨pr.ok2,fun i' c' hi' hc' hb=>pr.done i' c' hi' hc' ?_,fun i' c' hi' hc' hb=>pr.todo i' c' hi' hc' ?_⟩
     ·unfold Bef at*;omega
     ·unfold Bef at*;omega
    |succ d2 ih2=>
     intro q2 c h nx2 g1 g2 g3 st pr
     by_cases hc:c<256
     ·obtain⟨q2,rfl⟩: ∃r,q2=r+1:=⟨q2-1,by omega⟩;rw[lp_succ];generalize hL2:lp q2 (F15_8 n cl LL)=LL2;have dc:decide (((c:Nat):Int)<((256:Nat):Int))=true:=by simp;omega
      have l1:xLd (.pointer (some ⟨bx,0,none⟩)) h=some nv:=st.ld (List.mem_append_right _ hbx) rfl;have hb:=List.getElem?_eq_getElem (l:=rbs) (i:=i) (by omega);generalize rbs[i]'(by omega)=bi at hb;obtain⟨b2,o2,e1,e2⟩:=Gq.at (.inl gN) st (fun p hp=>List.mem_append_right _ (hexN p hp)) (i:=i) (x:=sl256 bi) (by rw[List.getElem?_map,hb];rfl);obtain⟨r,r1,r2,r3⟩:=pr.ok2.get hi hc;have hrow:=(pr.ok2.row i r r1).1;have hmem:(bi,AObj.row .own 1 (zv r))∈nrows rbs nx2++rest:=List.mem_append_left _ (List.mem_of_getElem? (nrows_at hb r1));have e3:xIdxS 1 (sl256 bi) (.int .i64 (c:Nat))=some (.pointer (some ⟨bi,c,none⟩)):=by
       unfold sl256;rw[xIdxS_at (by omega) (by omega)];simp
      have e4:xLd (.pointer (some ⟨bi,c,none⟩)) h=some (.int .i64 (entZ nx2 i c)):=st.ld hmem (zv_get r2);have htodo:entZ nx2 i c=entZ nxs i c:=pr.todo i c hi hc (by unfold Bef;omega);simp only[F15_8,F15_7,ucons_cons,vN_eq,xLt_i,dc,vb_some,bite_t,jn_eq,F15_5,xFld_p,Nat.zero_add,l1,e1,e2,e3,e4,xGe_i];have next: ∀(h:PH)(nx3:List (List Int)),Sl h0 h S m (nrows rbs nx3++rest)->PrI N nxs nx3 bs i (c+1)->Ret (F15_4 n cl LL2 [pt b1,pt bx,.slice (some ⟨bo,0,none⟩) N N,.int .i64 (i:Nat),.int .i64 (c:Nat)] h) Q:=by
       intro h nx3 st3 pr3;simp only[F15_4,F15_2,ucons_cons,vN_eq,xAdd_i,wrapN (show c<4611686018427387904 by omega),vb_some];rw[<-hL2];exact ih2 q2 (c+1) h nx3 (by omega) (by omega) (by omega) st3 pr3
      have keep:prn bs (entZ nx2 i c)=entZ nx2 i c->PrI N nxs nx2 bs i (c+1):=by
       intro hpr;refine⟨pr.ok2,fun i' c' hi' hc' hb=>?_,fun i' c' hi' hc' hb=>pr.todo i' c' hi' hc' (by unfold Bef at*;omega)⟩
       by_cases e:i'=i/\c'=c
       ·obtain⟨rfl,rfl⟩:=e;rw[<-htodo];exact hpr.symm
       ·exact pr.done i' c' hi' hc' (by unfold Bef at*;omega)
      generalize hZ:entZ nx2 i c=z at r3 e4 htodo keep ⊢;rcases r3 with rfl|⟨z1,z2⟩
      ·have d1:decide (((0:Nat):Int)<=(-1:Int))=false:=by decide
       simp only[d1,isB_t,gd_false,vb_some,xPick_f,bite_f];exact next h nx2 st (keep rfl)
      ·obtain⟨k,rfl⟩: ∃k:Nat,z=k:=⟨z.toNat,by omega⟩;have d1:decide (((0:Nat):Int)<=((k:Nat):Int))=true:=by simp
       have hbk:=List.getElem?_eq_getElem (l:=bs) (i:=k) (by omega);generalize bs[k]'(by omega)=b at hbk;have e5:xIdxS 1 (.slice (some ⟨bo,0,none⟩) N N) (.int .i64 (k:Nat))=some (.pointer (some ⟨bo,k,none⟩)):=by
        rw[xIdxS_at (by omega) (by omega)];simp
       have l5:xLd (.pointer (some ⟨bo,k,none⟩)) h=some (.bool b):=st.ld (List.mem_append_right _ hbo) (bvs_get hbk);simp only[d1,isB_t,gd_true,vb_some,xFld_p,Nat.zero_add,l1,e1,e2,e3,e4,e5,l5,xNot_b,xPick_t];cases b with
       |true=>
        simp only[Bool.not_true,bite_f];refine next h nx2 st (keep ?_);unfold prn;rw[if_neg];rintro⟨_,h⟩;exact h hbk
       |false=>
        have em:vM 0= .int .i64 (-1):=rfl;simp only[Bool.not_false,bite_t,F15_3,xFld_p,Nat.zero_add,vb_some,l1,e1,e2,e3];rw[em];have hidx:(nrows rbs nx2++rest)[i]?=some (bi,.row .own 1 (zv r)):=by
         rw[List.getElem?_append_left (List.getElem?_eq_some_iff.1 (nrows_at hb r1)).1];exact nrows_at hb r1
        refine Ret.lst1 st i hidx rfl (by rw[zv_len,hrow];exact hc) rfl fun h2 st2=>?_;rw[zv_set,List.set_append_left _ _ (List.getElem?_eq_some_iff.1 (nrows_at hb r1)).1,nrows_set hb]at st2;refine next h2 _ st2 ⟨pr.ok2.set r1,fun i' c' hi' hc' hbf=>?_,fun i' c' hi' hc' hbf=>?_⟩
        ·rw[entZ_set r1 (by rw[hrow];exact hc)]
         by_cases e:i'=i/\c'=c
         ·obtain⟨rfl,rfl⟩:=e;rw[if_pos ⟨rfl,rfl⟩, <-htodo];unfold prn;rw[if_pos];refine⟨by omega,?_⟩;rw[show((k:Nat):Int).toNat=k from rfl,hbk];intro h;cases h
         ·rw[if_neg e];exact pr.done i' c' hi' hc' (by unfold Bef at*;omega)
        ·rw[entZ_set r1 (by rw[hrow];exact hc),if_neg (by rintro⟨rfl,rfl⟩;exact hbf (by unfold Bef;omega))];exact pr.todo i' c' hi' hc' (by unfold Bef at*;omega)
     ·exact ih2 q2 c h nx2 (by omega) (by omega) g3 st pr
   exact inner 256 n 0 h nx2 (by omega) (by omega) (by omega) st pr
  ·exact ih q i h nx2 (by omega) (by omega) h3 st pr
end
def Om(h0:PH)(S:Vw)(rows rest:Rws)(d2:Nat)(sv:Value)(st:List Nat)(nxs:List (List Int))(accs:List Int):Prop:= ∃nv av exS exN exA cN,
 rows=(d2,.row .own 1 [nv,av])::(exS++(exN++(exA++rest)))/\Gq sv st.length (ns st) exS/\Gq nv nxs.length cN exN/\(∀(i:Nat) r,nxs[i]?=some r-> ∃x,cN[i]?=some x/\SlV (Nw h0 S) x (zv r))/\Gq av accs.length (zv accs) exA
section
variable {h0:PH}{rows rest:Rws}{d2:Nat}{sv:Value}{st:List Nat}{nxs:List (List Int)}{accs:List Int}
theorem Om.mono{V W:Vw}(hs:Vw.le V W)(h:Om h0 V rows rest d2 sv st nxs accs):Om h0 W rows rest d2 sv st nxs accs:=by
 obtain⟨nv,av,exS,exN,exA,cN,a1,a2,a3,a4,a5⟩:=h;exact⟨nv,av,exS,exN,exA,cN,a1,a2,a3,fun i r hi=>let⟨x,q1,q2⟩:=a4 i r hi;⟨x,q1,q2.mono (Nw.mono hs)⟩,a5⟩
theorem Om.frame{V:Vw}(h:Om h0 V rows rest d2 sv st nxs accs): ∃A,rows=A++rest/\ ∀rest',Om h0 V (A++rest') rest' d2 sv st nxs accs:=by
 obtain⟨nv,av,exS,exN,exA,cN,rfl,a2,a3,a4,a5⟩:=h;exact⟨(d2,.row .own 1 [nv,av])::(exS++(exN++exA)),by simp[List.append_assoc],fun rest'=>⟨nv,av,exS,exN,exA,cN,by simp[List.append_assoc],a2,a3,a4,a5⟩⟩
theorem Om.len{V:Vw}(h:Om h0 V rows rest d2 sv st nxs accs):xLenS sv=some (.int .i64 (st.length:Nat)):=by
 obtain⟨nv,av,exS,exN,exA,cN,rfl,a2,a3,a4,a5⟩:=h;exact a2.len
theorem Om.get{V:Vw}{S:Vw}{m:OM}{h:PH}(o:Om h0 V rows rest d2 sv st nxs accs)(s:Sl h0 h S m rows){i u:Nat}(hi:st[i]?=some u): ∃b o,xIdxS 1 sv (.int .i64 (i:Nat))=some (.pointer (some ⟨b,o,none⟩))/\xLd (.pointer (some ⟨b,o,none⟩)) h=some (.int .i64 (u:Nat)):=by
 obtain⟨nv,av,exS,exN,exA,cN,rfl,a2,a3,a4,a5⟩:=o;exact a2.at s (fun p hp=>.tail _ (List.mem_append_left _ hp)) (ns_get hi)
variable {Q:Value->PH->Prop}{n:Nat}{cl:CL}{h:PH}{S:Vw}{m:OM}{K2:Value->PH->R}
theorem loop15k(hn:4611686018427387904<=n){vx cv:Value}{b1 bn i c k0 N:Nat}{cls nr:List Int}{k121:Kt}(hcv:SlV S cv (zv cls))(hcl:cls.length=N)(hc:c<256)(hnl:nr.length=256)(hnr:nr[c]?=some (-1))(hto:k0<N)(hst: ∀u∈st,u<N)(hsl:st.length<=400)
  (hf: ∀h rows (j u:Nat),st[j]?=some u->cls.getD u 0=cls.getD k0 0->Sl h0 h S OM.emp rows->Om h0 S rows ((bn,.row .own 1 (zv (nr.set c (j:Int))))::rest) d2 sv st nxs accs->Ret (k121 [pt b1,vx,cv,pt d2,sv,.int .i64 (i:Nat),sl256 bn,.int .i64 (c:Nat)] h) Q)
  (hw: ∀h rows sv',(∀(j u:Nat),st[j]?=some u->cls.getD u 0≠cls.getD k0 0)->Sl h0 h S OM.emp rows->Om h0 S rows ((bn,.row .own 1 (zv (nr.set c ((st.length:Nat):Int))))::rest) d2 sv' (st++[k0]) nxs accs->Ret (k121 [pt b1,vx,cv,pt d2,sv',.int .i64 (i:Nat),sl256 bn,.int .i64 (c:Nat)] h) Q):
  ∀(d q k:Nat)(h:PH)(rows:Rws),st.length-k<=d->d+1<q->k<=st.length->Sl h0 h S OM.emp rows->Om h0 S rows ((bn,.row .own 1 (zv nr))::rest) d2 sv st nxs accs->(∀(j u:Nat),j<k->st[j]?=some u->cls.getD u 0≠cls.getD k0 0)->
   Ret (lp q (F15_17 n cl k121) [pt b1,vx,cv,pt d2,sv,.int .i64 (i:Nat),sl256 bn,.int .i64 (c:Nat),.int .i64 (k0:Nat),.int .i64 (k:Nat)] h) Q:=by
 have e1:xIdxS 1 (sl256 bn) (.int .i64 (c:Nat))=some (.pointer (some ⟨bn,c,none⟩)):=by
  unfold sl256;rw[xIdxS_at (by omega) (by omega)];simp
 have rd: ∀(h:PH)(rows:Rws)(nr':List Int) z sv' st',nr'[c]?=some z->Sl h0 h S OM.emp rows->Om h0 S rows ((bn,.row .own 1 (zv nr'))::rest) d2 sv' st' nxs accs->xLd (.pointer (some ⟨bn,c,none⟩)) h=some (.int .i64 z):=by
  intro h rows nr' z sv' st' hz sl om;obtain⟨A,rfl,_⟩:=om.frame;exact sl.ld (List.mem_append_right _ (.head _)) (zv_get hz)
 have cat: ∀{h:PH}{rows:Rws}{j:Nat},Sl h0 h S OM.emp rows->j<N-> ∃b o,xIdxS 1 cv (.int .i64 (j:Nat))=some (.pointer (some ⟨b,o,none⟩))/\xLd (.pointer (some ⟨b,o,none⟩)) h=some (.int .i64 (cls.getD j 0)):=by
  intro h rows j sl hj;have hc:=List.getElem?_eq_getElem (l:=cls) (i:=j) (by omega);obtain⟨b1,o1,cs1,e1,e2,e3⟩:=hcv.at (k:=.i64) (zv_get hc);exact⟨b1,o1,e1,by rw[getD_of hc];exact sl.ldS e2 e3⟩
 have dneg:decide ((-1:Int)<((0:Nat):Int))=true:=by decide
 have fin: ∀(h:PH)(rows:Rws),Sl h0 h S OM.emp rows->Om h0 S rows ((bn,.row .own 1 (zv nr))::rest) d2 sv st nxs accs->(∀(j u:Nat),st[j]?=some u->cls.getD u 0≠cls.getD k0 0)->Ret (F15_15 n cl (sl256 bn) (.int .i64 (c:Nat)) sv (.int .i64 (k0:Nat)) k121 (pt b1) vx cv (pt d2) (.int .i64 (i:Nat)) h) Q:=by
  intro h rows sl om hno;have l1:=rd h rows nr (-1) sv st hnr sl om;simp only[F15_15,e1,vb_some,l1,vN_eq,xLt_i,dneg,bite_t,F15_14,om.len];obtain⟨A,hA,hfr⟩:=om.frame;rw[hA]at sl;refine Ret.lst1M (v:=.int .i64 ((st.length:Nat):Int)) sl rfl (by rw[zv_len,hnl];exact hc) rfl fun h2 sl2=>?_;rw[zv_set]at sl2;have om2:=hfr ((bn,.row .own 1 (zv (nr.set c ((st.length:Nat):Int))))::rest);obtain⟨nv,av,exS,exN,exA,cN,hrows,a2,a3,a4,a5⟩:=om2;rw[hrows]at sl2;have sl2p:=sl2.perm (pm1 _ exS _);refine Ret.gqapp sl2p a2 bs28 ai28 rfl (sz_le (c:=400) hsl (by decide)) fun h3 sv' exS' sl3 g3=>?_;have sl3:=sl3.perm (pm1 _ exS' _).symm;refine hw h3 _ sv' hno sl3 ⟨nv,av,exS',exN,exA,cN,rfl,?_,a3,a4,a5⟩;rw[List.length_append, <-ns_snoc'];exact g3
 intro d
 induction d with
 |zero=>
  intro q k h rows h1 h2 h3 sl om hno;obtain⟨q,rfl⟩: ∃r,q=r+1:=⟨q-1,by omega⟩;rw[lp_succ];have dc:decide (((k:Nat):Int)<((st.length:Nat):Int))=false:=by simp;omega
  simp only[F15_17,F15_16,ucons_cons,om.len,vb_some,xLt_i,dc,isB_t,gd_false,xPick_f,bite_f];refine fin h rows sl om fun j u hj=>?_;have:=(List.getElem?_eq_some_iff.1 hj).1;exact hno j u (by omega) hj
 |succ d ih=>
  intro q k h rows h1 h2 h3 sl om hno
  by_cases hkl:k<st.length
  ·obtain⟨q,rfl⟩: ∃r,q=r+2:=⟨q-2,by omega⟩;rw[lp_succ];have dc:decide (((k:Nat):Int)<((st.length:Nat):Int))=true:=by simp;omega
   have l1:=rd h rows nr (-1) sv st hnr sl om;have hx:=List.getElem?_eq_getElem hkl;have hu:=hst _ (List.getElem_mem hkl);generalize st[k]=u at hx hu;obtain⟨b2,o2,f1,f2⟩:=om.get sl hx;obtain⟨b3,o3,g1,g2⟩:=cat sl hto;obtain⟨b4,o4,g3,g4⟩:=cat sl hu;simp only[F15_17,F15_16,ucons_cons,om.len,vb_some,xLt_i,dc,isB_t,gd_true,e1,l1,vN_eq,dneg,xPick_t,bite_t,jn_eq,F15_13,f1,f2,g1,g2,g3,g4,xEq_i];generalize hL:lp (q+1) (F15_17 n cl k121)=LL
   by_cases he:cls.getD u 0=cls.getD k0 0
   ·have de:decide (cls.getD u 0=cls.getD k0 0)=true:=decide_eq_true he;simp only[de,bite_t,F15_11,e1,vb_some];obtain⟨A,hA,hfr⟩:=om.frame;rw[hA]at sl;refine Ret.lst1M (v:=.int .i64 ((k:Nat):Int)) sl rfl (by rw[zv_len,hnl];exact hc) rfl fun h2 sl2=>?_;rw[zv_set]at sl2;have om2:=hfr ((bn,.row .own 1 (zv (nr.set c ((k:Nat):Int))))::rest);simp only[F15_12,ucons_cons,F15_10,xAdd_i,vN_eq,wrapN (show k<4611686018427387904 by omega),vb_some];rw[<-hL,lp_succ];have hset:(nr.set c ((k:Nat):Int))[c]?=some ((k:Nat):Int):=List.getElem?_set_self (by omega);have l2:=rd h2 _ _ _ sv st hset sl2 om2;have dpos:decide (((k:Nat):Int)<((0:Nat):Int))=false:=by simp
    by_cases hk2:k+1<st.length
    ·have dc2:decide (((k+1:Nat):Int)<((st.length:Nat):Int))=true:=by simp;omega
     simp only[F15_17,F15_16,ucons_cons,om2.len,vb_some,xLt_i,dc2,isB_t,gd_true,e1,l2,vN_eq,dpos,xPick_t,bite_f,F15_15];exact hf h2 _ k u hx he sl2 om2
    ·have dc2:decide (((k+1:Nat):Int)<((st.length:Nat):Int))=false:=by simp;omega
     simp only[F15_17,F15_16,ucons_cons,om2.len,vb_some,xLt_i,dc2,isB_t,gd_false,e1,l2,vN_eq,dpos,xPick_f,bite_f,F15_15];exact hf h2 _ k u hx he sl2 om2
   ·have de:decide (cls.getD u 0=cls.getD k0 0)=false:=decide_eq_false he;simp only[de,bite_f,F15_12,ucons_cons,F15_10,xAdd_i,vN_eq,wrapN (show k<4611686018427387904 by omega),vb_some];rw[<-hL];refine ih (q+1) (k+1) h rows (by omega) (by omega) (by omega) sl om fun j v hj hv=>?_
    by_cases e:j=k
    ·subst e;rw[hx]at hv;cases hv;exact he
    ·exact hno j v (by omega) hv
  ·exact ih q k h rows (by omega) (by omega) h3 sl om hno
theorem loop15c(hn:4611686018427387904<=n){S0:Vw}{b1 bx bn q0 N:Nat}{cv nv0 ov0:Value}{vs:List Value}{nx0 nx2:List (List Int)}{oks cls:List Int}{bs:List Bool}{r85:Kt}(hbx:S0 bx=some [nv0,ov0,.bool false])(h1:SlV S0 nv0 vs)(h2: ∀(i:Nat) r,nx2[i]?=some r-> ∃y,vs[i]?=some y/\SlV S0 y (zv r))(hcv:SlV S0 cv (zv cls))
  (hp:Prn N nx0 nx2 bs) (hb: ∀i,i<N->(bs[i]?=some true↔Live nx0 oks i)) (hcr:ClsR nx2 oks cls N) (hN:N<=400)
  (hk: ∀h' rows' sv st nr,Sl h0 h' S OM.emp rows'->Om h0 S rows' ((bn,.row .own 1 (zv nr))::rest) d2 sv st nxs accs->Nb (rawS N nx2 oks) (cls2 N bs cls) st nxs accs nr 256->st[nxs.length]?=some q0->Ret (F15_20 n cl (pt d2) (sl256 bn) (pt bx) sv (.int .i64 (nxs.length:Nat)) r85 (pt b1) cv h') Q) (le:Vw.le S0 S):
  ∀(d q c:Nat)(h:PH)(rows:Rws)(sv:Value)(st:List Nat)(nr:List Int),256-c<=d->d<q->c<=256->Sl h0 h S OM.emp rows->Om h0 S rows ((bn,.row .own 1 (zv nr))::rest) d2 sv st nxs accs->Nb (rawS N nx2 oks) (cls2 N bs cls) st nxs accs nr c->st[nxs.length]?=some q0->
   Ret (lp q (F15_22 n cl r85) [pt b1,pt bx,cv,pt d2,sv,.int .i64 (nxs.length:Nat),sl256 bn,.int .i64 (c:Nat)] h) Q:=by
 intro d
 induction d with
 |zero=>
  intro q c h rows sv st nr g1 g2 g3 sl om nb hq0;obtain⟨q,rfl⟩: ∃r,q=r+1:=⟨q-1,by omega⟩;rw[lp_succ];have hc:c=256:=by omega
  subst hc;have dc:decide (((256:Nat):Int)<((256:Nat):Int))=false:=by decide
  simp only[F15_22,F15_21,ucons_cons,vN_eq,xLt_i,dc,vb_some,bite_f];exact hk h rows sv st nr sl om nb hq0
 |succ d ih=>
  intro q c h rows sv st nr g1 g2 g3 sl om nb hq0
  by_cases hc:c<256
  ·obtain⟨q,rfl⟩: ∃r,q=r+1:=⟨q-1,by omega⟩;rw[lp_succ];generalize hL:lp q (F15_22 n cl r85)=LL;have dc:decide (((c:Nat):Int)<((256:Nat):Int))=true:=by simp;omega
   have e1:xIdxS 1 (sl256 bn) (.int .i64 (c:Nat))=some (.pointer (some ⟨bn,c,none⟩)):=by
    unfold sl256;rw[xIdxS_at (by omega) (by omega)];simp
   have em:vM 0= .int .i64 (-1):=rfl;have hnrl:=nb.nrl;have hst: ∀u∈st,u<N:=fun u hu=>by have:=nb.stl u hu;rwa [rawS_n]at this
   have hq0N:=hst q0 (List.mem_of_getElem? hq0);have hsl:st.length<=400:=by have:=nb.len;rw[rawS_n]at this;omega
   simp only[F15_22,F15_21,ucons_cons,vN_eq,xLt_i,dc,vb_some,bite_t,jn_eq,F15_19,e1];rw[em];obtain⟨A,hA,hfr⟩:=om.frame;rw[hA]at sl;refine Ret.lst1M sl rfl (by rw[zv_len,hnrl];exact hc) rfl fun h2' sl2=>?_;rw[zv_set]at sl2;have om2:=hfr ((bn,.row .own 1 (zv (nr.set c (-1))))::rest);have l0:xLd (.pointer (some ⟨bx,0,none⟩)) h2'=some nv0:=sl2.ldS (le _ _ hbx) rfl;obtain⟨b2,o2,f1,f2⟩:=om2.get sl2 hq0;obtain⟨p1,o1,y,p2,o3,a1,a2,a3,a4⟩:=RwR.rd sl2 le hp.ok2 h1 h2 hq0N hc;simp only[xFld_p,Nat.zero_add,vb_some,l0,f1,f2,a1,a2,a3,a4,xLt_i];have next: ∀(h:PH)(rows:Rws)(sv:Value)(st:List Nat)(nr':List Int),Sl h0 h S OM.emp rows->Om h0 S rows ((bn,.row .own 1 (zv nr'))::rest) d2 sv st nxs accs->Nb (rawS N nx2 oks) (cls2 N bs cls) st nxs accs nr' (c+1)->st[nxs.length]?=some q0->
     Ret (F15_18 n cl LL [pt b1,pt bx,cv,pt d2,sv,.int .i64 (nxs.length:Nat),sl256 bn,.int .i64 (c:Nat)] h) Q:=by
    intro h rows sv st nr' sl om nb hq0;simp only[F15_18,F15_9,ucons_cons,vN_eq,xAdd_i,wrapN (show c<4611686018427387904 by omega),vb_some];rw[<-hL];exact ih q (c+1) h rows sv st nr' (by omega) (by omega) (by omega) sl om nb hq0
   have mvq:mv (rawS N nx2 oks) q0 c=if entZ nx2 q0 c= -1 then N else(entZ nx2 q0 c).toNat:=by rw[rawS_mv,if_pos hq0N]
   rcases hp.to hq0N hc with⟨q1,_⟩|⟨k,q1,_,q3,q4⟩
   ·have d1:decide ((-1:Int)<((0:Nat):Int))=true:=by decide
    rw[q1];simp only[d1,bite_t];refine next h2' _ sv st _ sl2 om2 (nb.put hc hq0 (.inl ⟨?_,rfl⟩) (by omega)) hq0;rw[mvq,if_pos q1,rawS_n]
   ·have d1:decide (((k:Nat):Int)<((0:Nat):Int))=false:=by simp
    rw[q3]at mvq ⊢;rw[if_neg (by omega)]at mvq;have mvq:mv (rawS N nx2 oks) q0 c=k:=mvq;have hkc:(cls2 N bs cls).getD k 0=cls.getD k 0:=by rw[cls2_get (by omega),if_pos ⟨q1,q4⟩]
    have hNc:(cls2 N bs cls).getD N 0=(N:Int):=by rw[cls2_get (Nat.le_refl _),if_neg (by omega)]
    have hlt:=hcr.lt q1;have hne:(cls2 N bs cls).getD (mv (rawS N nx2 oks) q0 c) 0≠(cls2 N bs cls).getD (rawS N nx2 oks).alls.length 0:=by
     rw[mvq,rawS_n,hkc,hNc];omega
    simp only[d1,bite_f];refine loop15k (nr:=nr.set c (-1)) hn (hcv.mono le) hcr.ci.len hc (by rw[List.length_set];exact hnrl) (List.getElem?_set_self (by omega)) q1 hst hsl ?_ ?_ st.length n 0 h2' _ (by omega) (by omega) (by omega) sl2 om2 (fun j u hj=>by omega)
    ·intro h4 rows4 j u hj hu sl4 om4;rw[List.set_set]at om4;have huN:=hst u (List.mem_of_getElem? hj);have hjl:=(List.getElem?_eq_some_iff.1 hj).1;refine next h4 rows4 sv st _ sl4 om4 (nb.put hc hq0 (.inr ⟨hne,j,rfl,u,hj,?_⟩) (by omega)) hq0;rw[mvq];exact(hcr.same hp hb huN q1 q4).1 hu
    ·intro h4 rows4 sv' hno sl4 om4;rw[List.set_set]at om4;have:=nb.more hc hq0 (by rw[mvq,rawS_n];exact q1) hne (fun j u hj=>by
      have huN:=hst u (List.mem_of_getElem? hj);rw[mvq];exact fun he=>hno j u hj ((hcr.same hp hb huN q1 q4).2 he))
     rw[mvq]at this;exact next h4 rows4 sv' (st++[k]) _ sl4 om4 this (get_app' hq0)
  ·exact ih q c h rows sv st nr (by omega) (by omega) g3 sl om nb hq0
end
section
variable {Q:Value->PH->Prop}{n:Nat}{cl:CL}{h h0:PH}{S:Vw}{m:OM}{rows rest rows0:Rws}{d2:Nat}{K2:Value->PH->R}
theorem Om.settle{sv:Value}{st:List Nat}{nxs:List (List Int)}{accs:List Int}{nv av:Value}{exS exN exA:Rws}{cN:List Value}(sl:Sl h0 h S OM.emp (exN++(exA++rows0)))(gN:Gq nv nxs.length cN exN)(hNx: ∀(i:Nat) r,nxs[i]?=some r-> ∃x,cN[i]?=some x/\SlV (Nw h0 S) x (zv r))(gA:Gq av accs.length (zv accs) exA):
  ∃S',Vw.le S S'/\Sl h0 h S' OM.emp rows0/\DfV S' (.agg ⟨[nv,av]⟩) ⟨nxs,accs⟩:=by
 obtain⟨S3,le3,sl4,hN⟩:=gN.settleN sl;obtain⟨S4,le4,sl5,hA⟩:=gA.settleN sl4;have lN:Vw.le (Nw h0 S4) S4:=Nw.le;exact⟨S4,le3.trans le4,sl5,nv,av,cN,rfl,(hN.mono (Nw.mono le4)).mono lN,gN.length,fun i r hi=>let⟨x,e1,e2⟩:=hNx i r hi;⟨x,e1,(e2.mono (Nw.mono (le3.trans le4))).mono lN⟩,hA.mono lN⟩
theorem loop15o(hn:4611686018427387904<=n){S0:Vw}{b1 bx N:Nat}{cv nv0 ov0 x1 x2:Value}{vs:List Value}{nx0 nx2:List (List Int)}{oks cls:List Int}{bs:List Bool}(hbx:S0 bx=some [nv0,ov0,.bool false])(h1:SlV S0 nv0 vs)(h2: ∀(i:Nat) r,nx2[i]?=some r-> ∃y,vs[i]?=some y/\SlV S0 y (zv r))(hov:SlV S0 ov0 (zv oks))(hcv:SlV S0 cv (zv cls))
  (hp:Prn N nx0 nx2 bs) (hb: ∀i,i<N->(bs[i]?=some true↔Live nx0 oks i)) (hcr:ClsR nx2 oks cls N) (hN:N<=400) (hol:oks.length=N):
  ∀(d q:Nat)(S:Vw)(h:PH)(rows:Rws)(sv:Value)(st:List Nat)(nxs:List (List Int))(accs nr:List Int),N+1-nxs.length<=d->d<q->Vw.le S0 S->Sl h0 h S OM.emp rows->Om h0 S rows ((b1,.row .own 1 [x1,x2])::rows0) d2 sv st nxs accs->Nb (rawS N nx2 oks) (cls2 N bs cls) st nxs accs nr 0->
   Ret (lp q (F15_26 n cl) [pt b1,pt bx,cv,pt d2,sv,.int .i64 (nxs.length:Nat)] h) fun v h'=> ∃S' d dv,Vw.le S0 S'/\Sl h0 h' S' OM.emp rows0/\v= .tuple ⟨[dv,.int .i64 0,tt]⟩/\DfV S' dv d/\NumD (rawS N nx2 oks) (cls2 N bs cls) d:=by
 intro d
 induction d with
 |zero=>
  intro q S h rows sv st nxs accs nr g1 g2 le sl om nb;have:=nb.len;have:=nb.il;rw[rawS_n]at*;omega
 |succ d ih=>
  intro q S h rows sv st nxs accs nr g1 g2 le sl om nb;obtain⟨q,rfl⟩: ∃r,q=r+1:=⟨q-1,by omega⟩;rw[lp_succ];generalize hL:lp q (F15_26 n cl)=LL;have om0:=om;have hstl:=nb.len;rw[rawS_n]at hstl;simp only[F15_26,F15_25,ucons_cons,om.len,vb_some,xLt_i]
  by_cases hi:nxs.length<st.length
  ·have dc:decide (((nxs.length:Nat):Int)<((st.length:Nat):Int))=true:=by simp;omega
   obtain⟨q0,hq0⟩: ∃q0,st[nxs.length]?=some q0:=⟨_,List.getElem?_eq_getElem hi⟩;have hqn:=nb.stl q0 (List.mem_of_getElem? hq0);rw[rawS_n]at hqn;simp only[dc,bite_t,F15_23,vN_eq];refine Ret.lmk sl zi28 (by omega) (by omega) (by omega) (by omega) fun h2' bn sl2=>?_;rw[Int.toNat_natCast,zv_zrows]at sl2;rw[Int.toNat_natCast];obtain⟨A,hA,hfr⟩:=om0.frame;rw[hA]at sl2;have sl2:=sl2.perm (rows':=A++(bn,.row .own 1 (zv (List.replicate 256 0)))::(b1,.row .own 1 [x1,x2])::rows0) List.perm_middle.symm;refine loop15c (rest:=(b1,.row .own 1 [x1,x2])::rows0) (q0:=q0) hn hbx h1 h2 hcv hp hb hcr hN (fun h3 rows3 sv3 st3 nr3 sl3 om3 nb3 hq3=>?_) le 256 n 0 h2' _ sv st (List.replicate 256 0) (by omega) (by omega) (by omega) sl2 (hfr _) (nb.any (by rw[List.length_replicate])) hq0;obtain⟨A3,hA3,hfr3⟩:=om3.frame;subst hA3;have sl3:=sl3.perm (rows':=(bn,.row .own 1 (zv nr3))::(A3++(b1,.row .own 1 [x1,x2])::rows0)) List.perm_middle;have hnb:=(sl3.sm.own bn _ (sl3.mem (.head _))).2;obtain⟨sl4,hSb⟩:=sl3.settle (i:=0) rfl;have sl4:Sl h0 h3 (S.put bn (zv nr3)) OM.emp (A3++(b1,.row .own 1 [x1,x2])::rows0):=sl4;have le4:Vw.le S (S.put bn (zv nr3)):=Vw.le_put hSb;have hnrl:=nb3.nrl;have hnv:SlV (Nw h0 (S.put bn (zv nr3))) (sl256 bn) (zv nr3):=.inr ⟨bn,0,256,zv nr3,by rw[zv_len,hnrl];rfl,Nw.at hnb Vw.put_self,by omega,fun j x hx=>by rw[Nat.zero_add];exact hx⟩;have om4:=(hfr3 ((b1,.row .own 1 [x1,x2])::rows0)).mono le4;obtain⟨nv,av,exS,exN,exA,cN,hrows,gS,gN,hNx,gA⟩:=om4;rw[hrows]at sl4;have ln:xLd (.pointer (some ⟨d2,0,none⟩)) h3=some nv:=sl4.ld (.head _) rfl;simp only[F15_20,xFld_p,Nat.zero_add,vb_some,ln];have sl4p:=sl4.perm (pm2 _ exS exN _);have hstl3:=nb3.len;rw[rawS_n]at hstl3;have hil3:=nb3.il;have hal3:=nb3.al;refine Ret.gqapp sl4p gN (bs27 (v:=sl256 bn) rfl) ai27 rfl (sz_le (c:=3000) (by omega) (by decide)) fun h5 nv' exN' sl5 gN'=>?_;have sl5:=sl5.perm (pm2 _ exS exN' _).symm;refine Ret.lst1 sl5 0 rfl rfl (by simp) gN'.one fun h6 sl6=>?_;have sl6:Sl h0 h6 (S.put bn (zv nr3)) OM.emp ((d2,.row .own 1 [nv',av])::(exS++(exN'++(exA++(b1,.row .own 1 [x1,x2])::rows0)))):=sl6;have leT:Vw.le S0 (S.put bn (zv nr3)):=le.trans le4;have la:xLd (.pointer (some ⟨d2,1,none⟩)) h6=some av:=sl6.ld (.head _) rfl;have lo:xLd (.pointer (some ⟨bx,1,none⟩)) h6=some ov0:=sl6.ldS (leT _ _ hbx) rfl;obtain⟨sb,so,f1,f2⟩:=gS.at sl6 (fun pr hpr=>.tail _ (List.mem_append_left _ hpr)) (ns_get hq3);have hoq:=List.getElem?_eq_getElem (l:=oks) (i:=q0) (by omega);generalize oks[q0]'(by omega)=a at hoq;obtain⟨b9,o9,cs9,e1,e2,e3⟩:=hov.at (k:=.i64) (zv_get hoq);have l9:=sl6.ldS (leT _ _ e2) e3;simp only[xFld_p,Nat.zero_add,vb_some,la,lo,f1,f2,e1,l9];have sl6p:=sl6.perm (pm3 _ exS exN' exA _);refine Ret.gqapp sl6p gA bs28 ai28 rfl (sz_le (c:=3000) (by omega) (by decide)) fun h7 av' exA' sl7 gA'=>?_;have sl7:=sl7.perm (pm3 _ exS exN' exA' _).symm;refine Ret.lst1 sl7 0 rfl rfl (by simp) gA'.one fun h8 sl8=>?_;have sl8:Sl h0 h8 (S.put bn (zv nr3)) OM.emp ((d2,.row .own 1 [nv',av'])::(exS++(exN'++(exA'++(b1,.row .own 1 [x1,x2])::rows0)))):=sl8;simp only[vN_eq,xAdd_i,wrapN (show nxs.length<4611686018427387904 by omega),vb_some];rw[<-hL];have hlast:=ih q (S.put bn (zv nr3)) h8 _ sv3 st3 (nxs++[nr3]) (accs++[a]) (List.replicate 256 0) (by rw[List.length_append];show N+1-(nxs.length+1)<=d;omega) (by omega) leT sl8 ?_ (nb3.row hq3 hoq (by rw[List.length_replicate]))
   ·rw[List.length_append]at hlast;exact hlast
   ·refine⟨nv',av',exS,exN',exA',cN++[sl256 bn],rfl,gS,?_,fun i r hir=>?_,?_⟩
    ·rw[List.length_append];exact gN'
    ·have hlN:=gN.length;rcases get_sn hir with hir|⟨rfl,rfl⟩
     ·obtain⟨x,q1,q2⟩:=hNx i r hir;exact⟨x,get_app' q1,q2⟩
     ·refine⟨_,?_,hnv⟩;rw[List.getElem?_append_right (by omega),show nxs.length-cN.length=0 by omega];rfl
    ·have e:zv (accs++[a])=zv accs++[.int .i64 a]:=by simp[zv]
     rw[List.length_append,e];exact gA'
  ·have dc:decide (((nxs.length:Nat):Int)<((st.length:Nat):Int))=false:=by simp;omega
   obtain⟨nv,av,exS,exN,exA,cN,hrows,gS,gN,hNx,gA⟩:=om;rw[hrows]at sl;have ld2:xLdA 2 (pt d2) h=some (.agg ⟨[nv,av]⟩):=sl.ldA (.head _) rfl (by simp);have sl1:Sl h0 h S OM.emp ((b1,.row .own 1 [x1,x2])::(exN++(exA++rows0))):=by
    have hs:(exN++(exA++((b1,AObj.row .own 1 [x1,x2])::rows0))).Sublist ((d2,AObj.row .own 1 [nv,av])::(exS++(exN++(exA++((b1,.row .own 1 [x1,x2])::rows0))))):=.cons _ (List.sublist_append_right _ _);refine(sl.drop hs).perm ?_;have h1:=(pm1 (b1,AObj.row .own 1 [x1,x2]) (exN++exA) rows0).symm;simpa[List.append_assoc]using h1
   simp only[dc,bite_f,F15_24,ld2,vb_some];have hone:oneCells [nv,av]=true:=by unfold oneCells;simp[gN.one,gA.one]
   refine Ret.lstA sl1 0 rfl rfl rfl (by simp) hone fun h2 sl2=>?_;rw[setsL_all (by rfl)]at sl2;have sl2:Sl h0 h2 S OM.emp ((b1,.row .own 1 [nv,av])::(exN++(exA++rows0))):=sl2;have ld1:xLdA 2 (pt b1) h2=some (.agg ⟨[nv,av]⟩):=sl2.ldA (.head _) rfl (by simp);simp only[ld1,vb_some];have sl3:Sl h0 h2 S OM.emp (exN++(exA++rows0)):=sl2.drop (List.sublist_cons_self _ _);obtain⟨S4,le4,sl5,hd⟩:=Om.settle (sv:=sv) (st:=st) (exS:=exS) sl3 gN hNx gA;have heq:nxs.length=st.length:=by have:=nb.il;omega
   exact Ret.of ⟨S4,⟨nxs,accs⟩,_,le.trans le4,sl5,rfl,hd,st,nr,nb,heq⟩
theorem rwr_of(st:Sl h0 h S m rows){nv ov:Value}{nxs:List (List Int)}{oks:List Int}{rbs:List Nat}{exN exO:Rws}(gN:Gl 1 nv nxs.length (rbs.map sl256) exN)(gO:Gl 1 ov oks.length (zv oks) exO)(hexN: ∀p∈exN,p∈rows)(hexO: ∀p∈exO,p∈rows)(hrows: ∀p∈nrows rbs nxs,p∈rows)(hrl:rbs.length=nxs.length)(h256: ∀r∈nxs,r.length=256):
  SlV (vall S (over rows m)) nv (rbs.map sl256)/\(∀(i:Nat) r,nxs[i]?=some r-> ∃y,(rbs.map sl256)[i]?=some y/\SlV (vall S (over rows m)) y (zv r))/\SlV (vall S (over rows m)) ov (zv oks):=by
 refine⟨Gq.view (.inl gN) st hexN,fun i r hi=>?_,Gq.view (.inl gO) st hexO⟩;have hil:=(List.getElem?_eq_some_iff.1 hi).1;have hb:=List.getElem?_eq_getElem (l:=rbs) (i:=i) (by omega);refine⟨sl256 (rbs[i]'(by omega)),by rw[List.getElem?_map,hb];rfl,.inr ⟨_,0,256,zv r,?_,vall_m (st.mem (hrows _ (List.mem_of_getElem? (nrows_at hb hi)))),by omega,fun j x hx=>by rw[Nat.zero_add];exact hx⟩⟩;rw[zv_len,h256 r (List.mem_of_getElem? hi)];rfl
def RefV(l:List Po)(V:Vw)(v:Value):Prop:=
 (40<l.length/\v= .tuple ⟨[.agg ⟨[nils,nils]⟩,.int .i64 3,tt]⟩)\/(l.length<=40/\(v= .tuple ⟨[.agg ⟨[nils,nils]⟩,.int .i64 0,ff]⟩\/
  ∃d dv all nxs oks,v= .tuple ⟨[dv,.int .i64 0,tt]⟩/\DfV V dv d/\Canon d/\(∀w,Byt w->FstI l.length (fun k=> ∃po,l[k]?=some po/\takesP po w) (dacc d (drun d 0 w)))/\SubI l all nxs oks/\nxs.length=all.length))
theorem c15(hn:4611686018427387904<=n)(st:Sl h0 h S OM.emp rows){l:List Po}{av:Value}(hav:PoL S av l)(hp: ∀po∈l,PoB po)(hl:l.length<1000000000):
  Ret (F15 n cl av h) fun v h'=> ∃S',Vw.le S S'/\Sl h0 h' S' OM.emp rows/\RefV l S' v:=by
 unfold F15;refine Ret.lalloc st zc30 fun h1 b1 st1=>?_;simp only[hav.len,vb_some,vN_eq,xGt_i]
 by_cases h40:40<l.length
 ·have dc:decide (((40:Nat):Int)<((l.length:Nat):Int))=true:=by simp;omega
  simp only[dc,bite_t,F15_0];refine Ret.vb ab30 ?_;refine Ret.lstA st1 0 rfl rfl rfl (by simp) rfl fun h2 st2=>?_;have st2:Sl h0 h2 S OM.emp ((b1,.row .own 1 [nils,nils])::rows):=st2;have ld:xLdA 2 (pt b1) h2=some (.agg ⟨[nils,nils]⟩):=st2.ldA (.head _) rfl (by simp);simp only[ld,vb_some];exact Ret.of ⟨S,Vw.le.refl _,st2.drop (List.sublist_cons_self _ _),.inl ⟨h40,rfl⟩⟩
 have dc:decide (((40:Nat):Int)<((l.length:Nat):Int))=false:=by simp;omega
 simp only[dc,bite_f,F15_31];have okh1:=st1.ok;refine Ret.lfcall (S1:=S) st1 (c34 (n:=n) (cl:=cl) (h:=h1.fzn) hn (fun b cs e=>st1.leS b cs e) (by omega) hp hav) fun u h2 ex hq st2=>?_;refine Ret.lalloc st2 zc73 fun h3 bx st3=>?_;have htt:tt= .bool true:=rfl;have hff:ff= .bool false:=rfl;rcases hq with⟨a,b,rfl,ha,hb⟩|⟨all,nxs,oks,rbs,⟨nv,ov,exN,exO,hex,rfl,gN,gO,hrl⟩,si,hnl⟩
 ·have hone:oneCells [a,b,tt]=true:=by unfold oneCells;simp[ha,hb];rfl
  refine Ret.lstA st3 0 rfl rfl rfl (by simp) hone fun h4 st4=>?_;rw[setsL_all (by rfl)]at st4;have st4:Sl h0 h4 S OM.emp ((bx,.row .own 1 [a,b,tt])::(ex++(b1,.row .own 1 [nils,nils])::rows)):=st4;have l2:xLd (.pointer (some ⟨bx,2,none⟩)) h4=some (.bool true):=st4.ld (.head _) rfl;simp only[xFld_p,Nat.zero_add,vb_some,l2,bite_t,F15_1];refine Ret.vb ab30 ?_;have st5:Sl h0 h4 S OM.emp ((b1,.row .own 1 [nils,nils])::rows):=st4.drop (.cons _ (List.sublist_append_right _ _));refine Ret.lstA st5 0 rfl rfl rfl (by simp) rfl fun h6 st6=>?_;have st6:Sl h0 h6 S OM.emp ((b1,.row .own 1 [nils,nils])::rows):=st6;have ld:xLdA 2 (pt b1) h6=some (.agg ⟨[nils,nils]⟩):=st6.ldA (.head _) rfl (by simp);simp only[ld,vb_some];exact Ret.of ⟨S,Vw.le.refl _,st6.drop (List.sublist_cons_self _ _),.inr ⟨by omega,.inl rfl⟩⟩
 ·have hone:oneCells [nv,ov,.bool false]=true:=by unfold oneCells;simp[gN.one,gO.one];rfl
  refine Ret.lstA st3 0 rfl rfl rfl (by simp) hone fun h4 st4=>?_;rw[setsL_all (by rfl)]at st4;have st4:Sl h0 h4 S OM.emp ((bx,.row .own 1 [nv,ov,.bool false])::(ex++(b1,.row .own 1 [nils,nils])::rows)):=st4;have l2:xLd (.pointer (some ⟨bx,2,none⟩)) h4=some (.bool false):=st4.ld (.head _) rfl;have l3:xLdA 3 (pt bx) h4=some (.agg ⟨[nv,ov,.bool false]⟩):=st4.ldA (.head _) rfl (by simp);simp only[xFld_p,Nat.zero_add,vb_some,l2,bite_f,F15_30,l3];have hok:=si.nxok hnl;have hol:oks.length=all.length:=si.ol.trans hnl;have h256: ∀r∈nxs,r.length=256:=fun r hr=>let⟨i,hi⟩:=List.getElem?_of_mem hr;(si.row i r hi).1;have hsz:=si.sz;have hN1:1<=all.length:=by
   obtain⟨f,hf,_⟩:=si.a0;have:=(List.getElem?_eq_some_iff.1 hf).1;omega
  have hob: ∀z∈oks, -1<=z/\z<1000:=by
   intro z hz;obtain⟨i,hi⟩:=List.getElem?_of_mem hz;have hil:=(List.getElem?_eq_some_iff.1 hi).1;have:=si.acc i _ z (List.getElem?_eq_getElem (by omega)) hi;rcases this with⟨h,_⟩|⟨k,h,hk,_⟩<;>omega
  subst hex;obtain⟨v1,v2,v3⟩:=rwr_of st4 gN gO (fun p hp=>.tail _ (List.mem_append_left _ (List.mem_append_left _ hp))) (fun p hp=>.tail _ (List.mem_append_left _ (List.mem_append_right _ (List.mem_append_left _ hp)))) (fun p hp=>.tail _ (List.mem_append_left _ (List.mem_append_right _ (List.mem_append_right _ hp)))) hrl h256;have okh4:=st4.ok;refine Ret.lfcall st4 (c35 (n:=n) (cl:=cl) (h:=h4.fzn) (es:=[nv,ov,.bool false]) hn (fun b cs e=>st4.sm.all b cs e) ⟨nv,ov,.bool false,_,rfl,rfl,v1,v2,v3⟩ hok hol hsz) fun u5 h5 ex5 ⟨bo,bs,hu5,hex5,hbl,hbs⟩ st5=>?_;subst hu5;subst hex5;simp only[vN_eq];have st5:=st5.perm (rows':=nrows rbs nxs++((bo,.row .own 1 (bvs bs))::(bx,.row .own 1 [nv,ov,.bool false])::(exN++(exO++((b1,.row .own 1 [nils,nils])::rows))))) (by
   have h1:((bo,AObj.row .own 1 (bvs bs))::(bx,.row .own 1 [nv,ov,.bool false])::(exN++(exO++(nrows rbs nxs++((b1,.row .own 1 [nils,nils])::rows))))).Perm (nrows rbs nxs++((bo,.row .own 1 (bvs bs))::(bx,.row .own 1 [nv,ov,.bool false])::(exN++(exO++((b1,.row .own 1 [nils,nils])::rows))))):=pmC _ _ exN exO (nrows rbs nxs) _;simpa[List.append_assoc]using h1)
  refine loop15p (N:=all.length) (rbs:=rbs) (bs:=bs) (exN:=exN) (nv:=nv) (ov:=ov) (m:=OM.emp) hn hok hsz (by omega) hbl (by rw[<-hnl];exact gN) (fun p hp=>.tail _ (.tail _ (List.mem_append_left _ hp))) (.tail _ (.head _)) (.head _) (fun h6 nx2 st6 hprn=>?_) all.length n 0 h5 nxs (by omega) (by omega) (by omega) st5 ⟨hok,fun i' c' _ _ hb=>by unfold Bef at hb;omega,fun _ _ _ _ _=>rfl⟩;have h256': ∀r∈nx2,r.length=256:=fun r hr=>let⟨i,hi⟩:=List.getElem?_of_mem hr;(hprn.ok2.row i r hi).1;have hn2:=hprn.ok2.len;have gN2:Gl 1 nv nx2.length (rbs.map sl256) exN:=by rw[hn2, <-hnl];exact gN
  obtain⟨w1,w2,w3⟩:=rwr_of st6 gN2 gO (fun p hp=>List.mem_append_right _ (.tail _ (.tail _ (List.mem_append_left _ hp)))) (fun p hp=>List.mem_append_right _ (.tail _ (.tail _ (List.mem_append_right _ (List.mem_append_left _ hp))))) (fun p hp=>List.mem_append_left _ hp) (by omega) h256';have l6:xLdA 3 (pt bx) h6=some (.agg ⟨[nv,ov,.bool false]⟩):=st6.ldA (List.mem_append_right _ (.tail _ (.head _))) rfl (by simp);simp only[F15_27,l6,vb_some,vN_eq];have okh6:=st6.ok;refine Ret.lfcall st6 (c36 (n:=n) (cl:=cl) (h:=h6.fzn) (es:=[nv,ov,.bool false]) hn (fun b cs e=>st6.sm.all b cs e) ⟨nv,ov,.bool false,_,rfl,rfl,w1,w2,w3⟩ hprn.ok2 hol hsz hob) fun u7 h7 ex7 ⟨bc,cls,hu7,hex7,hcr⟩ st7=>?_;subst hu7;subst hex7;refine Ret.lalloc st7 zc30 fun h8 bd st8=>?_;refine Ret.lbs st8 (bs28 (a:=((0:Nat):Int))) fun h9 b0 st9=>?_;have st10:Sl h0 h9 S OM.emp (((bc,.row .own 1 (zv cls))::(nrows rbs nx2++((bo,.row .own 1 (bvs bs))::(bx,.row .own 1 [nv,ov,.bool false])::(exN++exO))))++((bd,.row .own 1 [nils,nils])::(b0,.row .own 1 [.int .i64 ((0:Nat):Int)])::(b1,.row .own 1 [nils,nils])::rows)):=by
   refine st9.perm ?_;have h1:((b0,AObj.row .own 1 [Value.int .i64 ((0:Nat):Int)])::(bd,.row .own 1 [nils,nils])::(((bc,.row .own 1 (zv cls))::(nrows rbs nx2++((bo,.row .own 1 (bvs bs))::(bx,.row .own 1 [nv,ov,.bool false])::(exN++exO))))++((b1,.row .own 1 [nils,nils])::rows))).Perm (((bc,.row .own 1 (zv cls))::(nrows rbs nx2++((bo,.row .own 1 (bvs bs))::(bx,.row .own 1 [nv,ov,.bool false])::(exN++exO))))++((bd,.row .own 1 [nils,nils])::(b0,.row .own 1 [.int .i64 ((0:Nat):Int)])::(b1,.row .own 1 [nils,nils])::rows)):=(List.Perm.swap _ _ _).trans (pmA _ _ _ _);simpa[List.append_assoc]using h1
  obtain⟨st11,le11⟩:=st10.settleAll;have st12:Sl h0 h9 S OM.emp ((bc,.row .own 1 (zv cls))::(nrows rbs nx2++((bo,.row .own 1 (bvs bs))::(bx,.row .own 1 [nv,ov,.bool false])::(exN++exO)))):=st10.drop (List.sublist_append_left _ _);obtain⟨y1,y2,y3⟩:=rwr_of st12 gN2 gO (fun p hp=>.tail _ (List.mem_append_right _ (.tail _ (.tail _ (List.mem_append_left _ hp))))) (fun p hp=>.tail _ (List.mem_append_right _ (.tail _ (.tail _ (List.mem_append_right _ hp))))) (fun p hp=>.tail _ (List.mem_append_left _ hp)) (by omega) h256';have hbxS:vall S (over ((bc,.row .own 1 (zv cls))::(nrows rbs nx2++((bo,.row .own 1 (bvs bs))::(bx,.row .own 1 [nv,ov,.bool false])::(exN++exO)))) OM.emp) bx=some [nv,ov,.bool false]:=vall_m (st12.mem (.tail _ (List.mem_append_right _ (.tail _ (.head _)))));have hcvS:SlV (vall S (over ((bc,.row .own 1 (zv cls))::(nrows rbs nx2++((bo,.row .own 1 (bvs bs))::(bx,.row .own 1 [nv,ov,.bool false])::(exN++exO)))) OM.emp)) (.slice (some ⟨bc,0,none⟩) all.length all.length) (zv cls):=
   .inr ⟨bc,0,all.length,zv cls,by rw[zv_len,hcr.ci.len],vall_m (st12.mem (.head _)),by omega,fun j x hx=>by rw[Nat.zero_add];exact hx⟩
  generalize vall S (over ((bc,.row .own 1 (zv cls))::(nrows rbs nx2++((bo,.row .own 1 (bvs bs))::(bx,.row .own 1 [nv,ov,.bool false])::(exN++exO)))) OM.emp)=S2 at st11 le11 y1 y2 y3 hbxS hcvS;have hg: ∀{i u:Nat},([0]:List Nat)[i]?=some u->i=0/\u=0:=fun {i u} hi=>by
   have:=(List.getElem?_eq_some_iff.1 hi).1;have e:i=0:=by simp at this;omega
   subst e;exact⟨rfl,by simpa using hi.symm⟩
  refine Ret.mono (loop15o (N:=all.length) (rows0:=rows) (b1:=b1) (d2:=bd) (x1:=nils) (x2:=nils) hn hbxS y1 y2 y3 hcvS hprn hbs hcr hsz hol (all.length+1) n S2 h9 _ (.slice (some ⟨b0,0,none⟩) 1 1) [0] [] [] (List.replicate 256 0) (by simp) (by omega) (Vw.le.refl _) st11 ?_ ?_) fun v h' ⟨S',d,dv,q1,q2,q3,q4,q5⟩=>?_
  ·exact⟨nils,nils,[(b0,.row .own 1 [.int .i64 ((0:Nat):Int)])],[],[],[],rfl,.inr ⟨b0,rfl,rfl,rfl,by simp⟩,.inl Gl.nil,(fun i r hi=>by simp at hi),.inl Gl.nil⟩
  ·refine⟨rfl,fun u hu=>?_,fun i j u v hi hj _=>?_,(fun r hr=>by cases hr),by rw[List.length_replicate],rfl,(fun i q hi=>by simp at hi),by simp,fun i' c' z ht=>?_,fun k h1 h2=>by simp at h2;omega,fun i' c' j k ht=>?_⟩
   ·have:u=0:=by simpa using hu
    rw[rawS_n];omega
   ·have:=(hg hi).1;have:=(hg hj).1;omega
   ·rcases ht with⟨r,hr,_⟩|⟨_,h,_⟩
    ·simp at hr
    ·omega
   ·rcases ht with⟨r,hr,_⟩|⟨_,h,_⟩
    ·simp at hr
    ·omega
  ·have hfin:=rawS_fin hprn.ok2 hol hN1 hsz;have hck:=hcr.ok hprn hbs hol (fun z hz=>(hob z hz).1);obtain⟨g1,g2⟩:=NumD.canon hfin hck q5;exact⟨S',le11.trans q1,q2,.inr ⟨by omega,.inr ⟨d,dv,all,nxs,oks,q3,q4,g1,fun w hw=>by rw[g2 w hw];exact raw_tells si hnl hprn hbs hw,si,hnl⟩⟩⟩
end
section
variable {l:List Po}{p:Pp}{a0:Int}{s:Ss}
def SetW(l:List Po)(w:List Nat)(ws:List Nat):Prop:= ∀g,hs ws g=true↔ ∃k po y,l[k]?=some po/\g=off l k+y/\DP po w y
theorem may_iff(hpo:PpOf l p){i c:Nat}{v:List Nat}(hi:(i=0/\v=[])\/(i≠0/\v≠[]/\SetW l v (s.alls.getD i [])))(hc:c<256)(g:Nat):(MayP p s.alls i g/\hs (p.takes.getD c []) g=true)↔ ∃k po y,l[k]?=some po/\g=off l k+y/\DP po (v++[c]) y:=by
 rw[hpo.tks c hc];constructor
 ·rintro⟨h1,k,po,y,h2,h3,h4,rfl⟩;refine⟨k,po,y,h2,rfl,DP_snoc.2 ⟨?_,h4⟩⟩;rcases hi with⟨rfl,rfl⟩|⟨hi0,hv,hset⟩
  ·rw[if_pos rfl];have h1:hs p.first (off l k+y)=true:=h1;obtain⟨k',po',y',e1,e2,e3,e4⟩:=(hpo.first _).1 h1;obtain⟨rfl,rfl⟩:=off_inj h2 e1 h3 e3 e4;rw[h2]at e1;cases e1;exact e2
  ·rw[if_neg hv];unfold MayP at h1;rw[if_neg hi0]at h1;obtain⟨x,x1,x2,x3⟩:=h1;obtain⟨k1,po1,y1,f1,rfl,f3⟩:=(hset x).1 x2;have hfo:=List.getElem?_eq_getElem (l:=p.follow) (i:=off l k1+y1) (by rw[hpo.ok.fl];exact x1);have hD:p.follow.getD (off l k1+y1) []=p.follow[off l k1+y1]'(by rw[hpo.ok.fl];exact x1):=by rw[List.getD_eq_getElem?_getD,hfo];rfl
   rw[hD]at x3;obtain⟨k2,po2,y2,z2,g1,g2,g3,g4,g5,g6⟩:=(hpo.fol _ _ hfo _).1 x3;have hy1:=DP_lt f3;obtain⟨rfl,rfl⟩:=off_inj f1 g1 hy1 g2 g3;rw[f1]at g1;cases g1;obtain⟨rfl,rfl⟩:=off_inj h2 f1 h3 g5 g6;rw[h2]at f1;cases f1;exact⟨y1,f3,g4⟩
 ·rintro⟨k,po,y,h2,rfl,h3⟩;obtain⟨h4,h5⟩:=DP_snoc.1 h3;have hy:=takesB_lt h5;refine⟨?_,k,po,y,h2,hy,h5,rfl⟩;rcases hi with⟨rfl,rfl⟩|⟨hi0,hv,hset⟩
  ·rw[if_pos rfl]at h4
   show hs p.first (off l k+y)=true
   exact(hpo.first _).2 ⟨k,po,y,h2,h4,hy,rfl⟩
  ·rw[if_neg hv]at h4;obtain⟨x,x1,x2⟩:=h4;have hxl:=DP_lt x1;have hoff:=off_lt h2 hxl;have hN:p.N=tot l:=hpo.N;unfold MayP;rw[if_neg hi0];refine⟨off l k+x,by omega,(hset _).2 ⟨k,po,x,h2,rfl,x1⟩,?_⟩;have hfo:=List.getElem?_eq_getElem (l:=p.follow) (i:=off l k+x) (by rw[hpo.ok.fl];omega);have hD:p.follow.getD (off l k+x) []=p.follow[off l k+x]'(by rw[hpo.ok.fl];omega):=by rw[List.getD_eq_getElem?_getD,hfo];rfl
   rw[hD];exact(hpo.fol _ _ hfo _).2 ⟨k,po,x,y,h2,hxl,rfl,x2,hy,rfl⟩
theorem set_word(hpo:PpOf l p)(hmk:s.Mk p a0): ∀(k:Nat) ws,1<=k->s.alls[k]?=some ws-> ∃w,w≠[]/\Byt w/\SetW l w ws:=by
 intro k
 induction k using Nat.strongRecOn with
 |_ k ih=>
  intro ws hk hw;obtain⟨j,c,h1,h2,h3⟩:=hmk.from' k ws hk hw
  by_cases hj:j=0
  ·subst hj;refine⟨[]++[c],by simp,fun d hd=>by simp at hd;omega,fun g=>(h3.2 g).trans (may_iff hpo (.inl ⟨rfl,rfl⟩) h2 g)⟩
  ·have hjl:j<s.alls.length:=by have:=(List.getElem?_eq_some_iff.1 hw).1;omega
   have hx:=List.getElem?_eq_getElem hjl;have hD:s.alls.getD j []=s.alls[j]:=by rw[List.getD_eq_getElem?_getD,hx];rfl
   obtain⟨w,w1,w2,w3⟩:=ih j h1 _ (by omega) hx;refine⟨w++[c],by simp,fun d hd=>?_,fun g=>(h3.2 g).trans (may_iff hpo (.inr ⟨hj,w1,by rw[hD];exact w3⟩) h2 g)⟩;rcases List.mem_append.1 hd with hd|hd
   ·exact w2 d hd
   ·have:d=c:=by simpa using hd
    omega
theorem sets_few(hpo:PpOf l p)(hmk:s.Mk p a0){all:List (List Spt)}{nxs:List (List Int)}{oks:List Int}(si:SubI l all nxs oks)(hn:nxs.length=all.length):s.alls.length<=401:=by
 classical
 have hw: ∀k, ∃w:List Nat,(k+1<s.alls.length->w≠[]/\Byt w/\SetW l w (s.alls.getD (k+1) [])):=by
  intro k
  by_cases h:k+1<s.alls.length
  ·have hx:=List.getElem?_eq_getElem h;obtain⟨w,w1,w2,w3⟩:=set_word hpo hmk (k+1) _ (by omega) hx;refine⟨w,fun _=>⟨w1,w2,?_⟩⟩;have hD:s.alls.getD (k+1) []=s.alls[k+1]:=by rw[List.getD_eq_getElem?_getD,hx];rfl
   rw[hD];exact w3
  ·exact⟨[],fun h'=>absurd h' h⟩
 have hrow: ∀k,k+1<s.alls.length-> ∃t,all[runm (rawS all.length nxs oks) 0 (hw k).choose]?=some t/\ ∀x,x∈t↔SpotW l (hw k).choose x:=by
  intro k hk;obtain⟨w1,w2,w3⟩:=(hw k).choose_spec hk;generalize(hw k).choose=w at w1 w2 w3;rcases raw_run si hn _ w rfl w2 with⟨_,h2⟩|h
  ·exfalso;have hx:=List.getElem?_eq_getElem hk;have hD:s.alls.getD (k+1) []=s.alls[k+1]:=by rw[List.getD_eq_getElem?_getD,hx];rfl
   obtain⟨g,hg⟩:=hmk.ne (k+1) _ (by omega) hx;rw[<-hD]at hg;obtain⟨q,po,y,q1,q2,q3⟩:=(w3 g).1 hg;exact h2 (q,((y:Nat):Int)) ⟨po,q1,by rw[if_neg w1];exact⟨y,rfl,q3⟩⟩
  ·exact h
 have key:=inj_le all.length (s.alls.length-1) (fun k=>runm (rawS all.length nxs oks) 0 (hw k).choose) (fun k hk=>by
  obtain⟨t,h1,_⟩:=hrow k (by omega);exact(List.getElem?_eq_some_iff.1 h1).1) (fun i j hi hj he=>by
  obtain⟨t,h1,h2⟩:=hrow i (by omega);obtain⟨t',h3,h4⟩:=hrow j (by omega);have he:runm (rawS all.length nxs oks) 0 (hw i).choose=runm (rawS all.length nxs oks) 0 (hw j).choose:=he;rw[he,h3]at h1;cases h1;obtain⟨a1,a2,a3⟩:=(hw i).choose_spec (by omega);obtain⟨b1,b2,b3⟩:=(hw j).choose_spec (by omega);generalize(hw i).choose=w at a1 a2 a3 h2;generalize(hw j).choose=v at b1 b2 b3 h4;have same: ∀g,hs (s.alls.getD (i+1) []) g=true↔hs (s.alls.getD (j+1) []) g=true:=by
   intro g;rw[a3,b3];have sp: ∀(k:Nat)(po:Po)(y:Nat),l[k]?=some po->(DP po w y↔DP po v y):=by
    intro k po y hk;have h5:=(h2 (k,((y:Nat):Int))).symm.trans (h4 _);have e1:SpotW l w (k,((y:Nat):Int))↔DP po w y:=by
     constructor
     ·rintro⟨po',q1,q2⟩;rw[if_neg a1]at q2;rw[show((k,((y:Nat):Int)):Spt).1=k from rfl,hk]at q1;cases q1;obtain⟨y',q3,q4⟩:=q2;have q3:((y:Nat):Int)=y':=q3;have:y=y':=by omega
      rw[this];exact q4
     ·intro q;exact⟨po,hk,by rw[if_neg a1];exact⟨y,rfl,q⟩⟩
    have e2:SpotW l v (k,((y:Nat):Int))↔DP po v y:=by
     constructor
     ·rintro⟨po',q1,q2⟩;rw[if_neg b1]at q2;rw[show((k,((y:Nat):Int)):Spt).1=k from rfl,hk]at q1;cases q1;obtain⟨y',q3,q4⟩:=q2;have q3:((y:Nat):Int)=y':=q3;have:y=y':=by omega
      rw[this];exact q4
     ·intro q;exact⟨po,hk,by rw[if_neg b1];exact⟨y,rfl,q⟩⟩
    exact e1.symm.trans (h5.trans e2)
   constructor
   ·rintro⟨k,po,y,q1,q2,q3⟩;exact⟨k,po,y,q1,q2,(sp k po y q1).1 q3⟩
   ·rintro⟨k,po,y,q1,q2,q3⟩;exact⟨k,po,y,q1,q2,(sp k po y q1).2 q3⟩
  have hxi:=List.getElem?_eq_getElem (l:=s.alls) (i:=i+1) (by omega);have hxj:=List.getElem?_eq_getElem (l:=s.alls) (i:=j+1) (by omega);have hDi:s.alls.getD (i+1) []=s.alls[i+1]'(by omega):=by rw[List.getD_eq_getElem?_getD,hxi];rfl
  have hDj:s.alls.getD (j+1) []=s.alls[j+1]'(by omega):=by rw[List.getD_eq_getElem?_getD,hxj];rfl
  rw[hDi,hDj]at same;have bi:=hmk.ok.bk _ (List.getElem_mem (l:=s.alls) (n:=i+1) (by omega));have bj:=hmk.ok.bk _ (List.getElem_mem (l:=s.alls) (n:=j+1) (by omega));have heq:s.alls[i+1]'(by omega)=s.alls[j+1]'(by omega):=hs_ext (by rw[bi.len,bj.len]) bi.wd bj.wd fun g=>by
   have:=same g;cases h1:hs (s.alls[i+1]'(by omega)) g<;>cases h2:hs (s.alls[j+1]'(by omega)) g<;>simp_all
  rw[heq]at hxi;rcases Nat.lt_trichotomy i j with h|h|h
  ·exact absurd hxj (hmk.ok.dis (i+1) (j+1) _ (by omega) (by omega) hxi)
  ·exact h
  ·exact absurd hxi (hmk.ok.dis (j+1) (i+1) _ (by omega) (by omega) hxj))
 have:=si.sz;omega
theorem of_ref{V W:Vw}{v u:Value}(ho:OfV l V v)(hr:RefV l W u):(40<l.length/\v= .tuple ⟨[.agg ⟨[nils,nils]⟩,.int .i64 3]⟩/\u= .tuple ⟨[.agg ⟨[nils,nils]⟩,.int .i64 3,tt]⟩)\/(l.length<=40/\u= .tuple ⟨[.agg ⟨[nils,nils]⟩,.int .i64 0,ff]⟩/\(v= .tuple ⟨[.agg ⟨[nils,nils]⟩,.int .i64 3]⟩\/ ∃d dv,v= .tuple ⟨[dv,.int .i64 0]⟩/\DfV V dv d))\/
  (l.length<=40/\ ∃d dv du,v= .tuple ⟨[dv,.int .i64 0]⟩/\u= .tuple ⟨[du,.int .i64 0,tt]⟩/\DfV V dv d/\DfV W du d/\Canon d/\d.next.length<=3000/\ ∀w,Byt w->FstI l.length (fun k=> ∃po,l[k]?=some po/\takesP po w) (dacc d (drun d 0 w))):=by
 rcases ho with⟨h1,rfl⟩|⟨h1,p,a0,s,hpo,ha0,hmk,hv⟩
 ·rcases hr with⟨h2,rfl⟩|⟨h2,_⟩
  ·exact .inl ⟨h1,rfl,rfl⟩
  ·omega
 ·rcases hr with⟨h2,rfl⟩|⟨h2,rfl|⟨d',du,all,nxs,oks,rfl,hdu,hc',ht',si,hn⟩⟩
  ·omega
  ·refine .inr (.inl ⟨h1,rfl,?_⟩);rcases hv with⟨_,rfl⟩|⟨_,cls,d,dv,rfl,hdv,_⟩
   ·exact .inl rfl
   ·exact .inr ⟨d,dv,rfl,hdv⟩
  ·refine .inr (.inr ⟨h1,?_⟩);have hfew:=sets_few hpo hmk si hn;rcases hv with⟨h3,_⟩|⟨hf,cls,d,dv,rfl,hdv,hck,hnd⟩
   ·omega
   ·obtain⟨hc,_⟩:=NumD.canon hf hck hnd;have ht: ∀w,Byt w->FstI l.length (fun k=> ∃po,l[k]?=some po/\takesP po w) (dacc d (drun d 0 w)):=fun w hw=>of_run hpo hmk hf ha0 hck hnd hw;have e:d=d':=hc.uniq hc' fun w hw=>(ht w hw).uniq (ht' w hw);subst e;obtain⟨stt,nr,nb,hll⟩:=hnd;have:=nb.len;have:=hf.sz;exact⟨d,dv,du,rfl,rfl,hdv,hdu,hc,by omega,ht⟩
end
theorem alive13_run:isT (F13 3000 (CLV 3000 30) h00)=true:=by kernel_rfl
noncomputable def CLU(n d:Nat):CL:=toldOr 13 (.bool true) (CLV n d)
theorem CLU_ok(n d:Nat):OkCL Try.prog (CLU n d):=by
 obtain⟨k,hk⟩:=isT_ok alive13_run;have:=(S13 _ (CLV_ok _ _)).c0 hk;refine toldOr_ok (CLV_ok n d) this.1.1 rfl ?_;have hc:=this.1.2;have h0:h00.abs=[]:=rfl;rw[h0]at hc;exact hc.mono fun u k hq=>hq.1
theorem told13{n d:Nat}{h:PH}:pcall (CLU n d 13 [] h)=some (.bool true):=rfl
theorem clu25{n d:Nat}{v:Value}{h:PH}:CLU n d 25 [v] h=CLV n d 25 [v] h:=rfl
theorem clu53{n d:Nat}{v:Value}{h:PH}:CLU n d 53 [v] h=CLV n d 53 [v] h:=rfl
theorem clu54{n d:Nat}{u v:Value}{h:PH}:CLU n d 54 [u,v] h=CLV n d 54 [u,v] h:=rfl
theorem clu55{n d:Nat}{u v:Value}{h:PH}:CLU n d 55 [u,v] h=CLV n d 55 [u,v] h:=rfl
theorem clu109{n d:Nat}{u v:Value}{h:PH}:CLU n (d+1) 109 [u,v] h=F109 n (CLV n d) u v h:=rfl
theorem clu107{n d:Nat}{v:Value}{h:PH}:CLU n (d+1) 107 [v] h=F107 n (CLV n d) v h:=rfl
theorem clv107{n d:Nat}{v:Value}{h:PH}:CLV n (d+1) 107 [v] h=F107 n (CLV n d) v h:=rfl
theorem clu99{n d:Nat}{u v:Value}{h:PH}:CLU n (d+1) 99 [u,v] h=F99 n (CLV n d) u v h:=rfl
section
variable {Q:Value->PH->Prop}{n:Nat}{cl:CL}{h h0:PH}{S:Vw}{m:OM}{rows:Rws}{K2:Value->PH->R}
def LsZ(S:Vw)(v:Value)(ls:List (List Int)):Prop:= ∃ws,SlV S v ws/\ws.length=ls.length/\ ∀(i:Nat) l,ls[i]?=some l-> ∃w,ws[i]?=some w/\SlV S w (zv l)
end
def rT:Rdr ByteArray:=⟨1,fun _ t es=>es=[.string t],fun _ h=>h,fun h=>by rw[h];rfl,fun h=>by rw[h];rfl⟩
section
open Go.ChangeShapes Go.WideShapes
theorem opens_string{P:Program}{T:TypeId}(hu:P.underlying T=some .string):Opens P T rT fun t=>t.size<9223372036854775808:=by
 intro H enc w ρ l fuel cs y m hl ht;obtain⟨s,e,_,hs⟩:=DataW.trod_string hu ht;cases e;have hmx:maxLen=9223372036854775807:=rfl;exact⟨ρ,[],[.string s],s,by rw[List.append_nil];exact m,RMap.le_refl _,.cons (.string _) .nil,rfl,by omega⟩
end
theorem RdV.tlen{V:Vw}{v:Value}{l:List ByteArray}(r:RdV rT V v l):xLenS v=some (.int .i64 (l.length:Nat)):=by
 rcases r with⟨rfl,a,c,rfl⟩|⟨b,o,c,cs,rfl,_⟩<;>simp
theorem RdV.tat{V:Vw}{v:Value}{l:List ByteArray}(r:RdV rT V v l){i:Nat}{t:ByteArray}(hi:l[i]?=some t): ∃b o cs,xIdxS 1 v (.int .i64 (i:Nat))=some (.pointer (some ⟨b,o,none⟩))/\V b=some cs/\cs[o]?=some (.string t):=by
 have hlt:=(List.getElem?_eq_some_iff.1 hi).1;rcases r with⟨rfl,_⟩|⟨b,o,c,cs,rfl,h1,h2⟩
 ·simp at hi
 ·obtain⟨q1,q2⟩:=h2 i t hi;have q1:o+i*1+1<=cs.length:=q1;have q2:(cs.drop (o+i*1)).take 1=[.string t]:=q2;refine⟨b,o+i,cs,by rw[xIdxS_at (by omega) (by omega)];simp,h1,?_⟩;have:=congrArg (fun l=>l[0]?) q2;simp only[List.getElem?_take,List.getElem?_drop]at this;simpa using this
end Go.Am
namespace Go.Am
open Go Go.RowKit Go.Proofs
def isSl(v:Value):Prop:=v=nils\/ ∃b o n c,v= .slice (some ⟨b,o,none⟩) n c
theorem SlV.isSl{V:Vw}{v:Value}{vs:List Value}(h:SlV V v vs):isSl v:=by
 rcases h with⟨_,rfl⟩|⟨b,o,c,cs,rfl,_⟩
 ·exact .inl rfl
 ·exact .inr ⟨_,_,_,_,rfl⟩
theorem SlC.isSl{V:Vw}{sz k:Nat}{v:Value}{cells:List Value}(h:SlC V sz v k cells):isSl v:=by
 rcases h with⟨_,_,rfl⟩|⟨b,o,c,cs,rfl,_⟩
 ·exact .inl rfl
 ·exact .inr ⟨_,_,_,_,rfl⟩
theorem bs24{a c d e:Value}{b:Bool}(ha:isSl a)(hc:isSl c)(hd:isSl d)(he:isSl e):bsRow Try.prog 24 1 [(0,.agg ⟨[a,.bool b,c,d,e]⟩)]=some (5,[a,.bool b,c,d,e]):=by
 rcases ha with rfl|⟨_,_,_,_,rfl⟩<;>rcases hc with rfl|⟨_,_,_,_,rfl⟩<;>rcases hd with rfl|⟨_,_,_,_,rfl⟩<;>rcases he with rfl|⟨_,_,_,_,rfl⟩<;>kernel_rfl
theorem bsPo{V:Vw}{po:Po}{ps:List Value}(h:PoV V po ps):bsRow Try.prog 24 1 [(0,.agg ⟨ps⟩)]=some (5,ps):=by
 obtain⟨sv,fv,lv,wv,ws,rfl,q1,q2,q3,q4,_⟩:=h.h;exact bs24 q1.isSl q2.isSl q3.isSl q4.isSl
theorem ai24:appInfo Try.prog #[24,24]=some (5,104):=by kernel_rfl
def PoG(po:Po):Prop:= ∃x:Re,po=poOf x/\x.sets.length<=150/\po.In
theorem PoG.ok{po:Po}(h:PoG po):PoB po:=by
 obtain⟨x,rfl,h1,h2⟩:=h;have hs:(poOf x).sets.length=x.sets.length:=rfl;refine⟨h2,by rw[hs];unfold poOf;simp,fun y hy=>?_,fun w hw y hy=>?_,by omega⟩
 ·rw[hs];exact(mem_srt.1 hy).1
 ·unfold poOf at hw;simp only[List.mem_map]at hw;obtain⟨i,_,rfl⟩:=hw;rw[hs];exact(mem_srt.1 hy).1
theorem tot_le: ∀{l:List Po},(∀po∈l,PoG po)->tot l<=l.length*150
 | [],_=>by simp[tot]
 |po::l,h=>by
  have h1:=tot_le (l:=l) fun p hp=>h p (.tail _ hp);obtain⟨x,rfl,h2,_⟩:=h po (.head _);have hs:(poOf x).sets.length=x.sets.length:=rfl
  show(poOf x).sets.length+tot l<=(l.length+1)*150
  omega
section
variable {Q:Value->PH->Prop}{n:Nat}{cl:CL}{h h0:PH}{S:Vw}{m:OM}{rows:Rws}{K2:Value->PH->R}
def PatQ(h0:PH)(S:Vw)(k:Nat)(v:Value)(h1:PH):Prop:= ∃S',Vw.le S S'/\Sl h0 h1 S' OM.emp []/\(v= .tuple ⟨[nils,ff]⟩\/ ∃pv l,v= .tuple ⟨[pv,tt]⟩/\PoL S' pv l/\l.length=k/\ ∀po∈l,PoG po)
theorem c14[OkH h](hn:4611686018427387904<=n){D:Nat}(hD:1000<=D)(h25: ∀v h,cl 25 [v] h=CLV n (D+1) 25 [v] h)(h53: ∀v h,cl 53 [v] h=CLV n (D+1) 53 [v] h)(h54: ∀u v h,cl 54 [u,v] h=CLV n (D+1) 54 [u,v] h)(h55: ∀u v h,cl 55 [u,v] h=CLV n (D+1) 55 [u,v] h)
  (hS:Vw.le S h.cells) {av:Value} {ts:List ByteArray} (ha:RdV rT S av ts) (hl:ts.length<=1048576):Ret (F14 n cl av h) (PatQ h S ts.length):=by
 unfold F14;have htt:tt= .bool true:=rfl;have hff:ff= .bool false:=rfl;have key: ∀(d q i:Nat)(S':Vw)(h':PH)(ov:Value)(ex:Rws)(cells:List Value)(l:List Po),ts.length-i<=d->d<q->i<=ts.length->Vw.le S S'->Sl h h' S' OM.emp ex->Gl 5 ov i cells ex->l.length=i->(∀(j:Nat) po,l[j]?=some po->PoV S' po ((cells.drop (j*5)).take 5))->(∀po∈l,PoG po)->
   Ret (lp q (F14_5 n cl) [av,ov,.int .i64 (i:Nat)] h') (PatQ h S ts.length):=by
  intro d
  induction d with
  |zero=>
   intro q i S' h' ov ex cells l h1 h2 h3 le st g hll hpo hpg;obtain⟨q,rfl⟩: ∃r,q=r+1:=⟨q-1,by omega⟩;rw[lp_succ];have dc:decide (((i:Nat):Int)<((ts.length:Nat):Int))=false:=by simp;omega
   simp only[F14_5,F14_4,ucons_cons,ha.tlen,vb_some,xLt_i,dc,bite_f];obtain⟨S2,le2,st2,hv⟩:=Gl.settle (rows:=[]) (by rw[List.append_nil];exact st) g;refine Ret.of ⟨S2,le.trans le2,st2,.inr ⟨ov,l,rfl,?_,by omega,hpg⟩⟩;rcases hv with⟨q1,_,rfl⟩|⟨b,o,c,cs,rfl,q1,q2,q3⟩
   ·exact .inl ⟨List.eq_nil_of_length_eq_zero (by omega),none,0,rfl⟩
   ·refine .inr ⟨b,o,c,cs,by rw[hll],q1,by rw[hll];exact q2,fun j po hj=>?_⟩;have:=(hpo j po hj).mono le2;rw[q3]at this;have hjl:=(List.getElem?_eq_some_iff.1 hj).1;rw[List.drop_take,List.take_take,List.drop_drop,Nat.min_eq_left (by omega)]at this;exact this
  |succ d ih=>
   intro q i S' h' ov ex cells l h1 h2 h3 le st g hll hpo hpg
   by_cases hi:i<ts.length
   ·obtain⟨q,rfl⟩: ∃r,q=r+1:=⟨q-1,by omega⟩;rw[lp_succ];generalize hL:lp q (F14_5 n cl)=LL;have dc:decide (((i:Nat):Int)<((ts.length:Nat):Int))=true:=by simp;omega
    have hx:=List.getElem?_eq_getElem hi;generalize ts[i]=t at hx;obtain⟨b1,o1,cs1,e1,e2,e3⟩:=ha.tat hx;have l1:=st.ldS (le _ _ e2) e3;have no: ∀h1,Sl h h1 S' OM.emp []->Ret (some (.tuple ⟨[nils,ff]⟩,h1)) (PatQ h S ts.length):=fun h1 s1=>Ret.of ⟨S',le,s1,.inl rfl⟩;simp only[F14_5,F14_4,ucons_cons,ha.tlen,vb_some,xLt_i,dc,bite_t,F14_3,e1,l1,xLenT_s,vN_eq,xGt_i]
    by_cases ht:60<t.size
    ·have d1:decide (((60:Nat):Int)<((t.size:Nat):Int))=true:=by simp;omega
     simp only[d1,bite_t];exact no h' st.clear
    have d1:decide (((60:Nat):Int)<((t.size:Nat):Int))=false:=by simp;omega
    simp only[d1,bite_f,F14_2,e1,vb_some,l1];have okh:=st.ok;refine Ret.lfcallN (P:=fun v W=> ∃x es p e,v= .tuple ⟨[.agg ⟨es⟩,.int .i64 p,.int .i64 ((e:Nat):Int)]⟩/\ReE W x es/\x.wf/\x.size<=3*t.size+2) st (fun v V W hVW ⟨x,es,p,e,a1,a2,a3⟩=>⟨x,es,p,e,a1,a2.mono hVW,a3⟩) ?_ fun v h2 S2 le2 st2 ⟨x,es,p,e,hv,he,hwf,hsz⟩=>?_
    ·refine Ret.mono (c30 (n:=n) (cl:=cl) (h:=h'.fzn) (h0:=h'.fzn) (S:=fun _=>none) (t:=t) (rows:=[]) hn (D:=D) (by omega) h55 (by omega) (Sl.start h'.fzn (fun b cs e=>by cases e))) fun v h1 ⟨S3,x,es,p,e,le3,st3,q1,q2,q3,q4,q5⟩=>?_;refine⟨S3,st3,x,es,p,e,q1,q2.mono fun b cs hb=>?_,q3,q4⟩;rcases le3.2 b cs hb with h|h
     ·cases h
     ·exact Nw.at h hb
    subst hv;have hes:=he.len;simp only[xExt_t',List.getElem?_cons_zero,List.getElem?_cons_succ,vb_some];refine Ret.lalloc st2 zc57 fun h3' x21 st3=>?_;refine Ret.lstA st3 0 rfl rfl hes (by simp) he.one fun h4' st4=>?_;rw[setsL_all (by rw[hes];rfl)]at st4;have st4:Sl h h4' S2 OM.emp ((x21,.row .own 1 es)::ex):=st4;have no2: ∀h1,Sl h h1 S2 OM.emp []->Ret (some (.tuple ⟨[nils,ff]⟩,h1)) (PatQ h S ts.length):=fun h1 s1=>Ret.of ⟨S2,le.trans le2,s1,.inl rfl⟩;simp only[vN_eq,xNe_i,vb_some]
    by_cases hz:e=0
    ·have dd:(!decide (((e:Nat):Int)=((0:Nat):Int)))=false:=by simp[hz]
     have la4:xLdA 6 (.pointer (some ⟨x21,0,none⟩)) h4'=some (.agg ⟨es⟩):=st4.ldA (.head _) (by rw[List.drop_zero, <-hes,List.take_length]) (by omega);simp only[dd,bite_f,F14_1,la4,vb_some];have hdp:=Re.deep_le x;refine Ret.hb (c27 hn h25 h53 h54 (by omega) (by omega) st4 he) fun v5 h5' ⟨S5,qs,f,le5,st5,hv,hq⟩=>?_;subst hv;simp only[xExt_t',List.getElem?_cons_zero,List.getElem?_cons_succ,vb_some];have P2:qs.length=5/\oneCells qs=true:=by
      rcases hq with⟨_,_,rfl⟩|⟨_,_,_,rfl⟩|⟨_,_,_,q⟩
      ·exact⟨rfl,rfl⟩
      ·exact⟨rfl,rfl⟩
      ·exact q.ps
     refine Ret.lalloc st5 zc43 fun h6' x27 st6=>?_;refine Ret.lstA st6 0 rfl rfl P2.1 (by simp) P2.2 fun h7' st7=>?_;rw[setsL_all (by rw[P2.1];rfl)]at st7;have st7:Sl h h7' S5 OM.emp ((x27,.row .own 1 qs)::(x21,.row .own 1 es)::ex):=st7;simp only[vN_eq,xNe_i,vb_some]
     by_cases hf:f=0
     ·have d2:(!decide ((f:Int)=((0:Nat):Int)))=false:=by simp[hf]
      obtain⟨hs150,_,hp⟩:x.sets.length<=150/\x.deep<=200/\PoV S5 (poOf x) qs:=by
       rcases hq with⟨_,h,_⟩|⟨_,_,h,_⟩|⟨q1,q2,_,q3⟩
       ·omega
       ·omega
       ·exact⟨q1,q2,q3⟩
      have la7:xLdA 5 (.pointer (some ⟨x27,0,none⟩)) h7'=some (.agg ⟨qs⟩):=st7.ldA (.head _) (by rw[List.drop_zero, <-P2.1,List.take_length]) (by rw[P2.1];exact Nat.le_refl _);simp only[d2,bite_f,F14_0,la7,vb_some];have st8:Sl h h7' S5 OM.emp (ex++[]):=by rw[List.append_nil];exact st7.drop ((List.sublist_cons_self _ _).trans (List.sublist_cons_self _ _))
      refine Ret.gapp st8 g (bsPo hp) ai24 P2.1 P2.2 (sz_le (c:=1048576) (by omega) (by decide)) fun h9' ov' ex' st9 g9=>?_;rw[List.append_nil]at st9;simp only[xAdd_i,vN_eq,wrapN (show i<4611686018427387904 by omega),vb_some];rw[<-hL];have hcl:=g.length;refine ih q (i+1) S5 h9' ov' ex' (cells++qs) (l++[poOf x]) (by omega) (by omega) (by omega) ((le.trans le2).trans le5) st9 g9 (by simp[hll]) (fun j po hj=>?_) (fun po hm=>?_)
      ·rcases get_sn hj with hj|⟨rfl,rfl⟩
       ·have hjl:=(List.getElem?_eq_some_iff.1 hj).1;have:=(hpo j po hj).mono (le2.trans le5);rw[List.drop_append_of_le_length (by omega),List.take_append_of_le_length (by simp;omega)];exact this
       ·rw[hll,List.drop_append,List.drop_of_length_le (by omega),List.nil_append,show i*5-cells.length=0 by omega,List.drop_zero, <-P2.1,List.take_length];exact hp
      ·rcases List.mem_append.1 hm with hm|hm
       ·exact hpg po hm
       ·have:po=poOf x:=by simpa using hm
        rw[this];exact⟨x,rfl,hs150,poOf_in he hs150⟩
     ·have d2:(!decide ((f:Int)=((0:Nat):Int)))=true:=by simp;omega
      simp only[d2,bite_t];exact Ret.of ⟨S5,(le.trans le2).trans le5,st7.clear,.inl rfl⟩
    ·have dd:(!decide (((e:Nat):Int)=((0:Nat):Int)))=true:=by simp[hz]
     simp only[dd,bite_t];exact no2 h4' st4.clear
   ·exact ih q i S' h' ov ex cells l (by omega) (by omega) h3 le st g hll hpo hpg
 exact key ts.length n 0 S h nils [] [] [] (by omega) (by omega) (by omega) (Vw.le.refl _) (Sl.start h hS) Gl.nil rfl (fun j po hj=>by simp at hj) (fun po hm=>by cases hm)
end
theorem c18{n:Nat}{cl:CL}{k:IntKind}{z:Int}{h:PH}:pcall (F18 n cl (.int k z) h)=some (.int k z):=rfl
theorem DfV.agg{V:Vw}{v:Value}{d:Dfa}(h:DfV V v d): ∃nv av,v= .agg ⟨[nv,av]⟩/\nv.oneCell'=true/\av.oneCell'=true:=by
 obtain⟨nv,av,vs,rfl,a1,_,_,a4⟩:=h;exact⟨nv,av,rfl,a1.one,a4.one⟩
theorem one2{a b:Value}(ha:a.oneCell'=true)(hb:b.oneCell'=true):oneCells [a,b]=true:=by unfold oneCells;simp[ha,hb]
section
variable {n:Nat}{h h0:PH}{S:Vw}
end
end Go.Am
namespace Go.Am
open Go Go.RowKit Go.Proofs Go.ChangeShapes Go.WideShapes
theorem bulk_one{H:Type}(d:DataW H):1<=Ytjomodhbneicmaa.Rows.uptoBulk d:=by
 cases d with
 |lit l=>cases l<;>simp[Ytjomodhbneicmaa.Rows.uptoBulk]
 |nil=>simp[Ytjomodhbneicmaa.Rows.uptoBulk]
 |ptr d=>simp[Ytjomodhbneicmaa.Rows.uptoBulk]
 |slice elems spare=>simp[Ytjomodhbneicmaa.Rows.uptoBulk]
 |agg parts=>simp[Ytjomodhbneicmaa.Rows.uptoBulk]
 |iface t d=>simp[Ytjomodhbneicmaa.Rows.uptoBulk]
 |map entries=>simp[Ytjomodhbneicmaa.Rows.uptoBulk]
 |held h=>simp[Ytjomodhbneicmaa.Rows.uptoBulk]
theorem bulk_len{H:Type}: ∀(l:List (DataW H)),l.length<=Ytjomodhbneicmaa.Rows.uptoBulkAll l
 | []=>by simp
 |d::l=>by have:=bulk_one d;have:=bulk_len l;simp only[Ytjomodhbneicmaa.Rows.uptoBulkAll,List.length_cons];omega
theorem VR.slen{ρ:RMap}{x:Value}{n:Nat}{a:Option Addr}{len cap:Nat}(h:VR ρ x (.slice a len cap))(hx:xLenS x=some (.int .i64 (n:Nat))):n=len:=by
 cases h<;>(simp at hx;omega)
theorem o22:Opens Try.prog 22 rT.sl (GLen fun t=>t.size<9223372036854775808):=opens_slice Try.underlying22 (by kernel_rfl) (by decide) (opens_string Try.underlying9)
theorem opens_ts{H:Type}{enc:TypeId×Value->H}{w:World}{ρ:RMap}{l:Heap}{fuel:Nat}{v:Value}{y:DataW H×List MemPlace}(m:Im w ρ l)(ht:DataW.trod enc Try.prog w 0 (fun _=>true) true fuel 22 [v]=some y)(hb:Ytjomodhbneicmaa.Rows.uptoBulk y.1<=1048576):
  ∃(ρ':RMap) (ext:Heap) (v':Value) (ts:List ByteArray),Im w ρ' (l++ext)/\ρ.le ρ'/\VR ρ' v' v/\RdV rT (vl (l++ext)) v' ts/\ts.length<=1048576:=by
 obtain⟨ρ',ext,es,ts,m',le,hv,hE,hG⟩:=o22 m rfl ht;obtain⟨v',rfl,hr⟩:=hE;obtain⟨u,hu,hvr⟩:=VR.of1 hv;cases hu;refine⟨ρ',ext,v',ts,m',le,hvr,hr,?_⟩;have hlen:=hr.tlen;rcases DataW.trod_slice Try.underlying22 ht with⟨hcs,_⟩|⟨a,len,cap,elems,rest,n',_,hcs,hy,_,_,_,hel,_⟩
 ·cases hcs;have:=hvr.slen hlen;omega
 ·cases hcs;have:=hvr.slen hlen;rw[hy]at hb;simp only[Ytjomodhbneicmaa.Rows.uptoBulk]at hb;have:=bulk_len (elems.map (·.1));rw[List.length_map]at this;omega
set_option maxRecDepth 100000 in
theorem law_ts{f:FuncId}{H:Type}{enc:TypeId×Value->H}{w:World}{r:_root_.Go.Reach}{b0:Nat}{v0:Value}{d0:DataW H}{p0:List MemPlace}(hv0:Value.okWide Try.prog w r b0 22 v0)
  (ht0:DataW.Trod enc Try.prog w 0 (fun _=>true) true 22 v0 d0 p0) (hk:Ytjomodhbneicmaa.Rows.uptoSmall H [d0]=true)
  (law: ∀(h:PH)(av:Value)(ts:List ByteArray),OkH h->RdV rT h.cells av ts->ts.length<=1048576-> ∃k,ACall Try.prog f [av] h.abs fun u k'=>u= .bool true/\k'=k):
  Calls Try.prog f #[v0] w fun e w'=>e= .returned (.bool true)/\Below w.heap.size w w':=by
 obtain⟨a1,l1,c1,rfl⟩:=okWide_slice Try.underlying22 hv0;have hb:Ytjomodhbneicmaa.Rows.uptoBulk d0<=1048576:=by
  have:=of_decide_eq_true hk;simp only[Ytjomodhbneicmaa.Rows.uptoBulkAll]at this;omega
 obtain⟨f0,ht0⟩:=ht0;obtain⟨ρ,ext,v',ts,m,le,hv,hr,hl⟩:=opens_ts (Im.start w) ht0 hb;obtain⟨h,ok,hhn,hz,hrw⟩:=PH.of_list ([.dead]++ext);obtain⟨k,hk⟩:=law h v' ts ok (hr.mono (vl_ph hrw)) hl;rw[PH.abs_list hhn hz hrw]at hk;exact calls_rel (Q:=fun k'=>k'=k) m.rel (.cons hv .nil) rfl hk
end Go.Am
namespace Go.Am
open Go Go.RowKit Go.Proofs
def rowR(d:Dfa)(s:Int):Value:=if s= -1 then .tuple ⟨[.int .i64 (-1),ff]⟩else .tuple ⟨[.int .i64 (if(-1:Int)<dacc d s then dacc d s else -1),tt]⟩
section
variable {n:Nat}{cl:CL}{h h0:PH}{S:Vw}{m:OM}{rows:Rws}{dv bv:Value}{d:Dfa}
end
def atN(d:Dfa)(k:Nat):Int:=d.acc.getD k (-1)
def toN(d:Dfa)(i c:Nat):Nat:=if i<d.next.length then(if dstep d (i:Nat) c= -1 then d.next.length else(dstep d (i:Nat) c).toNat)else d.next.length
section
variable {n:Nat}{cl:CL}{h h0:PH}{S:Vw}{m:OM}{rows:Rws}{dv:Value}{d:Dfa}
theorem c22[OkH h](hS:Vw.le S h.cells)(hd:DfV S dv d){k:Nat}:pcall (F22 n cl dv (.int .i64 (k:Nat)) h)=some (.int .i64 (atN d k)):=by
 refine pcall_fr (h:=h) (S:=S) ?_ rfl;obtain⟨nv,av,vs,rfl,a1,a2,a3,a4⟩:=hd;unfold Fr F22;refine Ret.lbox (Sl.start h hS) fun h1 x st1=>?_;have st1:Sl h h1 S OM.emp [(x,.row .own 1 [nv,av])]:=st1;have l1:xLd (.pointer (some ⟨x,1,none⟩)) h1=some av:=st1.ld (.head _) rfl;have n1:=a4.len;rw[zv_len]at n1;simp only[xFld_p,Nat.zero_add,vb_some,l1,n1,xGe_i]
 by_cases hk:k<d.acc.length
 ·have dc:decide (((d.acc.length:Nat):Int)<=((k:Nat):Int))=false:=by simp;omega
  have hr:=List.getElem?_eq_getElem hk;generalize ht:d.acc[k]=t at hr;obtain⟨b1,o1,cs1,f1,f2,f3⟩:=a4.at (k:=.i64) (zv_get hr);have l2:=st1.ldS f2 f3;simp only[dc,bite_f,F22_0,xFld_p,Nat.zero_add,vb_some,l1,f1,l2];refine Fr.ret st1 ?_;unfold atN;rw[List.getD_eq_getElem?_getD,hr];rfl
 ·have dc:decide (((d.acc.length:Nat):Int)<=((k:Nat):Int))=true:=by simp;omega
  simp only[dc,bite_t];refine Fr.ret st1 ?_;unfold atN;rw[List.getD_eq_getElem?_getD,List.getElem?_eq_none (by omega)];rfl
theorem c23[OkH h](hS:Vw.le S h.cells)(hd:DfV S dv d)(hc:Canon d){i c:Nat}(h256:c<256):pcall (F23 n cl dv (.int .i64 (i:Nat)) (.int .i64 (c:Nat)) h)=some (.int .i64 (toN d i c:Nat)):=by
 refine pcall_fr (h:=h) (S:=S) ?_ rfl;obtain⟨nv,av,vs,rfl,a1,a2,a3,a4⟩:=hd;unfold Fr F23;refine Ret.lbox (Sl.start h hS) fun h1 x st1=>?_;have st1:Sl h h1 S OM.emp [(x,.row .own 1 [nv,av])]:=st1;have l0:xLd (.pointer (some ⟨x,0,none⟩)) h1=some nv:=st1.ld (.head _) rfl;have n0:=a1.len;rw[a2]at n0;have htt:tt= .bool true:=rfl;simp only[xFld_p,Nat.zero_add,vb_some,l0,n0,xGe_i]
 by_cases hi:i<d.next.length
 ·have dc:decide (((d.next.length:Nat):Int)<=((i:Nat):Int))=false:=by simp;omega
  have hr:=List.getElem?_eq_getElem hi;generalize d.next[i]=r at hr;have hrl:=hc.rl r (List.mem_of_getElem? hr);obtain⟨w,e1,e2⟩:=a3 i r hr;obtain⟨b1,o1,cs1,f1,f2,f3⟩:=a1.at (k:=.i64) e1;have l1:=st1.ldS f2 f3;have nr:=e2.len;rw[zv_len,hrl]at nr;have hx:=List.getElem?_eq_getElem (l:=r) (i:=c) (by omega);generalize hxt:r[c]'(by omega)=t at hx;obtain⟨b2,o2,cs2,g1,g2,g3⟩:=e2.at (k:=.i64) (zv_get hx);have l2:=st1.ldS g2 g3;have hds:dstep d (i:Nat) c=t:=by
   unfold dstep;rw[if_neg (by omega)];simp only[List.getD_eq_getElem?_getD,Int.toNat_natCast,hr,hx,Option.getD_some]
  have d2:decide (((256:Nat):Int)<=((c:Nat):Int))=false:=by simp;omega
  have hto:toN d i c=if t= -1 then d.next.length else t.toNat:=by unfold toN;rw[if_pos hi,hds]
  simp only[dc,isB_f,Bool.not_false,gd_true,vb_some,f1,l1,nr,xGe_i,d2,xPick_f,g1,l2,vN_eq,xLt_i,l0,n0];rcases hc.rng i c hi h256 with h|⟨j,hj,h⟩
  ·rw[hds]at h;subst h;have d3:decide ((-1:Int)<((0:Nat):Int))=true:=rfl;simp only[d3,isB_f,Bool.not_true,gd_false,vb_some,xPick_t,htt,bite_t,F23_0,xFld_p,Nat.zero_add,l0,n0];exact Fr.ret st1 (by rw[hto];rfl)
  ·rw[hds]at h;subst h;have d3:decide (((j:Nat):Int)<((0:Nat):Int))=false:=by simp
   have d4:decide (((d.next.length:Nat):Int)<=((j:Nat):Int))=false:=by simp;omega
   simp only[d3,isB_f,Bool.not_false,gd_true,vb_some,xPick_f,f1,l1,g1,l2,l0,n0,xGe_i,d4,bite_f,F23_1,xFld_p,Nat.zero_add];exact Fr.ret st1 (by rw[hto,if_neg (by omega),Int.toNat_natCast])
 ·have dc:decide (((d.next.length:Nat):Int)<=((i:Nat):Int))=true:=by simp;omega
  simp only[dc,isB_f,Bool.not_true,gd_false,vb_some,xPick_t,htt,bite_t,F23_0,xFld_p,Nat.zero_add,l0,n0];exact Fr.ret st1 (by unfold toN;rw[if_neg hi])
end
def rowB(M:Nat)(g:Nat->Bool):List Value:=(List.range M).map fun j=>.bool (g j)
theorem rowB_len{M:Nat}{g:Nat->Bool}:(rowB M g).length=M:=by simp[rowB]
theorem rowB_get{M k:Nat}{g:Nat->Bool}(hk:k<M):(rowB M g)[k]?=some (.bool (g k)):=by
 unfold rowB;rw[List.getElem?_map,List.getElem?_range hk];rfl
theorem rowB_set{M k:Nat}{g:Nat->Bool}{b:Bool}(hk:k<M):(rowB M g).set k (.bool b)=rowB M fun j=>if j=k then b else g j:=by
 apply List.ext_getElem?
 intro i;rw[List.getElem?_set]
 by_cases hi:i<M
 ·rw[rowB_get hi,rowB_get hi,rowB_len]
  by_cases e:k=i
  ·subst e;simp[hk]
  ·rw[if_neg e,if_neg (fun h=>e h.symm)]
 ·rw[List.getElem?_eq_none (by rw[rowB_len];omega),List.getElem?_eq_none (by rw[rowB_len];omega),rowB_len]
  split
  ·simp;omega
  ·rfl
theorem rowB_zero{M:Nat}:zrows [.bool false] M=rowB M fun _=>false:=by
 rw[bvs_zrows];unfold rowB bvs
 apply List.ext_getElem?
 intro i
 by_cases hi:i<M
 ·rw[List.getElem?_map,List.getElem?_map,List.getElem?_range hi,List.getElem?_replicate_of_lt hi];rfl
 ·rw[List.getElem?_eq_none (by simp;omega),List.getElem?_eq_none (by simp;omega)]
def cn:Nat->(Nat->Bool)->Nat
 |0,_=>0
 |M+1,f=>cn M f+if f M then 1 else 0
def cnM:Nat->Nat->(Nat->Nat->Bool)->Nat
 |0,_,_=>0
 |K+1,M,A=>cnM K M A+cn M (A K)
theorem cn_max{M:Nat}{f:Nat->Bool}:cn M f<=M:=by
 induction M with
 |zero=>exact Nat.le_refl _
 |succ M ih=>unfold cn;split<;>omega
theorem cnM_max{K M:Nat}{A:Nat->Nat->Bool}:cnM K M A<=K*M:=by
 induction K with
 |zero=>simp[cnM]
 |succ K ih=>
  have:=cn_max (M:=M) (f:=A K);unfold cnM;rw[Nat.succ_mul];omega
theorem cn_le{M:Nat}{f g:Nat->Bool}(h: ∀j,f j=true->g j=true):cn M f<=cn M g:=by
 induction M with
 |zero=>exact Nat.le_refl _
 |succ M ih=>
  have:=h M;unfold cn;cases hf:f M<;>cases hg:g M<;>simp_all
  omega
theorem cn_lt{M:Nat}{f g:Nat->Bool}(h: ∀j,f j=true->g j=true){k:Nat}(hk:k<M)(hf:f k=false)(hg:g k=true):cn M f<cn M g:=by
 induction M with
 |zero=>omega
 |succ M ih=>
  unfold cn
  by_cases e:k=M
  ·subst e;have:=cn_le (M:=k) h;rw[hf,hg];simp;omega
  ·have:=ih (by omega);have h1:=h M;cases h2:f M<;>cases h3:g M<;>simp_all
   omega
theorem cnM_le{K M:Nat}{A B:Nat->Nat->Bool}(h: ∀i j,A i j=true->B i j=true):cnM K M A<=cnM K M B:=by
 induction K with
 |zero=>exact Nat.le_refl _
 |succ K ih=>have:=cn_le (M:=M) (h K);unfold cnM;omega
theorem cnM_lt{K M:Nat}{A B:Nat->Nat->Bool}(h: ∀i j,A i j=true->B i j=true){i k:Nat}(hi:i<K)(hk:k<M)(hf:A i k=false)(hg:B i k=true):cnM K M A<cnM K M B:=by
 induction K with
 |zero=>omega
 |succ K ih=>
  unfold cnM
  by_cases e:i=K
  ·subst e;have:=cn_lt (h i) hk hf hg;have:=cnM_le (K:=i) (M:=M) h;omega
  ·have:=ih (by omega);have:=cn_le (M:=M) (h K);omega
def slB(b M:Nat):Value:=.slice (some ⟨b,0,none⟩) M M
structure Mx(m:OM)(ft:Nat->Nat)(K M:Nat)(A:Nat->Nat->Bool):Prop where
 row: ∀i,i<K->m (ft i)=some (.row .own 1 (rowB M (A i)))
 inj: ∀i j,i<K->j<K->ft i=ft j->i=j
def neN(d:Dfa)(i j:Nat):Bool:=!decide (atN d i=atN d j)
theorem agg_veq{V:Vw}{nv av:Value}{d:Dfa}(h:DfV V (.agg ⟨[nv,av]⟩) d):Go.Am.veq (.agg ⟨[nv,av]⟩) (.agg ⟨[nv,av]⟩)=true:=by
 obtain⟨nv',av',vs,e,a1,_,_,a4⟩:=h;cases e
 show veqs [nv,av] [nv,av]=true
 simp[veqs,a1.veq1,a4.veq1]
theorem slB_at{b M k:Nat}(hk:k<M):xIdxS 1 (slB b M) (.int .i64 (k:Nat))=some (.pointer (some ⟨b,k,none⟩)):=by
 unfold slB;rw[xIdxS_at (by omega) (by omega)];simp
theorem cells_succ{M i b:Nat}{ft:Nat->Nat}:(List.range i).map (fun j=>slB (ft j) M)++[slB b M]=(List.range (i+1)).map fun j=>slB (if j=i then b else ft j) M:=by
 rw[List.range_succ,List.map_append]
 congr 1
 ·apply List.map_congr_left
  intro j hj;have:j<i:=List.mem_range.1 hj;rw[if_neg (by omega)]
 ·simp
section
variable {Q:Value->PH->Prop}{n:Nat}{cl:CL}{h h0:PH}{S:Vw}{m:OM}{rows:Rws}{nv av:Value}{d:Dfa}
theorem loop6a(hd:DfV S (.agg ⟨[nv,av]⟩) d){x b N i M:Nat}{ov:Value}{K1:Kt}{R0:Rws}(hM:M=N+1)(hN:N<1000000)(hx:(x,AObj.row .own 1 [nv,av])∈R0)
  (hk: ∀h g,(∀j,j<M->g j=neN d i j)->Sl h0 h S m ((b,.row .own 1 (rowB M g))::R0)->Ret (F6_1 n cl (slB b M) ov (.int .i64 (i:Nat)) K1 (pt x) (.int .i64 (N:Nat)) h) Q):
  ∀(dd q k:Nat)(g:Nat->Bool)(h:PH),M-k<=dd->dd<q->k<=M->(∀j,j<k->g j=neN d i j)->Sl h0 h S m ((b,.row .own 1 (rowB M g))::R0)->
   Ret (lp q (F6_3 n cl K1) [pt x,.int .i64 (N:Nat),ov,.int .i64 (i:Nat),slB b M,.int .i64 (k:Nat)] h) Q:=by
 intro dd
 induction dd with
 |zero=>
  intro q k g h h1 h2 h3 hg st;obtain⟨q,rfl⟩: ∃r,q=r+1:=⟨q-1,by omega⟩;rw[lp_succ];have dc:decide (((k:Nat):Int)<=((N:Nat):Int))=false:=by simp;omega
  simp only[F6_3,F6_2,ucons_cons,xLe_i,dc,vb_some,bite_f];exact hk h g (fun j hj=>hg j (by omega)) st
 |succ dd ih=>
  intro q k g h h1 h2 h3 hg st
  by_cases hc:k<M
  ·obtain⟨q,rfl⟩: ∃r,q=r+1:=⟨q-1,by omega⟩;rw[lp_succ];generalize hL:lp q (F6_3 n cl K1)=LL;have dc:decide (((k:Nat):Int)<=((N:Nat):Int))=true:=by simp;omega
   have okh:=st.ok;have la:xLdA 2 (pt x) h=some (.agg ⟨[nv,av]⟩):=st.ldA (.tail _ hx) rfl (by simp);have hF: ∀k:Nat,pcall (F22 n cl (.agg ⟨[nv,av]⟩) (.int .i64 (k:Nat)) h.fzn)=some (.int .i64 (atN d k)):=fun k=>c22 (h:=h.fzn) (fun b cs e=>st.leS b cs e) hd;simp only[F6_3,F6_2,ucons_cons,xLe_i,dc,vb_some,bite_t,F6_0,la,hF,lchk_t (agg_veq hd),xNe_i,slB_at hc];refine Ret.lst1 st 0 rfl rfl (by rw[rowB_len];exact hc) rfl fun h4 st4=>?_;rw[rowB_set hc]at st4;simp only[xAdd_i,vN_eq,wrapN (show k<4611686018427387904 by omega),vb_some];rw[<-hL];refine ih q (k+1) _ h4 (by omega) (by omega) (by omega) (fun j hj=>?_) st4
   by_cases e:j=k
   ·rw[if_pos e,e];rfl
   ·rw[if_neg e];exact hg j (by omega)
  ·exact ih q k g h (by omega) (by omega) h3 hg st
theorem loop6b(hn:4611686018427387904<=n)(hd:DfV S (.agg ⟨[nv,av]⟩) d){x N M:Nat}{R0:Rws}(hM:M=N+1)(hN:N<1000000)(hx:(x,AObj.row .own 1 [nv,av])∈R0)
  (hk: ∀h m ft ov cells ex,Mx m ft M M (neN d)->cells=(List.range M).map (fun j=>slB (ft j) M)->Gl 1 ov M cells ex->Sl h0 h S m (ex++R0)->Ret (lp n (F6_25 n cl) [pt x,.int .i64 (N:Nat),ov,tt] h) Q):
  ∀(dd q i:Nat)(h:PH)(m:OM)(ft:Nat->Nat)(ov:Value)(cells:List Value)(ex:Rws),M-i<=dd->dd<q->i<=M->Mx m ft i M (neN d)->cells=(List.range i).map (fun j=>slB (ft j) M)->Gl 1 ov i cells ex->Sl h0 h S m (ex++R0)->
   Ret (lp q (F6_27 n cl) [pt x,.int .i64 (N:Nat),ov,.int .i64 (i:Nat)] h) Q:=by
 intro dd
 induction dd with
 |zero=>
  intro q i h m ft ov cells ex h1 h2 h3 mx hcs g st;obtain⟨q,rfl⟩: ∃r,q=r+1:=⟨q-1,by omega⟩;rw[lp_succ];have dc:decide (((i:Nat):Int)<=((N:Nat):Int))=false:=by simp;omega
  obtain rfl:i=M:=by omega
  simp only[F6_27,F6_26,ucons_cons,xLe_i,dc,vb_some,bite_f];exact hk h m ft ov cells ex mx hcs g st
 |succ dd ih=>
  intro q i h m ft ov cells ex h1 h2 h3 mx hcs g st
  by_cases hc:i<M
  ·obtain⟨q,rfl⟩: ∃r,q=r+1:=⟨q-1,by omega⟩;rw[lp_succ];generalize hL:lp q (F6_27 n cl)=LL;have dc:decide (((i:Nat):Int)<=((N:Nat):Int))=true:=by simp;omega
   simp only[F6_27,F6_26,ucons_cons,xLe_i,dc,vb_some,bite_t,F6_4,xAdd_i,vN_eq,wrapN (show N<4611686018427387904 by omega)];refine Ret.lmk st zi49 (by omega) (by omega) (by omega) (by omega) fun h2 b st2=>?_;rw[Int.toNat_natCast,rowB_zero, <-hM]at st2;rw[Int.toNat_natCast, <-hM];refine loop6a (n:=n) (cl:=cl) hd (M:=M) hM hN (List.mem_append_right _ hx) (fun h4 g4 hg4 st4=>?_) M n 0 (fun _=>false) h2 (by omega) (by omega) (by omega) (fun j hj=>by omega) st2;unfold F6_1;have st5:=st4.perm (rows':=ex++(b,.row .own 1 (rowB M g4))::R0) List.perm_middle.symm;refine Ret.gapp st5 g bs48 ai48 rfl rfl (sz_le (c:=1048576) (by omega) (by decide)) fun h6 ov6 ex6 st6 g6=>?_;have st7:=st6.perm (rows':=(b,.row .own 1 (rowB M g4))::(ex6++R0)) List.perm_middle;obtain⟨st8,hmb⟩:=st7.sink (i:=0) rfl;have st8:Sl h0 h6 S (m.upd b (.row .own 1 (rowB M g4))) (ex6++R0):=st8;simp only[xAdd_i,vN_eq,wrapN (show i<4611686018427387904 by omega),vb_some];rw[<-hL];have hrow:rowB M g4=rowB M (neN d i):=by
    unfold rowB
    apply List.map_congr_left
    intro j hj;rw[hg4 j (List.mem_range.1 hj)]
   rw[hrow]at st8;have hne: ∀j,j<i->ft j≠b:=fun j hj e=>by
    have:=mx.row j hj;rw[e,hmb]at this;cases this
   refine ih q (i+1) h6 _ (fun j=>if j=i then b else ft j) ov6 (cells++[slB b M]) ex6 (by omega) (by omega) (by omega) ⟨fun j hj=>?_,fun j k hj hk' e=>?_⟩ ?_ g6 st8
   ·by_cases e:j=i
    ·rw[if_pos e,e,OM.upd_self]
    ·rw[if_neg e,OM.upd_ne (hne j (by omega))];exact mx.row j (by omega)
   ·by_cases e1:j=i<;>by_cases e2:k=i
    ·omega
    ·simp only[if_pos e1,if_neg e2]at e;exact absurd e.symm (hne k (by omega))
    ·simp only[if_neg e1,if_pos e2]at e;exact absurd e (hne j (by omega))
    ·simp only[if_neg e1,if_neg e2]at e;exact mx.inj j k (by omega) (by omega) e
   ·rw[hcs,cells_succ]
  ·exact ih q i h m ft ov cells ex (by omega) (by omega) h3 mx hcs g st
end
def ClosedAt(d:Dfa)(A:Nat->Nat->Bool)(i k:Nat):Prop:= ∀c,c<256->A (toN d i c) (toN d k c)=true->A i k=true
def setA(A:Nat->Nat->Bool)(i k:Nat):Nat->Nat->Bool:=fun i' j=>if i'=i then(if j=k then true else A i j)else A i' j
theorem setA_le{A:Nat->Nat->Bool}{i k i' j:Nat}(h:A i' j=true):setA A i k i' j=true:=by
 unfold setA
 by_cases e:i'=i
 ·subst e;rw[if_pos rfl];split<;>simp_all
 ·rw[if_neg e];exact h
theorem setA_at{A:Nat->Nat->Bool}{i k:Nat}:setA A i k i k=true:=by simp[setA]
theorem Mx.set{m:OM}{ft:Nat->Nat}{M i k:Nat}{A:Nat->Nat->Bool}(mx:Mx m ft M M A)(hi:i<M)(hk:k<M):Mx (m.upd (ft i) (.row .own 1 ((rowB M (A i)).set k tt))) ft M M (setA A i k):=by
 refine⟨fun j hj=>?_,mx.inj⟩
 by_cases e:j=i
 ·subst e;rw[OM.upd_self,show tt=Value.bool true from rfl,rowB_set hk]
  congr 2
  unfold setA;simp
 ·rw[OM.upd_ne fun h=>e (mx.inj j i hj hi h),mx.row j hj]
  congr 2
  unfold setA;simp[e]
theorem toN_lt{d:Dfa}(hc:Canon d){i c M:Nat}(hM:M=d.next.length+1)(h256:c<256):toN d i c<M:=by
 unfold toN
 by_cases hi:i<d.next.length
 ·rw[if_pos hi];rcases hc.rng i c hi h256 with h|⟨j,hj,h⟩
  ·rw[h,if_pos rfl];omega
  ·rw[h,if_neg (by omega),Int.toNat_natCast];omega
 ·rw[if_neg hi];omega
theorem avL_d{S:Vw}{nv av:Value}{d:Dfa}{q:Nat}{x y:Int}(h:DfV S (.agg ⟨[nv,av]⟩) d)(hq: ∀c cs,S c=some cs->c<q):avL q 1 [.agg ⟨[nv,av]⟩,.int .i64 x,.int .i64 y]=true:=by
 obtain⟨nv',av',vs,e,a1,_,_,a4⟩:=h;cases e;rcases a1 with⟨_,rfl⟩|⟨b,o,c,cs,rfl,h1,_⟩<;>rcases a4 with⟨_,rfl⟩|⟨b',o',c',cs',rfl,g1,_⟩
 ·rfl
 ·simp[avL,avV,avL0,avV0,nils,av1_t (hq _ _ g1)]
 ·simp[avL,avV,avL0,avV0,nils,av1_t (hq _ _ h1)]
 ·simp[avL,avV,avL0,avV0,av1_t (hq _ _ h1),av1_t (hq _ _ g1)]
def Step6(d:Dfa)(i k:Nat)(A:Nat->Nat->Bool)(more:Bool)(A':Nat->Nat->Bool)(more':Bool):Prop:=
 (A'=A/\more'=more/\ClosedAt d A i k)\/(more'=true/\(∀i j,A i j=true->A' i j=true)/\A i k=false/\A' i k=true)
section
variable {Q:Value->PH->Prop}{n:Nat}{cl:CL}{h h0:PH}{S:Vw}{m:OM}{R:Rws}{nv av ov:Value}{d:Dfa}{x N M:Nat}{ft:Nat->Nat}{cells:List Value}
theorem ov_at(hov:SlV S ov cells)(hcs:cells=(List.range M).map fun j=>slB (ft j) M){i:Nat}(hi:i<M)(st:Sl h0 h S m R): ∃b o,xIdxS 1 ov (.int .i64 (i:Nat))=some (.pointer (some ⟨b,o,none⟩))/\xLd (.pointer (some ⟨b,o,none⟩)) h=some (slB (ft i) M):=by
 obtain⟨b,o,cs,e1,e2,e3⟩:=hov.at (k:=.i64) (i:=i) (x:=slB (ft i) M) (by rw[hcs,List.getElem?_map,List.getElem?_range hi];rfl);exact⟨b,o,e1,st.ldS e2 e3⟩
theorem loop6c(hn:4611686018427387904<=n)(hd:DfV S (.agg ⟨[nv,av]⟩) d)(hc:Canon d)(hM:M=d.next.length+1)(hx:(x,AObj.row .own 1 [nv,av])∈R)(hov:SlV S ov cells)(hcs:cells=(List.range M).map fun j=>slB (ft j) M){i k:Nat}(hi:i<M)(hk:k<M){K2:Kt}{A0:Nat->Nat->Bool}{more0:Bool}
  (hq: ∀h m A more,Mx m ft M M A->Sl h0 h S m R->Step6 d i k A0 more0 A more->Ret (F6_9 n cl (.int .i64 (k:Nat)) K2 (pt x) (.int .i64 (N:Nat)) ov (.bool more) (.int .i64 (i:Nat)) h) Q):
  ∀(dd q c:Nat)(h:PH)(m:OM)(A:Nat->Nat->Bool)(more:Bool),256-c<=dd->dd<q->c<=256->Mx m ft M M A->
   ((A=A0/\more=more0/\ ∀c',c'<c->A i k=false->A (toN d i c') (toN d k c')=false)\/(more=true/\(∀i j,A0 i j=true->A i j=true)/\A0 i k=false/\A i k=true))->Sl h0 h S m R->
   Ret (lp q (F6_11 n cl K2) [pt x,.int .i64 (N:Nat),ov,.bool more,.int .i64 (i:Nat),.int .i64 (k:Nat),.int .i64 (c:Nat)] h) Q:=by
 intro dd
 induction dd with
 |zero=>
  intro q c h m A more h1 h2 h3 mx hj st;obtain⟨q,rfl⟩: ∃r,q=r+1:=⟨q-1,by omega⟩;rw[lp_succ];obtain rfl:c=256:=by omega
  have dc:decide (((256:Nat):Int)<((256:Nat):Int))=false:=by decide
  have hff:ff= .bool false:=rfl;simp only[F6_11,F6_10,ucons_cons,vN_eq,xLt_i,dc,vb_some,isB_t,gd_false,xPick_f,hff,bite_f];refine hq h m A more mx st ?_;rcases hj with⟨rfl,rfl,hj⟩|hj
  ·refine .inl ⟨rfl,rfl,fun c hc' hA=>?_⟩;cases e:A i k with
   |true=>rfl
   |false=>rw[hj c hc' e]at hA;cases hA
  ·exact .inr hj
 |succ dd ih=>
  intro q c h m A more h1 h2 h3 mx hj st
  by_cases hcc:c<256
  ·obtain⟨q,rfl⟩: ∃r,q=r+1:=⟨q-1,by omega⟩;rw[lp_succ];generalize hL:lp q (F6_11 n cl K2)=LL;have dc:decide (((c:Nat):Int)<((256:Nat):Int))=true:=by simp;omega
   obtain⟨b1,o1,e1,l1⟩:=ov_at hov hcs hi st;have l2:xLd (.pointer (some ⟨ft i,k,none⟩)) h=some (.bool (A i k)):=st.ldB (mx.row i hi) (rowB_get hk);have hff:ff= .bool false:=rfl;simp only[F6_11,F6_10,ucons_cons,vN_eq,xLt_i,dc,vb_some,isB_t,gd_true,e1,l1,slB_at hk,l2,xNot_b,xPick_t];cases hA:A i k with
   |true=>
    simp only[Bool.not_true,bite_f];refine hq h m A more mx st ?_;rcases hj with⟨rfl,rfl,hj⟩|hj
    ·exact .inl ⟨rfl,rfl,fun c _ _=>hA⟩
    ·exact .inr hj
   |false=>
    simp only[Bool.not_false,bite_t,jn_eq,F6_8];obtain⟨ea,em,hjc⟩:A=A0/\more=more0/\ ∀c',c'<c->A i k=false->A (toN d i c') (toN d k c')=false:=by
     rcases hj with hj|hj
     ·exact hj
     ·have:=hj.2.2.2;rw[hA]at this;cases this
    refine Ret.lkp st fun h3 p st3 hp1 hp2=>?_;have st3:Sl h0 h3 S m ((p,.hole)::R):=st3;have okh:=st3.ok;have la:xLdA 2 (pt x) h3=some (.agg ⟨[nv,av]⟩):=st3.ldA (.tail _ hx) rfl (by simp);have hF: ∀j:Nat,pcall (F23 n cl (.agg ⟨[nv,av]⟩) (.int .i64 (j:Nat)) (.int .i64 (c:Nat)) h3.fzn)=some (.int .i64 (toN d j c:Nat)):=fun j=>c23 (h:=h3.fzn) (fun b cs e=>st3.leS b cs e) hd hc hcc;have hti:=toN_lt hc (i:=i) hM hcc;have htk:=toN_lt hc (i:=k) hM hcc;obtain⟨b2,o2,e2,l3⟩:=ov_at hov hcs hti st3;have l4:xLd (.pointer (some ⟨ft (toN d i c),toN d k c,none⟩)) h3=some (.bool (A (toN d i c) (toN d k c))):=st3.ldB (mx.row _ hti) (rowB_get htk);simp only[la,vb_some,avk_t (avL_d hd hp2),hF,e2,l3,slB_at htk,l4];have st4:Sl h0 h3 S m R:=st3.drop (List.sublist_cons_self _ _);cases hT:A (toN d i c) (toN d k c)with
    |true=>
     obtain⟨b5,o5,e5,l5⟩:=ov_at hov hcs hi st4;simp only[bite_t,F6_6,e5,vb_some,l5,slB_at hk];refine Ret.lst1B st4 (mx.row i hi) rfl (by rw[rowB_len];exact hk) rfl fun h6 st6=>?_;simp only[F6_7,ucons_cons,F6_5,vN_eq,xAdd_i,wrapN (show c<4611686018427387904 by omega),vb_some];rw[<-hL];refine ih q (c+1) h6 _ (setA A i k) true (by omega) (by omega) (by omega) (mx.set hi hk) (.inr ⟨rfl,fun i j h=>?_,?_,setA_at⟩) st6
     ·rw[<-ea]at h;exact setA_le h
     ·rw[<-ea];exact hA
    |false=>
     simp only[bite_f,F6_7,ucons_cons,F6_5,vN_eq,xAdd_i,wrapN (show c<4611686018427387904 by omega),vb_some];rw[<-hL];refine ih q (c+1) h3 m A more (by omega) (by omega) (by omega) mx (.inl ⟨ea,em,fun c' hc' hf=>?_⟩) st4
     by_cases e:c'=c
     ·rw[e];exact hT
     ·exact hjc c' (by omega) hf
  ·exact ih q c h m A more (by omega) (by omega) h3 mx hj st
def Round(d:Dfa)(M:Nat)(A0 A:Nat->Nat->Bool)(more:Bool)(i k:Nat):Prop:=
 (∀i j,A0 i j=true->A i j=true)/\((more=true/\cnM M M A0<cnM M M A)\/(more=false/\A=A0/\ ∀i' k',i'<M->k'<M->(i'<i\/(i'=i/\k'<k))->ClosedAt d A i' k'))
theorem Round.step{A0 A A':Nat->Nat->Bool}{more more':Bool}{i k:Nat}(hi:i<M)(hk:k<M)(r:Round d M A0 A more i k)(s:Step6 d i k A more A' more'):Round d M A0 A' more' i (k+1):=by
 rcases s with⟨rfl,rfl,hs⟩|⟨rfl,h1,h2,h3⟩
 ·refine⟨r.1,r.2.imp id fun⟨q1,q2,q3⟩=>⟨q1,q2,fun i' k' g1 g2 g3=>?_⟩⟩
  by_cases e:i'=i/\k'=k
  ·rw[e.1,e.2];exact hs
  ·exact q3 i' k' g1 g2 (by omega)
 ·refine⟨fun i j h=>h1 i j (r.1 i j h),.inl ⟨rfl,?_⟩⟩;have:=cnM_lt (K:=M) (M:=M) h1 hi hk h2 h3;have:=cnM_le (K:=M) (M:=M) r.1;omega
theorem loop6d(hn:4611686018427387904<=n)(hd:DfV S (.agg ⟨[nv,av]⟩) d)(hc:Canon d)(hM:M=d.next.length+1)(hN:M=N+1)(hNl:N<1000000)(hx:(x,AObj.row .own 1 [nv,av])∈R)(hov:SlV S ov cells)(hcs:cells=(List.range M).map fun j=>slB (ft j) M){i:Nat}(hi:i<M){K3:Kt}{A0:Nat->Nat->Bool}
  (hq: ∀h m A more,Mx m ft M M A->Sl h0 h S m R->Round d M A0 A more (i+1) 0->Ret (F6_12 n cl (.int .i64 (i:Nat)) K3 (pt x) (.int .i64 (N:Nat)) ov (.bool more) h) Q):
  ∀(dd q k:Nat)(h:PH)(m:OM)(A:Nat->Nat->Bool)(more:Bool),M-k<=dd->dd<q->k<=M->Mx m ft M M A->Round d M A0 A more i k->Sl h0 h S m R->
   Ret (lp q (F6_14 n cl K3) [pt x,.int .i64 (N:Nat),ov,.bool more,.int .i64 (i:Nat),.int .i64 (k:Nat)] h) Q:=by
 intro dd
 induction dd with
 |zero=>
  intro q k h m A more h1 h2 h3 mx hr st;obtain⟨q,rfl⟩: ∃r,q=r+1:=⟨q-1,by omega⟩;rw[lp_succ];have dc:decide (((k:Nat):Int)<=((N:Nat):Int))=false:=by simp;omega
  simp only[F6_14,F6_13,ucons_cons,xLe_i,dc,vb_some,bite_f];exact hq h m A more mx st ⟨hr.1,hr.2.imp id fun⟨q1,q2,q3⟩=>⟨q1,q2,fun i' k' g1 g2 g3=>q3 i' k' g1 g2 (by omega)⟩⟩
 |succ dd ih=>
  intro q k h m A more h1 h2 h3 mx hr st
  by_cases hk:k<M
  ·obtain⟨q,rfl⟩: ∃r,q=r+1:=⟨q-1,by omega⟩;rw[lp_succ];generalize hL:lp q (F6_14 n cl K3)=LL;have dc:decide (((k:Nat):Int)<=((N:Nat):Int))=true:=by simp;omega
   simp only[F6_14,F6_13,ucons_cons,xLe_i,dc,vb_some,bite_t,vN_eq];refine loop6c (cl:=cl) hn hd hc hM hx hov hcs hi hk (A0:=A) (more0:=more) (fun h2 m2 A2 more2 mx2 st2 hs=>?_) 256 n 0 h m A more (by omega) (by omega) (by omega) mx (.inl ⟨rfl,rfl,fun c' h=>by omega⟩) st;simp only[F6_9,vN_eq,xAdd_i,wrapN (show k<4611686018427387904 by omega),vb_some];rw[<-hL];exact ih q (k+1) h2 m2 A2 more2 (by omega) (by omega) (by omega) mx2 (hr.step hi hk hs) st2
  ·exact ih q k h m A more (by omega) (by omega) h3 mx hr st
theorem loop6e(hn:4611686018427387904<=n)(hd:DfV S (.agg ⟨[nv,av]⟩) d)(hc:Canon d)(hM:M=d.next.length+1)(hN:M=N+1)(hNl:N<1000000)(hx:(x,AObj.row .own 1 [nv,av])∈R)(hov:SlV S ov cells)(hcs:cells=(List.range M).map fun j=>slB (ft j) M){K4:Kt}{A0:Nat->Nat->Bool}
  (hq: ∀h m A more,Mx m ft M M A->Sl h0 h S m R->Round d M A0 A more M 0->Ret (K4 [pt x,.int .i64 (N:Nat),ov,.bool more] h) Q):
  ∀(dd q i:Nat)(h:PH)(m:OM)(A:Nat->Nat->Bool)(more:Bool),M-i<=dd->dd<q->i<=M->Mx m ft M M A->Round d M A0 A more i 0->Sl h0 h S m R->
   Ret (lp q (F6_16 n cl K4) [pt x,.int .i64 (N:Nat),ov,.bool more,.int .i64 (i:Nat)] h) Q:=by
 intro dd
 induction dd with
 |zero=>
  intro q i h m A more h1 h2 h3 mx hr st;obtain⟨q,rfl⟩: ∃r,q=r+1:=⟨q-1,by omega⟩;rw[lp_succ];have dc:decide (((i:Nat):Int)<=((N:Nat):Int))=false:=by simp;omega
  simp only[F6_16,F6_15,ucons_cons,xLe_i,dc,vb_some,bite_f];obtain rfl:i=M:=by omega
  exact hq h m A more mx st hr
 |succ dd ih=>
  intro q i h m A more h1 h2 h3 mx hr st
  by_cases hi:i<M
  ·obtain⟨q,rfl⟩: ∃r,q=r+1:=⟨q-1,by omega⟩;rw[lp_succ];generalize hL:lp q (F6_16 n cl K4)=LL;have dc:decide (((i:Nat):Int)<=((N:Nat):Int))=true:=by simp;omega
   simp only[F6_16,F6_15,ucons_cons,xLe_i,dc,vb_some,bite_t,vN_eq];refine loop6d (cl:=cl) hn hd hc hM hN hNl hx hov hcs hi (A0:=A0) (fun h2 m2 A2 more2 mx2 st2 hs=>?_) M n 0 h m A more (by omega) (by omega) (by omega) mx hr st;simp only[F6_12,vN_eq,xAdd_i,wrapN (show i<4611686018427387904 by omega),vb_some];rw[<-hL];exact ih q (i+1) h2 m2 A2 more2 (by omega) (by omega) (by omega) mx2 hs st2
  ·exact ih q i h m A more (by omega) (by omega) h3 mx hr st
theorem loop6f(hn:4611686018427387904<=n)(hd:DfV S (.agg ⟨[nv,av]⟩) d)(hc:Canon d)(hM:M=d.next.length+1)(hN:M=N+1)(hNl:N<1000000)(hx:(x,AObj.row .own 1 [nv,av])∈R)(hov:SlV S ov cells)(hcs:cells=(List.range M).map fun j=>slB (ft j) M)
  (hq: ∀h m A,Mx m ft M M A->Sl h0 h S m R->(∀i j,neN d i j=true->A i j=true)->(∀i k,i<M->k<M->ClosedAt d A i k)->Ret (lp n (F6_23 n cl) [.int .i64 (N:Nat),ov,.int .i64 ((0:Nat):Int)] h) Q):
  ∀(dd q:Nat)(h:PH)(m:OM)(A:Nat->Nat->Bool)(more:Bool),M*M+1-cnM M M A<=dd->dd+1<q->Mx m ft M M A->(∀i j,neN d i j=true->A i j=true)->(more=false-> ∀i k,i<M->k<M->ClosedAt d A i k)->Sl h0 h S m R->
   Ret (lp q (F6_25 n cl) [pt x,.int .i64 (N:Nat),ov,.bool more] h) Q:=by
 intro dd
 induction dd with
 |zero=>
  intro q h m A more h1 h2 mx hne hcl st;have:=cnM_max (K:=M) (M:=M) (A:=A);omega
 |succ dd ih=>
  intro q h m A more h1 h2 mx hne hcl st;obtain⟨q,rfl⟩: ∃r,q=r+1:=⟨q-1,by omega⟩;rw[lp_succ];generalize hL:lp q (F6_25 n cl)=LL;cases more with
  |false=>
   simp only[F6_25,F6_24,ucons_cons,bite_f,vN_eq];exact hq h m A mx st hne (hcl rfl)
  |true=>
   have hff:ff= .bool false:=rfl;simp only[F6_25,F6_24,ucons_cons,bite_t,vN_eq,hff];refine loop6e (cl:=cl) hn hd hc hM hN hNl hx hov hcs (A0:=A) (fun hx2 m2 A2 more2 mx2 st2 hs=>?_) M n 0 h m A false (by omega) (by omega) (by omega) mx ⟨fun _ _ h=>h,.inr ⟨rfl,rfl,fun i' k' _ _ h=>by omega⟩⟩ st;rw[<-hL];rcases hs.2 with⟨rfl,hlt⟩|⟨rfl,e,hcl2⟩
   ·exact ih q hx2 m2 A2 true (by omega) (by omega) mx2 (fun i j h=>hs.1 i j (hne i j h)) (fun h=>by cases h) st2
   ·obtain⟨q,rfl⟩: ∃r,q=r+1:=⟨q-1,by omega⟩;rw[lp_succ];simp only[F6_25,F6_24,ucons_cons,bite_f,vN_eq];exact hq hx2 m2 A2 mx2 st2 (fun i j h=>hs.1 i j (hne i j h)) fun i k hi hk=>hcl2 i k hi hk (.inl hi)
end
section
variable {d:Dfa}{A:Nat->Nat->Bool}{M:Nat}
def stN(d:Dfa)(i:Nat):Int:=if i<d.next.length then(i:Int)else -1
theorem dacc_stN(hc:Canon d){i:Nat}:dacc d (stN d i)=atN d i:=by
 have:=hc.al;unfold stN atN
 by_cases hi:i<d.next.length
 ·rw[if_pos hi];unfold dacc;rw[if_neg (by omega),Int.toNat_natCast]
 ·rw[if_neg hi,List.getD_eq_getElem?_getD,List.getElem?_eq_none (by omega)];rfl
theorem stN_toN(hc:Canon d){i c:Nat}(h256:c<256):stN d (toN d i c)=dstep d (stN d i) c:=by
 unfold toN
 by_cases hi:i<d.next.length
 ·have e:stN d i=(i:Int):=by unfold stN;rw[if_pos hi]
  rw[if_pos hi,e];rcases hc.rng i c hi h256 with h|⟨j,hj,h⟩
  ·rw[h,if_pos rfl];unfold stN;rw[if_neg (Nat.lt_irrefl _)]
  ·rw[h,if_neg (by omega),Int.toNat_natCast];unfold stN;rw[if_pos hj]
 ·have e:stN d i= -1:=by unfold stN;rw[if_neg hi]
  rw[if_neg hi,e];unfold stN;rw[if_neg (Nat.lt_irrefl _)];rfl
theorem apart_run(hc:Canon d)(hM:M=d.next.length+1)(hne: ∀i j,neN d i j=true->A i j=true)(hcl: ∀i k,i<M->k<M->ClosedAt d A i k): ∀(w:List Nat)(i k:Nat),Byt w->i<M->k<M->dacc d (drun d (stN d i) w)≠dacc d (drun d (stN d k) w)->A i k=true
 | [],i,k,_,hi,hk,h=>by
  refine hne i k ?_;have h:dacc d (stN d i)≠dacc d (stN d k):=h;rw[dacc_stN hc,dacc_stN hc]at h;simp[neN,h]
 |c::w,i,k,hb,hi,hk,h=>by
  have h256:=hb c (.head _);rw[drun_cons,drun_cons, <-stN_toN hc h256, <-stN_toN hc h256]at h;exact hcl i k hi hk c h256 (apart_run hc hM hne hcl w _ _ (fun x hx=>hb x (.tail _ hx)) (toN_lt hc hM h256) (toN_lt hc hM h256) h)
theorem live_of(hc:Canon d)(h2:1<d.next.length){i:Nat}(hi:i<d.next.length): ∃w,Byt w/\dacc d (drun d (i:Nat) w)≠ -1:=by
 by_cases h0:i=0
 ·subst h0;obtain⟨j,c,hj,hcc,e⟩:=hc.o 1 (Nat.le_refl _) h2;obtain rfl:j=0:=by omega
  obtain⟨w,hw,hl⟩:=hc.live 0 c hi hcc (by rw[e];omega);exact⟨c::w,fun x hx=>by rcases List.mem_cons.1 hx with rfl|hx;exact hcc;exact hw x hx,by rw[drun_cons];exact hl⟩
 ·obtain⟨j,c,hj,hcc,e⟩:=hc.o i (by omega) hi;obtain⟨w,hw,hl⟩:=hc.live j c (by omega) hcc (by rw[e];omega);rw[e]at hl;exact⟨w,hw,hl⟩
theorem apart_all(hc:Canon d)(hM:M=d.next.length+1)(hne: ∀i j,neN d i j=true->A i j=true)(hcl: ∀i k,i<M->k<M->ClosedAt d A i k){i k:Nat}(hi:i<d.next.length)(hk:k<=d.next.length)(hik:i≠k):A i k=true\/(d.next.length=1/\k=d.next.length):=by
 have ei:stN d i=(i:Int):=by unfold stN;rw[if_pos hi]
 by_cases hkn:k=d.next.length
 ·by_cases h1:d.next.length=1
  ·exact .inr ⟨h1,hkn⟩
  ·obtain⟨w,hw,hl⟩:=live_of hc (by omega) hi;refine .inl (apart_run hc hM hne hcl w i k hw (by omega) (by omega) ?_);have ek:stN d k= -1:=by unfold stN;rw[if_neg (by omega)]
   rw[ei,ek,drun_neg];exact hl
 ·have ek:stN d k=(k:Int):=by unfold stN;rw[if_pos (by omega)]
  have:=Classical.byContradiction fun hno: ¬ ∃w,Byt w/\dacc d (drun d (i:Nat) w)≠dacc d (drun d (k:Nat) w)=>
   hik (hc.dis i k hi (by omega) fun w hw=>Classical.byContradiction fun h=>hno ⟨w,hw,h⟩)
  obtain⟨w,hw,hl⟩:=this;exact .inl (apart_run hc hM hne hcl w i k hw (by omega) (by omega) (by rw[ei,ek];exact hl))
end
section
variable {n:Nat}{cl:CL}{h h0:PH}{S:Vw}{m:OM}{R:Rws}{ov:Value}{d:Dfa}{N M:Nat}{ft:Nat->Nat}{cells:List Value}{A:Nat->Nat->Bool}
theorem loop6g(hNl:N<1000000)(hM:M=N+1)(st:Sl h0 h S m R)(mx:Mx m ft M M A)(hov:SlV S ov cells)(hcs:cells=(List.range M).map fun j=>slB (ft j) M){i:Nat}(hi:i<N)(hA: ∀k,k<=N->i≠k->A i k=true\/(N=1/\k=N)){K:Kt}
  (hq:Ret (F6_19 n cl (.int .i64 (i:Nat)) K (.int .i64 (N:Nat)) ov h) fun v _=>v= .bool true):
  ∀(dd q k:Nat),M-k<=dd->dd<q->k<=M->Ret (lp q (F6_21 n cl K) [.int .i64 (N:Nat),ov,.int .i64 (i:Nat),.int .i64 (k:Nat)] h) fun v _=>v= .bool true:=by
 intro dd
 induction dd with
 |zero=>
  intro q k h1 h2 h3;obtain⟨q,rfl⟩: ∃r,q=r+1:=⟨q-1,by omega⟩;rw[lp_succ];have dc:decide (((k:Nat):Int)<=((N:Nat):Int))=false:=by simp;omega
  simp only[F6_21,F6_20,ucons_cons,xLe_i,dc,vb_some,bite_f];exact hq
 |succ dd ih=>
  intro q k h1 h2 h3
  by_cases hk:k<M
  ·obtain⟨q,rfl⟩: ∃r,q=r+1:=⟨q-1,by omega⟩;rw[lp_succ];generalize hL:lp q (F6_21 n cl K)=LL;have dc:decide (((k:Nat):Int)<=((N:Nat):Int))=true:=by simp;omega
   obtain⟨b1,o1,e1,l1⟩:=ov_at hov hcs (show i<M by omega) st;have l2:xLd (.pointer (some ⟨ft i,k,none⟩)) h=some (.bool (A i k)):=st.ldB (mx.row i (by omega)) (rowB_get hk);have hff:ff= .bool false:=rfl;have go:Ret (F6_17 n cl (.int .i64 (k:Nat)) LL (.int .i64 (N:Nat)) ov (.int .i64 (i:Nat)) h) fun v _=>v= .bool true:=by
    simp only[F6_17,vN_eq,xAdd_i,wrapN (show k<4611686018427387904 by omega),vb_some];rw[<-hL];exact ih q (k+1) (by omega) (by omega) (by omega)
   simp only[F6_21,F6_20,ucons_cons,xLe_i,dc,vb_some,bite_t,F6_18,xNe_i]
   by_cases e:i=k
   ·have d1:(!decide (((i:Nat):Int)=((k:Nat):Int)))=false:=by simp[e]
    simp only[d1,isB_t,gd_false,vb_some,xPick_f,hff,bite_f];exact go
   ·have d1:(!decide (((i:Nat):Int)=((k:Nat):Int)))=true:=by simp;omega
    rcases hA k (by omega) e with hA|⟨hN1,hkN⟩
    ·simp only[d1,isB_t,gd_true,vb_some,e1,l1,slB_at hk,l2,hA,xNot_b,Bool.not_true,xPick_t,gd_false,xPick_f,hff,bite_f];exact go
    ·subst hkN;have d2:decide (((k:Nat):Int)=((1:Nat):Int))=true:=by simp;omega
     have d3:decide (((k:Nat):Int)=((k:Nat):Int))=true:=by simp
     cases hAk:A i k with
     |true=>
      simp only[d1,isB_t,gd_true,vb_some,e1,l1,slB_at hk,l2,hAk,xNot_b,Bool.not_true,xPick_t,gd_false,xPick_f,hff,bite_f];exact go
     |false=>
      simp only[d1,isB_t,gd_true,vb_some,e1,l1,slB_at hk,l2,hAk,xNot_b,Bool.not_false,xPick_t,vN_eq,xEq_i,d2,decide_true,Bool.not_true,xPick_f,hff,bite_f];exact go
  ·exact ih q k (by omega) (by omega) h3
theorem loop6h(hn:4611686018427387904<=n)(hNl:N<1000000)(hM:M=N+1)(st:Sl h0 h S m R)(mx:Mx m ft M M A)(hov:SlV S ov cells)(hcs:cells=(List.range M).map fun j=>slB (ft j) M)(hA: ∀i k,i<N->k<=N->i≠k->A i k=true\/(N=1/\k=N)):
  ∀(dd q i:Nat),N-i<=dd->dd<q->i<=N->Ret (lp q (F6_23 n cl) [.int .i64 (N:Nat),ov,.int .i64 (i:Nat)] h) fun v _=>v= .bool true:=by
 intro dd
 induction dd with
 |zero=>
  intro q i h1 h2 h3;obtain⟨q,rfl⟩: ∃r,q=r+1:=⟨q-1,by omega⟩;rw[lp_succ];have dc:decide (((i:Nat):Int)<((N:Nat):Int))=false:=by simp;omega
  simp only[F6_23,F6_22,ucons_cons,xLt_i,dc,vb_some,bite_f];exact Ret.of rfl
 |succ dd ih=>
  intro q i h1 h2 h3
  by_cases hi:i<N
  ·obtain⟨q,rfl⟩: ∃r,q=r+1:=⟨q-1,by omega⟩;rw[lp_succ];generalize hL:lp q (F6_23 n cl)=LL;have dc:decide (((i:Nat):Int)<((N:Nat):Int))=true:=by simp;omega
   simp only[F6_23,F6_22,ucons_cons,xLt_i,dc,vb_some,bite_t,vN_eq];refine loop6g hNl hM st mx hov hcs hi (hA i · hi) ?_ M n 0 (by omega) (by omega) (by omega);simp only[F6_19,vN_eq,xAdd_i,wrapN (show i<4611686018427387904 by omega),vb_some];rw[<-hL];exact ih q (i+1) (by omega) (by omega) (by omega)
  ·exact ih q i (by omega) (by omega) h3
end
section
variable {n:Nat}{h h0:PH}{S:Vw}
theorem law6[OkH h](hn:4611686018427387904<=n){D:Nat}(hD:1000<=D)(hS:Vw.le S h.cells){av:Value}{ts:List ByteArray}(ha:RdV rT S av ts)(hl:ts.length<=1048576):Ret (F6 n (CLU n (D+2)) av h) fun v _=>v= .bool true:=by
 have st0:Sl h h S OM.emp []:=Sl.start h hS;have hok:=st0.ok;have htt:tt= .bool true:=rfl;have hff:ff= .bool false:=rfl;unfold F6;rw[told13];simp only[vb_some];refine Ret.fcall0 st0 (P:=fun v S'=>v= .tuple ⟨[nils,ff]⟩\/ ∃pv l,v= .tuple ⟨[pv,tt]⟩/\PoL S' pv l/\l.length=ts.length/\ ∀po∈l,PoG po)
  ((c14 (n:=n) (cl:=CLU n (D+2)) (h:=h.fzn) (S:=S) hn (D:=D+1) (by omega) (fun v h=>clu25) (fun v h=>clu53) (fun u v h=>clu54) (fun u v h=>clu55) (fun b cs e=>st0.leS b cs e) ha hl).mono fun v h1 ⟨S',le,st,q⟩=>⟨S',le,st,q⟩)
  fun v h1 S1 le1 hv st1=>?_
 rcases hv with rfl|⟨pv,l,rfl,hpl,hll,hpg⟩
 ·simp only[xExt_t',List.getElem?_cons_zero,List.getElem?_cons_succ,vb_some,xNot_b,Bool.not_true,isB_f,Bool.not_false,gd_true,hff,xPick_f,gd_false,xPick_t,htt,bite_t];exact Ret.of rfl
 ·simp only[xExt_t',List.getElem?_cons_zero,List.getElem?_cons_succ,vb_some,xNot_b,Bool.not_true,isB_f,Bool.not_false,gd_true,htt,xPick_f,ha.tlen,vN_eq,xGt_i]
  by_cases h8:8<ts.length
  ·have d8:decide (((8:Nat):Int)<((ts.length:Nat):Int))=true:=by simp;omega
   simp only[d8,bite_t];exact Ret.of rfl
  have d8:decide (((8:Nat):Int)<((ts.length:Nat):Int))=false:=by simp;omega
  simp only[d8,bite_f,F6_29];refine Ret.hb (c15 (n:=n) (cl:=CLU n (D+2)) hn st1 hpl (fun po hm=>(hpg po hm).ok) (by omega)) fun u h2 ⟨S2,le2,st2,hr⟩=>?_;have hr0:=hr;have hu: ∃us c b,u= .tuple ⟨[.agg ⟨us⟩,c,.bool b]⟩/\us.length=2/\oneCells us=true:=by
   rcases hr with⟨_,rfl⟩|⟨_,rfl|⟨d,du,all,nxs,oks,rfl,hdu,_,_,_,_⟩⟩
   ·exact⟨_,_,_,rfl,rfl,rfl⟩
   ·exact⟨_,_,_,rfl,rfl,rfl⟩
   ·obtain⟨nv,av',rfl,o1,o2⟩:=hdu.agg;exact⟨_,_,_,rfl,rfl,one2 o1 o2⟩
  obtain⟨us,cc,kb,rfl,hus,ous⟩:=hu;simp only[xExt_t',List.getElem?_cons_zero,List.getElem?_cons_succ,vb_some];refine Ret.lalloc st2 zc30 fun h3 x17 st3=>?_;refine Ret.lstA st3 0 rfl rfl hus (by simp) ous fun h4 st4=>?_;rw[setsL_all (by rw[hus];rfl)]at st4;have st4:Sl h h4 S2 OM.emp [(x17,.row .own 1 us)]:=st4;have htl:=tot_le hpg;refine Ret.hb (c16 (n:=n) (cl:=CLU n (D+2)) (cl':=CLV n (D+1)) (cl'':=CLV n D) hn (fun u v h=>clu109) (fun v h=>clu107) (fun v h=>clv107) (fun u v h=>clu99) st4 (hpl.mono le2) (by omega) (fun _=>by omega) (fun po hm=>(hpg po hm).ok.inn)) fun v h5 ⟨S5,le5,st5,ho⟩=>?_;have ho0:=ho;have hv: ∃vs c,v= .tuple ⟨[.agg ⟨vs⟩,c]⟩/\vs.length=2/\oneCells vs=true:=by
   rcases ho with⟨_,rfl⟩|⟨_,_,_,_,_,_,_,⟨_,rfl⟩|⟨_,_,d,dv,rfl,hdv,_⟩⟩
   ·exact⟨_,_,rfl,rfl,rfl⟩
   ·exact⟨_,_,rfl,rfl,rfl⟩
   ·obtain⟨nv,av',rfl,o1,o2⟩:=hdv.agg;exact⟨_,_,rfl,rfl,one2 o1 o2⟩
  obtain⟨vs,ce,rfl,hvs,ovs⟩:=hv;simp only[xExt_t',List.getElem?_cons_zero,List.getElem?_cons_succ,vb_some];refine Ret.lalloc st5 zc30 fun h6 x22 st6=>?_;refine Ret.lstA st6 0 rfl rfl hvs (by simp) ovs fun h7 st7=>?_;rw[setsL_all (by rw[hvs];rfl)]at st7;have st7:Sl h h7 S5 OM.emp [(x22,.row .own 1 vs),(x17,.row .own 1 us)]:=st7;rcases of_ref ho0 hr0 with⟨h40,_⟩|⟨_,hu,_⟩|⟨_,d,dv,du,hv,hu,hdv,hdu,hcan,hdl,htel⟩
  ·omega
  ·simp only[Value.tuple.injEq,Array.mk.injEq,List.cons.injEq]at hu;have hkb:=hu.2.2.1;cases hkb;simp only[xNot_b,Bool.not_false,vb_some,bite_t];exact Ret.of rfl
  ·simp only[Value.tuple.injEq,Array.mk.injEq,List.cons.injEq]at hu hv;have hkb:=hu.2.2.1;cases hkb;have hce:=hv.2.1;subst hce;have hvd:=hv.1;obtain⟨nv2,av2,e2,p1,p2⟩:=hdv.agg;rw[e2]at hvd hdv;cases hvd;have hdv0:=hdv;obtain⟨nv,av',vs,e,a1,a2,a3,a4⟩:=hdv;cases e;have hpos:=hcan.pos;have hal:=hcan.al;have n0:=a1.len;have n1:=a4.len;rw[a2]at n0;rw[zv_len,hal]at n1;have l0:xLd (.pointer (some ⟨x22,0,none⟩)) h7=some nv2:=st7.ld (.head _) rfl;have l1:xLd (.pointer (some ⟨x22,1,none⟩)) h7=some av2:=st7.ld (.head _) rfl;have d1:decide (((d.next.length:Nat):Int)<((1:Nat):Int))=false:=by simp;omega
   have d2:(!decide (((d.next.length:Nat):Int)=((d.next.length:Nat):Int)))=false:=by simp
   have d3:(!decide ((0:Int)=((0:Nat):Int)))=false:=rfl;simp only[xNot_b,Bool.not_true,vb_some,bite_f,F6_28,c18,vN_eq,xNe_i,d3,xFld_p,Nat.zero_add,l0,n0,isB_f,Bool.not_false,gd_true,xLt_i,d1,xPick_f,l1,n1,decide_true];refine loop6b (cl:=CLU n (D+2)) hn hdv0 (N:=d.next.length) (M:=d.next.length+1) (R0:=[(x22,.row .own 1 [nv2,av2]),(x17,.row .own 1 us)]) rfl (by omega) (.head _) (fun h8 m ft ov cells ex mx hcs g st=>?_) (d.next.length+1) n 0 h7 OM.emp (fun _=>0) nils [] [] (by omega) (by omega) (by omega) ⟨fun i hi=>by omega,fun i j hi=>by omega⟩ rfl Gl.nil st7;obtain⟨S9,le9,st9,hsc⟩:=g.settle st;have hov:SlV S9 ov cells:=by
    have hcl:cells.length=d.next.length+1:=by rw[hcs];simp
    rcases hsc with⟨q1,_,_⟩|⟨b,o,c,cs,rfl,q1,q2,q3⟩
    ·omega
    ·refine .inr ⟨b,o,c,cs,by rw[hcl],q1,by omega,fun i x hi=>?_⟩;rw[q3,List.getElem?_take,List.getElem?_drop]at hi;have hil:=hi
     split at hi
     ·exact hi
     ·cases hi
   exact loop6f (cl:=CLU n (D+2)) hn (hdv0.mono le9) hcan rfl rfl (by omega) (.head _) hov hcs (fun h10 m10 A mx10 st10 hne hcl=>
    loop6h hn (by omega) rfl st10 mx10 hov hcs (fun i k hi hk hik=>apart_all hcan rfl hne hcl hi hk hik) d.next.length n 0 (by omega) (by omega) (by omega))
    ((d.next.length+1)*(d.next.length+1)+1) n h8 m (neN d) true (by omega) (by
     have:(d.next.length+1)*(d.next.length+1)<=3001*3001:=Nat.mul_le_mul (by omega) (by omega);omega) mx (fun _ _ h=>h) (fun h=>by cases h) st9
end
end Go.Am
