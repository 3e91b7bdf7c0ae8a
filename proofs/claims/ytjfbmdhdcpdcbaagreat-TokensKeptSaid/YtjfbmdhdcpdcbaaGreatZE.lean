import Derived.Test.YtjfbmdhdcpdcbaaGreatZT
set_option linter.unusedSimpArgs false
set_option linter.unusedVariables false
namespace Go.Am
open Go Go.RowKit Go.Proofs
structure LxR where
 pat:ByteArray
 mode:Int
 next:Int
 kind:Int
structure Lxr where
 modes:Int
 rules:List LxR
structure LxR.In(r:LxR):Prop where
 pat:r.pat.size<9223372036854775808
 mode:inR r.mode
 next:inR r.next
 kind:inR r.kind
structure Lxr.In(l:Lxr):Prop where
 modes:inR l.modes
 len:l.rules.length<9223372036854775808
 rl: ∀r∈l.rules,r.In
def rvs(r:LxR):List Value:=[.string r.pat,.int .i64 r.mode,.int .i64 r.next,.int .i64 r.kind]
def rLR:Rdr LxR:=⟨4,fun _ r es=>es=rvs r,fun _ h=>h,fun h=>by rw[h];rfl,fun h=>by rw[h];rfl⟩
theorem RdV.rlen{α:Type}{R:Rdr α}{V:Vw}{v:Value}{l:List α}(r:RdV R V v l):xLenS v=some (.int .i64 (l.length:Nat)):=by
 rcases r with⟨rfl,a,c,rfl⟩|⟨b,o,c,cs,rfl,_⟩<;>simp
theorem RdV.rat{α:Type}{R:Rdr α}{V:Vw}{v:Value}{l:List α}(r:RdV R V v l){i:Nat}{x:α}{k:IntKind}(hi:l[i]?=some x): ∃b o cs es,xIdxS R.sz v (.int k (i:Nat))=some (.pointer (some ⟨b,o,none⟩))/\V b=some cs/\(cs.drop o).take R.sz=es/\o+R.sz<=cs.length/\R.E V x es:=by
 have hlt:=(List.getElem?_eq_some_iff.1 hi).1;rcases r with⟨rfl,_⟩|⟨b,o,c,cs,rfl,h1,h2⟩
 ·simp at hi
 ·obtain⟨q1,q2⟩:=h2 i x hi;exact⟨b,o+i*R.sz,cs,_,by rw[xIdxS_at (by omega) (by omega)];simp,h1,rfl,by omega,q2⟩
def plcT(t:ByteArray):Except Nat Po:=match prsT t with
 | .error e=>.error e
 | .ok x=>if 150<x.sets.length then .error 3 else if 200<x.deep then .error 4 else .ok (poOf x)
def ruleT(m:Int)(r:LxR):Nat:=if ¬(0<=r.mode/\r.mode<m)\/ ¬(0<=r.next/\r.next<m)\/r.kind< -1\/40<=r.kind then 6 else match plcT r.pat with
 | .error e=>e
 | .ok p=>if p.null=true then 5 else 0
def RuleB(m:Int)(r:LxR):Prop:= ¬(0<=r.mode/\r.mode<m)\/ ¬(0<=r.next/\r.next<m)\/r.kind< -1\/40<=r.kind
theorem ruleT_6{m:Int}{r:LxR}(h:RuleB m r):ruleT m r=6:=by unfold ruleT;exact if_pos h
theorem ruleT_err{m:Int}{r:LxR}{e:Nat}(h: ¬ RuleB m r)(he:plcT r.pat= .error e):ruleT m r=e:=by
 unfold RuleB at h;unfold ruleT;rw[if_neg h];simp only[he]
theorem ruleT_ok{m:Int}{r:LxR}{p:Po}(h: ¬ RuleB m r)(he:plcT r.pat= .ok p):ruleT m r=if p.null=true then 5 else 0:=by
 unfold RuleB at h;unfold ruleT;rw[if_neg h];simp only[he]
def chkT(m:Int):List LxR->Nat->Option (Nat×Nat)
 | [],_=>none
 |r::rs,i=>if ruleT m r=0 then chkT m rs (i+1)else some (i,ruleT m r)
def rulesOf(l:List LxR)(k:Int):List LxR:=l.filter fun r=>decide (r.mode=k)
def posOf(r:LxR):Po:=match plcT r.pat with
 | .ok p=>p
 | .error _=>po0
def Knw(l:List Po)(d:Dfa):Prop:=Canon d/\(∀w,Byt w->FstI l.length (fun k=> ∃po,l[k]?=some po/\takesP po w) (dacc d (drun d 0 w)))/\ ∃all nxs oks,SubI l all nxs oks/\nxs.length=all.length
structure Dsp(n D:Nat)(cl:CL):Prop where
 ag: ∀f xs h,f≠15->f≠24->f≠35->f≠78->cl f xs h=LV n (D+1) f xs h
theorem Dsp.lv(n D:Nat):Dsp n D (LV n (D+1)):=⟨fun _ _ _ _ _ _ _=>rfl⟩
section
variable {Q:Value->PH->Prop}{n D:Nat}{cl:CL}{h h0:PH}{S:Vw}{m:OM}{rows:Rws}{t:ByteArray}
def z5:List Value:=[nils,.bool false,nils,nils,nils]
theorem zc90':zcells Tryz.prog 90=some z5:=by kernel_rfl
def PlV(S:Vw)(t:ByteArray)(h0:PH)(rows:Rws)(v:Value)(h':PH):Prop:=
 ∃S' ps e,Vw.le S S'/\Sl h0 h' S' OM.emp rows/\v= .tuple ⟨[.agg ⟨ps⟩,.int .i64 ((e:Nat):Int)]⟩/\ps.length=5/\oneCells ps=true/\((e≠0/\plcT t= .error e)\/(e=0/\ ∃po,plcT t= .ok po/\PoV S' po ps/\PoG po))
theorem Ret.putA{sz b1:Nat}{pre:Rws}{cs es:List Value}(hpos:0<sz)(st:Sl h0 h S m (pre++(b1,.row .own 1 cs)::rows))(hcs:cs.length=sz)(he:es.length=sz)(hone:oneCells es=true){F:Value->Value}(hk: ∀h',Sl h0 h' S m rows->Q (F (.agg ⟨es⟩)) h'):
  Ret (Go.Am.hb (xStA sz (pt b1) (.agg ⟨es⟩) h) fun _ h=>Go.Am.vb (xLdA sz (pt b1) h) fun v=>some (F v,h)) Q:=by
 have st1:=st.perm (rows':=(b1,.row .own 1 cs)::(pre++rows)) List.perm_middle;refine Ret.lstA st1 0 rfl rfl he (by omega) hone fun h3 st3=>?_;rw[setsL_all (by omega)]at st3;have st3:Sl h0 h3 S m ((b1,.row .own 1 es)::(pre++rows)):=st3;have lb:xLdA sz (pt b1) h3=some (.agg ⟨es⟩):=st3.ldA (.head _) (by rw[List.drop_zero, <-he,List.take_length]) (by omega);simp only[lb,vb_some];exact Ret.of (hk h3 (st3.drop ((List.sublist_append_right _ _).trans (List.sublist_cons_self _ _))))
theorem c62(hn:4611686018427387904<=n)(hD:1000<=D)(dp:Dsp n D cl)(ht:t.size<9223372036854775808)(st:Sl h0 h S OM.emp rows):Ret (F62 n cl (.string t) h) (PlV S t h0 rows):=by
 unfold F62;refine Ret.lalloc st zc90' fun h1 b1 st1=>?_;have okh:=st1.ok;refine Ret.lfcallN (P:=fun v W=> ∃x es p e,v= .tuple ⟨[.agg ⟨es⟩,.int .i64 p,.int .i64 ((e:Nat):Int)]⟩/\ReE W x es/\x.wf/\x.size<=3*t.size+2/\(e=0->t.size<=200)/\((e=0/\prsT t= .ok x)\/(e≠0/\prsT t= .error e))) st1 (fun v V W hVW ⟨x,es,p,e,a1,a2,a3⟩=>⟨x,es,p,e,a1,a2.mono hVW,a3⟩) ?_ fun v h2 S2 le2 st2 ⟨x,es,p,e,hv,he,hwf,hsz,h200,hex⟩=>?_
 ·refine Ret.mono (c86 (n:=n) (cl:=cl) (h:=h1.fzn) (h0:=h1.fzn) (S:=fun _=>none) (t:=t) (rows:=[]) hn (D:=D) (by omega) (fun u v h=>dp.ag _ _ _ (by decide) (by decide) (by decide) (by decide)) ht (Sl.start h1.fzn (fun b cs e=>by cases e))) fun v h1 ⟨S3,x,es,p,e,le3,st3,q1,q2,q3,q4,q5,q6⟩=>?_;refine⟨S3,st3,x,es,p,e,q1,q2.mono fun b cs hb=>?_,q3,q4,q5,q6⟩;rcases le3.2 b cs hb with h|h
  ·cases h
  ·exact Nw.at h hb
 subst hv;have hes:=he.len;simp only[xExt_t',List.getElem?_cons_zero,List.getElem?_cons_succ,vb_some];refine Ret.lalloc st2 zc85 fun h3 x2 st3=>?_;refine Ret.lstA st3 0 rfl rfl hes (by simp) he.one fun h4 st4=>?_;rw[setsL_all (by rw[hes];rfl)]at st4;have st4:Sl h0 h4 S2 OM.emp ([(x2,.row .own 1 es)]++(b1,.row .own 1 z5)::rows):=st4;simp only[vN_eq,xNe_i,vb_some];rcases hex with⟨hz,hp⟩|⟨hz,hp⟩
 ·have d:(!decide (((e:Nat):Int)=((0:Nat):Int)))=false:=by simp[hz]
  have la:xLdA 6 (pt x2) h4=some (.agg ⟨es⟩):=st4.ldA (.head _) (by rw[List.drop_zero, <-hes,List.take_length]) (by omega);simp only[d,bite_f,F62_1,la,vb_some];have hdp:=Re.deep_le x;have h2:=h200 hz;refine Ret.hb (c87 hn (d:=D+1) (fun v h=>dp.ag _ _ _ (by decide) (by decide) (by decide) (by decide)) (fun u v h=>dp.ag _ _ _ (by decide) (by decide) (by decide) (by decide)) (by omega) (by omega) st4 he) fun v5 h5 ⟨S5,ps,f,le5,st5,hv,hq⟩=>?_;subst hv;simp only[xExt_t',List.getElem?_cons_zero,List.getElem?_cons_succ,vb_some];have P2:ps.length=5/\oneCells ps=true:=by
   rcases hq with⟨_,_,rfl⟩|⟨_,_,_,rfl⟩|⟨_,_,_,q⟩
   ·exact⟨rfl,rfl⟩
   ·exact⟨rfl,rfl⟩
   ·exact q.ps
  refine Ret.putA (F:=fun v=>.tuple ⟨[v,.int .i64 f]⟩) (by decide) st5 rfl P2.1 P2.2 fun h6 st6=>?_;have hpl: ∀r,prsT t= .ok r->plcT t=if 150<r.sets.length then .error 3 else if 200<r.deep then .error 4 else .ok (poOf r):=fun r h=>by unfold plcT;rw[h]
  have hpl:=hpl x hp;rcases hq with⟨q1,rfl,rfl⟩|⟨q1,q2,rfl,rfl⟩|⟨q1,q2,rfl,q3⟩
  ·rw[if_pos q1]at hpl;exact⟨S5,_,3,le2.trans le5,st6,rfl,rfl,rfl,.inl ⟨by decide,hpl⟩⟩
  ·rw[if_neg (by omega),if_pos q2]at hpl;exact⟨S5,_,4,le2.trans le5,st6,rfl,rfl,rfl,.inl ⟨by decide,hpl⟩⟩
  ·rw[if_neg (by omega),if_neg (by omega)]at hpl;exact⟨S5,_,0,le2.trans le5,st6,rfl,P2.1,P2.2,.inr ⟨rfl,_,hpl,q3,x,rfl,q1,poOf_in he q1⟩⟩
 ·have d:(!decide (((e:Nat):Int)=((0:Nat):Int)))=true:=by simp[hz]
  simp only[d,bite_t,F62_0,ab90,vb_some];refine Ret.putA (F:=fun v=>.tuple ⟨[v,.int .i64 ((e:Nat):Int)]⟩) (by decide) st4 rfl rfl rfl fun h6 st6=>?_;exact⟨S2,_,e,le2,st6,rfl,rfl,rfl,.inl ⟨hz,by unfold plcT;rw[hp]⟩⟩
theorem PoV.null{V:Vw}{po:Po}{ps:List Value}(h:PoV V po ps):ps[1]?=some (.bool po.null):=by
 obtain⟨sv,fv,lv,wv,ws,rfl,_⟩:=h.h
 rfl
end
theorem zc46:zcells Tryz.prog 46=some [.string ⟨#[]⟩,.int .i64 0,.int .i64 0,.int .i64 0]:=by kernel_rfl
section
variable {Q:Value->PH->Prop}{n D:Nat}{cl:CL}{h h0:PH}{S:Vw}{m:OM}{rows:Rws}{t:ByteArray}
theorem c49[OkH h]{i k:Int}:pcall (F49 n cl (.int .i64 i) (.int .i64 k) h)=some (.bool (decide (0<=i/\i<k))):=by
 unfold F49
 by_cases h1:0<=i
 ·have d:decide (((0:Nat):Int)<=i)=true:=by simpa using h1
  have e:decide (0<=i/\i<k)=decide (i<k):=by
   rw[Bool.eq_iff_iff,decide_eq_true_eq,decide_eq_true_eq];exact⟨fun h=>h.2,fun h=>⟨h1,h⟩⟩
  rw[e];simp only[vN_eq,xGe_i,vb_some,d,isB_t,gd_true,xLt_i,xPick_t];exact pcall_some rfl
 ·have d:decide (((0:Nat):Int)<=i)=false:=by simpa using h1
  have e:decide (0<=i/\i<k)=false:=decide_eq_false fun h=>h1 h.1;rw[e];simp only[vN_eq,xGe_i,vb_some,d,isB_t,gd_false,xPick_f];exact pcall_some rfl
theorem c41[OkH h](hn:4611686018427387904<=n)(hD:1000<=D)(dp:Dsp n D cl){mo:Int}{rv:Value}{r:LxR}(hin:r.In):
  pcall (F41 n cl (.agg ⟨[.int .i64 mo,rv]⟩) (.agg ⟨rvs r⟩) h)=some (.int .i64 ((ruleT mo r:Nat):Int)):=by
 refine pcall_fr (h:=h) (S:=fun _=>none) ?_ rfl;unfold Fr F41;refine Ret.lbox (Sl.start h (S:=fun _=>none) (fun b cs e=>by cases e)) fun h1 x1 st1=>?_;refine Ret.lbox st1 fun h2 x2 st2=>?_;have st2:Sl h h2 (fun _=>none) OM.emp [(x2,.row .own 1 (rvs r)),(x1,.row .own 1 [.int .i64 mo,rv])]:=st2;have okh:=st2.ok;have a0:xLd (.pointer (some ⟨x1,0,none⟩)) h2=some (.int .i64 mo):=st2.ld (.tail _ (.head _)) rfl;have r0:xLd (.pointer (some ⟨x2,0,none⟩)) h2=some (.string r.pat):=st2.ld (.head _) rfl;have r1:xLd (.pointer (some ⟨x2,1,none⟩)) h2=some (.int .i64 r.mode):=st2.ld (.head _) rfl;have r2:xLd (.pointer (some ⟨x2,2,none⟩)) h2=some (.int .i64 r.next):=st2.ld (.head _) rfl;have r3:xLd (.pointer (some ⟨x2,3,none⟩)) h2=some (.int .i64 r.kind):=st2.ld (.head _) rfl;have w1:=c49 (n:=n) (cl:=cl) (h:=h2.fzn) (i:=r.mode) (k:=mo);have w2:=c49 (n:=n) (cl:=cl) (h:=h2.fzn) (i:=r.next) (k:=mo);have six:(¬(0<=r.mode/\r.mode<mo)\/ ¬(0<=r.next/\r.next<mo)\/r.kind< -1\/40<=r.kind)->Ret (some (vN 6,h2)) fun v h1=> ∃rows,Sl h h1 (fun _=>none) OM.emp rows/\v= .int .i64 ((ruleT mo r:Nat):Int):=by
  intro hc;refine Fr.ret st2 ?_;unfold ruleT;rw[if_pos hc];rfl
 simp only[xFld_p,Nat.zero_add,vb_some,r1,a0,w1,xNot_b]
 by_cases c1:0<=r.mode/\r.mode<mo
 ·have d1:decide (0<=r.mode/\r.mode<mo)=true:=decide_eq_true c1;simp only[d1,Bool.not_true,isB_f,Bool.not_false,gd_true,vb_some,r2,a0,w2,xNot_b,xPick_f]
  by_cases c2:0<=r.next/\r.next<mo
  ·have d2:decide (0<=r.next/\r.next<mo)=true:=decide_eq_true c2;simp only[d2,Bool.not_true,isB_f,Bool.not_false,gd_true,vb_some,r3,vM_eq,xLt_i,xPick_f]
   by_cases c3:r.kind< -1
   ·have d3:decide (r.kind<Int.negSucc 0)=true:=decide_eq_true c3;simp only[d3,isB_f,Bool.not_true,gd_false,vb_some,xPick_t,tt_eq,bite_t];exact six (.inr (.inr (.inl c3)))
   ·have d3:decide (r.kind<Int.negSucc 0)=false:=decide_eq_false c3;simp only[d3,isB_f,Bool.not_false,gd_true,vb_some,r3,vN_eq,xGe_i,xPick_f]
    by_cases c4:40<=r.kind
    ·have d4:decide (((40:Nat):Int)<=r.kind)=true:=decide_eq_true c4;simp only[d4,bite_t];exact six (.inr (.inr (.inr c4)))
    ·have d4:decide (((40:Nat):Int)<=r.kind)=false:=decide_eq_false c4;have hno: ¬(¬(0<=r.mode/\r.mode<mo)\/ ¬(0<=r.next/\r.next<mo)\/r.kind< -1\/40<=r.kind):=by
      rintro(h|h|h|h)
      ·exact h c1
      ·exact h c2
      ·exact c3 h
      ·exact c4 h
     simp only[d4,bite_f,F41_0,xFld_p,Nat.zero_add,vb_some,r0];refine Ret.hb (c62 hn hD dp hin.pat st2) fun v h3 ⟨S3,ps,e,le3,st3,hv,hps,hone,hex⟩=>?_;subst hv;simp only[xExt_t',List.getElem?_cons_zero,List.getElem?_cons_succ,vb_some];refine Ret.lalloc st3 zc90' fun h4 x3 st4=>?_;refine Ret.lstA st4 0 rfl rfl hps (by simp[z5]) hone fun h5 st5=>?_;rw[setsL_all (by rw[hps];rfl)]at st5;have st5:Sl h h5 S3 OM.emp ((x3,.row .own 1 ps)::[(x2,.row .own 1 (rvs r)),(x1,.row .own 1 [.int .i64 mo,rv])]):=st5;have wk:=st5.weakS le3;rcases hex with⟨hz,hp⟩|⟨hz,po,hp,hpo,_⟩
     ·have d5:decide (((e:Nat):Int)=((0:Nat):Int))=false:=by simp[hz]
      have hq:=ruleT_err hno hp;simp only[vN_eq,xEq_i,vb_some,d5,isB_t,gd_false,xPick_f,ff_eq,bite_f];exact Fr.ret wk (by rw[hq])
     ·have d5:decide (((e:Nat):Int)=((0:Nat):Int))=true:=by simp[hz]
      have hq:=ruleT_ok hno hp;have l1:xLd (.pointer (some ⟨x3,1,none⟩)) h5=some (.bool po.null):=st5.ld (.head _) hpo.null;simp only[vN_eq,xEq_i,vb_some,d5,isB_t,gd_true,xFld_p,Nat.zero_add,l1,xPick_t];have hq:ruleT mo r=if po.null=true then 5 else 0:=hq;cases hnl:po.null with
      |true=>
       rw[if_pos hnl]at hq;simp only[bite_t];exact Fr.ret wk (by rw[hq])
      |false=>
       rw[if_neg (by rw[hnl];decide)]at hq;simp only[bite_f];exact Fr.ret wk (by rw[hq,hz])
  ·have d2:decide (0<=r.next/\r.next<mo)=false:=decide_eq_false c2;simp only[d2,Bool.not_true,Bool.not_false,isB_f,gd_false,vb_some,xPick_t,tt_eq,bite_t];exact six (.inr (.inl c2))
 ·have d1:decide (0<=r.mode/\r.mode<mo)=false:=decide_eq_false c1;simp only[d1,Bool.not_true,Bool.not_false,isB_f,gd_false,vb_some,xPick_t,tt_eq,bite_t];exact six (.inl c1)
theorem take_snoc{α:Type}{l:List α}{i:Nat}{x:α}(h:l[i]?=some x):l.take (i+1)=l.take i++[x]:=by
 have hlt:=(List.getElem?_eq_some_iff.1 h).1;rw[List.take_succ_eq_append_getElem hlt,(List.getElem?_eq_some_iff.1 h).2]
theorem c42(hn:4611686018427387904<=n)(hD:1000<=D)(dp:Dsp n D cl){rs:List LxR}{v:Value}(hv:RdV rLR S v rs)(hl:rs.length<=40)(hin: ∀r∈rs,r.In)(hok: ∀r∈rs, ∃po,plcT r.pat= .ok po)(st:Sl h0 h S OM.emp rows):
  Ret (F42 n cl v h) fun u h'=> ∃S',Vw.le S S'/\Sl h0 h' S' OM.emp rows/\OfV (rs.map posOf) S' u:=by
 unfold F42;refine Ret.lalloc st zc76 fun h1 b1 st1=>?_;simp only[hv.rlen,vb_some];have key: ∀(d q i:Nat)(S':Vw)(h':PH)(ov:Value)(ex:Rws)(cells:List Value)(l:List Po),rs.length-i<=d->d<q->i<=rs.length->Vw.le S S'->Sl h0 h' S' OM.emp (ex++(b1,.row .own 1 [nils,nils])::rows)->Gl 5 ov i cells ex->l=(rs.take i).map posOf->(∀(j:Nat) po,l[j]?=some po->PoV S' po ((cells.drop (j*5)).take 5))->(∀po∈l,PoG po)->
   Ret (lp q (F42_5 n cl) [pt b1,ov,v,.int .i64 (rs.length:Nat),.int .i64 (i:Nat)] h') fun u h'=> ∃S',Vw.le S S'/\Sl h0 h' S' OM.emp rows/\OfV (rs.map posOf) S' u:=by
  intro d
  induction d with
  |zero=>
   intro q i S' h' ov ex cells l g1 g2 g3 le st g hll hpo hpg;obtain⟨q,rfl⟩: ∃r,q=r+1:=⟨q-1,by omega⟩;rw[lp_succ];obtain rfl:i=rs.length:=by omega
   rw[List.take_length]at hll;have hlen:l.length=rs.length:=by rw[hll,List.length_map]
   have dc:decide (((rs.length:Nat):Int)<((rs.length:Nat):Int))=false:=by simp
   simp only[F42_5,F42_4,ucons_cons,xLt_i,vb_some,dc,bite_f,F42_3];obtain⟨S2,le2,st2,hv2⟩:=Gl.settle st g;have hav:PoL S2 ov l:=by
    rcases hv2 with⟨q1,_,rfl⟩|⟨b,o,c,cs,rfl,q1,q2,q3⟩
    ·exact .inl ⟨List.eq_nil_of_length_eq_zero (by omega),none,0,rfl⟩
    ·refine .inr ⟨b,o,c,cs,by rw[hlen],q1,by rw[hlen];exact q2,fun j po hj=>?_⟩;have:=(hpo j po hj).mono le2;rw[q3]at this;have hjl:=(List.getElem?_eq_some_iff.1 hj).1;rw[List.drop_take,List.take_take,List.drop_drop,Nat.min_eq_left (by omega)]at this;exact this
   have htl:=tot_le hpg;refine Ret.hb (c63 (n:=n) (cl:=cl) (cl':=LV n D) (cl'':=LV n (D-1)) hn (fun u v h=>by rw[dp.ag _ _ _ (by decide) (by decide) (by decide) (by decide)];rfl) (fun v h=>by rw[dp.ag _ _ _ (by decide) (by decide) (by decide) (by decide)];rfl) (fun v h=>by obtain⟨D',rfl⟩: ∃D',D=D'+1:=⟨D-1,by omega⟩;rfl) (fun u v h=>by rw[dp.ag _ _ _ (by decide) (by decide) (by decide) (by decide)];rfl) st2 hav (by omega) (fun _=>by omega) (fun po hm=>(hpg po hm).ok.inn)) fun u h5 ⟨S5,le5,st5,ho⟩=>?_;have hform: ∃dn da e,u= .tuple ⟨[.agg ⟨[dn,da]⟩,e]⟩/\oneCells [dn,da]=true:=by
    rcases ho with⟨_,rfl⟩|⟨_,p,a0,s,_,_,_,⟨_,rfl⟩|⟨_,cls,d,dv,rfl,hdv,_⟩⟩
    ·exact⟨_,_,_,rfl,rfl⟩
    ·exact⟨_,_,_,rfl,rfl⟩
    ·obtain⟨nv,av,rfl,o1,o2⟩:=hdv.agg;exact⟨_,_,_,rfl,one2 o1 o2⟩
   obtain⟨dn,da,e,rfl,hone⟩:=hform;simp only[xExt_t',List.getElem?_cons_zero,List.getElem?_cons_succ,vb_some];have st5:Sl h0 h5 S5 OM.emp ([]++(b1,.row .own 1 [nils,nils])::rows):=st5;refine Ret.putA (sz:=2) (es:=[dn,da]) (F:=fun v=>.tuple ⟨[v,e]⟩) (by decide) st5 rfl rfl hone fun h6 st6=>?_;rw[hll]at ho;exact⟨S5,le.trans (le2.trans le5),st6,ho⟩
  |succ d ih=>
   intro q i S' h' ov ex cells l g1 g2 g3 le st g hll hpo hpg
   by_cases hi:i<rs.length
   ·obtain⟨q,rfl⟩: ∃r,q=r+1:=⟨q-1,by omega⟩;rw[lp_succ];generalize hL:lp q (F42_5 n cl)=LL;have dc:decide (((i:Nat):Int)<((rs.length:Nat):Int))=true:=by simp;omega
    have hx:=List.getElem?_eq_getElem hi;generalize rs[i]=r at hx;have hrm:=List.mem_of_getElem? hx;obtain⟨bb,oo,cs,es,e1,e2,e3,e4,e5⟩:=hv.rat (k:=.i64) hx;have e1:xIdxS 4 v (.int .i64 (i:Nat))=some (.pointer (some ⟨bb,oo,none⟩)):=e1;have e5:es=rvs r:=e5;subst e5;have l1:=st.ldSA (n:=4) (le _ _ e2) e3 e4;have hlen:l.length=i:=by rw[hll,List.length_map,List.length_take];omega
    simp only[F42_5,F42_4,ucons_cons,xLt_i,vb_some,dc,bite_t,F42_2,e1,l1];refine Ret.lalloc st zc46 fun h2 x2 st2=>?_;refine Ret.lstA st2 0 rfl rfl rfl (by decide) rfl fun h3 st3=>?_;have st3:Sl h0 h3 S' OM.emp ((x2,.row .own 1 (rvs r))::(ex++(b1,.row .own 1 [nils,nils])::rows)):=st3;have l2:xLd (.pointer (some ⟨x2,0,none⟩)) h3=some (.string r.pat):=st3.ld (.head _) rfl;simp only[xFld_p,Nat.zero_add,vb_some,l2];refine Ret.hb (c62 hn hD dp (hin r hrm).pat st3) fun u h4 ⟨S4,ps,e,le4,st4,hu,hps,hone,hex⟩=>?_;subst hu;obtain⟨po0',hpo0⟩:=hok r hrm;rcases hex with⟨hz,hp⟩|⟨hz,po,hp,hpv,hpG⟩
    ·rw[hpo0]at hp;cases hp
    simp only[xExt_t',List.getElem?_cons_zero,List.getElem?_cons_succ,vb_some];refine Ret.lalloc st4 zc90' fun h5 x3 st5=>?_;refine Ret.lstA st5 0 rfl rfl hps (by simp[z5]) hone fun h6 st6=>?_;rw[setsL_all (by rw[hps];rfl)]at st6;have st6:Sl h0 h6 S4 OM.emp ((x3,.row .own 1 ps)::(x2,.row .own 1 (rvs r))::(ex++(b1,.row .own 1 [nils,nils])::rows)):=st6;have d5:(!decide (((e:Nat):Int)=((0:Nat):Int)))=false:=by simp[hz]
    have la:xLdA 5 (pt x3) h6=some (.agg ⟨ps⟩):=st6.ldA (.head _) (by rw[List.drop_zero, <-hps,List.take_length]) (by omega);simp only[vN_eq,xNe_i,vb_some,d5,bite_f,F42_1,la];have st8:Sl h0 h6 S4 OM.emp (ex++(b1,.row .own 1 [nils,nils])::rows):=st6.drop ((List.sublist_cons_self _ _).trans (List.sublist_cons_self _ _));refine Ret.gapp st8 g (bsPo hpv) ai80 hps hone (sz_le (c:=1048576) (by omega) (by decide)) fun h9 ov' ex' st9 g9=>?_;simp only[xAdd_i,vN_eq,wrapN (show i<4611686018427387904 by omega),vb_some];rw[<-hL];have hcl:=g.length;have hpe:posOf r=po:=by unfold posOf;rw[hp]
    refine ih q (i+1) S4 h9 ov' ex' (cells++ps) (l++[po]) (by omega) (by omega) (by omega) (le.trans le4) st9 g9 (by rw[take_snoc hx,List.map_append,hll, <-hpe];rfl) (fun j po' hj=>?_) (fun po' hm=>?_)
    ·rcases get_sn hj with hj|⟨rfl,rfl⟩
     ·have hjl:=(List.getElem?_eq_some_iff.1 hj).1;have:=(hpo j po' hj).mono le4;rw[List.drop_append_of_le_length (by omega),List.take_append_of_le_length (by simp;omega)];exact this
     ·rw[hlen,List.drop_append,List.drop_of_length_le (by omega),List.nil_append,show i*5-cells.length=0 by omega,List.drop_zero, <-hps,List.take_length];exact hpv
    ·rcases List.mem_append.1 hm with hm|hm
     ·exact hpg po' hm
     ·have:po'=po:=by simpa using hm
      rw[this];exact hpG
   ·exact ih q i S' h' ov ex cells l (by omega) (by omega) g3 le st g hll hpo hpg
 exact key rs.length n 0 S h1 nils [] [] [] (by omega) (by omega) (by omega) (Vw.le.refl _) st1 Gl.nil rfl (fun j po hj=>by simp at hj) (fun po hm=>by cases hm)
end
structure Enc(α:Type) where
 f:α->List Value
 sz:Nat
 pos:0<sz
 len: ∀x,(f x).length=sz
 one: ∀x,oneCells (f x)=true
def flt{α:Type}(E:Enc α)(l:List α):List Value:=l.flatMap E.f
section
variable {α:Type}{E:Enc α}{l:List α}{x:α}
theorem flt_cons:flt E (x::l)=E.f x++flt E l:=rfl
theorem flt_app{l':List α}:flt E (l++l')=flt E l++flt E l':=by unfold flt;rw[List.flatMap_append]
theorem flt_len:(flt E l).length=l.length*E.sz:=by
 induction l with
 |nil=>simp[flt]
 |cons x l ih=>rw[flt_cons,List.length_append,E.len,ih,List.length_cons,Nat.add_mul];omega
theorem flt_one:oneCells (flt E l)=true:=by
 induction l with
 |nil=>rfl
 |cons x l ih=>
  have h1:=E.one x;unfold oneCells at h1 ih ⊢;rw[flt_cons,List.all_append,h1,ih];rfl
theorem flt_at{i:Nat}(h:l[i]?=some x):((flt E l).drop (i*E.sz)).take E.sz=E.f x:=by
 induction l generalizing i with
 |nil=>simp at h
 |cons y l ih=>
  cases i with
  |zero=>
   simp at h;subst h;rw[Nat.zero_mul,List.drop_zero,flt_cons, <-E.len y,List.take_left]
  |succ i=>
   rw[List.getElem?_cons_succ]at h;rw[flt_cons,Nat.succ_mul,Nat.add_comm, <-List.drop_drop];have:(E.f y++flt E l).drop E.sz=flt E l:=by rw[<-E.len y,List.drop_left]
   rw[this];exact ih h
theorem flt_take{i:Nat}:(flt E l).take (i*E.sz)=flt E (l.take i):=by
 induction l generalizing i with
 |nil=>simp[flt]
 |cons y l ih=>
  cases i with
  |zero=>simp[flt]
  |succ i=>
   rw[List.take_succ_cons,flt_cons,flt_cons,Nat.succ_mul,Nat.add_comm,List.take_add];have h1:(E.f y++flt E l).take E.sz=E.f y:=by rw[<-E.len y,List.take_left]
   have h2:(E.f y++flt E l).drop E.sz=flt E l:=by rw[<-E.len y,List.drop_left]
   rw[h1,h2,ih]
theorem flt_drop{i:Nat}:(flt E l).drop (i*E.sz)=flt E (l.drop i):=by
 induction l generalizing i with
 |nil=>simp[flt]
 |cons y l ih=>
  cases i with
  |zero=>simp
  |succ i=>
   rw[List.drop_succ_cons,flt_cons,Nat.succ_mul,Nat.add_comm, <-List.drop_drop];have h2:(E.f y++flt E l).drop E.sz=flt E l:=by rw[<-E.len y,List.drop_left]
   rw[h2,ih]
theorem flt_set{i:Nat}(h:i<l.length):setsL (flt E l) (i*E.sz) (E.f x)=flt E (l.set i x):=by
 have hl:=flt_len (E:=E) (l:=l);have hi:i*E.sz+E.sz<=l.length*E.sz:=by rw[<-Nat.succ_mul];exact Nat.mul_le_mul_right _ h
 rw[setsL_at (by rw[E.len];omega),E.len,flt_take];have:i*E.sz+E.sz=(i+1)*E.sz:=by rw[Nat.succ_mul]
 rw[this,flt_drop];have e:l.set i x=l.take i++(x::l.drop (i+1)):=List.set_eq_take_append_cons_drop.trans (by rw[if_pos h]);rw[e,flt_app,flt_cons,List.append_assoc]
end
section
variable {Q:Value->PH->Prop}{h h0:PH}{S:Vw}{m:OM}{rows:Rws}{K2:Value->PH->R}
theorem Ret.lclear(st:Sl h0 h S m rows){b e o k c i sz bt:Nat}{md:Mode}{cs z:List Value}{zi:Option (Nat×Nat×List Value)}(hz:zi=some (sz,bt,z))(hb:rows[i]?=some (b,.row md e cs))(hm:mro md=false)(hk0:0<k)(hsz:0<sz)(hone:oneCells (zrows z k)=true)(hle:o+(zrows z k).length<=cs.length)
  (hk: ∀h',Sl h0 h' S m (rows.set i (b,.row md e (setsL cs o (zrows z k))))->Ret (K2 (.tuple ⟨[]⟩) h') Q):
  Ret (Go.Am.hb (xClear zi (.slice (some ⟨b,o,none⟩) k c) h) K2) Q:=by
 subst hz;have hg:=st.idx hb;obtain⟨h',hp,s',hn⟩:=st.sm.set hg (.row md e (setsL cs o (zrows z k)));have hb':Nat.beq k 0=false:=by
  cases hq:Nat.beq k 0 with
  |false=>rfl
  |true=>have:=Nat.eq_of_beq_eq_true hq;omega
 have hz:Nat.blt 0 sz=true:=blt_t' hsz;have e:xClear (some (sz,bt,z)) (.slice (some ⟨b,o,none⟩) k c) h=some (.tuple ⟨[]⟩,h'):=by
  simp only[xClear,hb',hz,hone,st.sm.get hg,hm];rw[stsK_eq hle];simp only[hp]
 rw[e];exact hk h' (st.put hb s')
end
theorem zrows_one{z:List Value}(hz:oneCells z=true): ∀k,oneCells (zrows z k)=true:=by
 intro k
 induction k with
 |zero=>rfl
 |succ k ih=>
  unfold oneCells at hz ih ⊢;rw[show zrows z (k+1)=z++zrows z k from rfl,List.all_append,hz,ih];rfl
def DelF{α:Type}(cl:CL)(f:Value)(S:Vw)(E:Enc α)(p:α->Bool):Prop:=
 ∀{S':Vw},Vw.le S S'-> ∀{h0 h:PH}{rows:Rws}(r:α){K2:Value->PH->R}{Q:Value->PH->Prop},Sl h0 h S' OM.emp rows->(∀h',Sl h0 h' S' OM.emp rows->Ret (K2 (.bool (p r)) h') Q)->Ret (Go.Am.hb (xCall cl f [.agg ⟨E.f r⟩] h) K2) Q
theorem DelF.mono{α:Type}{cl:CL}{f:Value}{S S':Vw}{E:Enc α}{p:α->Bool}(hf:DelF cl f S E p)(le:Vw.le S S'):DelF cl f S' E p:=fun le'=>hf (le.trans le')
def FstP{α:Type}(p:α->Bool)(l:List α)(z:Int):Prop:=(z= -1/\ ∀r∈l,p r=false)\/ ∃(i:Nat) (r:α),z=(i:Nat)/\l[i]?=some r/\p r=true/\ ∀r'∈l.take i,p r'=false
theorem filter_none{α:Type}{p:α->Bool}{l:List α}(h: ∀r∈l,p r=false):l.filter (fun r=>!p r)=l:=List.filter_eq_self.2 fun r hr=>by rw[h r hr];rfl
def eR:Enc LxR:=⟨rvs,4,by decide,fun _=>rfl,fun _=>rfl⟩
def zrl:List Value:=[.string ⟨#[]⟩,.int .i64 0,.int .i64 0,.int .i64 0]
theorem zi22:zinfo Tryz.prog 22=some (4,40,zrl):=by kernel_rfl
theorem nil22{o1 o2:Operand}{b o n c:Nat}:abin Tryz.prog .eql 22 o1 o2 (.slice (some ⟨b,o,none⟩) n c) nils=some (.bool false):=by kernel_rfl
theorem nil22n{o1 o2:Operand}{n c:Nat}:abin Tryz.prog .eql 22 o1 o2 (.slice none n c) nils=some (.bool true):=by kernel_rfl
theorem bs22_0:bsRow Tryz.prog 22 0 []=some (4,[]):=by kernel_rfl
theorem ai22:appInfo Tryz.prog #[22,22]=some (4,40):=by kernel_rfl
theorem u22: ∃inf,Tryz.prog.underlying 22=some (.slice 46)/\Tryz.prog.info? 46=some inf/\inf.size=4:=by
 have e2:(Tryz.prog.info? 46).map (·.size)=some 4:=by kernel_rfl
 rw[Option.map_eq_some_iff]at e2;obtain⟨inf,h1,h2⟩:=e2;exact⟨inf,by kernel_rfl,h1,h2⟩
section
variable {Q:Value->PH->Prop}{n D:Nat}{cl:CL}{h h0:PH}{S:Vw}{rows:Rws}
def OwR{α:Type}(E:Enc α)(u:Value)(l:List α)(ex:Rws):Prop:=(l=[]/\ex=[]/\u=nils)\/ ∃b cells c,u= .slice (some ⟨b,0,none⟩) l.length c/\CapOk l.length c/\ex=[(b,.row .opn E.sz cells)]/\l.length*E.sz<=cells.length/\cells.take (l.length*E.sz)=flt E l
theorem ptail0{sz:Nat}{b:Nat}{c:Nat}:Go.Am.ptail sz (.slice (some ⟨b,0,none⟩) 0 c) h=some (0,[]):=by
 simp only[Go.Am.ptail]
 split
 ·rw[show Nat.mul 0 sz=0 from Nat.zero_mul _];rfl
 ·rfl
theorem f65[OkH h](hS:Vw.le S h.cells){v:Value}{l:List LxR}(hv:RdV rLR S v l)(hem:l=[]->Emp v)(hl:l.length<=1000):
  Fr h S (F65 n cl v h) fun u ex=>(l=[]/\((u=nils/\ex=[])\/ ∃b,u= .slice (some ⟨b,0,none⟩) 0 0/\ex=[(b,.row .own 4 [])]))\/(0<l.length/\ ∃b,u= .slice (some ⟨b,0,none⟩) l.length openCap/\ex=[(b,.row .opn 4 (flt eR l))]):=by
 unfold Fr F65
 by_cases hl0:l.length=0
 ·have e:=List.eq_nil_of_length_eq_zero hl0;subst e;obtain⟨a,c,rfl⟩:=hem rfl;cases a with
  |none=>
   simp only[Option.map_none,nil22n,vb_some,bite_t];exact Fr.ret (Sl.start h hS) (.inl ⟨by first|rfl|trivial,.inl ⟨rfl,rfl⟩⟩)
  |some b=>
   simp only[Option.map_some,nil22,vb_some,bite_f,F65_0];refine Ret.lbs (Sl.start h hS) bs22_0 fun h1' b1 st=>?_;rw[ai22,xApp_0 ptail0 (Nat.le_refl 0)];simp only[hb_some];exact Fr.ret st (.inl ⟨by first|rfl|trivial,.inr ⟨b1,rfl,rfl⟩⟩)
 rcases hv with⟨rfl,a,c,rfl⟩|⟨b,o,c,cs,rfl,h1,h2⟩
 ·exact absurd rfl hl0
 ·simp only[nil22,vb_some,bite_f,F65_0];refine Ret.lbs (Sl.start h hS) bs22_0 fun h1' b1 st=>?_;have hle:o+l.length*4<=cs.length:=by
   have hx:=List.getElem?_eq_getElem (l:=l) (i:=l.length-1) (by omega);have:=(h2 _ _ hx).1;have e4:rLR.sz=4:=rfl;rw[e4]at this;have:(l.length-1)*4+4=l.length*4:=by omega
   omega
  have hx:=st.sm.ptailS (b:=b) (o:=o) (n:=l.length) (sz:=4) (c:=c) h1 hle;have htk:(cs.drop o).take (l.length*4)=flt eR l:=by
   apply List.ext_getElem?
   intro i
   by_cases hi:i<l.length*4
   ·have hq:i / 4<l.length:=by omega
    have hxq:=List.getElem?_eq_getElem hq;have he:(cs.drop (o+i / 4*4)).take 4=rvs l[i / 4]:=(h2 _ _ hxq).2;have hf:=flt_at (E:=eR) hxq;have e4:eR.sz=4:=rfl;rw[e4]at hf;have g1:=congrArg (fun q=>q[i % 4]?) he;have g2:=congrArg (fun q=>q[i % 4]?) hf;simp only[List.getElem?_take,List.getElem?_drop]at g1 g2;rw[if_pos (by omega)]at g1 g2;rw[List.getElem?_take,if_pos hi,List.getElem?_drop];have e1:o+i / 4*4+i % 4=o+i:=by omega
    have e2:i / 4*4+i % 4=i:=by omega
    rw[e1]at g1;rw[e2]at g2;rw[g1,g2];rfl
   ·rw[List.getElem?_eq_none (by rw[List.length_take];omega),List.getElem?_eq_none (by rw[flt_len];show l.length*4<=i;omega)]
  rw[htk]at hx;rw[ai22];refine Ret.lappF st (st.mem (.head _)) (by simp) (by omega) hx (by omega) flt_one (by omega) fun h2' b2 st2=>?_;rw[Nat.zero_add];exact Fr.ret (st2.drop (rows':=[(b2,.row .opn 4 (flt eR l))]) (.cons_cons _ (List.nil_sublist _))) (.inr ⟨by omega,b2,rfl,rfl⟩)
theorem c94[OkH h](hn:4611686018427387904<=n)(hS:Vw.le S h.cells){b c:Nat}{f:Value}{l:List LxR}{p:LxR->Bool}(hb:S b=some (flt eR l))(hl:l.length<=1000)(hf:DelF cl f S eR p):
  ∃z,pcall (F94 n cl (.slice (some ⟨b,0,none⟩) l.length c) f h)=some (.int .i64 z)/\FstP p l z:=by
 have key: ∀(d q i:Nat)(h':PH),l.length-i<=d->d<q->i<=l.length->(∀r∈l.take i,p r=false)->Sl h h' S OM.emp []->Ret (lp q (F94_3 n cl) [.slice (some ⟨b,0,none⟩) l.length c,f,.int .i64 (l.length:Nat),.int .i64 (i:Nat)] h') fun v h1=> ∃rows,Sl h h1 S OM.emp rows/\ ∃z,v= .int .i64 z/\FstP p l z:=by
  intro d
  induction d with
  |zero=>
   intro q i h' g1 g2 g3 hno st;obtain⟨q,rfl⟩: ∃r,q=r+1:=⟨q-1,by omega⟩;rw[lp_succ];obtain rfl:i=l.length:=by omega
   have dc:decide (((l.length:Nat):Int)<((l.length:Nat):Int))=false:=by simp
   simp only[F94_3,F94_2,ucons_cons,xLt_i,vb_some,dc,bite_f,vM_eq];rw[List.take_length]at hno;exact Fr.ret st ⟨_,rfl,.inl ⟨rfl,hno⟩⟩
  |succ d ih=>
   intro q i h' g1 g2 g3 hno st
   by_cases hi:i<l.length
   ·obtain⟨q,rfl⟩: ∃r,q=r+1:=⟨q-1,by omega⟩;rw[lp_succ];generalize hL:lp q (F94_3 n cl)=LL;have dc:decide (((i:Nat):Int)<((l.length:Nat):Int))=true:=by simp;omega
    have hx:=List.getElem?_eq_getElem hi;generalize l[i]=r at hx;have e1:=xIdxS_at (sz:=4) (b:=b) (o:=0) (n:=l.length) (c:=c) (k:=.i64) (i:=(i:Int)) (by omega) (by omega);rw[Nat.zero_add]at e1;have hfl:=flt_len (E:=eR) (l:=l);have e4:eR.sz=4:=rfl;have l1:xLdA 4 (.pointer (some ⟨b,i*4,none⟩)) h'=some (.agg ⟨rvs r⟩):=st.ldSA hb (flt_at (E:=eR) hx) (by rw[hfl,e4];omega);simp only[F94_3,F94_2,ucons_cons,xLt_i,vb_some,dc,bite_t,F94_1,e1,Int.toNat_natCast,l1];refine hf (Vw.le.refl _) r st fun h2 st2=>?_;cases hp:p r with
    |true=>
     simp only[bite_t];exact Fr.ret st2 ⟨_,rfl,.inr ⟨i,r,rfl,hx,hp,hno⟩⟩
    |false=>
     simp only[bite_f,F94_0,vN_eq,xAdd_i,wrN (show i<1000000 by omega),vb_some];rw[<-hL];refine ih q (i+1) h2 (by omega) (by omega) (by omega) (fun r' hr'=>?_) st2;rw[take_snoc hx]at hr';rcases List.mem_append.1 hr' with h|h
     ·exact hno r' h
     ·have:r'=r:=by simpa using h
      rw[this];exact hp
   ·exact ih q i h' (by omega) (by omega) g3 hno st
 have F:Fr h S (F94 n cl (.slice (some ⟨b,0,none⟩) l.length c) f h) fun v _=> ∃z,v= .int .i64 z/\FstP p l z:=by
  unfold Fr F94;simp only[xLenS_s,vb_some,vN_eq];exact key l.length n 0 h (by omega) (by omega) (by omega) (fun r hr=>by simp at hr) (Sl.start h hS)
 obtain⟨v,rows,⟨z,rfl,hz⟩,h2⟩:=pcall_ex F (fun v rows ⟨z,e,_⟩=>by rw[e];rfl);exact⟨z,h2,hz⟩
end
theorem setsL_take{cs vs:List Value}{o:Nat}(h:o+vs.length<=cs.length):(setsL cs o vs).take o=cs.take o:=by
 rw[setsL_at h,List.append_assoc,List.take_left' (by rw[List.length_take];omega)]
theorem setsL_len{cs vs:List Value}{o:Nat}(h:o+vs.length<=cs.length):(setsL cs o vs).length=cs.length:=by
 rw[setsL_at h];simp;omega
structure DelS{α:Type}(p:α->Bool)(l c:List α)(i j:Nat):Prop where
 len:c.length=l.length
 tk:c.take i=(l.take j).filter fun r=>!p r
 dr:c.drop j=l.drop j
 lt:i<j
 jl:j<=l.length
theorem DelS.step{α:Type}{p:α->Bool}{l c:List α}{i j:Nat}{x:α}(s:DelS p l c i j)(hx:l[j]?=some x):c[j]?=some x/\(p x=true->DelS p l c i (j+1))/\(p x=false->DelS p l (c.set i x) (i+1) (j+1)):=by
 have hlt:=(List.getElem?_eq_some_iff.1 hx).1;have hl:=s.len;have hij:=s.lt;have hc:c[j]?=some x:=by
  have:=congrArg (fun q=>q[0]?) s.dr;simp only[List.getElem?_drop,Nat.add_zero]at this;rw[this];exact hx
 have hd:c.drop (j+1)=l.drop (j+1):=by
  have:=congrArg (List.drop 1) s.dr;rw[List.drop_drop,List.drop_drop]at this;exact this
 refine⟨hc,fun hp=>⟨hl,?_,hd,by omega,by omega⟩,fun hp=>⟨by rw[List.length_set];exact hl,?_,?_,by omega,by omega⟩⟩
 ·rw[take_snoc hx,List.filter_append,s.tk];simp[hp]
 ·rw[take_snoc hx,List.filter_append, <-s.tk];have h1:(c.set i x)[i]?=some x:=by rw[List.getElem?_set_self (by omega)]
  rw[take_snoc h1,List.take_set_of_le (Nat.le_refl i)];simp[hp]
 ·rw[List.drop_set_of_lt (by omega)];exact hd
section
variable {Q:Value->PH->Prop}{n D:Nat}{cl:CL}{h h0:PH}{S:Vw}{rows:Rws}
theorem c64(hn:4611686018427387904<=n){b:Nat}{f:Value}{l:List LxR}{p:LxR->Bool}(hl0:0<l.length)(hl:l.length<=1000)(hf:DelF cl f S eR p)(hf2:DelF (svc 94 (A2 (F94 n cl)) cl) f S eR p)(st:Sl h0 h S OM.emp ((b,.row .opn 4 (flt eR l))::rows)):
  Ret (F64 n cl (.slice (some ⟨b,0,none⟩) l.length openCap) f h) fun u h'=> ∃cells,u= .slice (some ⟨b,0,none⟩) (l.filter fun r=>!p r).length openCap/\Sl h0 h' S OM.emp ((b,.row .opn 4 cells)::rows)/\cells.length=l.length*4/\cells.take ((l.filter fun r=>!p r).length*4)=flt eR (l.filter fun r=>!p r):=by
 have e4:eR.sz=4:=rfl;have okh:=st.ok;obtain⟨z,hz,hfst⟩:=c94 (n:=n) (cl:=cl) (h:=h.fzn) (c:=openCap) hn st.fz (vall_m (S:=S) (st.mem (.head _))) hl (hf.mono st.sm.S_all);unfold F64;simp only[hz,vb_some,vM_eq,xEq_i];rcases hfst with⟨rfl,hno⟩|⟨i,r,rfl,hr,hpr,hno⟩
 ·have d:decide ((-1:Int)=Int.negSucc 0)=true:=by decide
  simp only[d,bite_t];rw[filter_none hno];have hfl:=flt_len (E:=eR) (l:=l);rw[e4]at hfl;exact Ret.of ⟨flt eR l,rfl,st,hfl,List.take_of_length_le (Nat.le_of_eq hfl)⟩
 have hil:=(List.getElem?_eq_some_iff.1 hr).1;have d:decide (((i:Nat):Int)=Int.negSucc 0)=false:=by simp
 simp only[d,bite_f,F64_7,vN_eq,xAdd_i,wrN (show i<1000000 by omega),vb_some];have key: ∀(k q i j:Nat)(c:List LxR)(h:PH),l.length-j<=k->k<q->DelS p l c i j->Sl h0 h S OM.emp ((b,.row .opn 4 (flt eR c))::rows)->
   Ret (lp q (F64_6 n cl) [.slice (some ⟨b,0,none⟩) l.length openCap,f,.int .i64 (i:Nat),.int .i64 (j:Nat)] h) fun u h'=> ∃cells,u= .slice (some ⟨b,0,none⟩) (l.filter fun r=>!p r).length openCap/\Sl h0 h' S OM.emp ((b,.row .opn 4 cells)::rows)/\cells.length=l.length*4/\cells.take ((l.filter fun r=>!p r).length*4)=flt eR (l.filter fun r=>!p r):=by
  intro k
  induction k with
  |zero=>
   intro q i j c h g1 g2 s st;obtain⟨q,rfl⟩: ∃r,q=r+1:=⟨q-1,by omega⟩;rw[lp_succ];have hj:=s.jl;obtain rfl:j=l.length:=by omega
   have hil:=s.lt;have hcl:=s.len;have htk:=s.tk;rw[List.take_length]at htk;have hil2:(l.filter fun r=>!p r).length=i:=by rw[<-htk,List.length_take];omega
   have dc:decide (((l.length:Nat):Int)<((l.length:Nat):Int))=false:=by simp
   obtain⟨inf,u1,u2,u3⟩:=u22;have hcap:CapOk l.length openCap:=CapOk.opn (by omega);have cut1:=acut_at (P:=Tryz.prog) (T:=22) (b:=b) (o:=0) (lo:=some (.int .i64 ((i:Nat):Int))) (hi:=none) u1 u2 hcap (r:=l.length) (l:=i) (bd_n) (bd_i (by omega) (by omega)) (by omega) (Nat.le_refl _);have cut2:=acut_at (P:=Tryz.prog) (T:=22) (b:=b) (o:=0) (lo:=none) (hi:=some (.int .i64 ((i:Nat):Int))) u1 u2 hcap (r:=i) (l:=0) (bd_i (by omega) (by unfold openCap;omega)) (bd_n) (Nat.zero_le _) (by omega);rw[if_neg (by unfold openCap;omega),u3,Nat.zero_add]at cut1;rw[if_neg (by unfold openCap;omega),Nat.zero_mul,Nat.add_zero,Nat.sub_zero,Nat.sub_zero]at cut2;simp only[F64_6,F64_5,ucons_cons,xLenS_s,xLt_i,vb_some,dc,bite_f,F64_4,cut1];have hfl:=flt_len (E:=eR) (l:=c);rw[e4,hcl]at hfl;have hzl:(zrows zrl (l.length-i)).length=(l.length-i)*4:=by rw[zrows_length];rfl
   have hle:i*4+(zrows zrl (l.length-i)).length<=(flt eR c).length:=by rw[hzl,hfl];omega
   refine Ret.lclear st zi22 (i:=0) rfl rfl (by omega) (by decide) (zrows_one rfl _) hle fun h2 st2=>?_;have st2:Sl h0 h2 S OM.emp ((b,.row .opn 4 (setsL (flt eR c) (i*4) (zrows zrl (l.length-i))))::rows):=st2;simp only[cut2,vb_some];refine Ret.of ⟨_,by rw[hil2],st2,by rw[setsL_len hle,hfl],?_⟩;rw[hil2,setsL_take hle, <-htk];have:=flt_take (E:=eR) (l:=c) (i:=i);rw[e4]at this;exact this
  |succ k ih=>
   intro q i j c h g1 g2 s st
   by_cases hjl:j<l.length
   ·obtain⟨q,rfl⟩: ∃r,q=r+1:=⟨q-1,by omega⟩;rw[lp_succ];generalize hL:lp q (F64_6 n cl)=LL;have hx:=List.getElem?_eq_getElem hjl;generalize l[j]=x at hx;obtain⟨hcx,hdel,hkeep⟩:=s.step hx;have hcl:=s.len;have hij:=s.lt;have hfl:=flt_len (E:=eR) (l:=c);rw[e4,hcl]at hfl;have dc:decide (((j:Nat):Int)<((l.length:Nat):Int))=true:=by simp;omega
    have e1:=xIdxS_at (sz:=4) (b:=b) (o:=0) (n:=l.length) (c:=openCap) (k:=.i64) (i:=(j:Int)) (by omega) (by omega);rw[Nat.zero_add,Int.toNat_natCast]at e1;have e2:=xIdxS_at (sz:=4) (b:=b) (o:=0) (n:=l.length) (c:=openCap) (k:=.i64) (i:=(i:Int)) (by omega) (by omega);rw[Nat.zero_add,Int.toNat_natCast]at e2;have l1:xLdA 4 (.pointer (some ⟨b,j*4,none⟩)) h=some (.agg ⟨rvs x⟩):=st.ldA (.head _) (flt_at (E:=eR) hcx) (by rw[hfl];omega);simp only[F64_6,F64_5,ucons_cons,xLenS_s,xLt_i,vb_some,dc,bite_t,jn_eq,F64_3,e1,l1];refine Ret.lalloc st zc46 fun h2 x2 st2=>?_;refine Ret.lstA st2 0 rfl rfl rfl (by decide) rfl fun h3 st3=>?_;have st3:Sl h0 h3 S OM.emp ((x2,.row .own 1 (rvs x))::(b,.row .opn 4 (flt eR c))::rows):=st3;have l2:xLdA 4 (pt x2) h3=some (.agg ⟨rvs x⟩):=st3.ldA (.head _) rfl (Nat.le_refl 4);simp only[l2,vb_some];refine hf2 (Vw.le.refl _) x st3 fun h4 st4=>?_;simp only[xNot_b,vb_some];cases hp:p x with
    |true=>
     simp only[Bool.not_true,bite_f,F64_2,ucons_cons,F64_0,vN_eq,xAdd_i,wrN (show j<1000000 by omega),vb_some];rw[<-hL];exact ih q i (j+1) c h4 (by omega) (by omega) (hdel hp) (st4.drop (List.sublist_cons_self _ _))
    |false=>
     have l3:xLdA 4 (pt x2) h4=some (.agg ⟨rvs x⟩):=st4.ldA (.head _) rfl (Nat.le_refl 4);simp only[Bool.not_false,bite_t,F64_1,l3,e2,vb_some];have hle:i*4+(rvs x).length<=(flt eR c).length:=by rw[hfl];show i*4+4<=_;omega
     refine Ret.lstA st4 1 rfl rfl rfl (by rw[hfl];omega) rfl fun h5 st5=>?_;have hset:=flt_set (E:=eR) (l:=c) (x:=x) (i:=i) (by omega);rw[e4]at hset;have st5:Sl h0 h5 S OM.emp ((x2,.row .own 1 (rvs x))::(b,.row .opn 4 (setsL (flt eR c) (i*4) (rvs x)))::rows):=st5;have hset':setsL (flt eR c) (i*4) (rvs x)=flt eR (c.set i x):=hset;rw[hset']at st5;simp only[vN_eq,xAdd_i,wrN (show i<1000000 by omega),vb_some,F64_2,ucons_cons,F64_0,wrN (show j<1000000 by omega)];rw[<-hL];exact ih q (i+1) (j+1) _ h5 (by omega) (by omega) (hkeep hp) (st5.drop (List.sublist_cons_self _ _))
   ·exact ih q i j c h (by omega) (by omega) s st
 refine key (l.length-(i+1)) n i (i+1) l h (Nat.le_refl _) (by omega) ⟨rfl,?_,rfl,by omega,by omega⟩ st;rw[take_snoc hr,List.filter_append,filter_none hno];simp[hpr]
end
section
variable {Q:Value->PH->Prop}{n D:Nat}{cl:CL}{h h0:PH}{S:Vw}{rows:Rws}
theorem d66(dp:Dsp n D cl){b:Nat}{k:Int}(hb:S b=some [.int .i64 k]):DelF cl (.func (.func 66) ⟨[]⟩ ⟨[pt b]⟩) S eR (fun r=>!decide (r.mode=k)):=by
 intro S' le h0 h rows r K2 Q st hk;have e:xCall cl (.func (.func 66) ⟨[]⟩ ⟨[pt b]⟩) [.agg ⟨eR.f r⟩] h=F66 n (LV n D) (.agg ⟨rvs r⟩) (pt b) h:=(dp.ag 66 _ _ (by decide) (by decide) (by decide) (by decide)).trans rfl;rw[e];refine Ret.hb (Q1:=fun v h'=>v= .bool (!decide (r.mode=k))/\Sl h0 h' S' OM.emp rows) ?_ fun v h' ⟨e1,s1⟩=>by subst e1;exact hk h' s1
 unfold F66;refine Ret.lbox st fun h1 x st1=>?_;have st1:Sl h0 h1 S' OM.emp ((x,.row .own 1 (rvs r))::rows):=st1;have l1:xLd (.pointer (some ⟨x,1,none⟩)) h1=some (.int .i64 r.mode):=st1.ld (.head _) rfl;have l2:xLd (pt b) h1=some (.int .i64 k):=st1.ldS (le _ _ hb) rfl;simp only[xFld_p,Nat.zero_add,vb_some,l1,l2,xNe_i];exact Ret.of ⟨rfl,st1.drop (List.sublist_cons_self _ _)⟩
theorem c64e(hn:4611686018427387904<=n){v f:Value}(hv:Emp v)[OkH h]:F64 n cl v f h=some (v,h):=by
 obtain⟨a,c,rfl⟩:=hv;have e:pcall (F94 n cl (.slice (a.map fun b=>⟨b,0,none⟩) 0 c) f h.fzn)=some (.int .i64 (Int.negSucc 0)):=by
  refine pcall_fr (h:=h.fzn) (S:=fun _=>none) ?_ rfl;unfold Fr F94;obtain⟨q,rfl⟩: ∃r,n=r+1:=⟨n-1,by omega⟩;have dc:decide (((0:Nat):Int)<((0:Nat):Int))=false:=by decide
  simp only[xLenS_s,vb_some,vN_eq,lp_succ,F94_3,F94_2,ucons_cons,xLt_i,dc,bite_f,vM_eq];exact Fr.ret (Sl.start _ (fun b cs e=>by cases e)) rfl
 have d:decide ((Int.negSucc 0:Int)=Int.negSucc 0)=true:=by decide
 unfold F64;simp only[e,vb_some,vM_eq,xEq_i,d,decide_true,bite_t]
theorem notnot(l:List LxR)(k:Int):(l.filter fun r=>!(!decide (r.mode=k)))=rulesOf l k:=by unfold rulesOf;simp
theorem rdv_flt{b c:Nat}{l:List LxR}{cells:List Value}(hb:S b=some cells)(hle:l.length*4<=cells.length)(ht:cells.take (l.length*4)=flt eR l):RdV rLR S (.slice (some ⟨b,0,none⟩) l.length c) l:=by
 refine .inr ⟨b,0,c,cells,rfl,hb,fun i x hx=>?_⟩;have hlt:=(List.getElem?_eq_some_iff.1 hx).1;have e4:rLR.sz=4:=rfl;have hf:=flt_at (E:=eR) hx;have e4':eR.sz=4:=rfl;rw[e4', <-ht,List.drop_take,List.take_take,Nat.min_eq_left (by omega)]at hf;rw[e4,Nat.zero_add];exact⟨by omega,hf⟩
theorem c43(hn:4611686018427387904<=n)(dp:Dsp n D cl){mo:Int}{rs:List LxR}{rv:Value}(hv:RdV rLR S rv rs)(hem:rs=[]->Emp rv)(hl:rs.length<=40){k:Int}(st:Sl h0 h S OM.emp rows):
  Ret (F43 n cl (.agg ⟨[.int .i64 mo,rv]⟩) (.int .i64 k) h) fun u h'=> ∃S',Vw.le S S'/\Sl h0 h' S' OM.emp rows/\RdV rLR S' u (rulesOf rs k)/\(rulesOf rs k=[]->Emp u):=by
 unfold F43;refine Ret.lbox st fun h1 x st1=>?_;refine Ret.lbox st1 fun h2 y st2=>?_;obtain⟨st3,fr1⟩:=st2.settle (i:=0) rfl;have st3:Sl h0 h2 (S.put y [.int .i64 k]) OM.emp ((x,.row .own 1 [.int .i64 mo,rv])::rows):=st3;have le1:Vw.le S (S.put y [.int .i64 k]):=Vw.le_put fr1;have hy:(S.put y [.int .i64 k]) y=some [.int .i64 k]:=Vw.put_self;generalize S.put y [.int .i64 k]=S1 at st3 le1 hy;have l1:xLd (.pointer (some ⟨x,1,none⟩)) h2=some rv:=st3.ld (.head _) rfl;simp only[xFld_p,Nat.zero_add,vb_some,l1];have okh:=st3.ok;refine Ret.lfcall st3 (f65 (n:=n) (cl:=cl) (h:=h2.fzn) st3.anyS (hv.mono le1) hem (by omega)) fun g h3 ex hP st4=>?_;have df:DelF cl (.func (.func 66) ⟨[]⟩ ⟨[pt y]⟩) S1 eR (fun r=>!decide (r.mode=k)):=d66 dp hy;have df2:DelF (svc 94 (A2 (F94 n cl)) cl) (.func (.func 66) ⟨[]⟩ ⟨[pt y]⟩) S1 eR (fun r=>!decide (r.mode=k)):=fun le=>df le;rcases hP with⟨rfl,hP⟩|⟨hpos,b,rfl,rfl⟩
 ·have hg:Emp g:=by
   rcases hP with⟨rfl,_⟩|⟨b,rfl,_⟩
   ·exact⟨none,0,rfl⟩
   ·exact⟨some b,0,rfl⟩
  have okh:=st4.ok;rw[c64e hn hg];simp only[hb_some];obtain⟨a,c,rfl⟩:=hg;refine Ret.of ⟨S1,le1,st4.drop ((List.sublist_cons_self _ _).trans (List.sublist_append_right _ _)),.inl ⟨rfl,_,_,rfl⟩,fun _=>⟨a,c,rfl⟩⟩
 ·have st4:Sl h0 h3 S1 OM.emp ((b,.row .opn 4 (flt eR rs))::(x,.row .own 1 [.int .i64 mo,rv])::rows):=st4;refine Ret.hb (c64 (n:=n) (cl:=cl) hn hpos (by omega) df df2 st4) fun u h4 ⟨cells,hu,st5,hcl,htk⟩=>?_;rw[notnot]at hu htk;subst hu;obtain⟨st6,fr2⟩:=st5.settle (i:=0) rfl;have st6:Sl h0 h4 (S1.put b cells) OM.emp ((x,.row .own 1 [.int .i64 mo,rv])::rows):=st6;have le2:Vw.le S1 (S1.put b cells):=Vw.le_put fr2;have hlen:(rulesOf rs k).length<=rs.length:=List.length_filter_le _ _;refine Ret.of ⟨_,le1.trans le2,st6.drop (List.sublist_cons_self _ _),rdv_flt Vw.put_self (by omega) htk,fun hz=>?_⟩;rw[hz];exact⟨some b,openCap,rfl⟩
end
def LxV(S:Vw)(l:Lxr)(v:Value):Prop:= ∃rv,v= .agg ⟨[.int .i64 l.modes,rv]⟩/\RdV rLR S rv l.rules/\(l.rules=[]->Emp rv)
theorem LxV.mono{S S':Vw}{l:Lxr}{v:Value}(h:LxV S l v)(le:Vw.le S S'):LxV S' l v:=let⟨rv,a,b,c⟩:=h;⟨rv,a,b.mono le,c⟩
def Shp(l:Lxr):Prop:=1<=l.modes/\l.modes<=8/\l.rules.length<=40
def chkA(l:Lxr):Int×Int:=if 1<=l.modes/\l.modes<=8/\l.rules.length<=40 then match chkT l.modes l.rules 0 with
  |some (i,e)=>(((i:Nat):Int),((e:Nat):Int))
  |none=>(-1,0)
 else(-1,3)
theorem chkA_3{l:Lxr}(h: ¬ Shp l):chkA l=(-1,3):=by unfold Shp at h;unfold chkA;rw[if_neg h]
theorem chkA_s{l:Lxr}(h:Shp l){i e:Nat}(hc:chkT l.modes l.rules 0=some (i,e)):chkA l=(((i:Nat):Int),((e:Nat):Int)):=by unfold Shp at h;unfold chkA;rw[if_pos h,hc]
theorem chkA_n{l:Lxr}(h:Shp l)(hc:chkT l.modes l.rules 0=none):chkA l=(-1,0):=by unfold Shp at h;unfold chkA;rw[if_pos h,hc]
def Lxr.Ok(l:Lxr):Prop:=Shp l/\chkT l.modes l.rules 0=none
theorem Lxr.Ok.chk{l:Lxr}(h:l.Ok):chkA l=(-1,0):=chkA_n h.1 h.2
theorem chkT_z{m:Int}{rs:List LxR}: ∀{i:Nat},chkT m rs i=none-> ∀r∈rs,ruleT m r=0:=by
 induction rs with
 |nil=>intro i _ r hr;cases hr
 |cons x rs ih=>
  intro i h r hr;unfold chkT at h
  split at h
  ·rename_i hx;rcases List.mem_cons.1 hr with rfl|hr
   ·exact hx
   ·exact ih h r hr
  ·cases h
theorem chkT_ne{m:Int}{rs:List LxR}{i j e:Nat}(h:chkT m rs i=some (j,e)):e≠0:=by
 induction rs generalizing i with
 |nil=>cases h
 |cons x rs ih=>
  unfold chkT at h
  split at h
  ·exact ih h
  ·rename_i hx;cases h;exact hx
theorem chkT_drop{m:Int}{rs:List LxR}{i:Nat}{r:LxR}(hr:rs[i]?=some r):chkT m (rs.drop i) i=if ruleT m r=0 then chkT m (rs.drop (i+1)) (i+1)else some (i,ruleT m r):=by
 have hlt:=(List.getElem?_eq_some_iff.1 hr).1;have e:rs.drop i=r::rs.drop (i+1):=by rw[List.drop_eq_getElem_cons hlt,(List.getElem?_eq_some_iff.1 hr).2]
 rw[e];rfl
def AutK(l:List Po)(d:Dfa):Prop:=Canon d/\ ∀w,Byt w->FstI l.length (fun k=> ∃po,l[k]?=some po/\takesP po w) (dacc d (drun d 0 w))
def KnwS(l:List Po)(d:Dfa):Prop:=AutK l d/\d.next.length<=3000
def CanK(l:List Po):Prop:= ∀{V:Vw}{v:Value},OfV l V v-> ∃dv d,v= .tuple ⟨[dv,.int .i64 0]⟩/\DfV V dv d/\KnwS l d
theorem off_ltK: ∀{l:List Po}{k:Nat}{po:Po}{y:Nat},l[k]?=some po->y<po.sets.length->off l k+y<tot l
 |po'::l,0,po,y,h,hy=>by
  simp at h;subst h
  show 0+y<po'.sets.length+tot l
  omega
 |po'::l,k+1,po,y,h,hy=>by
  have:=off_ltK (l:=l) (k:=k) (by simpa using h) hy
  show tot (po'::l.take k)+y<po'.sets.length+tot l
  show po'.sets.length+tot (l.take k)+y<po'.sets.length+tot l
  unfold off at this;omega
theorem small_few{l:List Po}{p:Pp}{s:Ss}{a0:Int}(hpo:PpOf l p)(hmk:s.Mk p a0)(ht:tot l<=10):s.alls.length<=1025:=by
 have hN:p.N<=10:=by rw[hpo.N];exact ht
 have shape: ∀k,k+1<s.alls.length-> ∃w,s.alls[k+1]?=some [w]/\w<2 ^ 10:=by
  intro k hk;have hx:=List.getElem?_eq_getElem hk;generalize s.alls[k+1]=ws at hx;obtain⟨j,c,hj,hc,hbk,htg⟩:=hmk.from' (k+1) ws (by omega) hx;have hlen:ws.length=1:=by rw[hbk.len];omega
  obtain⟨w,rfl⟩: ∃w,ws=[w]:=by
   match ws,hlen with
   | [w],_=>exact⟨w,rfl⟩
  refine⟨w,hx,?_⟩;have hw64:w<2 ^ 64:=hbk.wd w (.head _);refine Nat.lt_pow_two_of_testBit _ fun i hi=>?_
  by_cases h64:64<=i
  ·exact Nat.testBit_lt_two_pow (Nat.lt_of_lt_of_le hw64 (Nat.pow_le_pow_right (by decide) h64))
  ·cases hb:w.testBit i with
   |false=>rfl
   |true=>
    exfalso;have hh:hs [w] i=true:=by
     unfold hs;rw[show i / 64=0 by omega,show i % 64=i by omega];exact hb
    have:=((htg i).1 hh).2;obtain⟨k',po,y,h1,h2,_,h3⟩:=(hpo.tks c hc i).1 this;have:=off_ltK h1 h2;omega
 have key:=inj_le (2 ^ 10) (s.alls.length-1) (fun k=>(s.alls.getD (k+1) []).getD 0 0) (fun k hk=>by
  obtain⟨w,h1,h2⟩:=shape k (by omega)
  show(s.alls.getD (k+1) []).getD 0 0<2 ^ 10
  rw[List.getD_eq_getElem?_getD (l:=s.alls),h1];exact h2) (fun i j hi hj he=>by
  obtain⟨w,h1,_⟩:=shape i (by omega);obtain⟨w',h2,_⟩:=shape j (by omega);have he:(s.alls.getD (i+1) []).getD 0 0=(s.alls.getD (j+1) []).getD 0 0:=he;rw[List.getD_eq_getElem?_getD (l:=s.alls),List.getD_eq_getElem?_getD (l:=s.alls),h1,h2]at he;have he:w=w':=he;subst he;rcases Nat.lt_trichotomy i j with h|h|h
  ·exact absurd h2 (hmk.ok.dis (i+1) (j+1) _ (by omega) (by omega) h1)
  ·exact h
  ·exact absurd h1 (hmk.ok.dis (j+1) (i+1) _ (by omega) (by omega) h2))
 omega
theorem CanK.few{l:List Po}(hl:l.length<=40)(ht:tot l<=10):CanK l:=fun ho=>by
 rcases ho with⟨h1,_⟩|⟨_,p,a0,s,hpo,ha0,hmk,hv⟩
 ·omega
 have hfew:=small_few hpo hmk ht;rcases hv with⟨h3,_⟩|⟨hf,cls,d,dv,rfl,hdv,hck,hnd⟩
 ·omega
 ·obtain⟨hc,_⟩:=NumD.canon hf hck hnd;have ht: ∀w,Byt w->FstI l.length (fun k=> ∃po,l[k]?=some po/\takesP po w) (dacc d (drun d 0 w)):=fun w hw=>of_run hpo hmk hf ha0 hck hnd hw;obtain⟨stt,nr,nb,hll⟩:=hnd;have:=nb.len;have:=hf.sz;exact⟨dv,d,rfl,hdv,⟨hc,ht⟩,by omega⟩
def KnwL(l:Lxr):Prop:=l.Ok-> ∀k:Nat,(k:Int)<l.modes->CanK ((rulesOf l.rules k).map posOf)
section
variable {Q:Value->PH->Prop}{n D:Nat}{cl:CL}{h h0:PH}{S:Vw}{rows:Rws}{l:Lxr}
theorem plc_ne[OkH h](hn:4611686018427387904<=n)(hD:1000<=D)(dp:Dsp n D cl){t:ByteArray}(ht:t.size<9223372036854775808):plcT t≠ .error 0:=by
 obtain⟨v,h',_,S',ps,e,_,_,_,_,_,hex⟩:=c62 (n:=n) (cl:=cl) (h:=h) (h0:=h) (S:=fun _=>none) (rows:=[]) hn hD dp ht (Sl.start h (fun b cs e=>by cases e));intro hp;rcases hex with⟨hz,hp2⟩|⟨_,po,hp2,_⟩
 ·rw[hp]at hp2;cases hp2;exact hz rfl
 ·rw[hp]at hp2;cases hp2
theorem rule_z[OkH h](hn:4611686018427387904<=n)(hD:1000<=D)(dp:Dsp n D cl){m:Int}{r:LxR}(hin:r.In)(hr:ruleT m r=0): ¬ RuleB m r/\ ∃po,plcT r.pat= .ok po/\po.null=false:=by
 have hB: ¬ RuleB m r:=fun hb=>by rw[ruleT_6 hb]at hr;cases hr
 refine⟨hB,?_⟩;cases hp:plcT r.pat with
 |error e=>
  rw[ruleT_err hB hp]at hr;subst hr;exact absurd hp (plc_ne (h:=h) hn hD dp hin.pat)
 |ok po=>
  rw[ruleT_ok hB hp]at hr;refine⟨po,rfl,?_⟩;cases hq:po.null with
  |true=>rw[if_pos hq]at hr;cases hr
  |false=>rfl
theorem rulesOf_mem{rs:List LxR}{k:Int}{r:LxR}(h:r∈rulesOf rs k):r∈rs:=(List.mem_filter.1 h).1
theorem c18m(hn:4611686018427387904<=n)(hD:1000<=D)(dp:Dsp n D cl){b:Nat}{v:Value}(hv:LxV S l v)(hin:l.In)(hok:l.Ok)(hk:KnwL l)(st:Sl h0 h S OM.emp ((b,.row .own 1 (cellsL v))::rows)):
  Ret (F18_6 n cl (pt b) h) fun u h'=> ∃S',Vw.le S S'/\Sl h0 h' S' OM.emp ((b,.row .own 1 (cellsL v))::rows)/\u= .tuple ⟨[.int .i64 (-1),.int .i64 0]⟩:=by
 obtain⟨rv,rfl,hrv,hem⟩:=hv;have hm1:=hok.1.1;have hm8:=hok.1.2.1;have hlen:=hok.1.2.2;unfold F18_6;have l0:xLd (.pointer (some ⟨b,0,none⟩)) h=some (.int .i64 l.modes):=st.ld (.head _) rfl;simp only[xFld_p,Nat.zero_add,vb_some,l0,vN_eq];have key: ∀(d q i:Nat)(S':Vw)(h':PH),l.modes.toNat-i<=d->d<q->i<=l.modes.toNat->Vw.le S S'->Sl h0 h' S' OM.emp ((b,.row .own 1 (cellsL (.agg ⟨[.int .i64 l.modes,rv]⟩)))::rows)->
   Ret (lp q (F18_5 n cl) [pt b,.int .i64 l.modes,.int .i64 (i:Nat)] h') fun u h'=> ∃S',Vw.le S S'/\Sl h0 h' S' OM.emp ((b,.row .own 1 (cellsL (.agg ⟨[.int .i64 l.modes,rv]⟩)))::rows)/\u= .tuple ⟨[.int .i64 (-1),.int .i64 0]⟩:=by
  intro d
  induction d with
  |zero=>
   intro q i S' h' g1 g2 g3 le st;obtain⟨q,rfl⟩: ∃r,q=r+1:=⟨q-1,by omega⟩;rw[lp_succ];have dc:decide (((i:Nat):Int)<l.modes)=false:=by simp;omega
   simp only[F18_5,F18_4,ucons_cons,xLt_i,vb_some,dc,bite_f,vM_eq,vN_eq];exact Ret.of ⟨S',le,st,rfl⟩
  |succ d ih=>
   intro q i S' h' g1 g2 g3 le st
   by_cases hi:i<l.modes.toNat
   ·obtain⟨q,rfl⟩: ∃r,q=r+1:=⟨q-1,by omega⟩;rw[lp_succ];generalize hL:lp q (F18_5 n cl)=LL;have dc:decide (((i:Nat):Int)<l.modes)=true:=by simp;omega
    have l1:xLdA 2 (pt b) h'=some (.agg ⟨[.int .i64 l.modes,rv]⟩):=st.ldA (.head _) rfl (Nat.le_refl 2);simp only[F18_5,F18_4,ucons_cons,xLt_i,vb_some,dc,bite_t,F18_3,l1];refine Ret.hb (c43 hn dp (hrv.mono le) hem hlen st) fun u h2 ⟨S2,le2,st2,hu,hue⟩=>?_;have okh:=st2.ok;have hr: ∀r∈rulesOf l.rules (i:Nat),r.In:=fun r hr=>hin.rl r (rulesOf_mem hr);have hp: ∀r∈rulesOf l.rules (i:Nat), ∃po,plcT r.pat= .ok po:=fun r hr=>by
     obtain⟨_,po,h1,_⟩:=rule_z (h:=h2) hn hD dp (hin.rl r (rulesOf_mem hr)) (chkT_z hok.2 r (rulesOf_mem hr));exact⟨po,h1⟩
    have hll:(rulesOf l.rules (i:Nat)).length<=40:=Nat.le_trans (List.length_filter_le _ _) hlen;refine Ret.hb (c42 hn hD dp hu hll hr hp st2) fun w h3 ⟨S3,le3,st3,hw⟩=>?_;obtain⟨dv,df,rfl,hdv,_⟩:=hk hok i (by omega) hw;obtain⟨nv,av,rfl,o1,o2⟩:=hdv.agg;simp only[xExt_t',List.getElem?_cons_zero,List.getElem?_cons_succ,vb_some];refine Ret.lalloc st3 zc76 fun h4 x st4=>?_;refine Ret.lstA st4 0 rfl rfl rfl (by simp) (one2 o1 o2) fun h5 st5=>?_;have d5:(!decide ((0:Int)=((0:Nat):Int)))=false:=by decide
    simp only[vN_eq,xNe_i,vb_some,d5,bite_f,F18_2,xAdd_i,wrN (show i<1000000 by omega)];rw[<-hL];exact ih q (i+1) S3 h5 (by omega) (by omega) (by omega) (le.trans (le2.trans le3)) (st5.drop (List.sublist_cons_self _ _))
   ·exact ih q i S' h' (by omega) (by omega) g3 le st
 exact key l.modes.toNat n 0 S h (by omega) (by omega) (by omega) (Vw.le.refl _) st
theorem c18[OkH h](hn:4611686018427387904<=n)(hD:1000<=D)(dp:Dsp n D cl)(hS:Vw.le S h.cells){v:Value}(hv:LxV S l v)(hin:l.In)(hk:KnwL l):
  pcall (F18 n cl v h)=some (.tuple ⟨[.int .i64 (chkA l).1,.int .i64 (chkA l).2]⟩):=by
 refine pcall_fr (h:=h) (S:=S) ?_ rfl;obtain⟨rv,rfl,hrv,hem⟩:=hv;unfold Fr F18;refine Ret.lbox (Sl.start h hS) fun h1 b st=>?_;have st:Sl h h1 S OM.emp [(b,.row .own 1 [.int .i64 l.modes,rv])]:=st;have l0:xLd (.pointer (some ⟨b,0,none⟩)) h1=some (.int .i64 l.modes):=st.ld (.head _) rfl;have l1:xLd (.pointer (some ⟨b,1,none⟩)) h1=some rv:=st.ld (.head _) rfl;have bad: ¬ Shp l->Ret (some (Value.tuple ⟨[(vM 0),(vN 3)]⟩,h1)) fun u h2=> ∃rows,Sl h h2 S OM.emp rows/\u= .tuple ⟨[.int .i64 (chkA l).1,.int .i64 (chkA l).2]⟩:=fun hs=>by
  refine Fr.ret st ?_;rw[chkA_3 hs];rfl
 simp only[xFld_p,Nat.zero_add,vb_some,l0,vN_eq,xLt_i]
 by_cases c1:l.modes<((1:Nat):Int)
 ·have d1:decide (l.modes<((1:Nat):Int))=true:=decide_eq_true c1;simp only[d1,isB_f,Bool.not_true,gd_false,vb_some,xPick_t,tt_eq,bite_t];exact bad fun hs=>by have:=hs.1;omega
 have d1:decide (l.modes<((1:Nat):Int))=false:=decide_eq_false c1;simp only[d1,isB_f,Bool.not_false,gd_true,vb_some,l0,xGt_i,xPick_f]
 by_cases c2:((8:Nat):Int)<l.modes
 ·have d2:decide (((8:Nat):Int)<l.modes)=true:=decide_eq_true c2;simp only[d2,isB_f,Bool.not_true,gd_false,vb_some,xPick_t,tt_eq,bite_t];exact bad fun hs=>by have:=hs.2.1;omega
 have d2:decide (((8:Nat):Int)<l.modes)=false:=decide_eq_false c2;simp only[d2,isB_f,Bool.not_false,gd_true,vb_some,l1,hrv.rlen,xGt_i,xPick_f]
 by_cases c3:((40:Nat):Int)<((l.rules.length:Nat):Int)
 ·have d3:decide (((40:Nat):Int)<((l.rules.length:Nat):Int))=true:=decide_eq_true c3;simp only[d3,bite_t];exact bad fun hs=>by have:=hs.2.2;omega
 have d3:decide (((40:Nat):Int)<((l.rules.length:Nat):Int))=false:=decide_eq_false c3;have hs:Shp l:=⟨by omega,by omega,by omega⟩;have hlen:=hs.2.2;simp only[d3,bite_f,F18_9,xFld_p,Nat.zero_add,vb_some,l1,hrv.rlen,vN_eq];have key: ∀(d q i:Nat)(h':PH),l.rules.length-i<=d->d<q->i<=l.rules.length->chkT l.modes (l.rules.drop i) i=chkT l.modes l.rules 0->Sl h h' S OM.emp [(b,.row .own 1 [.int .i64 l.modes,rv])]->
   Ret (lp q (F18_8 n cl) [pt b,rv,.int .i64 (l.rules.length:Nat),.int .i64 (i:Nat)] h') fun u h2=> ∃rows,Sl h h2 S OM.emp rows/\u= .tuple ⟨[.int .i64 (chkA l).1,.int .i64 (chkA l).2]⟩:=by
  intro d
  induction d with
  |zero=>
   intro q i h' g1 g2 g3 hc st;obtain⟨q,rfl⟩: ∃r,q=r+1:=⟨q-1,by omega⟩;rw[lp_succ];obtain rfl:i=l.rules.length:=by omega
   rw[List.drop_length]at hc;have hok:l.Ok:=⟨hs,hc.symm⟩;have dc:decide (((l.rules.length:Nat):Int)<((l.rules.length:Nat):Int))=false:=by simp
   simp only[F18_8,F18_7,ucons_cons,xLt_i,vb_some,dc,bite_f];refine Ret.mono (c18m (l:=l) (v:=.agg ⟨[.int .i64 l.modes,rv]⟩) hn hD dp ⟨rv,rfl,hrv,hem⟩ hin hok hk st) fun u h2 ⟨S2,le2,st2,hu⟩=>?_;exact⟨_,st2.weakS le2,by rw[hu,hok.chk]⟩
  |succ d ih=>
   intro q i h' g1 g2 g3 hc st
   by_cases hi:i<l.rules.length
   ·obtain⟨q,rfl⟩: ∃r,q=r+1:=⟨q-1,by omega⟩;rw[lp_succ];generalize hL:lp q (F18_8 n cl)=LL;have dc:decide (((i:Nat):Int)<((l.rules.length:Nat):Int))=true:=by simp;omega
    have hx:=List.getElem?_eq_getElem hi;generalize l.rules[i]=r at hx;have hrm:=List.mem_of_getElem? hx;rw[chkT_drop hx]at hc;obtain⟨bb,oo,cs,es,e1,e2,e3,e4,e5⟩:=hrv.rat (k:=.i64) hx;have e1:xIdxS 4 rv (.int .i64 (i:Nat))=some (.pointer (some ⟨bb,oo,none⟩)):=e1;have e5:es=rvs r:=e5;subst e5;have l3:=st.ldSA (n:=4) e2 e3 e4;simp only[F18_8,F18_7,ucons_cons,xLt_i,vb_some,dc,bite_t,F18_1,e1,l3];refine Ret.lalloc st zc46 fun h2 x2 st2=>?_;refine Ret.lstA st2 0 rfl rfl rfl (by decide) rfl fun h3 st3=>?_;have st3:Sl h h3 S OM.emp [(x2,.row .own 1 (rvs r)),(b,.row .own 1 [.int .i64 l.modes,rv])]:=st3;have l4:xLdA 2 (pt b) h3=some (.agg ⟨[.int .i64 l.modes,rv]⟩):=st3.ldA (.tail _ (.head _)) rfl (Nat.le_refl 2);have l5:xLdA 4 (pt x2) h3=some (.agg ⟨rvs r⟩):=st3.ldA (.head _) rfl (Nat.le_refl 4);have okh:=st3.ok;have w:=c41 (n:=n) (cl:=cl) (h:=h3.fzn) (D:=D) hn hD dp (mo:=l.modes) (rv:=rv) (hin.rl r hrm);simp only[l4,l5,vb_some,w,vN_eq,xNe_i]
    by_cases hz:ruleT l.modes r=0
    ·rw[if_pos hz]at hc;have d5:(!decide (((ruleT l.modes r:Nat):Int)=((0:Nat):Int)))=false:=by simp[hz]
     simp only[d5,bite_f,F18_0,vN_eq,xAdd_i,wrN (show i<1000000 by omega),vb_some];rw[<-hL];exact ih q (i+1) h3 (by omega) (by omega) (by omega) hc (st3.drop (List.sublist_cons_self _ _))
    ·rw[if_neg hz]at hc;have d5:(!decide (((ruleT l.modes r:Nat):Int)=((0:Nat):Int)))=true:=by simp[hz]
     simp only[d5,bite_t];refine Fr.ret st3 ?_;rw[chkA_s hs hc.symm]
   ·exact ih q i h' (by omega) (by omega) g3 hc st
 exact key l.rules.length n 0 h1 (by omega) (by omega) (by omega) rfl st
end
theorem ab100:abuild Tryz.prog 100 []=some (.agg ⟨[nils]⟩):=by kernel_rfl
theorem ab115o{a:Option Addr}{c n:Nat}:abuild Tryz.prog 115 [(0,.slice a n c)]=some (.agg ⟨[.slice a n c,.int .u32 0,.int .i32 0,.int .u32 0,nils,nils]⟩):=by kernel_rfl
theorem bs98{b:Nat}:bsRow Tryz.prog 98 1 [(0,pt b)]=some (1,[pt b]):=by kernel_rfl
theorem ai98:appInfo Tryz.prog #[98,98]=some (1,8):=by kernel_rfl
theorem RdV.slc{α:Type}{R:Rdr α}{V:Vw}{v:Value}{l:List α}(r:RdV R V v l): ∃a n c,v= .slice a n c:=by
 rcases r with⟨_,a,c,rfl⟩|⟨b,o,c,cs,rfl,_⟩
 ·exact⟨_,_,_,rfl⟩
 ·exact⟨_,_,_,rfl⟩
structure MdR(S:Vw)(rs:List LxR)(cells:List Value):Prop where
 h: ∃ru,RdV rLR S ru rs/\(cells=[ru,.int .u32 0,.int .i32 0,.int .u32 0,nils,nils]\/ ∃nv av d,cells=[ru,.int .u32 1,.int .i32 0,.int .u32 0,nv,av]/\DfV S (.agg ⟨[nv,av]⟩) d/\KnwS (rs.map posOf) d)
theorem MdR.mono{S S':Vw}{rs:List LxR}{cells:List Value}(le:Vw.le S S')(m:MdR S rs cells):MdR S' rs cells:=by
 obtain⟨ru,h1,h2⟩:=m.h;refine⟨ru,h1.mono le,?_⟩;rcases h2 with h2|⟨nv,av,d,h3,h4,h5⟩
 ·exact .inl h2
 ·exact .inr ⟨nv,av,d,h3,h4.mono le,h5⟩
def ptsOf(mr:Rws):List Value:=mr.map fun p=>pt p.1
def MdsR(S:Vw)(rs:List LxR)(mr:Rws):Prop:= ∀(k:Nat) p,mr[k]?=some p-> ∃cells,p.2= .row .own 1 cells/\MdR S (rulesOf rs (k:Nat)) cells
theorem MdsR.mono{S S':Vw}{rs:List LxR}{mr:Rws}(le:Vw.le S S')(m:MdsR S rs mr):MdsR S' rs mr:=fun k p hp=>let⟨c,h1,h2⟩:=m k p hp;⟨c,h1,h2.mono le⟩
structure LexP(S:Vw)(l:Lxr)(x:Nat)(mr:Rws):Prop where
 sl: ∃sv,S x=some [sv]/\SlV S sv (ptsOf mr)
 len:(mr.length:Int)=l.modes
 ms:MdsR S l.rules mr
section
variable {Q:Value->PH->Prop}{n D:Nat}{cl:CL}{h h0:PH}{S:Vw}{rows:Rws}{l:Lxr}
theorem c21(hn:4611686018427387904<=n)(hD:1000<=D)(dp:Dsp n D cl){v:Value}(hv:LxV S l v)(hin:l.In)(hk:KnwL l)(st:Sl h0 h S OM.emp rows):
  Ret (F21 n cl v h) fun u h'=>((chkA l).2≠0/\Sl h0 h' S OM.emp rows/\u= .tuple ⟨[.pointer none,.int .i64 (chkA l).2]⟩)\/(l.Ok/\ ∃S' x mr,Vw.le S S'/\Sl h0 h' S' OM.emp (mr++rows)/\u= .tuple ⟨[pt x,.int .i64 0]⟩/\LexP S' l x mr):=by
 have hv':=hv;obtain⟨rv,rfl,hrv,hem⟩:=hv;unfold F21;refine Ret.lbox st fun h1 b st=>?_;have st:Sl h0 h1 S OM.emp ((b,.row .own 1 [.int .i64 l.modes,rv])::rows):=st;have l0:xLdA 2 (pt b) h1=some (.agg ⟨[.int .i64 l.modes,rv]⟩):=st.ldA (.head _) rfl (Nat.le_refl 2);have okh:=st.ok;have w:=c18 (n:=n) (cl:=cl) (h:=h1.fzn) hn hD dp st.anyS hv' hin hk;simp only[l0,vb_some,w,xExt_t',List.getElem?_cons_zero,List.getElem?_cons_succ,vN_eq,xNe_i]
 by_cases hz:(chkA l).2=0
 ·have hok:l.Ok:=by
   by_cases hs:Shp l
   ·cases hc:chkT l.modes l.rules 0 with
    |none=>exact⟨hs,hc⟩
    |some p=>
     obtain⟨i,e⟩:=p;rw[chkA_s hs hc]at hz;have:=chkT_ne hc;simp at hz;exact absurd hz this
   ·rw[chkA_3 hs]at hz;exact absurd hz (by decide)
  have hm1:=hok.1.1;have hm8:=hok.1.2.1;have d5:(!decide ((chkA l).2=((0:Nat):Int)))=false:=by simp[hz]
  simp only[d5,bite_f,F21_3,ab100,vb_some];refine Ret.lbox st fun h2 x st2=>?_;have st2:Sl h0 h2 S OM.emp ((x,.row .own 1 [nils])::(b,.row .own 1 [.int .i64 l.modes,rv])::rows):=st2;have l1:xLd (.pointer (some ⟨b,0,none⟩)) h2=some (.int .i64 l.modes):=st2.ld (.tail _ (.head _)) rfl;simp only[xFld_p,Nat.zero_add,vb_some,l1,vN_eq];have key: ∀(d q i:Nat)(S':Vw)(h':PH)(sv:Value)(ex mr:Rws),l.modes.toNat-i<=d->d<q->i<=l.modes.toNat->Vw.le S S'->Sl h0 h' S' OM.emp (ex++((x,.row .own 1 [sv])::(b,.row .own 1 [.int .i64 l.modes,rv])::(mr++rows)))->mr.length=i->Gl 1 sv i (ptsOf mr) ex->MdsR S' l.rules mr->
    Ret (lp q (F21_2 n cl) [pt b,pt x,.int .i64 l.modes,.int .i64 (i:Nat)] h') fun u h'=>((chkA l).2≠0/\Sl h0 h' S OM.emp rows/\u= .tuple ⟨[.pointer none,.int .i64 (chkA l).2]⟩)\/(l.Ok/\ ∃S' x mr,Vw.le S S'/\Sl h0 h' S' OM.emp (mr++rows)/\u= .tuple ⟨[pt x,.int .i64 0]⟩/\LexP S' l x mr):=by
   intro d
   induction d with
   |zero=>
    intro q i S' h' sv ex mr g1 g2 g3 le st hlen g hms;obtain⟨q,rfl⟩: ∃r,q=r+1:=⟨q-1,by omega⟩;rw[lp_succ];have dc:decide (((i:Nat):Int)<l.modes)=false:=by simp;omega
    simp only[F21_2,F21_1,ucons_cons,xLt_i,vb_some,dc,bite_f,vN_eq];obtain⟨S2,le2,st2,hsl⟩:=g.settle st;obtain⟨st3,fr⟩:=st2.settle (i:=0) rfl;have st3:Sl h0 h' (S2.put x [sv]) OM.emp ((b,.row .own 1 [.int .i64 l.modes,rv])::(mr++rows)):=st3;have le3:Vw.le S2 (S2.put x [sv]):=Vw.le_put fr;exact Ret.of (.inr ⟨hok,_,x,mr,le.trans (le2.trans le3),st3.drop (List.sublist_cons_self _ _),rfl,⟨⟨sv,Vw.put_self,(hsl.mono le3).slv⟩,by omega,hms.mono (le2.trans le3)⟩⟩)
   |succ d ih=>
    intro q i S' h' sv ex mr g1 g2 g3 le st hlen g hms
    by_cases hi:i<l.modes.toNat
    ·obtain⟨q,rfl⟩: ∃r,q=r+1:=⟨q-1,by omega⟩;rw[lp_succ];generalize hL:lp q (F21_2 n cl)=LL;have dc:decide (((i:Nat):Int)<l.modes)=true:=by simp;omega
     have l1:xLdA 2 (pt b) h'=some (.agg ⟨[.int .i64 l.modes,rv]⟩):=st.ldA (List.mem_append_right _ (.tail _ (.head _))) rfl (Nat.le_refl 2);have l2:xLd (.pointer (some ⟨x,0,none⟩)) h'=some sv:=st.ld (List.mem_append_right _ (.head _)) rfl;simp only[F21_2,F21_1,ucons_cons,xLt_i,vb_some,dc,bite_t,F21_0,xNil_p,xFld_p,Nat.zero_add,l1,l2];refine Ret.hb (c43 hn dp (hrv.mono le) hem hok.1.2.2 st) fun u h2 ⟨S2,le2,st2,hu,hue⟩=>?_;have l3:xLd (.pointer (some ⟨x,0,none⟩)) h2=some sv:=st2.ld (List.mem_append_right _ (.head _)) rfl;obtain⟨ua,un,uc,rfl⟩:=hu.slc;simp only[l3,lchk_t g.veq,ab115o,vb_some];refine Ret.lbox st2 fun h3 mb st3=>?_;have st3:Sl h0 h3 S2 OM.emp ((mb,.row .own 1 [.slice ua un uc,.int .u32 0,.int .i32 0,.int .u32 0,nils,nils])::(ex++((x,.row .own 1 [sv])::(b,.row .own 1 [.int .i64 l.modes,rv])::(mr++rows)))):=st3;have st4:=st3.perm (rows':=ex++((x,.row .own 1 [sv])::(b,.row .own 1 [.int .i64 l.modes,rv])::((mr++[(mb,.row .own 1 [.slice ua un uc,.int .u32 0,.int .i32 0,.int .u32 0,nils,nils])])++rows))) (by
      have:=(List.perm_middle (l₁:=ex++(x,AObj.row .own 1 [sv])::(b,AObj.row .own 1 [.int .i64 l.modes,rv])::mr) (a:=(mb,AObj.row .own 1 [.slice ua un uc,.int .u32 0,.int .i32 0,.int .u32 0,nils,nils])) (l₂:=rows)).symm;simpa using this)
     refine Ret.gapp st4 g bs98 ai98 rfl rfl (sz_le (c:=1048576) (show i<=1048576 by omega) (by decide)) fun h5 sv' ex' st5 g5=>?_;refine Ret.lst1M st5 rfl (by simp) g5.one fun h6 st6=>?_;simp only[xAdd_i,vN_eq,wrN (show i<1000000 by omega),vb_some];rw[<-hL];refine ih q (i+1) S2 h6 sv' ex' _ (by omega) (by omega) (by omega) (le.trans le2) st6 (by simp[hlen]) (by rw[show ptsOf (mr++[(mb,AObj.row .own 1 [.slice ua un uc,.int .u32 0,.int .i32 0,.int .u32 0,nils,nils])])=ptsOf mr++[pt mb] by unfold ptsOf;simp];exact g5) (fun k p hp=>?_);rcases get_sn hp with hp|⟨rfl,rfl⟩
     ·exact hms.mono le2 k p hp
     ·rw[hlen];exact⟨_,rfl,⟨_,hu,.inl rfl⟩⟩
    ·exact ih q i S' h' sv ex mr (by omega) (by omega) g3 le st hlen g hms
  exact key l.modes.toNat n 0 S h2 nils [] [] (by omega) (by omega) (by omega) (Vw.le.refl _) st2 rfl Gl.nil (fun k p hp=>by simp at hp)
 ·have d5:(!decide ((chkA l).2=((0:Nat):Int)))=true:=by simp[hz]
  simp only[d5,bite_t];exact Ret.of (.inl ⟨hz,st.drop (List.sublist_cons_self _ _),rfl⟩)
end
theorem veq_pt{b:Nat}:Go.Am.veq (pt b) (pt b)=true:=by
 unfold Go.Am.veq Go.Am.veq1 pt;unfold aeq;simp
section
variable {Q:Value->PH->Prop}{h h0:PH}{S:Vw}{m:OM}{K2:Value->PH->R}
theorem Ret.lstAM{A R:Rws}{b o e sz:Nat}{md:Mode}{cs vs:List Value}(s:Sl h0 h S m (A++(b,.row md e cs)::R))(hm:mro md=false)(hs:vs.length=sz)(ho:o+sz<=cs.length)(hv:oneCells vs=true)(hk: ∀h',Sl h0 h' S m (A++(b,.row md e (setsL cs o vs))::R)->Ret (K2 undef h') Q):
  Ret (Go.Am.hb (xStA sz (.pointer (some ⟨b,o,none⟩)) (.agg ⟨vs⟩) h) K2) Q:=by
 refine Ret.lstA s A.length (by rw[List.getElem?_append_right (Nat.le_refl _),Nat.sub_self];rfl) hm hs ho hv fun h' s'=>hk h' ?_;rw[List.set_append_right _ _ (Nat.le_refl _),Nat.sub_self]at s';exact s'
end
structure Dsp2(n D:Nat)(cl:CL):Prop extends Dsp n D cl where
 on: ∀xs h,cl 78 xs h=onceX (LV n (D+1)) xs h
structure MdO(rs:List LxR):Prop where
 len:rs.length<=40
 inn: ∀r∈rs,r.In
 ok: ∀r∈rs, ∃po,plcT r.pat= .ok po
 kn:CanK (rs.map posOf)
section
variable {Q:Value->PH->Prop}{n D:Nat}{cl:CL}{h h0:PH}{S:Vw}{A R:Rws}{l:Lxr}{rs:List LxR}
theorem c79(hn:4611686018427387904<=n)(hD:1000<=D)(dp:Dsp n D cl)(ho:MdO rs){bx mb:Nat}{ru w1 w2 w3:Value}(hbx:S bx=some [pt mb])(hru:RdV rLR S ru rs)(st:Sl h0 h S OM.emp (A++(mb,.row .own 1 [ru,w1,w2,w3,nils,nils])::R)):
  Ret (F79 n cl (pt bx) h) fun u h'=>u= .tuple ⟨[]⟩/\ ∃S' nv av d,Vw.le S S'/\Sl h0 h' S' OM.emp (A++(mb,.row .own 1 [ru,w1,w2,w3,nv,av])::R)/\DfV S' (.agg ⟨[nv,av]⟩) d/\KnwS (rs.map posOf) d:=by
 unfold F79;have l1:xLd (pt bx) h=some (pt mb):=st.ldS hbx rfl;have l2:xLd (.pointer (some ⟨mb,0,none⟩)) h=some ru:=st.ld (List.mem_append_right _ (.head _)) rfl;simp only[l1,vb_some,xNil_p,xFld_p,Nat.zero_add,l2];refine Ret.hb (c42 hn hD dp hru ho.len ho.inn ho.ok st) fun u h2 ⟨S2,le2,st2,hu⟩=>?_;obtain⟨dv,d,rfl,hdv,hd⟩:=ho.kn hu;obtain⟨nv,av,rfl,o1,o2⟩:=hdv.agg;have l3:xLd (pt bx) h2=some (pt mb):=st2.ldS (le2 _ _ hbx) rfl;have vq:Go.Am.veq (pt mb) (pt mb)=true:=veq_pt;simp only[l3,lchk_t vq,xExt_t',List.getElem?_cons_zero,List.getElem?_cons_succ,vb_some,xNil_p,xFld_p,Nat.zero_add];refine Ret.lstAM st2 rfl rfl (Nat.le_refl 6) (one2 o1 o2) fun h3 st3=>?_;exact Ret.of ⟨rfl,S2,nv,av,d,le2,st3,hdv,hd⟩
theorem once_fresh(hn:4611686018427387904<=n)(hD:1000<=D)(ho:MdO rs){bx mb:Nat}{ru w3:Value}(hbx:S bx=some [pt mb])(hru:RdV rLR S ru rs)(st:Sl h0 h S OM.emp (A++(mb,.row .own 1 [ru,.int .u32 0,.int .i32 0,w3,nils,nils])::R)):
  Ret (onceX (LV n (D+2)) [.pointer (some ⟨mb,1,none⟩),.func (.func 79) ⟨[]⟩ ⟨[pt bx]⟩] h) fun u h'=>u= .tuple ⟨[]⟩/\ ∃S' nv av d,Vw.le S S'/\Sl h0 h' S' OM.emp (A++(mb,.row .own 1 [ru,.int .u32 1,.int .i32 0,w3,nv,av])::R)/\DfV S' (.agg ⟨[nv,av]⟩) d/\KnwS (rs.map posOf) d:=by
 show Ret (onceR (LV n (D+2)) mb 1 (pt bx) h) _
 unfold onceR;have l1:xLd (.pointer (some ⟨mb,1,none⟩)) h=some (.int .u32 0):=st.ld (List.mem_append_right _ (.head _)) rfl;have l2:xLd (.pointer (some ⟨mb,1+1,none⟩)) h=some (.int .i32 0):=st.ld (List.mem_append_right _ (.head _)) rfl;simp only[l1,vb_some,if_true,l2,isW_t];refine Ret.lst1M st rfl (by simp) rfl fun h1 st1=>?_;have e:LV n (D+2) 79 [pt bx] h1=F79 n (LV n (D+1)) (pt bx) h1:=rfl;rw[e];have st1:Sl h0 h1 S OM.emp (A++(mb,.row .own 1 [ru,.int .u32 0,.int .i32 1,w3,nils,nils])::R):=st1;refine Ret.hb (c79 hn hD (Dsp.lv n D) ho hbx hru st1) fun u h2 ⟨hu,S2,nv,av,d,le2,st2,hdv,hd⟩=>?_;subst hu;have l3:xLd (.pointer (some ⟨mb,1+1,none⟩)) h2=some (.int .i32 1):=st2.ld (List.mem_append_right _ (.head _)) rfl;simp only[l3,vb_some,isW_t];refine Ret.lst1M st2 rfl (by simp) rfl fun h3 st3=>?_;refine Ret.lst1M st3 rfl (by simp) rfl fun h4 st4=>?_;exact Ret.of ⟨rfl,S2,nv,av,d,le2,st4,hdv,hd⟩
theorem once_again{b:CL}{p:Value}{mb:Nat}{cs:List Value}(hc:cs[1]?=some (.int .u32 1))(st:Sl h0 h S OM.emp (A++(mb,.row .own 1 cs)::R)):
  onceX b [.pointer (some ⟨mb,1,none⟩),.func (.func 79) ⟨[]⟩ ⟨[p]⟩] h=some (.tuple ⟨[]⟩,h):=by
 show onceR b mb 1 p h=_
 unfold onceR;have l1:xLd (.pointer (some ⟨mb,1,none⟩)) h=some (.int .u32 1):=st.ld (List.mem_append_right _ (.head _)) hc;simp only[l1,vb_some];rw[if_neg (by decide)]
theorem c48(hn:4611686018427387904<=n)(hD:1000<=D)(dp:Dsp2 n (D+1) cl)(ho:MdO rs){mb:Nat}{cells:List Value}(hm:MdR S rs cells)(st:Sl h0 h S OM.emp (A++(mb,.row .own 1 cells)::R)):
  Ret (F48 n cl (pt mb) h) fun v h'=> ∃S' cells' d,Vw.le S S'/\Sl h0 h' S' OM.emp (A++(mb,.row .own 1 cells')::R)/\MdR S' rs cells'/\DfV S' v d/\KnwS (rs.map posOf) d:=by
 unfold F48;refine Ret.lbox st fun h1 bx st1=>?_;obtain⟨st1,fr⟩:=st1.settle (i:=0) rfl;have st1:Sl h0 h1 (S.put bx [pt mb]) OM.emp (A++(mb,.row .own 1 cells)::R):=st1;have le1:Vw.le S (S.put bx [pt mb]):=Vw.le_put fr;have hbx:(S.put bx [pt mb]) bx=some [pt mb]:=Vw.put_self;generalize S.put bx [pt mb]=S1 at st1 le1 hbx;refine Ret.lalloc st1 zc76 fun h2 c st2=>?_;have st2:Sl h0 h2 S1 OM.emp ((c,.row .own 1 [nils,nils])::A++(mb,.row .own 1 cells)::R):=st2;have l1:xLd (pt bx) h2=some (pt mb):=st2.ldS hbx rfl;simp only[l1,vb_some,xNil_p,xFld_p,Nat.zero_add,dp.on];obtain⟨ru,hru,hcs⟩:=hm.h;refine Ret.hb (Q1:=fun u h'=> ∃S' nv av d,Vw.le S S'/\Vw.le S1 S'/\Sl h0 h' S' OM.emp ((c,.row .own 1 [nils,nils])::A++(mb,.row .own 1 [ru,.int .u32 1,.int .i32 0,.int .u32 0,nv,av])::R)/\DfV S' (.agg ⟨[nv,av]⟩) d/\KnwS (rs.map posOf) d) ?_ fun u h3 ⟨S3,nv,av,d,le3,le13,st3,hdv,hd⟩=>?_
 ·rcases hcs with rfl|⟨nv,av,d,rfl,hdv,hd⟩
  ·refine Ret.mono (once_fresh hn hD ho hbx (hru.mono le1) st2) fun u h' ⟨_,S',nv,av,d,le',st',hdv,hd⟩=>⟨S',nv,av,d,le1.trans le',le',st',hdv,hd⟩
  ·rw[once_again rfl st2];exact Ret.of ⟨S1,nv,av,d,le1,Vw.le.refl _,st2,hdv.mono le1,hd⟩
 ·have l2:xLd (pt bx) h3=some (pt mb):=st3.ldS (le13 _ _ hbx) rfl;have l3:xLdA 2 (.pointer (some ⟨mb,4,none⟩)) h3=some (.agg ⟨[nv,av]⟩):=st3.ldA (List.mem_append_right _ (.head _)) rfl (Nat.le_refl 6);obtain⟨nv',av',e,o1,o2⟩:=hdv.agg;cases e;simp only[l2,vb_some,xNil_p,xFld_p,Nat.zero_add,l3];refine Ret.lstA st3 0 rfl rfl rfl (Nat.le_refl 2) (one2 o1 o2) fun h4 st4=>?_;have st4:Sl h0 h4 S3 OM.emp ((c,.row .own 1 [nv,av])::A++(mb,.row .own 1 [ru,.int .u32 1,.int .i32 0,.int .u32 0,nv,av])::R):=st4;have l5:xLdA 2 (pt c) h4=some (.agg ⟨[nv,av]⟩):=st4.ldA (.head _) rfl (Nat.le_refl 2);simp only[l5,vb_some];exact Ret.of ⟨S3,_,d,le3,st4.drop (List.sublist_cons_self _ _),⟨ru,hru.mono le3,.inr ⟨nv,av,d,rfl,hdv,hd⟩⟩,hdv,hd⟩
end
def TxV(V:Vw)(v:Value)(bs:List Nat):Prop:=(bs=[]/\ ∃c,v= .slice none 0 c/\CapOk 0 c)\/ ∃b o c,v= .slice (some ⟨b,o,none⟩) bs.length c/\CapOk bs.length c/\(bs≠[]-> ∃cs,V b=some cs/\o+bs.length<=cs.length/\ ∀(i:Nat) x,bs[i]?=some x->cs[o+i]?=some (.int .u8 (x:Nat)))
section
variable {V W:Vw}{v:Value}{bs:List Nat}
theorem TxV.mono(hs:Vw.le V W)(h:TxV V v bs):TxV W v bs:=by
 rcases h with h|⟨b,o,c,h1,h2,h3⟩
 ·exact .inl h
 ·exact .inr ⟨b,o,c,h1,h2,fun hn=>let⟨cs,a1,a2⟩:=h3 hn;⟨cs,hs _ _ a1,a2⟩⟩
theorem TxV.len(h:TxV V v bs):xLenS v=some (.int .i64 (bs.length:Nat)):=by
 rcases h with⟨rfl,c,rfl,_⟩|⟨b,o,c,rfl,_⟩<;>simp
theorem TxV.at(h:TxV V v bs){i x:Nat}{k:IntKind}(hx:bs[i]?=some x): ∃b o cs,xIdxS 1 v (.int k (i:Nat))=some (.pointer (some ⟨b,o,none⟩))/\V b=some cs/\cs[o]?=some (.int .u8 (x:Nat)):=by
 have hlt:=(List.getElem?_eq_some_iff.1 hx).1;rcases h with⟨rfl,_⟩|⟨b,o,c,rfl,_,h3⟩
 ·simp at hx
 ·obtain⟨cs,h4,h5,h6⟩:=h3 (by intro e;subst e;simp at hx);refine⟨b,o+i,cs,?_,h4,h6 i x hx⟩;rw[xIdxS_at (by omega) (by omega)];simp
theorem TxV.cut(h:TxV V v bs){k:Nat}(hk:k<=bs.length): ∃w,acut Tryz.prog 33 v (some (.int .i64 (k:Nat))) none none=some w/\TxV V w (bs.drop k):=by
 obtain⟨inf,hu,hi',hsz⟩:=u33;rcases h with⟨rfl,c,rfl,hc⟩|⟨b,o,c,rfl,hc,h3⟩
 ·obtain rfl:k=0:=by simpa using hk
  exact⟨_,acut_nil (l:=0) (r:=0) hu hi' hc bd_n (bd_i (by omega) (by omega)) (Nat.le_refl _) (Nat.le_refl _),.inl ⟨by simp,_,rfl,hc⟩⟩
 ·refine⟨_,acut_at (l:=k) (r:=bs.length) hu hi' hc bd_n (by rw[bd_i (by omega) (by omega)];simp) hk (Nat.le_refl _),?_⟩;refine .inr ⟨b,_,_,by rw[List.length_drop],?_,fun hn=>?_⟩
  ·rw[List.length_drop];obtain⟨a1,a2⟩:=hc;exact⟨by omega,by omega⟩
  ·have hn':k<bs.length:=by
    have:=List.length_pos_iff.2 hn;rw[List.length_drop]at this;omega
   obtain⟨cs,h4,h5,h6⟩:=h3 (by intro e;subst e;simp at hn');refine⟨cs,h4,?_,fun i x hx=>?_⟩
   ·rw[List.length_drop,hsz];split<;>omega
   ·rw[List.getElem?_drop]at hx;have:=h6 _ _ hx;rw[hsz,show(if c=k then o else o+k*1)+i=o+(k+i)from ?_]
    ·exact this
    ·split
     ·rename_i e;have:=hc.1;omega
     ·omega
end
theorem min33{x y:Int}:(if plainV.plainVs [(.int .i64 x),(.int .i64 y)]then prun Tryz.prog (Builtin.min_ #[3,3] 3 ⟨[(.int .i64 x),(.int .i64 y)]⟩)else none)=some (.int .i64 (if y<x then y else x)):=by kernel_rfl
theorem max33{x y:Int}:(if plainV.plainVs [(.int .i64 x),(.int .i64 y)]then prun Tryz.prog (Builtin.max_ #[3,3] 3 ⟨[(.int .i64 x),(.int .i64 y)]⟩)else none)=some (.int .i64 (if x<y then y else x)):=by kernel_rfl
def clp(a:Int)(k:Nat):Nat:=if a<=0 then 0 else min a.toNat k
theorem clp_le{a:Int}{k:Nat}:clp a k<=k:=by unfold clp;split<;>omega
theorem clp_mm{a:Int}{k:Nat}:(if((0:Nat):Int)<(if((k:Nat):Int)<a then((k:Nat):Int)else a)then(if((k:Nat):Int)<a then((k:Nat):Int)else a)else((0:Nat):Int))=((clp a k:Nat):Int):=by
 unfold clp
 split<;>split<;>split<;>omega
def scn(d:Dfa):List Nat->Nat->Nat->Int->Nat->Int×Nat×Nat
 | [],i,_,r,l=>(r,l,i+1)
 |c::w,i,s,r,l=>if dstep d s c<0 then(r,l,i+1)else if 0<=dacc d (dstep d s c)then scn d w (i+1) (dstep d s c).toNat (dacc d (dstep d s c)) (i+1)else scn d w (i+1) (dstep d s c).toNat r l
def scV(p:Int×Nat×Nat):Value:=.tuple ⟨[.int .i64 p.1,.int .i64 (p.2.1:Nat),.int .i64 (p.2.2:Nat)]⟩
theorem scV_pl(p:Int×Nat×Nat):plainV (scV p)=true:=rfl
section
variable {Q:Value->PH->Prop}{n D:Nat}{cl:CL}{h h0:PH}{S:Vw}{rows:Rws}{dv bv:Value}{d:Dfa}{bs:List Nat}
theorem c47[OkH h](hn:4611686018427387904<=n)(hS:Vw.le S h.cells)(hd:DfV S dv d)(hc:Canon d)(hdl:d.next.length<1000000)(hb:TxV S bv bs)(hbl:bs.length<900000)(hby:Byt bs){a:Int}:
  pcall (F47 n cl dv bv (.int .i64 a) h)=some (scV (scn d (bs.drop (clp a bs.length)) 0 0 (-1) 0)):=by
 refine pcall_fr (h:=h) (S:=S) ?_ (scV_pl _);have hd0:=hd;obtain⟨nv,av,vs,rfl,a1,a2,a3,a4⟩:=hd;unfold Fr F47;refine Ret.lbox (Sl.start h hS) fun h1 x st=>?_;have st:Sl h h1 S OM.emp [(x,.row .own 1 [nv,av])]:=st;have hg:=clp_le (a:=a) (k:=bs.length);obtain⟨w,hw,htw⟩:=hb.cut hg;simp only[hb.len,vb_some,min33,vN_eq,max33,clp_mm,hw,htw.len,vM_eq];have hby':Byt (bs.drop (clp a bs.length)):=fun c hc=>hby c (List.mem_of_mem_drop hc);have hbl':(bs.drop (clp a bs.length)).length<900000:=by rw[List.length_drop];omega
 generalize bs.drop (clp a bs.length)=ws at htw hby' hbl';have okh:=st.ok;have la:xLdA 2 (pt x) h1=some (.agg ⟨[nv,av]⟩):=st.ldA (.head _) rfl (Nat.le_refl 2);have key: ∀(k q i:Nat)(s:Nat)(r:Int)(l:Nat),ws.length-i<=k->k<q->i<=ws.length->s<d.next.length->
   Ret (lp q (F47_8 n cl) [w,pt x,.int .i64 r,.int .i64 (l:Nat),.int .i64 (s:Nat),w,.int .i64 (ws.length:Nat),.int .i64 (i:Nat)] h1) fun u h2=> ∃rows,Sl h h2 S OM.emp rows/\u=scV (scn d (ws.drop i) i s r l):=by
  intro k
  induction k with
  |zero=>
   intro q i s r l g1 g2 g3 hs;obtain⟨q,rfl⟩: ∃r,q=r+1:=⟨q-1,by omega⟩;rw[lp_succ];obtain rfl:i=ws.length:=by omega
   have dc:decide (((ws.length:Nat):Int)<((ws.length:Nat):Int))=false:=by simp
   simp only[F47_8,F47_7,ucons_cons,xLt_i,vb_some,dc,bite_f,F47_6,htw.len,vN_eq,xAdd_i,wrN (show ws.length<1000000 by omega)];rw[List.drop_length];exact Fr.ret st rfl
  |succ k ih=>
   intro q i s r l g1 g2 g3 hs
   by_cases hi:i<ws.length
   ·obtain⟨q,rfl⟩: ∃r,q=r+1:=⟨q-1,by omega⟩;rw[lp_succ];generalize hL:lp q (F47_8 n cl)=LL;have dc:decide (((i:Nat):Int)<((ws.length:Nat):Int))=true:=by simp;omega
    have hx:=List.getElem?_eq_getElem hi;have hdr:ws.drop i=ws[i]::ws.drop (i+1):=List.drop_eq_getElem_cons hi;rw[hdr];generalize ws[i]=c at hx;have hc256:c<256:=hby' c (List.mem_of_getElem? hx);obtain⟨bb,oo,cs,e1,e2,e3⟩:=htw.at (k:=.i64) hx;have l3:=st.ldS e2 e3;have z1:=c76 (n:=n) (cl:=cl) (h:=h1.fzn) (S:=S) st.anyS hd0 hc hs hc256 hdl;simp only[F47_8,F47_7,ucons_cons,xLt_i,vb_some,dc,bite_t,jn_eq,F47_5,e1,l3,la,z1,vN_eq];rcases hc.rng s c hs hc256 with hh|⟨j,hj,hh⟩
    ·have hh:dstep d (s:Nat) c= -1:=hh;have d2:decide ((-1:Int)<((0:Nat):Int))=true:=by decide
     have e:scn d (c::ws.drop (i+1)) i s r l=(r,l,i+1):=by
      show(if dstep d (s:Nat) c<0 then _ else _)=_
      rw[if_pos (by rw[hh];decide)]
     rw[e];simp only[hh,d2,bite_t,F47_1,vN_eq,xAdd_i,wrN (show i<1000000 by omega),vb_some];exact Fr.ret st rfl
    ·have hh:dstep d (s:Nat) c=((j:Nat):Int):=hh;have d2:decide (((j:Nat):Int)<((0:Nat):Int))=false:=by simp
     have z2:=c77 (n:=n) (cl:=cl) (h:=h1.fzn) (S:=S) st.anyS hd0 hc hj;have e:scn d (c::ws.drop (i+1)) i s r l=if 0<=dacc d ((j:Nat):Int)then scn d (ws.drop (i+1)) (i+1) j (dacc d ((j:Nat):Int)) (i+1)else scn d (ws.drop (i+1)) (i+1) j r l:=by
      show(if dstep d (s:Nat) c<0 then _ else _)=_
      rw[if_neg (by rw[hh];omega),hh];rfl
     rw[e];simp only[hh,d2,bite_f,F47_3,la,vb_some,z2,vN_eq,xGe_i]
     by_cases ha:0<=dacc d ((j:Nat):Int)
     ·rw[if_pos ha];have d3:decide (((0:Nat):Int)<=(if(-1:Int)<dacc d ((j:Nat):Int)then dacc d ((j:Nat):Int)else -1))=true:=by rw[if_pos (by omega)];simpa using ha
      simp only[d3,bite_t,F47_2,vN_eq,xAdd_i,wrN (show i<1000000 by omega),vb_some,F47_4,ucons_cons,F47_0];rw[if_pos (show(-1:Int)<dacc d ((j:Nat):Int) by omega), <-hL];exact ih q (i+1) j _ (i+1) (by omega) (by omega) (by omega) hj
     ·rw[if_neg ha];have d3:decide (((0:Nat):Int)<=(if(-1:Int)<dacc d ((j:Nat):Int)then dacc d ((j:Nat):Int)else -1))=false:=by
       refine decide_eq_false ?_
       split<;>omega
      simp only[d3,bite_f,vN_eq,xAdd_i,wrN (show i<1000000 by omega),vb_some,F47_4,ucons_cons,F47_0];rw[<-hL];exact ih q (i+1) j r l (by omega) (by omega) (by omega) hj
   ·exact ih q i s r l (by omega) (by omega) g3 hs
 exact key ws.length n 0 0 (-1) 0 (by omega) (by omega) (by omega) hc.pos
end
structure TokR where
 k:Int
 a:Int
 n:Int
 w:Int
 m:Int
def tkv(t:TokR):List Value:=[.int .i64 t.k,.int .i64 t.a,.int .i64 t.n,.int .i64 t.w,.int .i64 t.m]
theorem zc41:zcells Tryz.prog 41=some [.int .i64 0,.int .i64 0,.int .i64 0,.int .i64 0,.int .i64 0]:=by kernel_rfl
theorem ab41{a b c d e:Int}:abuild Tryz.prog 41 [(0,.int .i64 a),(1,.int .i64 b),(2,.int .i64 c),(3,.int .i64 d),(4,.int .i64 e)]=some (.agg ⟨tkv ⟨a,b,c,d,e⟩⟩):=by kernel_rfl
theorem nil37{o1 o2:Operand}{b:Nat}:abin Tryz.prog .eql 37 o1 o2 (.pointer (some ⟨b,0,none⟩)) (.pointer none)=some (.bool false):=by kernel_rfl
def oneT(rs:List LxR)(d:Dfa)(q:Nat)(bs:List Nat)(i:Nat):TokR×Int:=match if(scn d (bs.drop i) 0 0 (-1) 0).1<0 then none else rs[(scn d (bs.drop i) 0 0 (-1) 0).1.toNat]? with
 |some r=>(⟨r.kind,i,(scn d (bs.drop i) 0 0 (-1) 0).2.1,(scn d (bs.drop i) 0 0 (-1) 0).2.2,q⟩,r.next)
 |none=>(⟨-2,i,((if bs.length-i<1 then bs.length-i else 1:Nat):Int),(scn d (bs.drop i) 0 0 (-1) 0).2.2,q⟩,q)
theorem oneT_some{rs:List LxR}{d:Dfa}{q:Nat}{bs:List Nat}{i k l u:Nat}{r:LxR}(hs:scn d (bs.drop i) 0 0 (-1) 0=(((k:Nat):Int),l,u))(hr:rs[k]?=some r):oneT rs d q bs i=(TokR.mk r.kind i l u q,r.next):=by
 unfold oneT;simp only[hs];rw[if_neg (show ¬(((k:Nat):Int)<0) by omega),Int.toNat_natCast,hr]
theorem oneT_none{rs:List LxR}{d:Dfa}{q:Nat}{bs:List Nat}{i l u:Nat}{z:Int}(hs:scn d (bs.drop i) 0 0 (-1) 0=(z,l,u))(hr: ¬(0<=z/\z<(rs.length:Int))):oneT rs d q bs i=(TokR.mk (-2) i ((if bs.length-i<1 then bs.length-i else 1:Nat):Int) u q,(q:Int)):=by
 unfold oneT;simp only[hs]
 by_cases hz:z<0
 ·rw[if_pos hz]
 ·rw[if_neg hz,List.getElem?_eq_none (by omega)]
theorem scn_le{d:Dfa}: ∀(w:List Nat)(i s:Nat)(r:Int)(l:Nat),l<=i+w.length->(scn d w i s r l).2.1<=i+w.length/\(scn d w i s r l).2.2<=i+w.length+1:=by
 intro w
 induction w with
 |nil=>intro i s r l h;exact⟨by simpa[scn]using h,by simp[scn]⟩
 |cons c w ih=>
  intro i s r l h;unfold scn;simp only[List.length_cons]at h ⊢
  split
  ·exact⟨by simpa using h,by simp⟩
  ·split
   ·have:=ih (i+1) (dstep d s c).toNat (dacc d (dstep d s c)) (i+1) (by omega);omega
   ·have:=ih (i+1) (dstep d s c).toNat r l (by omega);omega
section
variable {Q:Value->PH->Prop}{n D:Nat}{cl:CL}{h h0:PH}{S:Vw}{rows:Rws}{l:Lxr}{bv:Value}{bs:List Nat}{x:Nat}{mr:Rws}
theorem mdo_of[OkH h](hn:4611686018427387904<=n)(hD:1000<=D)(dp:Dsp n D cl)(hin:l.In)(hok:l.Ok)(hk:KnwL l){q:Nat}(hq:(q:Int)<l.modes):MdO (rulesOf l.rules (q:Nat)):=
 ⟨Nat.le_trans (List.length_filter_le _ _) hok.1.2.2,fun r hr=>hin.rl r (rulesOf_mem hr),fun r hr=>by
  obtain⟨_,po,h1,_⟩:=rule_z (h:=h) hn hD dp (hin.rl r (rulesOf_mem hr)) (chkT_z hok.2 r (rulesOf_mem hr));exact⟨po,h1⟩,hk hok q hq⟩
theorem c22(hn:4611686018427387904<=n)(hD:1000<=D)(dp:Dsp2 n (D+1) cl)(hin:l.In)(hok:l.Ok)(hk:KnwL l)(hx:LexP S l x mr)(hb:TxV S bv bs)(hbl:bs.length<900000)(hby:Byt bs){a mo:Int}(st:Sl h0 h S OM.emp (mr++rows)):
  Ret (F22 n cl (pt x) bv (.int .i64 a) (.int .i64 mo) h) fun u h'=> ∃S' mr' d,Vw.le S S'/\Sl h0 h' S' OM.emp (mr'++rows)/\LexP S' l x mr'/\AutK ((rulesOf l.rules (clp mo (mr.length-1):Nat)).map posOf) d/\
   u= .tuple ⟨[.agg ⟨tkv (oneT (rulesOf l.rules (clp mo (mr.length-1):Nat)) d (clp mo (mr.length-1)) bs (clp a bs.length)).1⟩,.int .i64 (oneT (rulesOf l.rules (clp mo (mr.length-1):Nat)) d (clp mo (mr.length-1)) bs (clp a bs.length)).2]⟩:=by
 unfold F22;refine Ret.lalloc st zc41 fun h1 e st1=>?_;simp only[jn_eq,F22_5,nil37,vb_some,bite_f,F22_4,ucons_cons,F22_2,hb.len,min33,vN_eq,max33,clp_mm,xNil_p,xFld_p,Nat.zero_add];have hm1:=hok.1.1;have hm8:=hok.1.2.1;have hml:=hx.len;have hgi:=clp_le (a:=a) (k:=bs.length);generalize clp a bs.length=i at hgi;obtain⟨sv,hsx,hsv⟩:=hx.sl;have l1:xLd (.pointer (some ⟨x,0,none⟩)) h1=some sv:=st1.ldS hsx rfl;have hsl:xLenS sv=some (.int .i64 ((mr.length:Nat):Int)):=by
  have:=hsv.len;rw[show(ptsOf mr).length=mr.length by simp[ptsOf]]at this;exact this
 have hw1:IntKind.i64.wrap (((mr.length:Nat):Int)-((1:Nat):Int))=((mr.length-1:Nat):Int):=by rw[wrap_in (by omega) (by omega)];omega
 simp only[l1,vb_some,hsl,xSub_i,hw1,min33,max33,clp_mm];have hq1:=clp_le (a:=mo) (k:=mr.length-1);generalize clp mo (mr.length-1)=q at hq1;have hqm:q<mr.length:=by omega
 have hmq:=List.getElem?_eq_getElem hqm;generalize mr[q]=p at hmq;obtain⟨mb,po⟩:=p;obtain⟨cells,e1,hcm⟩:=hx.ms q _ hmq;have e1:po= .row .own 1 cells:=e1;subst e1;have hpq:(ptsOf mr)[q]?=some (pt mb):=by unfold ptsOf;rw[List.getElem?_map,hmq];rfl
 obtain⟨b1,o1,cs1,f1,f2,f3⟩:=hsv.at (k:=.i64) hpq;have l2:=st1.ldS f2 f3;simp only[f1,l2,vb_some];have hsplit:mr=mr.take q++(mb,.row .own 1 cells)::mr.drop (q+1):=by
  have hd:mr.drop q=(mb,.row .own 1 cells)::mr.drop (q+1):=by rw[List.drop_eq_getElem_cons hqm,(List.getElem?_eq_some_iff.1 hmq).2]
  rw[<-hd,List.take_append_drop]
 have st2:Sl h0 h1 S OM.emp (((e,.row .own 1 [.int .i64 0,.int .i64 0,.int .i64 0,.int .i64 0,.int .i64 0])::mr.take q)++(mb,.row .own 1 cells)::(mr.drop (q+1)++rows)):=by
  have:=st1;rw[hsplit]at this;simpa using this
 have okh1:=st1.ok;have ho:=mdo_of (h:=h1) (l:=l) hn (by omega) dp.toDsp hin hok hk (q:=q) (by omega);refine Ret.hb (c48 hn hD dp ho hcm st2) fun z h2 ⟨S2,cells',d,le2,st3,hcm',hdv,hd⟩=>?_;have okh2:=st3.ok;have z1:=c47 (n:=n) (cl:=cl) (h:=h2.fzn) (a:=(i:Nat)) hn st3.anyS hdv hd.1.1 (by have:=hd.2;omega) (hb.mono le2) hbl hby
 have hci:clp ((i:Nat):Int) bs.length=i:=by unfold clp;split<;>omega
 rw[hci]at z1;have hwi:IntKind.i64.wrap (((bs.length:Nat):Int)-((i:Nat):Int))=((bs.length-i:Nat):Int):=by rw[wrap_in (by omega) (by omega)];omega
 simp only[z1,vb_some,scV,xExt_t',List.getElem?_cons_zero,List.getElem?_cons_succ,hwi,vM_eq,ab41];refine Ret.lalloc st3 zc41 fun h3 t st4=>?_;refine Ret.lstA st4 0 rfl rfl rfl (Nat.le_refl 5) rfl fun h4 st5=>?_;have hmn:(if((bs.length-i:Nat):Int)<((1:Nat):Int)then((bs.length-i:Nat):Int)else((1:Nat):Int))=((if bs.length-i<1 then bs.length-i else 1:Nat):Int):=by split<;>split<;>omega
 rw[hmn]at st5;generalize hsc:scn d (bs.drop i) 0 0 (-1) 0=sc at z1 st5;obtain⟨z,ln,lk⟩:=sc;have st5:Sl h0 h4 S2 OM.emp ((t,.row .own 1 (tkv ⟨-2,i,((if bs.length-i<1 then bs.length-i else 1:Nat):Int),lk,q⟩))::(e,.row .own 1 [.int .i64 0,.int .i64 0,.int .i64 0,.int .i64 0,.int .i64 0])::(mr.take q++(mb,.row .own 1 cells')::(mr.drop (q+1)++rows))):=st5;have okh4:=st5.ok;obtain⟨ru,hru,hcs⟩:=hcm'.h;have hru0:cells'[0]?=some ru:=by rcases hcs with rfl|⟨_,_,_,rfl,_⟩<;>rfl
 have hmem:(mb,AObj.row .own 1 cells')∈((t,AObj.row .own 1 (tkv ⟨-2,i,((if bs.length-i<1 then bs.length-i else 1:Nat):Int),lk,q⟩))::(e,.row .own 1 [.int .i64 0,.int .i64 0,.int .i64 0,.int .i64 0,.int .i64 0])::(mr.take q++(mb,.row .own 1 cells')::(mr.drop (q+1)++rows))):=.tail _ (.tail _ (List.mem_append_right _ (.head _)));have l3:xLd (.pointer (some ⟨mb,0,none⟩)) h4=some ru:=st5.ld hmem hru0;have w1:=c49 (n:=n) (cl:=cl) (h:=h4.fzn) (i:=z) (k:=((rulesOf l.rules (q:Nat)).length:Nat));simp only[xNil_p,xFld_p,Nat.zero_add,l3,vb_some,hru.rlen,w1,xNot_b];have hset:mr.set q (mb,.row .own 1 cells')=mr.take q++(mb,.row .own 1 cells')::mr.drop (q+1):=List.set_eq_take_append_cons_drop.trans (by rw[if_pos hqm]);have fin: ∀(h5:PH),Sl h0 h5 S2 OM.emp (mr.take q++(mb,.row .own 1 cells')::(mr.drop (q+1)++rows))->Sl h0 h5 S2 OM.emp (mr.set q (mb,.row .own 1 cells')++rows)/\LexP S2 l x (mr.set q (mb,.row .own 1 cells')):=by
  intro h5 st;refine⟨by rw[hset];simpa using st,⟨sv,le2 _ _ hsx,?_⟩,by rw[List.length_set];exact hml,fun k p hp=>?_⟩
  ·rw[show ptsOf (mr.set q (mb,.row .own 1 cells'))=ptsOf mr from ?_]
   ·exact hsv.mono le2
   ·unfold ptsOf;rw[List.map_set]
    apply List.ext_getElem?
    intro k
    by_cases hk:q=k
    ·subst hk;rw[List.getElem?_set_self (by rw[List.length_map];exact hqm)];exact hpq.symm
    ·rw[List.getElem?_set_ne hk]
  ·by_cases hk:q=k
   ·subst hk;rw[List.getElem?_set_self hqm]at hp;cases hp;exact⟨_,rfl,hcm'⟩
   ·rw[List.getElem?_set_ne hk]at hp;exact hx.ms.mono le2 k p hp
 have l4:xLdA 5 (pt t) h4=some (.agg ⟨tkv ⟨-2,i,((if bs.length-i<1 then bs.length-i else 1:Nat):Int),lk,q⟩⟩):=st5.ldA (.head _) rfl (Nat.le_refl 5)
 by_cases hw:0<=z/\z<((rulesOf l.rules (q:Nat)).length:Int)
 ·have d1:(!decide (0<=z/\z<((rulesOf l.rules (q:Nat)).length:Int)))=false:=by simp[hw]
  obtain⟨k,rfl⟩: ∃k:Nat,z=(k:Nat):=⟨z.toNat,by omega⟩;have hk:k<(rulesOf l.rules (q:Nat)).length:=by omega
  have hrk:=List.getElem?_eq_getElem hk;generalize(rulesOf l.rules (q:Nat))[k]=r at hrk;obtain⟨bb,oo,cs,es,g1,g2,g3,g4,g5⟩:=hru.rat (k:=.i64) hrk;have g1:xIdxS 4 ru (.int .i64 (k:Nat))=some (.pointer (some ⟨bb,oo,none⟩)):=g1;have g5:es=rvs r:=g5;subst g5;have hcell: ∀j<4,cs[oo+j]?=(rvs r)[j]?:=fun j hj=>by
   have:=congrArg (fun q=>q[j]?) g3;simp only[List.getElem?_take,List.getElem?_drop]at this;rw[if_pos (show j<rLR.sz from hj)]at this;exact this
  have l5:xLd (.pointer (some ⟨bb,oo+3,none⟩)) h4=some (.int .i64 r.kind):=st5.ldS g2 (hcell 3 (by decide));simp only[d1,bite_f,F22_1,xNil_p,xFld_p,Nat.zero_add,l3,vb_some,g1,l5];refine Ret.lst1 st5 0 rfl rfl (show 0<5 by decide) rfl fun h5 st6=>?_;refine Ret.lst1 st6 0 rfl rfl (show 2<5 by decide) rfl fun h6 st7=>?_;have st7:Sl h0 h6 S2 OM.emp ((t,.row .own 1 (tkv ⟨r.kind,i,ln,lk,q⟩))::(e,.row .own 1 [.int .i64 0,.int .i64 0,.int .i64 0,.int .i64 0,.int .i64 0])::(mr.take q++(mb,.row .own 1 cells')::(mr.drop (q+1)++rows))):=st7;have l6:xLdA 5 (pt t) h6=some (.agg ⟨tkv ⟨r.kind,i,ln,lk,q⟩⟩):=st7.ldA (.head _) rfl (Nat.le_refl 5);have l7:xLd (.pointer (some ⟨mb,0,none⟩)) h6=some ru:=st7.ld (.tail _ (.tail _ (List.mem_append_right _ (.head _)))) hru0;have l8:xLd (.pointer (some ⟨bb,oo+2,none⟩)) h6=some (.int .i64 r.next):=st7.ldS g2 (hcell 2 (by decide));simp only[l6,l7,vb_some,g1,xFld_p,l8];refine Ret.lstA st7 1 rfl rfl rfl (Nat.le_refl 5) rfl fun h7 st8=>?_;have st8:Sl h0 h7 S2 OM.emp ((t,.row .own 1 (tkv ⟨r.kind,i,ln,lk,q⟩))::(e,.row .own 1 (tkv ⟨r.kind,i,ln,lk,q⟩))::(mr.take q++(mb,.row .own 1 cells')::(mr.drop (q+1)++rows))):=st8;have l9:xLd (.pointer (some ⟨mb,0,none⟩)) h7=some ru:=st8.ld (.tail _ (.tail _ (List.mem_append_right _ (.head _)))) hru0;have l10:xLd (.pointer (some ⟨bb,oo+2,none⟩)) h7=some (.int .i64 r.next):=st8.ldS g2 (hcell 2 (by decide));have l11:xLdA 5 (pt e) h7=some (.agg ⟨tkv ⟨r.kind,i,ln,lk,q⟩⟩):=st8.ldA (.tail _ (.head _)) rfl (Nat.le_refl 5);have vr:Go.Am.veq ru ru=true:=by
   rcases hru with⟨he,_⟩|⟨b,o,c,cs,rfl,_⟩
   ·rw[he]at hk;simp at hk
   ·exact veq_sl
  simp only[l9,l10,l11,lchk_t vr,lchk_t veq_i,vb_some];obtain⟨s1,s2⟩:=fin h7 (st8.drop ((List.sublist_cons_self _ _).trans (List.sublist_cons_self _ _)));exact Ret.of ⟨S2,_,d,le2,s1,s2,hd.1,by rw[oneT_some hsc hrk]⟩
 ·have d1:(!decide (0<=z/\z<((rulesOf l.rules (q:Nat)).length:Int)))=true:=by simp[hw]
  simp only[d1,bite_t,F22_0,l4,vb_some];refine Ret.lstA st5 1 rfl rfl rfl (Nat.le_refl 5) rfl fun h5 st6=>?_;have st6:Sl h0 h5 S2 OM.emp ((t,.row .own 1 (tkv ⟨-2,i,((if bs.length-i<1 then bs.length-i else 1:Nat):Int),lk,q⟩))::(e,.row .own 1 (tkv ⟨-2,i,((if bs.length-i<1 then bs.length-i else 1:Nat):Int),lk,q⟩))::(mr.take q++(mb,.row .own 1 cells')::(mr.drop (q+1)++rows))):=st6;have l11:xLdA 5 (pt e) h5=some (.agg ⟨tkv ⟨-2,i,((if bs.length-i<1 then bs.length-i else 1:Nat):Int),lk,q⟩⟩):=st6.ldA (.tail _ (.head _)) rfl (Nat.le_refl 5);simp only[l11,vb_some];obtain⟨s1,s2⟩:=fin h5 (st6.drop ((List.sublist_cons_self _ _).trans (List.sublist_cons_self _ _)));exact Ret.of ⟨S2,_,d,le2,s1,s2,hd.1,by rw[oneT_none hsc hw]⟩
end
end Go.Am
