import Derived.Test.YthnhjgeneeflaaaZG
import Derived.Test.YthnhjgeneeflaaaZE
import Derived.Test.YthnhjgeneeflaaaZC
import Derived.Test.YthnhjgeneeflaaaZS
import Derived.Test.YthnhjgeneeflaaaZD
import Derived.Test.YthnhjgeneeflaaaRows
set_option linter.unusedSimpArgs false
set_option linter.unusedVariables false
namespace Go.Am
open Go Go.RowKit Go.Proofs
theorem gok_of{g:Gr}(h:goodB g=true):GOk g:=by
 obtain⟨a1,a2,a3,a4,a5,a6,a7⟩:=goodB_whole h;exact⟨a7,fun r hr=>(goodB_rule h hr).1,fun r hr=>(goodB_rule h hr).2.1,fun r hr=>(goodB_rule h hr).2.2,a5,⟨a1,a2⟩,⟨a3,a4⟩⟩
structure RunP(g:Gr)(ks:List Int)(v:Value)(V:Vw):Prop where
 h: ∃(bp c:Nat),v= .tuple ⟨[pt bp,.int .i64 (c:Nat)]⟩/\c<=ks.length/\(∀j,j<=c-> ∃x,EI g ks j x)/\(c<ks.length-> ∀x, ¬ EI g ks (c+1) x)/\
  (c=ks.length-> ∃(cs:List Value) (allv lv:Value) (l:List It3),V bp=some cs/\cs[8]?=some allv/\(∃b o cp cs2,allv= .slice (some ⟨b,o,none⟩) (c+1) cp/\V b=some cs2/\cs2[o+c]?=some lv)/\SlC V 3 lv l.length (l.flatMap itc)/\l.Nodup/\ ∀x,x∈l↔EI g ks c x)
theorem RunP.mono{g:Gr}{ks:List Int}(v:Value)(V W:Vw)(hs:Vw.le V W)(p:RunP g ks v V):RunP g ks v W:=by
 obtain⟨bp,c,h1,h2,h3,h4,h5⟩:=p.h;refine⟨bp,c,h1,h2,h3,h4,fun e=>?_⟩;obtain⟨cs,allv,lv,l,q1,q2,⟨b,o,cp,cs2,q3,q4,q5⟩,q6,q7⟩:=h5 e;exact⟨cs,allv,lv,l,hs _ _ q1,q2,⟨b,o,cp,cs2,q3,hs _ _ q4,q5⟩,q6.mono hs,q7⟩
section
variable {Q:Value->PH->Prop}{n:Nat}{cl:CL}{h h0:PH}{S:Vw}{m:OM}{rows rest rows1:Rws}{bp:Nat}{g:Gr}{rv fv cv kv nv:Value}{past:List (List It3)}{cur:List It3}{ks:List Int}
theorem VS0.fin(st:Sl h0 h S m rows)(vs:VS0 S bp g rv fv cv kv nv past rows rest){c:Nat}{l:List It3}(hc:past.length=c+1)(hl:past[c]?=some l):
  ∃S',VwN h0 S S'/\Sl h0 h S' m rest/\ ∃cs allv lv,S' bp=some cs/\cs[8]?=some allv/\(∃b o cp cs2,allv= .slice (some ⟨b,o,none⟩) (c+1) cp/\S' b=some cs2/\cs2[o+c]?=some lv)/\SlC S' 3 lv l.length (l.flatMap itc):=by
 obtain⟨allv,inv,cA,cI,exA,exI,rfl,gA,gI,hpast⟩:=vs.h;obtain⟨S1,le1,st1,hA⟩:=Gl.settleV st gA;obtain⟨S2,le2,st2,hI⟩:=Gl.settleV st1 gI;have hn:=(st2.sm.own bp _ (st2.mem (.head _))).2;obtain⟨st3,hS⟩:=st2.settle (i:=0) rfl;have le3:=VwN.put (h0:=h0) hS hn (cs:=gcs g rv fv cv kv++[nv,allv,inv]);obtain⟨lv,q1,q2⟩:=hpast c l hl;refine⟨_,(le1.trans le2).trans le3,st3,_,allv,lv,Vw.put_self,rfl,?_,q2.mono ((le1.trans le2).trans le3).1⟩;rcases hA.mono (le2.trans le3).1 with⟨e,_⟩|⟨b,o,cp,cs2,rfl,e1,e2,rfl⟩
 ·omega
 ·refine⟨b,o,cp,cs2,by rw[hc],e1,?_⟩;rw[List.getElem?_take]at q1
  split at q1
  ·rw[List.getElem?_drop]at q1;exact q1
  ·cases q1
theorem VS0.nil{b:Nat}:VS0 S b g rv fv cv kv nv [] ((b,.row .own 1 (gcs g rv fv cv kv++[nv,nils,nils]))::rest) rest:=
 ⟨nils,nils,[],[],[],[],rfl,Gl.nil,Gl.nil,fun i l hi=>by simp at hi⟩
theorem loop17(hn:9223372036854775808<=n)(hg:GOk g){kvs:Value}(kl:ks.length<=40):
  ∀(q i fu:Nat)(S S0:Vw)(past:List (List It3))(cur:List It3)(rows:Rws)(h:PH),ks.length=i+q->q<fu->past.length=i->GrV S g rv fv cv kv->NlV S g nv->RdV (rI .i64) S kvs ks->VwN h0 S0 S->Sl h0 h S OM.emp rows->VS S bp g rv fv cv kv nv past cur rows rest->Whole g ks (past++[cur])->
   (∀j,j<=i-> ∃x,EI g ks j x)->
   Ret (lp fu (F17_4 n cl) [kvs,pt bp,kvs,.int .i64 (ks.length:Nat),.int .i64 (i:Nat)] h) fun v h'=> ∃S',VwN h0 S0 S'/\Sl h0 h' S' OM.emp []/\RunP g ks v S':=by
 intro q
 induction q with
 |zero=>
  intro i fu S S0 past cur rows h hq hf hp gv nl rk le st vs f hne;obtain⟨fu,rfl⟩: ∃q,fu=q+1:=⟨fu-1,by omega⟩;rw[lp_succ];have dc:decide (((i:Nat):Int)<((ks.length:Nat):Int))=false:=decide_eq_false (by omega);simp only[F17_4,ucons_cons,F17_3,xLt_i,dc,vb_some,bite_f,F17_2,rk.lenV];obtain⟨S1,rows1,le1,st1,vs1⟩:=vs.end st;subst hp;obtain⟨S2,le2,st2,cs,allv,lv,q1,q2,q3,q4⟩:=vs1.fin st1 (c:=past.length) (l:=cur) (by simp) (app_last);have fl:=f past.length cur (app_last);have e:ks.length=past.length:=by omega
  exact Ret.of ⟨S2,(le.trans le1).trans le2,st2.drop (List.nil_sublist _),bp,ks.length,rfl,Nat.le_refl _,fun j hj=>hne j (by omega),fun h=>absurd h (Nat.lt_irrefl _),fun _=>⟨cs,allv,lv,cur,q1,q2,e▸q3,q4,e▸fl⟩⟩
 |succ q ih=>
  intro i fu S S0 past cur rows h hq hf hp gv nl rk le st vs f hne;obtain⟨fu,rfl⟩: ∃q,fu=q+1:=⟨fu-1,by omega⟩;rw[lp_succ];have dc:decide (((i:Nat):Int)<((ks.length:Nat):Int))=true:=decide_eq_true (by omega);have hk:=List.getElem?_eq_getElem (l:=ks) (i:=i) (by omega);generalize ks[i]=k at hk;obtain⟨b,o,cs,e1,e2,e3⟩:=rk.atI hk;have lk:xLd (.pointer (some ⟨b,o,none⟩)) h=some (.int .i64 k):=st.ldS e2 e3;simp only[F17_4,ucons_cons,F17_3,xLt_i,dc,vb_some,bite_t,F17_1,e1,lk];refine Ret.hb (c35 hn hg gv nl kl f (by rw[hp];exact hk) st vs) fun v h' hv=>?_;obtain⟨bb,S1,rows1,rfl,le1,st1,hv⟩:=hv;rcases hv with⟨rfl,hno⟩|⟨rfl,cur1,vs1,f1,hc1⟩
  ·simp only[xNot_b,Bool.not_false,vb_some,bite_t];refine Ret.of ⟨S1,le.trans le1,st1.drop (List.nil_sublist _),bp,i,rfl,by omega,hne,fun _=>by rw[<-hp];exact hno,fun e=>by omega⟩
  ·simp only[xNot_b,Bool.not_true,vb_some,bite_f,F17_0,vN_eq,xAdd_i,show(((1:Nat):Int))=1 from rfl,wrap1 (i:=i) (by omega)];refine ih (i+1) fu S1 S0 (past++[cur]) cur1 rows1 h' (by omega) (by omega) (by simp[hp]) (gv.mono le1.1) (nl.mono le1.1) (rk.mono le1.1) (le.trans le1) st1 vs1 f1 fun j hj=>?_
   by_cases e:j<=i
   ·exact hne j e
   ·have e:j=i+1:=by omega
    subst e;obtain⟨x,hx⟩:=List.exists_mem_of_ne_nil _ hc1;refine⟨x,?_⟩;have:=(f1 (i+1) cur1 (by rw[List.getElem?_append_right (by simp[hp])];simp[hp])).2 x;exact this.1 hx
theorem ab51{b nn c:Nat}:abuild Try.prog 51 [(0,.agg ⟨gcs g rv fv cv kv⟩),(1,.slice (some ⟨b,0,none⟩) nn c)]=some (.agg ⟨gcs g rv fv cv kv++[.slice (some ⟨b,0,none⟩) nn c,nils,nils]⟩):=by kernel_rfl
theorem ab53':abuild Try.prog 53 [(0,vM 0)]=some (.agg ⟨[.int .i64 (-1),.int .i64 0]⟩):=by kernel_rfl
theorem ab55':abuild Try.prog 55 [(0,.agg ⟨[.int .i64 (-1),.int .i64 0]⟩)]=some (.agg ⟨itc (-1,0,0)⟩):=by kernel_rfl
theorem c17[OkH h]{ih:CL}{kvs:Value}(hn:9223372036854775808<=n)(hgood:goodB g=true)(hG:GIn g)(hS:Vw.le S h.cells)(gv:GrV S g rv fv cv kv)(hv:veq (.agg ⟨gcs g rv fv cv kv⟩) (.agg ⟨gcs g rv fv cv kv⟩)=true)(rk:RdV (rI .i64) S kvs ks)(kl:ks.length<=40):
  Ret (F17 n (CLy n ih) (.agg ⟨gcs g rv fv cv kv⟩) kvs h.fzn) fun v h1=> ∃S',VwN h.fzn S S'/\Sl h.fzn h1 S' OM.emp []/\RunP g ks v S':=by
 have hg:=gok_of hgood;unfold F17;refine Ret.lbox (Sl.start h.fzn (fun b cs e=>hS b cs e)) fun h1 c st1=>?_;have st1:Sl h.fzn h1 S OM.emp [(c,.row .own 1 (gcs g rv fv cv kv))]:=st1;have la:xLdA 7 (.pointer (some ⟨c,0,none⟩)) h1=some (.agg ⟨gcs g rv fv cv kv⟩):=st1.ldA (.head _) rfl (by simp);have okh:=st1.ok;simp only[la,vb_some];have r1:=gv.rd (h:=h1) (fun b cs e=>st1.leS b cs e);refine Ret.lfcall st1 (fr_nul (S:=S) (fun b cs e=>st1.leS b cs e) hgood (c31 (h:=h1) (ih:=ih) hn r1 hG)) fun v h2 ex hv2 st2=>?_;obtain⟨bn,md,e,cn,nul,rfl,hnul,rfl⟩:=hv2;have la2:xLdA 7 (.pointer (some ⟨c,0,none⟩)) h2=some (.agg ⟨gcs g rv fv cv kv⟩):=st2.ldA (.tail _ (.head _)) rfl (by simp);simp only[la2,lchk_t hv,ab51,vb_some];have hnn:=(st2.sm.own bn _ (st2.mem (.head _))).2;obtain⟨st3,hSn⟩:=st2.settle (i:=0) rfl;have le3:=VwN.put (h0:=h.fzn) hSn hnn (cs:=bv nul);have st3:Sl h.fzn h2 (S.put bn (bv nul)) OM.emp [(c,.row .own 1 (gcs g rv fv cv kv))]:=st3;have nl:NlV (S.put bn (bv nul)) g (.slice (some ⟨bn,0,none⟩) g.names.toNat cn):=⟨nul,bn,cn,hnul,rfl,Vw.put_self⟩;refine Ret.lbox st3 fun h4 bp st4=>?_;have gv4:=gv.mono le3.1;have rk4:=rk.mono le3.1;refine Ret.hb (c33 st4 (VS0.nil (rest:=[(c,.row .own 1 (gcs g rv fv cv kv))])) (by simp)) fun v5 h5 hv5=>?_;obtain⟨rfl,rows5,st5,vs5⟩:=hv5;simp only[ab53',ab55',vb_some];refine Ret.hb (c32 (past:=[]) st5 vs5 (by simp)) fun v6 h6 hv6=>?_;obtain⟨rfl,rows6,st6,vs6⟩:=hv6;have ha:addI [] ((-1,0,0):It3)=[(-1,0,0)]:=rfl;rw[ha]at vs6;have pl0:Pl g ks []:=⟨kl,by simp,fun i l hi=>by simp at hi⟩;refine Ret.hb (c34 (past:=[]) hn hg gv4 nl pl0 st6 vs6 (by simp) (fun y hy=>by rw[List.mem_singleton]at hy;subst hy;exact .start)) fun v7 h7 hv7=>?_;obtain⟨rfl,rows7,cur7,st7,vs7,w7,hc7⟩:=hv7;have h07:((-1,0,0):It3)∈cur7:=w7.sub (.head _);have F:Whole g ks ([]++[cur7]):=Whole.snoc hg (fun j l hj=>by simp at hj) w7.nd w7.ei hc7 (fun _=>h07) (fun j x s k e=>by simp at e);simp only[rk4.lenV,vb_some,vN_eq];exact loop17 hn hg kl ks.length 0 n _ S [] cur7 rows7 h7 (by omega) (by omega) rfl gv4 nl rk4 le3 st7 vs7 F fun j hj=>⟨(-1,0,0),by
  have:j=0:=by omega
  subst this;exact .start⟩
end
theorem alive6_run:isT (F6 3000 (CLV 3000 30) h00)=true:=by kernel_rfl
noncomputable def CLU(n d:Nat):CL:=CLy n (CLV n d)
theorem CLU_ok(n d:Nat):OkCL Try.prog (CLU n d):=by
 obtain⟨k,hk⟩:=isT_ok alive6_run;have:=(S6 _ (CLV_ok _ _)).c0 hk;refine toldOr_ok (CLs_ok (CLV_ok n d)) this.1.1 rfl ?_;have hc:=this.1.2;have h0:h00.abs=[]:=rfl;rw[h0]at hc;exact hc.mono fun u k hq=>hq.1
theorem told6{n d:Nat}{h:PH}:pcall (CLU n d 6 [] h)=some (.bool true):=rfl
theorem clu39{n d:Nat}{u v w x:Value}{h:PH}:CLU n d 39 [u,v,w,x] h=CLV n (d+1) 39 [u,v,w,x] h:=rfl
theorem ChkQ.zero{g:Gr}{x:Int×Int}(q:ChkQ g x)(h:x.2=0):goodB g=true:=by
 cases q with
 |bad hb=>
  unfold goodB at hb;simp only[h]at hb;simp at hb
 |good ha _ _ _=>exact ha
structure Pre(g:Gr)(ks:List Int)(c:Nat):Prop where
 le:c<=ks.length
 yes: ∀j,j<=c-> ∃x,EI g ks j x
 no:c<ks.length-> ∀x, ¬ EI g ks (c+1) x
theorem Pre.det{g:Gr}{ks:List Int}{c d:Nat}(p:Pre g ks c)(q:Pre g ks d):c=d:=by
 rcases Nat.lt_trichotomy c d with h|h|h
 ·obtain⟨x,hx⟩:=q.yes (c+1) (by omega);exact absurd hx (p.no (by have:=q.le;omega) x)
 ·exact h
 ·obtain⟨x,hx⟩:=p.yes (d+1) (by omega);exact absurd hx (q.no (by have:=p.le;omega) x)
section
variable {Q:Value->PH->Prop}{n:Nat}{cl ih:CL}{h h0:PH}{S:Vw}{m:OM}{rows rest rows1:Rws}{bp:Nat}{g:Gr}{rv fv cv kv nv kvs:Value}{past:List (List It3)}{cur:List It3}{ks:List Int}
theorem c16[OkH h](hn:9223372036854775808<=n)(hG:GIn g)(hS:Vw.le S h.cells)(gv:GrV S g rv fv cv kv)(hv:veq (.agg ⟨gcs g rv fv cv kv⟩) (.agg ⟨gcs g rv fv cv kv⟩)=true):
  ∃x,ChkQ g x/\pcall (F16 n (CLy n ih) (.agg ⟨gcs g rv fv cv kv⟩) h.fzn)=some (.bool (decide (x.2=0))):=by
 have key:Ret (F16 n (CLy n ih) (.agg ⟨gcs g rv fv cv kv⟩) h.fzn) fun u _=> ∃x,ChkQ g x/\u= .bool (decide (x.2=0)):=by
  unfold F16;refine Ret.lbox (Sl.start h.fzn (fun b cs e=>hS b cs e)) fun h1 c st1=>?_;have st1:Sl h.fzn h1 S OM.emp [(c,.row .own 1 (gcs g rv fv cv kv))]:=st1;have la:xLdA 7 (.pointer (some ⟨c,0,none⟩)) h1=some (.agg ⟨gcs g rv fv cv kv⟩):=st1.ldA (.head _) rfl (by simp);have okh:=st1.ok;have r1:=gv.rd (h:=h1) (fun b cs e=>st1.leS b cs e);obtain⟨x,q,e⟩:=c30 (h:=h1) (ih:=ih) hn r1 hG hv;simp only[la,vb_some,e,xExt_t',List.getElem?_cons_zero,List.getElem?_cons_succ,vN_eq,show(((0:Nat):Int))=0 from rfl,xEq_i];exact Ret.of ⟨x,q,rfl⟩
 obtain⟨v,h',e,x,q,rfl⟩:=key;exact⟨x,q,by rw[e];rfl⟩
theorem c8[OkH h](hn:9223372036854775808<=n)(hG:GIn g)(hS:Vw.le S h.cells)(gv:GrV S g rv fv cv kv)(hv:veq (.agg ⟨gcs g rv fv cv kv⟩) (.agg ⟨gcs g rv fv cv kv⟩)=true)(rk:RdV (rI .i64) S kvs ks)(kl:ks.length<=40):
  ∃x c,ChkQ g x/\(x.2=0->Pre g ks c)/\pcall (F8 n (CLy n ih) (.agg ⟨gcs g rv fv cv kv⟩) kvs h.fzn)=some (.int .i64 (if x.2=0 then(c:Nat)else 0)):=by
 have key:Ret (F8 n (CLy n ih) (.agg ⟨gcs g rv fv cv kv⟩) kvs h.fzn) fun u _=> ∃(x:Int×Int) (c:Nat),ChkQ g x/\(x.2=0->Pre g ks c)/\u= .int .i64 (if x.2=0 then(c:Nat)else 0):=by
  unfold F8;refine Ret.lbox (Sl.start h.fzn (fun b cs e=>hS b cs e)) fun h1 c st1=>?_;have st1:Sl h.fzn h1 S OM.emp [(c,.row .own 1 (gcs g rv fv cv kv))]:=st1;have la:xLdA 7 (.pointer (some ⟨c,0,none⟩)) h1=some (.agg ⟨gcs g rv fv cv kv⟩):=st1.ldA (.head _) rfl (by simp);have okh:=st1.ok;obtain⟨x,q,e⟩:=c16 (h:=h1) (ih:=ih) hn hG (fun b cs e=>st1.leS b cs e) gv hv;simp only[la,vb_some,e,xNot_b]
  by_cases hx:x.2=0
  ·simp only[decide_eq_true hx,Bool.not_true,bite_f,F8_0,la,vb_some];refine Ret.lfcallV st1 (fun v V W=>RunP.mono v V W) (c17 (h:=h1) (ih:=ih) hn (q.zero hx) hG (fun b cs e=>st1.leS b cs e) gv hv rk kl) fun v h2 S2 le2 st2 hp=>?_;obtain⟨bp,cc,rfl,q2,q3,q4,q5⟩:=hp.h;simp only[xExt_t',List.getElem?_cons_zero,List.getElem?_cons_succ,vb_some];refine Ret.of ⟨x,cc,q,fun _=>⟨q2,q3,q4⟩,by rw[if_pos hx]⟩
  ·simp only[decide_eq_false hx,Bool.not_false,bite_t];exact Ret.of ⟨x,0,q,fun h=>absurd h hx,by rw[if_neg hx];rfl⟩
 obtain⟨v,h',e,x,c,q1,q2,rfl⟩:=key;exact⟨x,c,q1,q2,by rw[e];rfl⟩
end
def Gc(v:Value):Prop:=v=nils\/ ∃b k,v= .slice (some ⟨b,0,none⟩) k openCap
theorem growR_v{sz b k o n:Nat}{kill:Bool}{cs new:List Value}{h h':PH}{v:Value}(hx:growR sz b k o kill cs new n h=some (v,h')): ∃b',v= .slice (some ⟨b',0,none⟩) n openCap:=by
 unfold growR at hx
 split at hx<;>try (cases hx;done)
 split at hx
 ·split at hx<;>try (cases hx;done)
  rw[seqN_eq]at hx;cases hx;exact⟨_,rfl⟩
 ·rw[seqN_eq]at hx;cases hx;exact⟨_,rfl⟩
theorem xApp_gc{ai:Option (Nat×Nat)}{v v' x:Value}{h h':PH}(g:Gc v)(e:xApp ai v x h=some (v',h')):Gc v':=by
 unfold xApp at e
 split at e<;>try (cases e;done)
 split at e<;>try (cases e;done)
 split at e<;>try (cases e;done)
 rcases g with rfl|⟨b,k,rfl⟩
 ·simp only[nils]at e
  split at e
  ·cases e;exact .inl rfl
  ·split at e<;>try (cases e;done)
   split at e<;>try (cases e;done)
   cases e;exact .inr ⟨_,_,rfl⟩
 ·simp only at e
  split at e
  ·split at e<;>try (cases e;done)
   cases e;exact .inr ⟨_,_,rfl⟩
  ·split at e<;>try (cases e;done)
   split at e<;>try (cases e;done)
   split at e<;>try (cases e;done)
   split at e
   ·split at e
    ·split at e<;>try (cases e;done)
     split at e<;>try (cases e;done)
     exact .inr ⟨_,_,(stayR_ok e).1⟩
    ·obtain⟨_,q⟩:=growR_v e;exact .inr ⟨_,_,q⟩
   ·split at e<;>try (cases e;done)
    split at e<;>try (cases e;done)
    split at e<;>try (cases e;done)
    split at e<;>try (cases e;done)
    split at e
    ·exact .inr ⟨_,_,(stayR_ok e).1⟩
    ·obtain⟨_,q⟩:=growR_v e;exact .inr ⟨_,_,q⟩
section
variable {Q:Value->PH->Prop}{n:Nat}{cl:CL}{h h0:PH}{S:Vw}{m:OM}{rows:Rws}{K2:Value->PH->R}
theorem hb_id{X:R}:Go.Am.hb X (fun v h=>some (v,h))=X:=by
 cases X with
 |none=>rfl
 |some p=>rfl
theorem Ret.gappC{ex:Rws}(s:Sl h0 h S m (ex++rows)){P:Program}{T:TypeId}{ats:Array TypeId}{parts:List (Nat×Value)}{sz bt k:Nat}{v:Value}{cells new:List Value}(g:Gl sz v k cells ex)(gc:Gc v)
  (hb:bsRow P T 1 parts=some (sz,new)) (ha:appInfo P ats=some (sz,bt)) (hl:new.length=sz) (hone:oneCells new=true) (hsz:(2*(k+1)+512)*bt<=281474976710656)
  (hk: ∀h' v' ex',Sl h0 h' S m (ex'++rows)->Gl sz v' (k+1) (cells++new) ex'->Gc v'->Ret (K2 v' h') Q):Ret (Go.Am.hb (xBS 1 (bsRow P T 1 parts) h) fun v1 h=>Go.Am.hb (xApp (appInfo P ats) v v1 h) K2) Q:=by
 refine Ret.lbs s hb fun h1 b st=>?_;have st1:=st.perm (rows':=ex++(b,.row .own sz new)::rows) List.perm_middle.symm;have hx:=st1.ptail (n:=1) (sz:=sz) (c:=1) (b:=b) (List.mem_append_right _ (.head _)) (by rw[hl,Nat.one_mul]);rw[ha];have r:=Ret.lapp (bt:=bt) (K2:=fun v h=>some (v,h)) (Q:=fun v' h'=> ∃ex',Sl h0 h' S m (ex'++(b,.row .own sz new)::rows)/\Gl sz v' (k+1) (cells++new) ex') st1 g hx (by rw[hl,Nat.one_mul]) (by omega) hone hsz fun h' v' ex' st' g'=>Ret.of ⟨ex',st',g'⟩;rw[hb_id]at r;obtain⟨v',h',e,ex',st',g'⟩:=r;rw[e];exact hk h' v' ex' (st'.drop (List.Sublist.append (List.Sublist.refl _) (List.sublist_cons_self _ _))) g' (xApp_gc gc e)
end
theorem Sl.float{h0 h:PH}{S:Vw}{m:OM}{rows:Rws}{b:Nat}{o:AObj}(s:Sl h0 h S (m.upd b o) rows)(hm:m b=none):Sl h0 h S m ((b,o)::rows):=by
 have hne:=s.ne (b:=b) (o:=o) OM.upd_self;refine⟨?_,.cons (fun p hp e=>hne p hp e.symm) s.nd,fun p hp=>?_⟩
 ·have e:over ((b,o)::rows) m=over rows (m.upd b o):=over_upd hne;rw[e];exact s.sm
 ·rcases List.mem_cons.1 hp with rfl|hp
  ·exact hm
  ·have h1:=s.out p hp;have h2:=hne p hp
   rwa [OM.upd_ne h2]at h1
theorem fz_zv(l:List Int):fz (fun i=>l.getD i 0) l.length=zv l:=by
 apply List.ext_getElem?
 intro i
 by_cases hi:i<l.length
 ·rw[fz_get hi,zv_get (List.getElem?_eq_getElem hi),List.getD_eq_getElem?_getD,List.getElem?_eq_getElem hi];rfl
 ·rw[List.getElem?_eq_none (by rw[fz_len];omega),List.getElem?_eq_none (by rw[zv_len];omega)]
section
variable {Q:Value->PH->Prop}{n:Nat}{cl ih:CL}{h h0:PH}{S:Vw}{m:OM}{rows rest rows1 ex:Rws}
def Anc(N:Nat)(v:Value):Prop:=v=nils\/ ∃b o n c,v= .slice (some ⟨b,o,none⟩) n c/\N<=b
def Asc(l:List Int):Prop:=l.Pairwise (· < ·)
theorem nil21(hn:9223372036854775808<=n){D:Nat}(h39: ∀u v w x h,cl 39 [u,v,w,x] h=CLV n (D+1) 39 [u,v,w,x] h)[OkH h]:F21 n cl nils h=some (.tuple ⟨[]⟩,h):=by
 unfold F21;obtain⟨n,rfl⟩: ∃k,n=k+1:=⟨n-1,by omega⟩;have hl:xLenS nils=some (.int .i64 ((0:Nat):Int)):=rfl;obtain⟨L,h1,h2,hp⟩:=c40 (n:=n+1) (cl:=cl) (h:=h.fzn) (x:=0) (by omega);simp only[hl,vb_some,xConvI_i',wr64u (show 0<18446744073709551616 by omega),hp,vN_eq,h39,CLV39];unfold F39;rw[lp_succ];simp only[F39_19,ucons_cons,F39_18,xSub_i,xLe_i,vb_some];have d1:decide (IntKind.i64.wrap (((0:Nat):Int)-((0:Nat):Int))<=((12:Nat):Int))=true:=by decide
 simp only[vN_eq,xLe_i,vb_some,d1,bite_t,F39_0];unfold F56;rw[lp_succ];have d2:IntKind.i64.wrap (((0:Nat):Int)+((1:Nat):Int))=1:=by decide
 have d3:decide ((1:Int)<((0:Nat):Int))=false:=by decide
 simp only[vN_eq,xAdd_i,vb_some,d2,F56_5,ucons_cons,F56_4,xLt_i,d3,bite_f,hb_some]
theorem sortC(hn:9223372036854775808<=n){D:Nat}(hD:65536<=D)(h39: ∀u v w x h,cl 39 [u,v,w,x] h=CLV n (D+1) 39 [u,v,w,x] h){v:Value}{l:List Int}(hl:l.length<=65536)(st:Sl h0 h S OM.emp (ex++rows))(g:Gl 1 v l.length (zv l) ex)(gc:Gc v)
  (hQ: ∀v' h' S' l',VwN h0 S S'->Sl h0 h' S' OM.emp rows->RdV (rI .i64) S' v' l'->Asc l'->(∀x,x∈l'↔x∈l)->Anc h0.n v'->Q v' h'):
  Ret (Go.Am.hb (F21 n cl v h) fun b h=>Go.Am.hb (F22 n cl v h) fun c h=>some (c,h)) Q:=by
 rcases g.h with⟨h1,h2,rfl,rfl⟩|⟨b,o,cap,all,rfl,rfl,h2,h3,h4,h5,h6⟩
 ·have hl0:l=[]:=List.length_eq_zero_iff.1 h1;subst hl0;have ok:=st.ok;rw[nil21 hn h39];have hlen:xLenS nils=some (.int .i64 ((0:Nat):Int)):=rfl;have d:decide (((0:Nat):Int)<((2:Nat):Int))=true:=by decide
  unfold F22;simp only[hb_some,hlen,vN_eq,xLt_i,vb_some,d,bite_t];exact Ret.of (hQ nils h S [] VwN.refl st (.inl ⟨rfl,none,0,rfl⟩) .nil (fun x=>Iff.rfl) (.inl rfl))
 ·obtain⟨rfl,rfl⟩:o=0/\cap=openCap:=by
   rcases gc with e|⟨b',k',e⟩
   ·cases e
   ·cases e;exact⟨rfl,rfl⟩
  have h3:0+l.length*1<=all.length:=h3;rw[Nat.mul_one]at h2 h3;have hall:all=all.take 0++(fz (fun i=>l.getD i 0) l.length++all.drop (0+l.length)):=by
   rw[fz_zv,h2, <-List.drop_drop,List.take_append_drop,List.take_append_drop]
  have hto:(all.take 0).length=0:=by rw[List.length_take];omega
  obtain⟨st1,hm⟩:=st.sink (i:=0) rfl;have st1:Sl h0 h S (SM b .opn (all.take 0) (all.drop (0+l.length)) l.length (fun i=>l.getD i 0)) rows:=by
   unfold SM;rw[<-hall];exact st1
  have hv:(Value.slice (some ⟨b,0,none⟩) l.length openCap)=sv b (all.take 0) l.length openCap:=by
   unfold sv;rw[hto]
  rw[hv];have hc:CapOk l.length openCap:=CapOk.opn (by omega);refine Ret.hb (c21 (md:=.opn) rfl (by omega) (by omega) (show l.length<=D by omega) h39 st1) fun v1 h1' ⟨f1,q1,q2,st2⟩=>?_;refine Ret.hb (c22 (md:=.opn) rfl (by omega) hc (by omega) q2 st2) fun v2 h2' hv2=>?_;obtain⟨K,f2,post',hK,⟨o1,o2,o3⟩,rfl,st3⟩:=hv2;have st4:=Sl.float (m:=OM.emp) (b:=b) st3 rfl;obtain⟨st5,hS⟩:=st4.settle (i:=0) rfl;have hn':=(st4.sm.own b _ (st4.mem (.head _))).2;have le:=VwN.put (h0:=h0) hS hn' (cs:=all.take 0++(fz f2 K++post'));refine Ret.of (hQ _ h2' _ ((List.range K).map f2) le st5 (.inr ⟨b,0,openCap,_,by unfold sv;rw[hto];simp,Vw.put_self,fun i z hz=>?_⟩) ?_ (fun x=>?_) (.inr ⟨b,_,_,_,rfl,hn'⟩))
  ·rw[List.getElem?_map,Option.map_eq_some_iff]at hz;obtain⟨j,hj,rfl⟩:=hz;obtain⟨hiK,rfl⟩:i<K/\i=j:=by
    obtain⟨a,b⟩:=List.getElem?_eq_some_iff.1 hj;simp at a b;exact⟨a,b⟩
   have hg:=sGet (pre:=all.take 0) (f:=f2) (post:=post') hiK;rw[hto]at hg;have hlt:=(List.getElem?_eq_some_iff.1 hg).1;refine⟨by show 0+i*1+1<=_;omega,?_⟩
   show((all.take 0++(fz f2 K++post')).drop (0+i*1)).take 1=[.int .i64 (f2 i)]
   rw[Nat.mul_one,List.drop_eq_getElem_cons hlt,List.take_succ_cons];exact congrArg (fun x=>[x]) (List.getElem?_eq_some_iff.1 hg).2
  ·unfold Asc;rw[List.pairwise_map];refine List.Pairwise.imp_of_mem (R:=(· < ·)) (fun {a b} ha hb hab=>o1 a b hab (List.mem_range.1 hb)) ?_;exact List.pairwise_lt_range
  ·have hsw: ∀z,(∃i,i<l.length/\f1 i=z)↔z∈l:=fun z=>by
    constructor
    ·rintro⟨i,hi,rfl⟩;obtain⟨j,hj,e⟩:=q1.from (k:=i) ⟨Nat.zero_le _,hi⟩;rw[e]
     show l.getD j 0∈l
     have hj':j<l.length:=hj.2;rw[List.getD_eq_getElem?_getD,List.getElem?_eq_getElem hj'];exact List.getElem_mem hj'
    ·intro hz;obtain⟨i,hi⟩:=List.getElem?_of_mem hz;have hi':=(List.getElem?_eq_some_iff.1 hi).1;obtain⟨j,hj,e⟩:=q1.to (k:=i) ⟨Nat.zero_le _,hi'⟩;refine⟨j,hj.2,?_⟩;rw[<-e]
     show l.getD i 0=z
     rw[List.getD_eq_getElem?_getD,hi];rfl
   rw[<-hsw];simp only[List.mem_map,List.mem_range];constructor
   ·rintro⟨j,hj,rfl⟩;obtain⟨i,hi,e⟩:=o3 j hj;exact⟨i,hi,e.symm⟩
   ·rintro⟨i,hi,rfl⟩;obtain⟨j,hj,e⟩:=o2 i hi;exact⟨j,hj,e⟩
end
def outI(g:Gr)(x:It3):List Int:=match behI g x.1 x.2.1 with
 |some s=>if isKind g.kinds s=true then [-1-s]else []
 |none=>if x.1= -1 then [g.kinds]else []
theorem outI_len{g:Gr}{x:It3}:(outI g x).length<=1:=by
 unfold outI
 split<;>split<;>simp
def Nx(g:Gr)(ks:List Int)(k:Int):Prop:= ∃y,EI g ks ks.length y/\k∈outI g y
structure NextP(g:Gr)(ks:List Int)(x:Int×Int)(v:Value)(V:Vw):Prop where
 h: ∃l,RdV (rI .i64) V v l/\Asc l/\ ∀k,k∈l↔x.2=0/\Nx g ks k
theorem NextP.mono{g:Gr}{ks:List Int}{x:Int×Int}(v:Value)(V W:Vw)(hs:Vw.le V W)(p:NextP g ks x v V):NextP g ks x v W:=by
 obtain⟨l,a,b⟩:=p.h;exact⟨l,a.mono hs,b⟩
theorem EI.down{g:Gr}{ks:List Int}{j:Nat}{x:It3}(h:EI g ks j x): ∀i,j=i+1-> ∃y,EI g ks i y:=by
 induction h with
 |start=>intro i e;omega
 |pred hx hb hs' hr hl ih=>exact ih
 |null hx hb hs' hn ih=>exact ih
 |comp hx h1 hr ha hf hy hb ih1 ih2=>exact ih1
 |shift hx hb hs' hk he ih=>intro i e;cases e;exact⟨_,hx⟩
theorem Pre.none{g:Gr}{ks:List Int}{c:Nat}(p:Pre g ks c)(h:c<ks.length){j:Nat}(hj:c<j)(x:It3): ¬ EI g ks j x:=by
 obtain⟨d,rfl⟩: ∃d,j=c+1+d:=⟨j-(c+1),by omega⟩
 clear hj
 induction d generalizing x with
 |zero=>exact p.no h x
 |succ d ih=>
  intro hx;obtain⟨y,hy⟩:=hx.down (c+1+d) rfl;exact ih y hy
section
variable {Q:Value->PH->Prop}{n:Nat}{cl ih:CL}{h h0:PH}{S:Vw}{m:OM}{rows rest rows1 ex:Rws}{g:Gr}{rv fv cv kv kvs:Value}{ks:List Int}
theorem ai24x:appInfo Try.prog #[24,24]=some (1,8):=by kernel_rfl
set_option maxRecDepth 100000 in
theorem loop11(hn:9223372036854775808<=n)(hg:GOk g)(kl:ks.length<=40){D:Nat}(hD:65536<=D)(h39: ∀u v w x h,cl 39 [u,v,w,x] h=CLV n (D+1) 39 [u,v,w,x] h)(gv:GrV S g rv fv cv kv){J:Nat}{l:List It3}{v:Value}{c:Nat}(hl:SlC S 3 v l.length (l.flatMap itc))(ll:l.length<=65536)(hE: ∀y∈l,EI g ks J y)
  (hQ: ∀v' h' S' l',VwN h0 S S'->Sl h0 h' S' OM.emp [(c,.row .own 1 (gcs g rv fv cv kv))]->RdV (rI .i64) S' v' l'->Asc l'->(∀x,x∈l'↔x∈l.flatMap (outI g))->Anc h0.n v'->Q v' h'):
  ∀(q i fu:Nat)(ov:Value)(outs:List Int)(ex:Rws)(h:PH),l.length=i+q->q<fu->Sl h0 h S OM.emp (ex++[(c,.row .own 1 (gcs g rv fv cv kv))])->Gl 1 ov outs.length (zv outs) ex->Gc ov->outs.length<=i->outs=(l.take i).flatMap (outI g)->
   Ret (lp fu (F11_10 n cl) [.pointer (some ⟨c,0,none⟩),ov,v,.int .i64 (l.length:Nat),.int .i64 (i:Nat)] h) Q:=by
 intro q
 induction q with
 |zero=>
  intro i fu ov outs ex h hq hf st gl gc ho he;obtain⟨fu,rfl⟩: ∃q,fu=q+1:=⟨fu-1,by omega⟩;rw[lp_succ];have dc:decide (((i:Nat):Int)<((l.length:Nat):Int))=false:=decide_eq_false (by omega);simp only[F11_10,ucons_cons,F11_9,xLt_i,dc,vb_some,bite_f,F11_8];refine sortC hn hD h39 (by omega) st gl gc fun v' h' S' l' q1 q2 q3 q4 q5 q6=>hQ v' h' S' l' q1 q2 q3 q4 (fun x=>?_) q6;rw[q5,he,List.take_of_length_le (by omega)]
 |succ q ih'=>
  intro i fu ov outs ex h hq hf st gl gc ho he;obtain⟨fu,rfl⟩: ∃q,fu=q+1:=⟨fu-1,by omega⟩;rw[lp_succ];have dc:decide (((i:Nat):Int)<((l.length:Nat):Int))=true:=decide_eq_true (by omega);have hy:=List.getElem?_eq_getElem (l:=l) (i:=i) (by omega);have htk:l.take (i+1)=l.take i++[l[i]]:=by rw[List.take_add_one,hy];rfl
  generalize l[i]=y at hy htk;obtain⟨pq,g1,g2⟩:=hl.itAt hy st;have hyE:=hE y (List.mem_of_getElem? hy);obtain⟨oky,fy,_⟩:=EI.ok hg hyE;simp only[F11_10,ucons_cons,F11_9,xLt_i,dc,vb_some,bite_t,jn_eq,F11_7,g1,g2];refine Ret.lalloc st zc55 fun hA b st1=>?_;refine Ret.lstA st1 0 rfl rfl rfl (by simp) rfl fun hB st2=>?_;rw[setsL_all (by rfl)]at st2;have st2:Sl h0 hB S OM.emp ((b,.row .own 1 (itc y))::(ex++[(c,.row .own 1 (gcs g rv fv cv kv))])):=st2;obtain⟨b1,b2⟩:=beh_box (n:=n) (cl:=cl) st2 gv oky (.head _);have lc:xLdA 7 (.pointer (some ⟨c,0,none⟩)) hB=some (.agg ⟨gcs g rv fv cv kv⟩):=st2.ldA (b:=c) (e:=1) (md:=.own) (cs:=gcs g rv fv cv kv) (by simp) rfl (by simp);have lr:xLd (.pointer (some ⟨b,0,none⟩)) hB=some (.int .i64 y.1):=st2.ld (.head _) rfl;have lk:xLd (.pointer (some ⟨c,1,none⟩)) hB=some (.int .i64 g.kinds):=st2.ld (b:=c) (e:=1) (md:=.own) (cs:=gcs g rv fv cv kv) (by simp) rfl;have okh:=st2.ok;have eM:vM 0= .int .i64 (-1):=rfl;have k20: ∀s,inR s->pcall (F20 n cl (.agg ⟨gcs g rv fv cv kv⟩) (.int .i64 s) hB.fzn)=some (.tuple ⟨[.int .i64 (-1-s),.bool (isKind g.kinds s)]⟩):=fun s hs=>c20 (h:=hB) hs;simp only[xFld_p,Nat.zero_add,lc,b1,b2,vb_some,xExt_t',List.getElem?_cons_zero,List.getElem?_cons_succ,jn_eq,F11_5];have st3:Sl h0 hB S OM.emp (ex++[(c,.row .own 1 (gcs g rv fv cv kv))]):=st2.drop (List.sublist_cons_self _ _);have hnext: ∀(ov':Value)(outs':List Int)(ex':Rws)(h':PH),Sl h0 h' S OM.emp (ex'++[(c,.row .own 1 (gcs g rv fv cv kv))])->Gl 1 ov' outs'.length (zv outs') ex'->Gc ov'->outs'=outs++outI g y->
    Ret (F11_6 n cl (lp fu (F11_10 n cl)) [.pointer (some ⟨c,0,none⟩),ov',v,.int .i64 (l.length:Nat),.int .i64 (i:Nat)] h') Q:=by
   intro ov' outs' ex' h' st' gl' gc' e';simp only[F11_6,ucons_cons,F11_0,vN_eq,xAdd_i,vb_some,show(((1:Nat):Int))=1 from rfl,wrap1 (i:=i) (by omega)];refine ih' (i+1) fu ov' outs' ex' h' (by omega) (by omega) st' gl' gc' ?_ ?_
   ·have:=outI_len (g:=g) (x:=y);rw[e',List.length_append];omega
   ·rw[e',he,htk,List.flatMap_append];simp
  have happ: ∀(z:Int)(K2:Value->PH->R),(∀h' v' ex',Sl h0 h' S OM.emp (ex'++[(c,.row .own 1 (gcs g rv fv cv kv))])->Gl 1 v' (outs++[z]).length (zv (outs++[z])) ex'->Gc v'->Ret (K2 v' h') Q)->
    Ret (Go.Am.hb (xBS 1 (bsRow Try.prog 24 1 [(0,.int .i64 z)]) hB) fun v1 h=>Go.Am.hb (xApp (appInfo Try.prog #[24,24]) ov v1 h) K2) Q:=by
   intro z K2 hk;have hsz:(2*(outs.length+1)+512)*8<=281474976710656:=by omega
   refine Ret.gappC st3 gl gc bsI24 ai24x rfl rfl hsz fun h' v' ex' st' gl' gc'=>hk h' v' ex' st' ?_ gc';rw[List.length_append,List.length_singleton];have e:zv (outs++[z])=zv outs++[.int .i64 z]:=by simp[zv]
   rw[e];exact gl'
  cases hb:behI g y.1 y.2.1 with
  |none=>
   have e0: ∀o:Option Value,gd (isB true (.bool false)) o=some undef:=fun o=>rfl;simp only[Option.isSome_none,Option.getD_none,k20 0 (by unfold inR;omega),vb_some,xExt_t',List.getElem?_cons_zero,List.getElem?_cons_succ,e0,xPick_f,ff_eq,bite_f,F11_4,ucons_cons,F11_2,xNot_b,Bool.not_false,isB_t,gd_true,xFld_p,Nat.zero_add,lr,eM,xEq_i,xPick_t]
   by_cases hr:y.1= -1
   ·simp only[decide_eq_true hr,bite_t,F11_1,xFld_p,Nat.zero_add,lk,vb_some];refine happ _ _ fun h' v' ex' st' gl' gc'=>hnext v' _ ex' h' st' gl' gc' ?_;unfold outI;rw[hb];simp[hr]
   ·simp only[decide_eq_false hr,bite_f];refine hnext ov outs ex hB st3 gl gc ?_;unfold outI;rw[hb];simp[hr]
  |some s=>
   have hs:=beh_sym hg hb;have hkn:=hg.kn;have hnm:=hg.nm;have hsr: -1000000000<s/\s<1000000000:=by
    rcases hs with h|h
    ·have:=isName_iff.1 h;omega
    ·omega
   have e1: ∀o:Option Value,gd (isB true (.bool true)) o=o:=fun o=>rfl;simp only[Option.isSome_some,Option.getD_some,k20 s (by unfold inR;omega),vb_some,xExt_t',List.getElem?_cons_zero,List.getElem?_cons_succ,e1,xPick_t];have hback: ∀(ov':Value)(outs':List Int)(ex':Rws)(h':PH),Sl h0 h' S OM.emp (ex'++[(c,.row .own 1 (gcs g rv fv cv kv))])->Gl 1 ov' outs'.length (zv outs') ex'->Gc ov'->outs'=outs++outI g y->
     Ret (F11_4 n cl (F11_6 n cl (lp fu (F11_10 n cl))) [.pointer (some ⟨c,0,none⟩),ov',.pointer (some ⟨b,0,none⟩),.bool true,v,.int .i64 (l.length:Nat),.int .i64 (i:Nat)] h') Q:=by
    intro ov' outs' ex' h' st' gl' gc' e';have e0: ∀o:Option Value,gd (isB true (.bool false)) o=some undef:=fun o=>rfl;simp only[F11_4,ucons_cons,F11_2,xNot_b,Bool.not_true,e0,vb_some,xPick_f,ff_eq,bite_f];exact hnext ov' outs' ex' h' st' gl' gc' e'
   cases hk:isKind g.kinds s with
   |true=>
    simp only[bite_t,F11_3];refine happ _ _ fun h' v' ex' st' gl' gc'=>hback v' _ ex' h' st' gl' gc' ?_;unfold outI;rw[hb];simp[hk]
   |false=>
    simp only[bite_f];refine hback ov outs ex hB st3 gl gc ?_;unfold outI;rw[hb];simp[hk]
theorem c11[OkH h](hn:9223372036854775808<=n){D:Nat}(hD:65536<=D)(h39: ∀u v w x h,CLy n ih 39 [u,v,w,x] h=CLV n (D+1) 39 [u,v,w,x] h)(hG:GIn g)(hS:Vw.le S h.cells)(gv:GrV S g rv fv cv kv)(hv:veq (.agg ⟨gcs g rv fv cv kv⟩) (.agg ⟨gcs g rv fv cv kv⟩)=true)(rk:RdV (rI .i64) S kvs ks)(kl:ks.length<=40):
  Ret (F11 n (CLy n ih) (.agg ⟨gcs g rv fv cv kv⟩) kvs h.fzn) fun v h1=> ∃S',VwN h.fzn S S'/\Sl h.fzn h1 S' OM.emp []/\ ∃x,ChkQ g x/\NextP g ks x v S'/\Anc h.n v:=by
 unfold F11;refine Ret.lbox (Sl.start h.fzn (fun b cs e=>hS b cs e)) fun h1 c st1=>?_;have st1:Sl h.fzn h1 S OM.emp [(c,.row .own 1 (gcs g rv fv cv kv))]:=st1;have la:xLdA 7 (.pointer (some ⟨c,0,none⟩)) h1=some (.agg ⟨gcs g rv fv cv kv⟩):=st1.ldA (.head _) rfl (by simp);have okh:=st1.ok;obtain⟨x,q,e⟩:=c16 (h:=h1) (ih:=ih) hn hG (fun b cs e=>st1.leS b cs e) gv hv;simp only[la,vb_some,e,xNot_b]
 by_cases hx:x.2=0
 ·simp only[decide_eq_true hx,Bool.not_true,bite_f,F11_12,la,vb_some];refine Ret.lfcallV st1 (fun v V W=>RunP.mono v V W) (c17 (h:=h1) (ih:=ih) hn (q.zero hx) hG (fun b cs e=>st1.leS b cs e) gv hv rk kl) fun v h2 S2 le2 st2 hp=>?_;obtain⟨bp,cc,rfl,q2,q3,q4,q5⟩:=hp.h;have hpre:Pre g ks cc:=⟨q2,q3,q4⟩;simp only[xExt_t',List.getElem?_cons_zero,List.getElem?_cons_succ,vb_some,(rk.mono le2.1).lenV,xLt_i]
  by_cases hlt:cc<ks.length
  ·have dc:decide (((cc:Nat):Int)<((ks.length:Nat):Int))=true:=decide_eq_true (by omega);simp only[dc,bite_t];refine Ret.of ⟨S2,le2,st2.drop (List.nil_sublist _),x,q,⟨[],.inl ⟨rfl,none,0,rfl⟩,.nil,fun k=>⟨fun h=>(by cases h),fun⟨_,y,hy,_⟩=>absurd hy (hpre.none hlt hlt y)⟩⟩,.inl rfl⟩
  ·have dc:decide (((cc:Nat):Int)<((ks.length:Nat):Int))=false:=decide_eq_false (by omega);have ec:cc=ks.length:=by omega
   subst ec;obtain⟨cs,allv,lv,l,r1,r2,⟨b,o,cp,cs2,rfl,r4,r5⟩,r6,r7,r8⟩:=q5 rfl;have l8:xLd (.pointer (some ⟨bp,8,none⟩)) h2=some (.slice (some ⟨b,o,none⟩) (ks.length+1) cp):=st2.ldS r1 r2;have li:xIdxS 1 (.slice (some ⟨b,o,none⟩) (ks.length+1) cp) (.int .i64 (ks.length:Nat))=some (.pointer (some ⟨b,o+ks.length,none⟩)):=by
    rw[xIdxS_at (by omega) (by omega)];simp
   have ll:xLd (.pointer (some ⟨b,o+ks.length,none⟩)) h2=some lv:=st2.ldS r4 r5;simp only[dc,bite_f,F11_11,xNil_p,xFld_p,Nat.zero_add,vb_some,l8,li,ll,r6.itLen,vN_eq];have hg:=gok_of (q.zero hx);have hE: ∀y∈l,EI g ks ks.length y:=fun y hy=>(r8 y).1 hy;have hf:=few_EI hg kl r7 hE;refine loop11 hn hg kl hD h39 (gv.mono le2.1) r6 hf hE (fun v' h' S' l' p1 p2 p3 p4 p5 p6=>⟨S',le2.trans p1,p2.drop (List.nil_sublist _),x,q,⟨l',p3,p4,fun k=>?_⟩,p6⟩) l.length 0 n nils [] [] h2 (by omega) (by omega) st2 Gl.nil (.inl rfl) (Nat.le_refl _) rfl;rw[p5,List.mem_flatMap];exact⟨fun⟨y,hy,hk⟩=>⟨hx,y,hE y hy,hk⟩,fun⟨_,y,hy,hk⟩=>⟨y,(r8 y).2 hy,hk⟩⟩
 ·simp only[decide_eq_false hx,Bool.not_false,bite_t];exact Ret.of ⟨S,VwN.refl,st1.drop (List.nil_sublist _),x,q,⟨[],.inl ⟨rfl,none,0,rfl⟩,.nil,fun k=>⟨fun h=>(by cases h),fun h=>absurd h.1 hx⟩⟩,.inl rfl⟩
end
section
variable {Q:Value->PH->Prop}{n:Nat}{cl ih:CL}{h h0:PH}{S:Vw}{m:OM}{rows rest rows1 ex:Rws}{g:Gr}{rv fv cv kv kvs:Value}{ks:List Int}
end
section
variable {Q:Value->PH->Prop}{n:Nat}{cl ih:CL}{h h0:PH}{S:Vw}{m:OM}{rows rest rows1 ex:Rws}{g:Gr}{rv fv cv kv kvs lv nv:Value}{ks:List Int}{L N:List It3}{c:Nat}
def Gx(v:Value)(l:List It3)(ex:Rws):Prop:=Gl 3 v l.length (l.flatMap itc) ex\/ ∃b,v= .slice (some ⟨b,0,none⟩) l.length l.length/\ex=[(b,.row .own 3 (l.flatMap itc))]/\0<l.length
structure FS(h0 h:PH)(S:Vw)(m:OM)(c:Nat)(g:Gr)(rv fv cv kv lv:Value)(L:List It3)(nv:Value)(N:List It3)(rest:Rws):Prop where
 h: ∃exL exN,Sl h0 h S m (exL++(exN++((c,.row .own 1 (gcs g rv fv cv kv))::rest)))/\Gx lv L exL/\Gl 3 nv N.length (N.flatMap itc) exN
end
structure PtsR(S:Vw)(pv:Value)(past:List (List It3))(exP:Rws):Prop where
 h: ∃cP,Gl 1 pv past.length cP exP/\ ∀(i:Nat) l,past[i]?=some l-> ∃v,cP[i]?=some v/\SlC S 3 v l.length (l.flatMap itc)
section
variable {Q:Value->PH->Prop}{n:Nat}{cl ih:CL}{h h0:PH}{S:Vw}{m:OM}{rows rest rows1 ex exP:Rws}{g:Gr}{rv fv cv kv kvs lv nv nlv pv:Value}{ks:List Int}{L N:List It3}{c:Nat}{past:List (List It3)}
end
section
variable {Q:Value->PH->Prop}{n:Nat}{cl ih:CL}{h h0:PH}{S:Vw}{m:OM}{rows rest rows1 ex exP exL:Rws}{g:Gr}{rv fv cv kv kvs lv nv nlv pv:Value}{ks:List Int}{L N:List It3}{c:Nat}{past:List (List It3)}
end
def hit(g:Gr)(k:Int)(x:It3):Bool:=decide (behI g x.1 x.2.1=some (-1-k)/\ -1-k<0)
def shf(g:Gr)(k:Int)(l:List It3):List It3:=(l.filter (hit g k)).map stepI
structure WalkP(g:Gr)(ks:List Int)(v:Value)(V:Vw):Prop where
 h: ∃PS cP,SlC V 1 v PS.length cP/\(∀(i:Nat) l,PS[i]?=some l-> ∃w,cP[i]?=some w/\SlC V 3 w l.length (l.flatMap itc))/\Whole g ks PS/\Pre g ks (PS.length-1)/\0<PS.length
section
variable {Q:Value->PH->Prop}{n:Nat}{cl ih:CL}{h h0:PH}{S:Vw}{m:OM}{rows rest rows1 ex exP exL:Rws}{g:Gr}{rv fv cv kv kvs lv nv nlv pv:Value}{ks:List Int}{L N:List It3}{c:Nat}{past:List (List It3)}
end
section
variable {Q:Value->PH->Prop}{n:Nat}{cl ih:CL}{h h0:PH}{S:Vw}{m:OM}{rows rest rows1 ex exP exL:Rws}{g:Gr}{rv fv cv kv kvs lv nv nlv pv:Value}{ks:List Int}{L N:List It3}{c:Nat}{past:List (List It3)}
end
theorem SlC.rdI{V:Vw}{v:Value}{l:List Int}(r:SlC V 1 v l.length (zv l)):RdV (rI .i64) V v l:=by
 rcases r with⟨h1,_,rfl⟩|⟨b,o,c,cs,rfl,h1,h2,h3⟩
 ·exact .inl ⟨List.length_eq_zero_iff.1 h1,none,0,rfl⟩
 ·refine .inr ⟨b,o,c,cs,rfl,h1,fun i z hz=>?_⟩;have hlt:=(List.getElem?_eq_some_iff.1 hz).1;have hg:=zv_get hz;rw[h3,Nat.mul_one,List.getElem?_take,if_pos hlt,List.getElem?_drop]at hg;obtain⟨q1,q2⟩:=List.getElem?_eq_some_iff.1 hg;refine⟨by show o+i*1+1<=_;omega,?_⟩
  show(cs.drop (o+i*1)).take 1=[.int .i64 z]
  rw[Nat.mul_one,List.drop_eq_getElem_cons q1,List.take_succ_cons,List.take_zero];exact congrArg (fun x=>[x]) q2
def trues(B:List Bool)(i:Nat):List Int:=((List.range i).filter fun j=>B.getD j false).map Int.ofNat
section
variable {Q:Value->PH->Prop}{n:Nat}{cl ih:CL}{h h0:PH}{S:Vw}{m:OM}{rows rest rows1 ex exP exL:Rws}{g:Gr}{rv fv cv kv kvs lv nv nlv pv:Value}{ks:List Int}{L N:List It3}{c:Nat}{past:List (List It3)}
end
section
variable {Q:Value->PH->Prop}{n:Nat}{cl ih:CL}{h h0:PH}{S:Vw}{m:OM}{rows rest rows1 ex exP exL:Rws}{g:Gr}{rv fv cv kv kvs lv nv nlv pv:Value}{ks:List Int}{L N:List It3}{c:Nat}{past:List (List It3)}
end
section
variable {Q:Value->PH->Prop}{n:Nat}{cl ih:CL}{h h0:PH}{S:Vw}{m:OM}{rows rest rows1 ex exP exL:Rws}{g:Gr}{rv fv cv kv kvs lv nv nlv pv:Value}{ks:List Int}{L N:List It3}{c:Nat}{past:List (List It3)}
end
end Go.Am
namespace Go.Am
open Go Go.RowKit Go.Proofs Go.ChangeShapes Go.WideShapes
structure IntsV(V:Vw)(v:Value)(l:List Int):Prop where
 rd:RdV (rI .i64) V v l
 emp:l=[]->v=nils\/ ∃b c,v= .slice (some ⟨b,0,none⟩) 0 c
theorem IntsV.mono{V W:Vw}{v:Value}{l:List Int}(hs:Vw.le V W)(h:IntsV V v l):IntsV W v l:=⟨h.rd.mono hs,h.emp⟩
theorem opens_ints{P:Program}{T e:TypeId}(hu:P.underlying T=some (.slice e))(hsz:P.cellsOf e=1)(he:P.underlying e=some (.int .i64)){H:Type}{enc:TypeId×Value->H}{w:World}{ρ:RMap}{l:Heap}{fuel:Nat}{v:Value}{y:DataW H×List MemPlace}(m:Im w ρ l)(ht:DataW.trod enc P w 0 (fun _=>true) true fuel T [v]=some y):
  ∃(ρ':RMap) (ext:Heap) (v':Value) (zs:List Int),Im w ρ' (l++ext)/\ρ.le ρ'/\VR ρ' v' v/\IntsV (vl (l++ext)) v' zs:=by
 have hmx:maxLen=9223372036854775807:=rfl;have op:Opens P e (rI .i64) (fun z=>(Lit.int .i64 z).wf=true):=opens_int he;rcases Deep.open_slice hu ht with⟨hcs,_⟩|⟨a,len,cap,mm,n,D,Pl,hcs,_,hlc,hm,hmm,_,hcell⟩
 ·cases hcs;exact⟨ρ,[],nils,[],by rw[List.append_nil];exact m,RMap.le_refl _,.snil _ _,⟨.inl ⟨rfl,none,0,rfl⟩,fun _=>.inl rfl⟩⟩
 ·cases hcs;simp only[if_true]at hmm;rw[hsz]at hcell;cases hc0:cap with
  |zero=>
   have hl0:len=0:=by omega
   subst hl0;exact⟨ρ,[],.slice (some ⟨0,0,none⟩) 0 openCap,[],by rw[List.append_nil];exact m,RMap.le_refl _,.slz m.zero (by decide) rfl,⟨.inl ⟨rfl,_,_,rfl⟩,fun _=>.inr ⟨_,_,rfl⟩⟩⟩
  |succ cap'=>
   obtain⟨cs0,hc,_⟩:=hcell 0 (by omega);obtain⟨_,hlen0,hat0⟩:=World.cells?_some hc;have hat0:=hat0 0 (by omega);have hx0:=List.getElem?_eq_getElem (l:=cs0) (i:=0) (by omega);obtain⟨hb,hs⟩:=cell_lt (v:=cs0[0]'(by omega)) (by rw[hat0];exact hx0);have hb:a.block<w.heap.size:=by simpa[Addr.add]using hb
   have hs:a.spot=none:=by simpa[Addr.add]using hs
   have ea:a=⟨a.block,a.off,none⟩:=by cases a;simp_all
   obtain⟨ρ1,ext,xs,cs,m1,le1,h1,h2,h3,h4,h5⟩:=Im.rowsK op m hs (fun i hi=>let⟨c,q1,q2⟩:=hcell i (by omega);⟨c,q1,_,q2⟩) len (Nat.le_refl _);have h2:cs.length=len*1:=h2;have m':=m1.row 1 a.block a.off cap cs hb h3;have hnew:vl (l++(ext++[.row .ro 1 cs])) (l++ext).length=some cs:=by
    unfold vl;rw[<-List.append_assoc,List.getElem?_append_right (Nat.le_refl _),Nat.sub_self];simp
   refine⟨_,ext++[.row .ro 1 cs],.slice (some ⟨(l++ext).length,0,none⟩) len openCap,xs,by rw[<-List.append_assoc];exact m',RMap.le_trans le1 (upR_le m1 _),?_,⟨.inr ⟨(l++ext).length,0,openCap,cs,by rw[h1],hnew,fun i x hx=>?_⟩,fun e=>.inr ⟨(l++ext).length,openCap,?_⟩⟩⟩
   ·rw[ea];have e:upR ρ1 (l++ext).length ⟨a.block,a.off,cap⟩ (l++ext).length=some ⟨a.block,a.off,cap⟩:=by unfold upR;rw[if_pos rfl]
    rw[<-hc0];exact VR.slo e (by decide) (Nat.add_comm _ _) hlc
   ·have hlt:=(List.getElem?_eq_some_iff.1 hx).1;have q:=h4 i x hx;have q:(cs.drop (i*1)).take 1=[.int .i64 x]:=q;refine⟨by show 0+i*1+1<=_;omega,?_⟩
    show(cs.drop (0+i*1)).take 1=[.int .i64 x]
    rw[Nat.zero_add];exact q
   ·have:xs.length=0:=by rw[e];rfl
    have hl:len=0:=by omega
    rw[hl]
theorem PH.abs_list{h:PH}{l:List AObj}(hn:h.n=l.length)(hz:h.fz=0)(hr: ∀b,h.raw b=l[b]?):h.abs=l:=by
 apply List.ext_getElem?
 intro i
 show((List.range h.n).map fun i=>frz (Nat.blt i h.fz) ((h.br.get i).getD .dead))[i]?=l[i]?
 rw[List.getElem?_map]
 by_cases hi:i<h.n
 ·have hl:l[i]?=some l[i]:=List.getElem?_eq_getElem (by omega);have hb:Nat.blt i h.fz=false:=by rw[hz];rfl
  have hg:h.br.get i=some l[i]:=by rw[<-PH.raw_lt hi,hr,hl]
  rw[List.getElem?_range hi,hl];simp only[Option.map_some,hb,hg,Option.getD_some,frz]
 ·rw[List.getElem?_eq_none (by simp;omega),List.getElem?_eq_none (by omega)];rfl
theorem VR.av{w:World}{ρ:RMap}{l:Heap}(m:Im w ρ l){x y:Value}(h:VR ρ x y)(hx:(∃k z,x= .int k z)\/ ∃a n c,x= .slice a n c){q k:Nat}(hq:l.length<=q):avV0 q k x=true:=by
 have hlt: ∀{b:Nat}{L:RLoc},ρ b=some L->b<l.length:=fun h=>m.rel.fin _ _ h;rcases hx with⟨k,z,rfl⟩|⟨a,n,c,rfl⟩
 ·rfl
 ·cases h with
  |snil=>rfl
  |sl h _=>exact av1_t (by have:=hlt h;omega)
  |slo h _ _ _=>exact av1_t (by have:=hlt h;omega)
  |slz h _ _=>exact av1_t (by have:=hlt h;omega)
  |sl0 h=>exact av1_t (by have:=hlt h;omega)
end Go.Am
namespace Go.Am
open Go Go.RowKit Go.Proofs
theorem oneCells_zv(l:List Int):oneCells (zv l)=true:=by
 unfold oneCells zv;rw[List.all_map];exact List.all_eq_true.2 fun x _=>rfl
section
variable {Q:Value->PH->Prop}{n:Nat}{cl ih:CL}{h h0:PH}{S:Vw}{m:OM}{rows rest rows1 ex exP exL:Rws}{g:Gr}{rv fv cv kv kvs lv nv nlv pv:Value}{ks:List Int}{L N:List It3}{c:Nat}{past:List (List It3)}
theorem asc_len: ∀(l:List Int)(lo hi:Int),Asc l->(∀k∈l,lo<=k/\k<=hi)->l.length<=(hi-lo+1).toNat
 | [],_,_,_,_=>Nat.zero_le _
 |a::l,lo,hi,h,hb=>by
  unfold Asc at h;rw[List.pairwise_cons]at h;have h1:=hb a (.head _);have:=asc_len l (a+1) hi h.2 fun k hk=>⟨by have:=h.1 k hk;omega,(hb k (.tail _ hk)).2⟩;rw[List.length_cons];omega
theorem outI_le{g:Gr}(hg:GOk g){x:It3}{k:Int}(h:k∈outI g x):0<=k/\k<=40:=by
 have hkn:=hg.kn;unfold outI at h
 split at h
 ·split at h
  ·rename_i h2;unfold isKind at h2;rw[decide_eq_true_eq]at h2;rw[List.mem_singleton]at h;omega
  ·cases h
 ·split at h
  ·rw[List.mem_singleton]at h;omega
  ·cases h
end
end Go.Am
namespace Go.Am
open Go Go.RowKit Go.Proofs Go.ChangeShapes Go.WideShapes
set_option maxRecDepth 100000 in
theorem law_gz{f:FuncId}{H:Type}{enc:TypeId×Value->H}{w:World}{r:_root_.Go.Reach}{b0:Nat}{v0 v1:Value}{d0 d1:DataW H}{p0 p1:List MemPlace}
  (hv0:Value.okWide Try.prog w r b0 26 v0) (hv1:Value.okWide Try.prog w r b0 24 v1) (ht0:DataW.Trod enc Try.prog w 0 (fun _=>true) true 26 v0 d0 p0) (ht1:DataW.Trod enc Try.prog w 0 (fun _=>true) true 24 v1 d1 p1)
  (law: ∀(h:PH)(g:Gr)(rv fv cv kv kvs:Value)(ks:List Int),OkH h->GIn g->GrV h.cells g rv fv cv kv->IntsV h.cells kvs ks->veq (.agg ⟨gcs g rv fv cv kv⟩) (.agg ⟨gcs g rv fv cv kv⟩)=true->(∀q k,h.n<=q->avV0 q k rv=true/\avV0 q k fv=true/\avV0 q k cv=true/\avV0 q k kv=true/\avV q k kvs=true)-> ∃k,ACall Try.prog f [.agg ⟨gcs g rv fv cv kv⟩,kvs] h.abs fun u k'=>u= .bool true/\k'=k):
  Calls Try.prog f #[v0,v1] w fun e w'=>e= .returned (.bool true)/\Below w.heap.size w w':=by
 obtain⟨⟨cs⟩,rfl,hsz⟩:=okWide_struct Try.underlying26 hv0;obtain⟨a1,l1,c1,rfl⟩:=okWide_slice Try.underlying24 hv1;obtain⟨f0,ht0⟩:=ht0;obtain⟨f1,ht1⟩:=ht1;have hc26:Try.prog.cellsOf 26=7:=by kernel_rfl
 have hlen:cs.length=7:=by rw[<-hc26];exact hsz
 obtain⟨ρ1,ext1,es,g,m1,le1,hve,hE,hG⟩:=oGram (Im.start w) (cs:=cs) hlen ht0;obtain⟨rv,fv,cv,kv,rfl,gv⟩:=rGram_V hE;obtain⟨ρ,ext,kvs,ks,m,le,hv,hi⟩:=opens_ints Try.underlying24 (by kernel_rfl) Try.underlying3 m1 ht1;obtain⟨h,ok,hhn,hz,hrw⟩:=PH.of_list ([.dead]++ext1++ext);have hve':=hve.mono le;have sl: ∀{α:Type}{R:Rdr α}{V:Vw}{v:Value}{l:List α},RdV R V v l-> ∃a n c,v= .slice a n c:=fun r=>by
  rcases r with⟨_,a,c,rfl⟩|⟨b,o,c,cs,rfl,_⟩
  ·exact⟨_,_,_,rfl⟩
  ·exact⟨_,_,_,rfl⟩
 have hs1:=sl gv.rules;have hs2:=sl gv.forbid;have hs3:=sl gv.rclass;have hs4:=sl gv.kclass;have hs5:=sl hi.rd;have vrs: ∃y1 y2 y3 y4,VR ρ rv y1/\VR ρ fv y2/\VR ρ cv y3/\VR ρ kv y4:=by
  cases hve' with
  |cons _ r=>cases r with
   |cons _ r=>cases r with
    |cons _ r=>cases r with
     |cons q1 r=>cases r with
      |cons q2 r=>cases r with
       |cons q3 r=>cases r with
        |cons q4 r=>exact⟨_,_,_,_,q1,q2,q3,q4⟩
 obtain⟨y1,y2,y3,y4,r1,r2,r3,r4⟩:=vrs;have hveq:veq (.agg ⟨gcs g rv fv cv kv⟩) (.agg ⟨gcs g rv fv cv kv⟩)=true:=by
  have e1:=r1.veq1 (.inr hs1);have e2:=r2.veq1 (.inr hs2);have e3:=r3.veq1 (.inr hs3);have e4:=r4.veq1 (.inr hs4);have ei: ∀z,Go.Am.veq1 (.int .i64 z) (.int .i64 z)=true:=fun z=>(VR.int .i64 z:VR ρ _ _).veq1 (.inl ⟨_,_,rfl⟩)
  show veqs (gcs g rv fv cv kv) (gcs g rv fv cv kv)=true
  simp only[gcs,veqs,ei,e1,e2,e3,e4]
 obtain⟨k,hk⟩:=law h g rv fv cv kv kvs ks ok hG (gv.mono fun b cs e=>vl_ph hrw b cs (vl_app _ _ b cs e)) (hi.mono (vl_ph hrw)) hveq (fun q k hq=>by
  have hq':([.dead]++ext1++ext:Heap).length<=q:=by rw[<-hhn];exact hq
  refine⟨r1.av m (.inr hs1) hq',r2.av m (.inr hs2) hq',r3.av m (.inr hs3) hq',r4.av m (.inr hs4) hq',?_⟩;have h5:=hv.av (k:=k) m (.inr hs5) hq';obtain⟨a,n,c,rfl⟩:=hs5;exact h5)
 rw[PH.abs_list hhn hz hrw]at hk;exact calls_rel (Q:=fun k'=>k'=k) m.rel (.cons (.agg hve') (.cons hv .nil)) rfl hk
end Go.Am
namespace Go.Am
open Go Go.RowKit Go.Proofs
section
variable {g:Gr}{ks:List Int}{k:Int}
theorem EI.congr{l l':List Int}{j:Nat}{x:It3}(h:EI g l j x):(∀i,i<j->l[i]?=l'[i]?)->EI g l' j x:=by
 induction h with
 |start=>intro _;exact .start
 |pred hx hb hs hr hl ih=>intro he;exact .pred (ih he) hb hs hr hl
 |null hx hb hs hn ih=>intro he;exact .null (ih he) hb hs hn
 |comp hx h1 hr ha hf hy hb ih1 ih2=>intro he;exact .comp (ih1 he) h1 hr ha hf (ih2 fun i hi=>he i (by omega)) hb
 |shift hx hb hs hk he' ih=>intro he;exact .shift (ih fun i hi=>he i (by omega)) hb hs (by rw[<-he _ (Nat.lt_succ_self _)];exact hk) he'
theorem EI.ahead{j:Nat}{x:It3}(hj:j<=ks.length):EI g (ks++[k]) j x↔EI g ks j x:=by
 have e: ∀i,i<j->(ks++[k])[i]?=ks[i]?:=fun i hi=>List.getElem?_append_left (by omega);exact⟨fun h=>h.congr e,fun h=>h.congr fun i hi=>(e i hi).symm⟩
theorem EI.over{j:Nat}{x:It3}(h:EI g ks j x): ∀i,j=i+1-> ∃y s k,EI g ks i y/\behI g y.1 y.2.1=some s/\s<0/\ks[i]?=some k/\s= -1-k:=by
 induction h with
 |start=>intro i e;omega
 |pred hx hb hs' hr hl ih=>exact ih
 |null hx hb hs' hn ih=>exact ih
 |comp hx h1 hr ha hf hy hb ih1 ih2=>exact ih1
 |shift hx hb hs' hk he ih=>intro i e;cases e;exact⟨_,_,_,hx,hb,hs',hk,he⟩
theorem Pre.nil:Pre g [] 0:=⟨Nat.le_refl _,fun j hj=>by
 have:j=0:=by omega
 subst this;exact⟨_,.start⟩,fun h=>absurd h (Nat.lt_irrefl _)⟩
theorem step_iff(hg:GOk g)(h0:0<=k)(h1:k<g.kinds):(∃x,EI g (ks++[k]) (ks.length+1) x)↔Nx g ks k:=by
 constructor
 ·rintro⟨x,hx⟩;obtain⟨y,s,k',h1',h2,h3,h4,h5⟩:=hx.over ks.length rfl;have hk:k'=k:=by simpa using h4.symm
  subst hk;refine⟨y,(EI.ahead (Nat.le_refl _)).1 h1',?_⟩;unfold outI;rw[h2];have:isKind g.kinds s=true:=by unfold isKind;rw[decide_eq_true_eq];omega
  show k'∈(if isKind g.kinds s=true then [-1-s]else [])
  rw[if_pos this,List.mem_singleton];omega
 ·rintro⟨y,hy,hk⟩;have hy':=(EI.ahead (k:=k) (Nat.le_refl _)).2 hy;unfold outI at hk
  split at hk
  ·rename_i s hb
   split at hk
   ·rename_i h2;unfold isKind at h2;rw[decide_eq_true_eq]at h2;rw[List.mem_singleton]at hk;exact⟨_,.shift hy' hb h2.1 (by rw[List.getElem?_append_right (Nat.le_refl _)];simp) (show s= -1-k by omega)⟩
   ·cases hk
  ·split at hk
   ·rw[List.mem_singleton]at hk;omega
   ·cases hk
theorem Pre.snoc(hg:GOk g)(p:Pre g ks ks.length)(h0:0<=k)(h1:k<g.kinds){c:Nat}(q:Pre g (ks++[k]) c):c=(ks++[k]).length↔Nx g ks k:=by
 rw[<-step_iff hg h0 h1,List.length_append,List.length_singleton];constructor
 ·intro e;exact q.yes _ (by omega)
 ·rintro⟨x,hx⟩;have h2:=q.le;rw[List.length_append,List.length_singleton]at h2
  by_cases e:c=ks.length+1
  ·exact e
  ·exact absurd hx (q.none (by rw[List.length_append,List.length_singleton];omega) (by omega) x)
theorem Pre.more(hg:GOk g)(p:Pre g ks ks.length)(h0:0<=k)(h1:k<g.kinds)(h:Nx g ks k):Pre g (ks++[k]) (ks++[k]).length:=by
 refine⟨Nat.le_refl _,fun j hj=>?_,fun h=>absurd h (Nat.lt_irrefl _)⟩;rw[List.length_append,List.length_singleton]at hj
 by_cases e:j=ks.length+1
 ·subst e;exact(step_iff hg h0 h1).2 h
 ·obtain⟨x,hx⟩:=p.yes j (by omega);exact⟨x,(EI.ahead (by omega)).2 hx⟩
inductive Prd(g:Gr):Int->Prop
 |mk {r:Rl}:r∈g.rules->(∀s∈r.right,isName g.names s=true->Prd g s)->Prd g r.left
theorem longF_names{out:List Int}: ∀(l:List Int)(n:Int),longF g out n l≠ -1-> ∀s∈l,isName g.names s=true->out.getD s.toNat 0≠ -1
 | [],_,_,s,hs,_=>by cases hs
 |a::l,n,h,s,hs,hn=>by
  simp only[longF]at h;rcases List.mem_cons.1 hs with rfl|hs
  ·rw[if_pos hn]at h;intro e;rw[if_pos e]at h;exact h rfl
  ·split at h
   ·split at h
    ·exact absurd rfl h
    ·exact longF_names l _ h s hs hn
   ·exact longF_names l _ h s hs hn
def SndL(g:Gr)(out:List Int):Prop:=out.length=g.names.toNat/\ ∀s,isName g.names s=true->out.getD s.toNat 0≠ -1->Prd g s
theorem SndL.step(hg:GOk g){st:List Int×Bool}{r:Rl}(hr:r∈g.rules)(h:SndL g st.1):SndL g (stepS g st r).1:=by
 unfold stepS
 show SndL g (if _ then _ else _:List Int×Bool).1
 split
 ·rename_i hc;refine⟨by simp[h.1],fun s hs hne=>?_⟩
  by_cases e:r.left.toNat=s.toNat
  ·have hl:=isName_iff.1 (hg.left r hr);have hs':=isName_iff.1 hs;have e:r.left=s:=by omega
   subst e;exact .mk hr fun x hx hn=>h.2 x hn (longF_names _ _ hc.1 x hx hn)
  ·refine h.2 s hs ?_;simp only[List.getD,List.getElem?_set_ne e]at hne;exact hne
 ·exact h
theorem SndL.foldl(hg:GOk g): ∀(l:List Rl)(st:List Int×Bool),(∀r∈l,r∈g.rules)->SndL g st.1->SndL g (l.foldl (stepS g) st).1
 | [],_,_,h=>h
 |r::l,st,hl,h=>SndL.foldl hg l _ (fun x hx=>hl x (.tail _ hx)) (h.step hg (hl r (.head _)))
theorem SndL.runs(hg:GOk g){a b:List Int}(h:Runs g a b):SndL g a->SndL g b:=by
 induction h with
 |stop _=>intro s;exact SndL.foldl hg _ (_,false) (fun _ h=>h) s
 |more _ _ ih=>intro s;exact ih (SndL.foldl hg _ (_,false) (fun _ h=>h) s)
theorem idxF_none{α:Type}{p:α->Bool}{l:List α}(h: ¬ 0<=idxF p l): ∀x∈l,p x=false:=by
 unfold idxF at h
 split at h
 ·omega
 ·rename_i e;rw[List.findIdx?_eq_none_iff]at e;exact fun x hx=>by simpa using e x hx
theorem ChkQ.prd{x:Int×Int}(q:ChkQ g x)(h:x.2=0): ∀s,isName g.names s=true->Prd g s:=by
 have hgood:=q.zero h;cases q with
 |bad hb=>rw[hb]at hgood;cases hgood
 | @good a c p _ ha hp hc=>
  unfold chkL at h;have hg:=gok_of hgood;have hn: ¬ 0<=idxF badB (a.zip (prodL p)):=by
   intro e;rw[if_pos e]at h;cases h
  have hb:=idxF_none hn;rcases ha with⟨e,_⟩|⟨_,la,_⟩
  ·rw[e]at hgood;cases hgood
  rcases hp with⟨e,_⟩|⟨_,hr,tab⟩
  ·rw[e]at hgood;cases hgood
  have snd:=SndL.runs hg hr ⟨by simp,fun s hs hne=>by
   exfalso;apply hne;have:=isName_iff.1 hs;simp only[List.getD];rw[List.getElem?_replicate,if_pos (by omega)];rfl⟩
  intro s hs;refine snd.2 s hs ?_;have hi:=isName_iff.1 hs;have h1:s.toNat<a.length:=by omega
  have h2:s.toNat<p.length:=by rw[tab.len];omega
  have h3:s.toNat<(prodL p).length:=by unfold prodL;rw[List.length_map];exact h2
  have hz:(a.zip (prodL p))[s.toNat]?=some (a[s.toNat],(prodL p)[s.toNat]):=by
   rw[List.getElem?_eq_getElem (by rw[List.length_zip];omega),List.getElem_zip]
  have:=hb _ (List.mem_of_getElem? hz);intro e;have e2:p[s.toNat]= -1:=by
   simp only[List.getD,List.getElem?_eq_getElem h2]at e;exact e
  unfold badB prodL at this;simp[e2]at this
theorem some_out(hg:GOk g){J:Nat}{s:Int}(hp:Prd g s): ∀x,EI g ks J x->behI g x.1 x.2.1=some s->(∃z,EI g ks J z/\outI g z≠[])\/Nul g s:=by
 induction hp with
 | @mk r hr hrs ih=>
  intro x hx hb;obtain⟨i,hi⟩:=List.getElem?_of_mem hr;have h0:0<=r.left:=(isName_iff.1 (hg.left r hr)).1;have key: ∀a,a<=r.right.length->(∃z,EI g ks J z/\outI g z≠[])\/(EI g ks J ((i:Int),a,J)/\ ∀b,b<a-> ∀s,r.right[b]?=some s->isName g.names s=true/\Nul g s):=by
   intro a
   induction a with
   |zero=>intro _;exact .inr ⟨.pred hx hb h0 hi rfl,fun b hb=>absurd hb (Nat.not_lt_zero _)⟩
   |succ a iha=>
    intro ha;rcases iha (by omega)with h|⟨h1,h2⟩
    ·exact .inl h
    ·have hs:=List.getElem?_eq_getElem (l:=r.right) (i:=a) (by omega);generalize r.right[a]=t at hs;have hbt:behI g ((i:Nat):Int) a=some t:=by rw[behI_rule hi];exact hs
     have hsym:=hg.right r hr t (List.mem_of_getElem? hs);unfold isSym at hsym;simp only[Bool.or_eq_true]at hsym
     by_cases hk:isKind g.kinds t=true
     ·refine .inl ⟨_,h1,?_⟩;unfold outI;rw[show behI g ((i:Nat):Int) a=some t from hbt];simp[hk]
     ·have hn:isName g.names t=true:=by
       rcases hsym with h|h
       ·first|exact h|exact absurd h hk
       ·first|exact h|exact absurd h hk
      rcases ih t (List.mem_of_getElem? hs) hn _ h1 hbt with h|h
      ·exact .inl h
      ·refine .inr ⟨EI.null h1 hbt (isName_iff.1 hn).1 h,fun b hb s' hs'=>?_⟩
       by_cases e:b=a
       ·subst e;rw[hs]at hs';cases hs';exact⟨hn,h⟩
       ·exact h2 b (by omega) s' hs'
  rcases key r.right.length (Nat.le_refl _)with h|⟨_,h2⟩
  ·exact .inl h
  ·refine .inr (Nul.mk hr (fun s hs=>?_) fun s hs=>?_)
   ·obtain⟨b,hb'⟩:=List.getElem?_of_mem hs;exact(h2 b (List.getElem?_eq_some_iff.1 hb').1 s hb').1
   ·obtain⟨b,hb'⟩:=List.getElem?_of_mem hs;exact(h2 b (List.getElem?_eq_some_iff.1 hb').1 s hb').2
theorem beh_sym'(hg:GOk g){r:Int}{a:Nat}{s:Int}(h:behI g r a=some s):isName g.names s=true\/isKind g.kinds s=true:=by
 unfold behI at h
 split at h
 ·split at h
  ·cases h;exact .inl hg.start
  ·cases h
 ·cases hr:g.rules[r.toNat]? with
  |none=>rw[hr]at h;cases h
  |some x=>
   rw[hr]at h;have h:x.right[a]?=some s:=h;have:=hg.right x (List.mem_of_getElem? hr) s (List.mem_of_getElem? h);unfold isSym at this;simp only[Bool.or_eq_true]at this;rcases this with h|h
   ·first|exact .inl h|exact .inr h
   ·first|exact .inl h|exact .inr h
theorem to_end(hg:GOk g)(hp: ∀s,isName g.names s=true->Prd g s){J:Nat}: ∀(q:Nat)(x:It3)(i:Nat)(r:Rl),EI g ks J x->x.1=(i:Int)->g.rules[i]?=some r->r.right.length=x.2.1+q->(∃z,EI g ks J z/\outI g z≠[])\/EI g ks J ((i:Int),r.right.length,x.2.2)
 |0,x,i,r,hx,h1,hr,hl=>by
  obtain⟨a,b,c⟩:=x;have h1:a=(i:Int):=h1;have hl:r.right.length=b+0:=hl;subst h1;rw[hl];exact .inr hx
 |q+1,x,i,r,hx,h1,hr,hl=>by
  have hs:=List.getElem?_eq_getElem (l:=r.right) (i:=x.2.1) (by omega);generalize r.right[x.2.1]=t at hs;have hb:behI g x.1 x.2.1=some t:=by rw[h1,behI_rule hr];exact hs
  rcases beh_sym' hg hb with h|h
  ·rcases some_out hg (hp t h) x hx hb with h'|h'
   ·exact .inl h'
   ·exact to_end hg hp q (stepI x) i r (.null hx hb (isName_iff.1 h).1 h') h1 hr (by show _=x.2.1+1+q;omega)
  ·refine .inl ⟨x,hx,?_⟩;unfold outI;rw[hb];simp[h]
theorem next_some(hg:GOk g)(hp: ∀s,isName g.names s=true->Prd g s){j:Nat}{x:It3}(h:EI g ks j x): ∀J a,EI g ks J (x.1,a,x.2.2)-> ∃z,EI g ks J z/\outI g z≠[]:=by
 induction h with
 |start=>
  intro J a hy;have done:EI g ks J (-1,1,0)-> ∃z,EI g ks J z/\outI g z≠[]:=fun h=>⟨_,h,by
   unfold outI;rw[show behI g (-1) 1=none from behI_top1 (by decide)];simp⟩
  have hy:EI g ks J (-1,a,0):=hy;have ha:=(EI.ok hg hy).1;rcases ha.cases with⟨_,h⟩|⟨i,_,h,_⟩
  ·have h:a<=1:=h
   by_cases e:a=0
   ·subst e;rcases some_out hg (hp _ hg.start) _ hy (show behI g (-1) 0=some g.start from behI_top)with h'|h'
    ·exact h'
    ·exact done (EI.null hy (show behI g (-1) 0=some g.start from behI_top) (isName_iff.1 hg.start).1 h')
   ·have e:a=1:=by omega
    subst e;exact done hy
  ·have h:(-1:Int)=(i:Int):=h;omega
 | @pred j i x s r hx hb hs hr hl ih=>
  intro J a hy;have hy:EI g ks J ((i:Int),a,j):=hy;have hok:=EI.ok hg hy;have hm:=List.mem_of_getElem? hr;have ha:a<=r.right.length:=by
   rcases hok.1.cases with⟨h,_⟩|⟨i',r',h1,h2,h3,_⟩
   ·have h:((i:Nat):Int)= -1:=h;omega
   ·have h1:((i:Nat):Int)=(i':Int):=h1;have h1:i=i':=by omega
    subst h1;rw[hr]at h2;cases h2;exact h3
  rcases to_end hg hp (r.right.length-a) _ i r hy rfl hr (by show _=a+_;omega)with h|h
  ·exact h
  ·have h:EI g ks J ((i:Int),r.right.length,j):=h;have hj:j<=J:=hok.2.1;subst hl
   by_cases e:j=J
   ·subst e;have hn:=EI.nul hg h rfl rfl hr rfl;exact ih j (x.2.1+1) (EI.null hx hb hs hn)
   ·exact ih J (x.2.1+1) (EI.comp h rfl hr rfl (by show j<J;omega) hx hb)
 |null hx hb hs hn ih=>exact ih
 |comp hx h1 hr ha hf hy hb ih1 ih2=>exact ih2
 |shift hx hb hs hk he ih=>exact ih
theorem Nx.some(hg:GOk g)(hp: ∀s,isName g.names s=true->Prd g s)(p:Pre g ks ks.length): ∃k,Nx g ks k:=by
 obtain⟨x,hx⟩:=p.yes _ (Nat.le_refl _);obtain⟨z,hz,ho⟩:=next_some hg hp hx ks.length x.2.1 hx;obtain⟨k,hk⟩:=List.exists_mem_of_ne_nil _ ho;exact⟨k,z,hz,hk⟩
end
section
variable {Q:Value->PH->Prop}{n:Nat}{cl ih:CL}{h h0:PH}{S:Vw}{m:OM}{rows rest rows1 ex exP exL:Rws}{g:Gr}{rv fv cv kv kvs lv nv nlv pv:Value}{ks:List Int}{L N:List It3}{c:Nat}{past:List (List It3)}
theorem Gl.ptail{sz k:Nat}{v:Value}{cells:List Value}(st:Sl h0 h S m (ex++rows))(g:Gl sz v k cells ex):Go.Am.ptail sz v h=some (k,cells):=by
 obtain⟨S1,le1,st1,hA⟩:=Gl.settle st g;rcases hA with⟨rfl,rfl,rfl⟩|⟨b,o,cp,cs,rfl,h1,h2,rfl⟩
 ·rfl
 ·exact st1.sm.ptailS h1 h2
theorem Ret.gcopy{K2:Value->PH->R}{l:List Int}{v:Value}(st:Sl h0 h S m (ex++rows))(g:Gl 1 v l.length (zv l) ex)(hl:l.length<=1000000)
  (hk: ∀h' v' ex',Sl h0 h' S m (ex'++(ex++rows))->Gl 1 v' l.length (zv l) ex'->Ret (K2 v' h') Q):Ret (Go.Am.hb (xApp (appInfo Try.prog #[24,24]) nils v h) K2) Q:=by
 have hp:=g.ptail st;rw[ai24]
 by_cases e:l=[]
 ·subst e;have ok:=st.ok;have e:xApp (some (1,8)) nils v h=some (nils,h):=xApp_00 hp;rw[e];exact hk h nils [] st Gl.nil
 ·have hpos:0<l.length:=List.length_pos_iff.2 e;refine Ret.lapp (ex:=[]) (k:=0) st Gl.nil hp (by rw[zv_len,Nat.mul_one]) hpos (oneCells_zv l) (by omega) fun h' v' ex' st' g'=>?_;rw[List.nil_append,Nat.zero_add]at g';exact hk h' v' ex' st' g'
theorem RdV.restrict{V W:Vw}{v:Value}{l:List Int}{N:Nat}(r:RdV (rI .i64) V v l)(a:Anc N v)(hW: ∀b,N<=b->W b=V b):RdV (rI .i64) W v l:=by
 rcases r with⟨rfl,h⟩|⟨b,o,c,cs,rfl,h1,h2⟩
 ·exact .inl ⟨rfl,h⟩
 ·refine .inr ⟨b,o,c,cs,rfl,?_,h2⟩;rcases a with e|⟨b',o',n',c',e,hb⟩
  ·cases e
  ·cases e;rw[hW b hb];exact h1
theorem next_less[OkH h]{S1:Vw}{r:R}(hS:Vw.le S S1)(hlt: ∀b cs,S b=some cs->b<h.n)
  (a:Ret r fun v h1=> ∃S',VwN h.fzn S1 S'/\Sl h.fzn h1 S' OM.emp []/\ ∃x,ChkQ g x/\NextP g ks x v S'/\Anc h.n v):
  Ret r fun v h1=> ∃S',VwN h.fzn S S'/\Sl h.fzn h1 S' OM.emp []/\ ∃x,ChkQ g x/\NextP g ks x v S'/\Anc h.n v:=by
 refine a.mono ?_;rintro v h1 ⟨S',le',st',x,q1,q2,q3⟩;obtain⟨l,l1,l2,l3⟩:=q2.h;refine⟨fun b=>if h.n<=b then S' b else S b,⟨fun b cs e=>?_,fun b cs e=>?_⟩,st'.weakS fun b cs e=>?_,x,q1,⟨l,l1.restrict q3 fun b hb=>?_,l2,l3⟩,q3⟩
 ·have:=hlt b cs e
  show(if h.n<=b then S' b else S b)=_
  rw[if_neg (by omega)];exact e
 ·have e:(if h.n<=b then S' b else S b)=some cs:=e
  split at e
  ·right;assumption
  ·exact .inl e
 ·have e:(if h.n<=b then S' b else S b)=some cs:=e
  split at e
  ·exact e
  ·exact le'.1 _ _ (hS _ _ e)
 ·show(if h.n<=b then S' b else S b)=_
  rw[if_pos hb]
theorem ab_neq4{b:Bool}:abin Try.prog .neq 4 (Operand.tmp 90) (Operand.tmp 91) (.bool b) (.bool b)=some (.bool false):=by cases b<;>kernel_rfl
abbrev qT(v:Value)(_:PH):Prop:=v= .bool true
theorem loop4j{l:List Int}{nv:Value}{k i0:Int}{Kk:Kt}(hn:9223372036854775808<=n)(gv:GrV S g rv fv cv kv)(rn:RdV (rI .i64) S nv l)(ll:l.length<=100)
  (hk:Ret (F4_2 n cl kvs (.int .i64 k) (.pointer (some ⟨c,0,none⟩)) (.bool (decide (k∈l))) Kk pv (.int .i64 i0) nv h) qT) (st:Sl h0 h S OM.emp rows):
  ∀(q j fu:Nat),l.length=j+q->q<fu->
   Ret (lp fu (F4_4 n cl Kk) [pv,.pointer (some ⟨c,0,none⟩),kvs,.int .i64 i0,nv,.int .i64 k,.bool (decide (k∈l.take j)),.int .i64 (j:Nat)] h) qT:=by
 intro q
 induction q with
 |zero=>
  intro j fu hq hf;obtain⟨fu,rfl⟩: ∃q,fu=q+1:=⟨fu-1,by omega⟩;rw[lp_succ];have dc:decide (((j:Nat):Int)<((l.length:Nat):Int))=false:=decide_eq_false (by omega);rw[List.take_of_length_le (by omega)];simp only[F4_4,ucons_cons,F4_3,rn.lenV,xLt_i,dc,vb_some,bite_f];exact hk
 |succ q ih'=>
  intro j fu hq hf;obtain⟨fu,rfl⟩: ∃q,fu=q+1:=⟨fu-1,by omega⟩;rw[lp_succ];have dc:decide (((j:Nat):Int)<((l.length:Nat):Int))=true:=decide_eq_true (by omega);have hz:=List.getElem?_eq_getElem (l:=l) (i:=j) (by omega);have htk:l.take (j+1)=l.take j++[l[j]]:=by rw[List.take_add_one,hz];rfl
  generalize l[j]=z at hz htk;obtain⟨b,o,cs,e1,e2,e3⟩:=rn.atI hz;have lz:xLd (.pointer (some ⟨b,o,none⟩)) h=some (.int .i64 z):=st.ldS e2 e3;simp only[F4_4,ucons_cons,F4_3,rn.lenV,xLt_i,dc,vb_some,bite_t,F4_0];have hstep:decide (k∈l.take (j+1))=(decide (k∈l.take j)||decide (z=k)):=by
   rw[htk]
   by_cases h1:k∈l.take j
   ·simp[h1]
   ·by_cases h2:z=k
    ·simp[h2]
    ·have: ¬ k=z:=fun e=>h2 e.symm;simp[h1,h2,this]
  have goal:=ih' (j+1) fu (by omega) (by omega);rw[hstep]at goal;cases hin:decide (k∈l.take j)with
  |true=>
   rw[hin,Bool.true_or]at goal;have u0: ∀o:Option Value,gd (isB false (.bool true)) o=some undef:=fun o=>rfl;simp only[u0,vb_some,xPick_t,tt_eq,vN_eq,xAdd_i,show(((1:Nat):Int))=1 from rfl,wrap1 (i:=j) (by omega)];exact goal
  |false=>
   rw[hin,Bool.false_or]at goal;have u1: ∀o:Option Value,gd (isB false (.bool false)) o=o:=fun o=>rfl;simp only[u1,vb_some,e1,lz,xEq_i,xPick_f,vN_eq,xAdd_i,show(((1:Nat):Int))=1 from rfl,wrap1 (i:=j) (by omega)];exact goal
theorem xBitM{z:Int}:xBit Nat.land (.int .i64 z) (.int .i64 ((1023:Nat):Int))=some (.int .i64 ((z % 1024).toNat:Nat)):=by
 have e:(BitVec.ofInt 64 z).toNat % 1024=(z % 1024).toNat:=by
  rw[BitVec.toNat_ofInt];have:(2:Int) ^ 64=18446744073709551616:=by decide
  omega
 have e2: ∀x:Nat,Nat.land x 1023=x % 1024:=fun x=>Nat.and_two_pow_sub_one_eq_mod x 10;have h3:bitN .i64 ((1023:Nat):Int)=1023:=by rfl
 show mkI .i64 (wr .i64 (.ofNat (Nat.land (bitN .i64 z) (bitN .i64 ((1023:Nat):Int)))))=_
 rw[mkI_eq,wr_eq,bitN_eq,h3,e2]
 show some (Value.int .i64 (IntKind.i64.wrap (((BitVec.ofInt 64 z).toNat % 1024:Nat):Int)))=_
 rw[e,wrap_in (by omega) (by omega)]
theorem xRemN{x y:Nat}(hy:0<y)(hx:x<4611686018427387904):xRem (.int .i64 (x:Nat)) (.int .i64 (y:Nat))=some (.int .i64 ((x % y:Nat):Int)):=by
 have h1:kb .i64 .i64=true:=rfl;have h2:ieq ((y:Nat):Int) 0=false:=by rw[ieq_eq];simp;omega
 have h3:Int.tmod ((x:Nat):Int) ((y:Nat):Int)=((x % y:Nat):Int):=by simp[Int.tmod]
 have h4:x % y<=x:=Nat.mod_le _ _;simp only[xRem,h1,h2,mkI_eq,h3]
set_option maxRecDepth 100000 in
theorem loop4k{x:Int×Int}{l:List Int}{nv:Value}{i0:Int}{Ko:Kt}(hn:9223372036854775808<=n)(hq:ChkQ g x)(hx:x.2=0)(hG:GIn g)(hv:veq (.agg ⟨gcs g rv fv cv kv⟩) (.agg ⟨gcs g rv fv cv kv⟩)=true)(gv:GrV S g rv fv cv kv)(rn:RdV (rI .i64) S nv l)(ll:l.length<=100)
  (hl: ∀k,k∈l↔Nx g ks k) (p:Pre g ks ks.length) (gl:Gl 1 kvs ks.length (zv ks) ex) (kl:ks.length<=20)
  (hk: ∀h,Sl h0 h S OM.emp (ex++[(c,.row .own 1 (gcs g rv fv cv kv))])->Ret (F4_6 n (CLy n ih) pv (.int .i64 i0) nv (.pointer (some ⟨c,0,none⟩)) kvs Ko h) qT):
  ∀(q k fu:Nat)(h:PH),g.kinds.toNat=k+q->q<fu->Sl h0 h S OM.emp (ex++[(c,.row .own 1 (gcs g rv fv cv kv))])->
   Ret (lp fu (F4_8 n (CLy n ih) Ko) [pv,.pointer (some ⟨c,0,none⟩),kvs,.int .i64 i0,nv,.int .i64 (k:Nat)] h) qT:=by
 have hg:=gok_of (hq.zero hx);have hkn:=hg.kn;intro q
 induction q with
 |zero=>
  intro k fu h hq hf st;obtain⟨fu,rfl⟩: ∃q,fu=q+1:=⟨fu-1,by omega⟩;rw[lp_succ];have dc:decide (((k:Nat):Int)<g.kinds)=false:=decide_eq_false (by omega);have lk:xLd (.pointer (some ⟨c,1,none⟩)) h=some (.int .i64 g.kinds):=st.ld (b:=c) (e:=1) (md:=.own) (cs:=gcs g rv fv cv kv) (by simp) rfl;simp only[F4_8,ucons_cons,F4_7,xFld_p,Nat.zero_add,lk,vb_some,xLt_i,dc,bite_f];exact hk h st
 |succ q ih'=>
  intro k fu h hq' hf st;obtain⟨fu,rfl⟩: ∃q,fu=q+1:=⟨fu-1,by omega⟩;rw[lp_succ];have dc:decide (((k:Nat):Int)<g.kinds)=true:=decide_eq_true (by omega);have lk:xLd (.pointer (some ⟨c,1,none⟩)) h=some (.int .i64 g.kinds):=st.ld (b:=c) (e:=1) (md:=.own) (cs:=gcs g rv fv cv kv) (by simp) rfl;simp only[F4_8,ucons_cons,F4_7,xFld_p,Nat.zero_add,lk,vb_some,xLt_i,dc,bite_t];have d0:ff= .bool (decide (((k:Nat):Int)∈l.take 0)):=by simp[ff_eq]
  rw[d0];refine loop4j hn gv rn ll ?_ st l.length 0 n (by omega) (by omega);unfold F4_2;refine Ret.gcopy st gl (by omega) fun h1 v1 ex1 st1 g1=>?_;have hsz:(2*(ks.length+1)+512)*8<=281474976710656:=by omega
  refine Ret.gapp st1 g1 (bsI24 (z:=((k:Nat):Int))) ai24 rfl rfl hsz fun h2 v2 ex2 st2 g2=>?_;have hz2:zv ks++[.int .i64 ((k:Nat):Int)]=zv (ks++[((k:Nat):Int)]):=by simp[zv]
  have hl2:ks.length+1=(ks++[((k:Nat):Int)]).length:=by simp
  rw[hz2,hl2]at g2;have st2':Sl h0 h2 S OM.emp (ex++[(c,.row .own 1 (gcs g rv fv cv kv))]):=st2.drop (List.sublist_append_right _ _);have la:xLdA 7 (.pointer (some ⟨c,0,none⟩)) h2=some (.agg ⟨gcs g rv fv cv kv⟩):=st2'.ldA (b:=c) (e:=1) (md:=.own) (cs:=gcs g rv fv cv kv) (by simp) rfl (by simp);obtain⟨S2,le2,st3,hA⟩:=Gl.settle st2 g2;have okh:=st3.ok;obtain⟨y,cc,y1,y2,y3⟩:=c8 (h:=h2) (n:=n) (ih:=ih) hn hG (fun b cs e=>st3.leS b cs e) (gv.mono le2) hv hA.rdI (by simp;omega);have hxy:=hq.det y1;subst hxy;have pc:=y2 hx;rw[if_pos hx]at y3;have hiff:decide ((((cc:Nat):Int))=(((ks++[((k:Nat):Int)]).length:Nat):Int))=decide (((k:Nat):Int)∈l):=by
   apply decide_eq_decide.2
   rw[hl, <-Pre.snoc hg p (by omega) (by omega) pc];omega
  simp only[la,vb_some,y3,g2.len,xEq_i,hiff,ab_neq4,bite_f,F4_1,vN_eq,xAdd_i,show(((1:Nat):Int))=1 from rfl,wrap1 (i:=k) (by omega)];exact ih' (k+1) fu h2 (by omega) (by omega) st2'
set_option maxRecDepth 100000 in
theorem loop4{x:Int×Int}{d:Nat}{ps:List Int}(hn:9223372036854775808<=n)(hd:65536<=d)(hq:ChkQ g x)(hx:x.2=0)(hG:GIn g)(hv:veq (.agg ⟨gcs g rv fv cv kv⟩) (.agg ⟨gcs g rv fv cv kv⟩)=true)(pl:ps.length<=20):
  ∀(q i fu:Nat)(ks:List Int)(kvs:Value)(ex:Rws)(S:Vw)(h:PH),ps.length=i+q->q<fu->ks.length<=i->Pre g ks ks.length->GrV S g rv fv cv kv->RdV (rI .i64) S pv ps->Gl 1 kvs ks.length (zv ks) ex->Sl h0 h S OM.emp (ex++[(c,.row .own 1 (gcs g rv fv cv kv))])->
   Ret (lp fu (F4_11 n (CLU n d)) [pv,.pointer (some ⟨c,0,none⟩),kvs,.int .i64 (i:Nat)] h) qT:=by
 have ek:CLU n d=CLy n (CLV n d):=rfl;have hg:=gok_of (hq.zero hx);have hkn:=hg.kn;intro q
 induction q with
 |zero=>
  intro i fu ks kvs ex S h hq' hf hki p gv rp gl st;obtain⟨fu,rfl⟩: ∃q,fu=q+1:=⟨fu-1,by omega⟩;rw[lp_succ];have dc:decide (((i:Nat):Int)<((ps.length:Nat):Int))=false:=decide_eq_false (by omega);simp only[F4_11,ucons_cons,F4_10,rp.lenV,vb_some,xLt_i,dc,bite_f,tt_eq];exact Ret.of rfl
 |succ q ih'=>
  intro i fu ks kvs ex S h hq' hf hki p gv rp gl st;obtain⟨fu,rfl⟩: ∃q,fu=q+1:=⟨fu-1,by omega⟩;rw[lp_succ];have dc:decide (((i:Nat):Int)<((ps.length:Nat):Int))=true:=decide_eq_true (by omega);have la: ∀{S:Vw}{h:PH},Sl h0 h S OM.emp (ex++[(c,.row .own 1 (gcs g rv fv cv kv))])->xLdA 7 (.pointer (some ⟨c,0,none⟩)) h=some (.agg ⟨gcs g rv fv cv kv⟩):=fun st=>st.ldA (b:=c) (e:=1) (md:=.own) (cs:=gcs g rv fv cv kv) (by simp) rfl (by simp);simp only[F4_11,ucons_cons,F4_10,rp.lenV,vb_some,xLt_i,dc,bite_t,F4_9,la st];obtain⟨S1,le1,st1,hA⟩:=Gl.settle st gl;have okh:=st.ok;have kl:ks.length<=40:=by omega
  have call:=c11 (h:=h) (n:=n) (ih:=CLV n d) hn hd (fun u v w x h=>clu39) hG (fun b cs e=>st1.leS b cs e) (gv.mono le1) hv hA.rdI kl;refine Ret.lfcallV (P:=fun v V=> ∃x,ChkQ g x/\NextP g ks x v V/\Anc h.n v) st (fun v V W hs ⟨x,a,b,c⟩=>⟨x,a,b.mono v V W hs,c⟩) (next_less le1 (fun b cs e=>st.sm.ltS e) call) fun nv h2 S2 le2 st2 hp2=>?_;obtain⟨y,y1,y2,y3⟩:=hp2;have hxy:=hq.det y1;subst hxy;obtain⟨l,l1,l2,l3⟩:=y2.h;have hlN: ∀k,k∈l↔Nx g ks k:=fun k=>by rw[l3];exact⟨fun h=>h.2,fun h=>⟨hx,h⟩⟩
  obtain⟨k0,hk0⟩:=Nx.some hg (hq.prd hx) p;have hne:0<l.length:=List.length_pos_iff.2 fun e=>by
   have:=(hlN k0).2 hk0;rw[e]at this;cases this
  have hb: ∀k∈l,0<=k/\k<=40:=fun k hk=>by
   obtain⟨_,hy⟩:=(hlN k).1 hk;exact outI_le hg hy.2
  have lll:l.length<=100:=by
   have:=asc_len l 0 40 l2 hb;have e:((40:Int)-0+1).toNat=41:=rfl;omega
  obtain⟨S3,le3,st3,hA3⟩:=Gl.settle st2 gl;have okh2:=st2.ok;obtain⟨w,cc,w1,w2,w3⟩:=c8 (h:=h2) (n:=n) (ih:=CLV n d) hn hG (fun b cs e=>st3.leS b cs e) ((gv.mono le2.1).mono le3) hv hA3.rdI kl;have hxw:=hq.det w1;subst hxw;rw[if_pos hx]at w3;have hcc:cc=ks.length:=(w2 hx).det p;have d1:decide (((l.length:Nat):Int)=((0:Nat):Int))=false:=decide_eq_false (by omega);have u1: ∀o:Option Value,gd (isB false (.bool false)) o=o:=fun o=>rfl;have d2:decide (((cc:Nat):Int)=((ks.length:Nat):Int))=true:=decide_eq_true (by omega);rw[ek]at*;simp only[l1.lenV,vb_some,vN_eq,xEq_i,d1,u1,la st2,w3,gl.len,xNe_i,d2,Bool.not_true,xPick_f,bite_f];refine loop4k hn hq hx hG hv (gv.mono le2.1) l1 lll hlN p gl (by omega) (fun h3 st3=>?_) g.kinds.toNat 0 n h2 (by omega) (by omega) st2;have hz:=List.getElem?_eq_getElem (l:=ps) (i:=i) (by omega);generalize ps[i]=z at hz;obtain⟨b,o,cs,e1,e2,e3⟩:=(rp.mono le2.1).atI hz;have lz:xLd (.pointer (some ⟨b,o,none⟩)) h3=some (.int .i64 z):=st3.ldS e2 e3;have hm:(z % 1024).toNat % l.length<l.length:=Nat.mod_lt _ hne;have hp:=List.getElem?_eq_getElem hm;generalize l[(z % 1024).toNat % l.length]=pk at hp;obtain⟨b',o',cs',f1,f2,f3⟩:=l1.atI hp;have lp':xLd (.pointer (some ⟨b',o',none⟩)) h3=some (.int .i64 pk):=st3.ldS f2 f3;have lk:xLd (.pointer (some ⟨c,1,none⟩)) h3=some (.int .i64 g.kinds):=st3.ld (b:=c) (e:=1) (md:=.own) (cs:=gcs g rv fv cv kv) (by simp) rfl;unfold F4_6;simp only[e1,lz,vb_some,vN_eq,xBitM,l1.lenV,xRemN hne (show(z % 1024).toNat<4611686018427387904 by omega),f1,lp',xFld_p,Nat.zero_add,lk,xEq_i];have hpk:=List.mem_of_getElem? hp;have hpk2:=hb pk hpk
  by_cases e:pk=g.kinds
  ·simp only[decide_eq_true e,bite_t,tt_eq];exact Ret.of rfl
  ·have hlt:pk<g.kinds:=by
    obtain⟨t,_,ht⟩:=(hlN pk).1 hpk;unfold outI at ht
    split at ht
    ·split at ht
     ·rename_i h2;unfold isKind at h2;rw[decide_eq_true_eq]at h2;rw[List.mem_singleton]at ht;omega
     ·cases ht
    ·split at ht
     ·rw[List.mem_singleton]at ht;exact absurd ht e
     ·cases ht
   simp only[decide_eq_false e,bite_f,F4_5];have hsz:(2*(ks.length+1)+512)*8<=281474976710656:=by omega
   refine Ret.gapp st3 gl (bsI24 (z:=pk)) ai24 rfl rfl hsz fun h4 v4 ex4 st4 g4=>?_;have hz4:zv ks++[.int .i64 pk]=zv (ks++[pk]):=by simp[zv]
   have hl4:ks.length+1=(ks++[pk]).length:=by simp
   rw[hz4,hl4]at g4;simp only[vN_eq,xAdd_i,vb_some,show(((1:Nat):Int))=1 from rfl,wrap1 (i:=i) (by omega)];exact ih' (i+1) fu (ks++[pk]) v4 ex4 S2 h4 (by omega) (by omega) (by simp;omega) (p.more hg hpk2.1 hlt ((hlN pk).1 hpk)) (gv.mono le2.1) (rp.mono le2.1) g4 st4
theorem law4[OkH h]{d:Nat}{ps:List Int}(hn:9223372036854775808<=n)(hd:65536<=d)(hG:GIn g)(hS:Vw.le S h.cells)(gv:GrV S g rv fv cv kv)(rp:RdV (rI .i64) S pv ps)(hv:veq (.agg ⟨gcs g rv fv cv kv⟩) (.agg ⟨gcs g rv fv cv kv⟩)=true):
  Ret (F4 n (CLU n d) (.agg ⟨gcs g rv fv cv kv⟩) pv h) qT:=by
 unfold F4;refine Ret.lbox (Sl.start h hS) fun h1 c st1=>?_;have st1:Sl h h1 S OM.emp [(c,.row .own 1 (gcs g rv fv cv kv))]:=st1;have la:xLdA 7 (.pointer (some ⟨c,0,none⟩)) h1=some (.agg ⟨gcs g rv fv cv kv⟩):=st1.ldA (.head _) rfl (by simp);have okh:=st1.ok;have r1:=gv.rd (h:=h1) (fun b cs e=>st1.leS b cs e);obtain⟨x,q,e⟩:=c13 (h:=h1) (n:=n) (cl:=CLU n d) hn r1 hG;have e0: ∀o:Option Value,gd (isB false (.bool true)) o=some undef:=fun o=>rfl;have e1: ∀o:Option Value,gd (isB false (.bool false)) o=o:=fun o=>rfl;simp only[told6,vb_some,la,e,xExt_t',List.getElem?_cons_zero,List.getElem?_cons_succ,xNot_b,Bool.not_true,e1,c7 (h:=h1) (n:=n) (cl:=CLU n d) r1,xPick_f];cases hfew:fewB g with
 |false=>
  simp only[Bool.not_false,e0,vb_some,xPick_t,tt_eq,bite_t];exact Ret.of rfl
 |true=>
  simp only[Bool.not_true,e1,vb_some,vN_eq,show(((0:Nat):Int))=0 from rfl,xNe_i,xPick_f]
  by_cases hx:x.2=0
  ·simp only[decide_eq_true hx,Bool.not_true,e1,vb_some,rp.lenV,xGt_i,xPick_f]
   by_cases hl:20<ps.length
   ·have dl:decide (((20:Nat):Int)<((ps.length:Nat):Int))=true:=decide_eq_true (by omega);simp only[dl,xPick_f,xPick_t,bite_t];exact Ret.of rfl
   ·have dl:decide (((20:Nat):Int)<((ps.length:Nat):Int))=false:=decide_eq_false (by omega);simp only[dl,xPick_f,bite_f];exact loop4 hn hd q hx hG hv (by omega) ps.length 0 n [] nils [] S h1 (by omega) (by omega) (Nat.le_refl _) Pre.nil gv rp Gl.nil st1
  ·simp only[decide_eq_false hx,Bool.not_false,e0,vb_some,xPick_t,tt_eq,bite_t];exact Ret.of rfl
end
end Go.Am
