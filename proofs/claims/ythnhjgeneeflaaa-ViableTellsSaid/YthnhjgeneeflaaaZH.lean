import Derived.Test.YthnhjgeneeflaaaZG
import Derived.Test.YthnhjgeneeflaaaZE
import Derived.Test.YthnhjgeneeflaaaZC
import Derived.Test.YthnhjgeneeflaaaZS
import Derived.Test.YthnhjgeneeflaaaZD
import Derived.Test.YthnhjgeneeflaaaRows
set_option linter.unusedSimpArgs false
set_option linter.unusedVariables false
namespace Go.Am
open Go Go.RowKit Go.Proofs
theorem gok_of{g:Gr}(h:goodB g=true):GOk g:=by
 obtain⟨a1,a2,a3,a4,a5,a6,a7⟩:=goodB_whole h;exact⟨a7,fun r hr=>(goodB_rule h hr).1,fun r hr=>(goodB_rule h hr).2.1,fun r hr=>(goodB_rule h hr).2.2,a5,⟨a1,a2⟩,⟨a3,a4⟩⟩
structure RunP(g:Gr)(ks:List Int)(v:Value)(V:Vw):Prop where
 h: ∃(bp c:Nat),v= .tuple ⟨[pt bp,.int .i64 (c:Nat)]⟩/\c<=ks.length/\(∀j,j<=c-> ∃x,EI g ks j x)/\(c<ks.length-> ∀x, ¬ EI g ks (c+1) x)/\
  (c=ks.length-> ∃(cs:List Value) (allv lv:Value) (l:List It3),V bp=some cs/\cs[8]?=some allv/\(∃b o cp cs2,allv= .slice (some ⟨b,o,none⟩) (c+1) cp/\V b=some cs2/\cs2[o+c]?=some lv)/\SlC V 3 lv l.length (l.flatMap itc)/\l.Nodup/\ ∀x,x∈l↔EI g ks c x)
theorem RunP.mono{g:Gr}{ks:List Int}(v:Value)(V W:Vw)(hs:Vw.le V W)(p:RunP g ks v V):RunP g ks v W:=by
 obtain⟨bp,c,h1,h2,h3,h4,h5⟩:=p.h;refine⟨bp,c,h1,h2,h3,h4,fun e=>?_⟩;obtain⟨cs,allv,lv,l,q1,q2,⟨b,o,cp,cs2,q3,q4,q5⟩,q6,q7⟩:=h5 e;exact⟨cs,allv,lv,l,hs _ _ q1,q2,⟨b,o,cp,cs2,q3,hs _ _ q4,q5⟩,q6.mono hs,q7⟩
section
variable {Q:Value->PH->Prop}{n:Nat}{cl:CL}{h h0:PH}{S:Vw}{m:OM}{rows rest rows1:Rws}{bp:Nat}{g:Gr}{rv fv cv kv nv:Value}{past:List (List It3)}{cur:List It3}{ks:List Int}
theorem VS0.fin(st:Sl h0 h S m rows)(vs:VS0 S bp g rv fv cv kv nv past rows rest){c:Nat}{l:List It3}(hc:past.length=c+1)(hl:past[c]?=some l):
  ∃S',VwN h0 S S'/\Sl h0 h S' m rest/\ ∃cs allv lv,S' bp=some cs/\cs[8]?=some allv/\(∃b o cp cs2,allv= .slice (some ⟨b,o,none⟩) (c+1) cp/\S' b=some cs2/\cs2[o+c]?=some lv)/\SlC S' 3 lv l.length (l.flatMap itc):=by
 obtain⟨allv,inv,cA,cI,exA,exI,rfl,gA,gI,hpast⟩:=vs.h;obtain⟨S1,le1,st1,hA⟩:=Gl.settleV st gA;obtain⟨S2,le2,st2,hI⟩:=Gl.settleV st1 gI;have hn:=(st2.sm.own bp _ (st2.mem (.head _))).2;obtain⟨st3,hS⟩:=st2.settle (i:=0) rfl;have le3:=VwN.put (h0:=h0) hS hn (cs:=gcs g rv fv cv kv++[nv,allv,inv]);obtain⟨lv,q1,q2⟩:=hpast c l hl;refine⟨_,(le1.trans le2).trans le3,st3,_,allv,lv,Vw.put_self,rfl,?_,q2.mono ((le1.trans le2).trans le3).1⟩;rcases hA.mono (le2.trans le3).1 with⟨e,_⟩|⟨b,o,cp,cs2,rfl,e1,e2,rfl⟩
 ·omega
 ·refine⟨b,o,cp,cs2,by rw[hc],e1,?_⟩;rw[List.getElem?_take]at q1
  split at q1
  ·rw[List.getElem?_drop]at q1;exact q1
  ·cases q1
theorem VS0.nil{b:Nat}:VS0 S b g rv fv cv kv nv [] ((b,.row .own 1 (gcs g rv fv cv kv++[nv,nils,nils]))::rest) rest:=
 ⟨nils,nils,[],[],[],[],rfl,Gl.nil,Gl.nil,fun i l hi=>by simp at hi⟩
theorem loop17(hn:9223372036854775808<=n)(hg:GOk g){kvs:Value}(kl:ks.length<=40):
  ∀(q i fu:Nat)(S S0:Vw)(past:List (List It3))(cur:List It3)(rows:Rws)(h:PH),ks.length=i+q->q<fu->past.length=i->GrV S g rv fv cv kv->NlV S g nv->RdV (rI .i64) S kvs ks->VwN h0 S0 S->Sl h0 h S OM.emp rows->VS S bp g rv fv cv kv nv past cur rows rest->Whole g ks (past++[cur])->
   (∀j,j<=i-> ∃x,EI g ks j x)->
   Ret (lp fu (F17_4 n cl) [kvs,pt bp,kvs,.int .i64 (ks.length:Nat),.int .i64 (i:Nat)] h) fun v h'=> ∃S',VwN h0 S0 S'/\Sl h0 h' S' OM.emp []/\RunP g ks v S':=by
 intro q
 induction q with
 |zero=>
  intro i fu S S0 past cur rows h hq hf hp gv nl rk le st vs f hne;obtain⟨fu,rfl⟩: ∃q,fu=q+1:=⟨fu-1,by omega⟩;rw[lp_succ];have dc:decide (((i:Nat):Int)<((ks.length:Nat):Int))=false:=decide_eq_false (by omega);simp only[F17_4,ucons_cons,F17_3,xLt_i,dc,vb_some,bite_f,F17_2,rk.lenV];obtain⟨S1,rows1,le1,st1,vs1⟩:=vs.end st;subst hp;obtain⟨S2,le2,st2,cs,allv,lv,q1,q2,q3,q4⟩:=vs1.fin st1 (c:=past.length) (l:=cur) (by simp) (app_last);have fl:=f past.length cur (app_last);have e:ks.length=past.length:=by omega
  exact Ret.of ⟨S2,(le.trans le1).trans le2,st2.drop (List.nil_sublist _),bp,ks.length,rfl,Nat.le_refl _,fun j hj=>hne j (by omega),fun h=>absurd h (Nat.lt_irrefl _),fun _=>⟨cs,allv,lv,cur,q1,q2,e▸q3,q4,e▸fl⟩⟩
 |succ q ih=>
  intro i fu S S0 past cur rows h hq hf hp gv nl rk le st vs f hne;obtain⟨fu,rfl⟩: ∃q,fu=q+1:=⟨fu-1,by omega⟩;rw[lp_succ];have dc:decide (((i:Nat):Int)<((ks.length:Nat):Int))=true:=decide_eq_true (by omega);have hk:=List.getElem?_eq_getElem (l:=ks) (i:=i) (by omega);generalize ks[i]=k at hk;obtain⟨b,o,cs,e1,e2,e3⟩:=rk.atI hk;have lk:xLd (.pointer (some ⟨b,o,none⟩)) h=some (.int .i64 k):=st.ldS e2 e3;simp only[F17_4,ucons_cons,F17_3,xLt_i,dc,vb_some,bite_t,F17_1,e1,lk];refine Ret.hb (c35 hn hg gv nl kl f (by rw[hp];exact hk) st vs) fun v h' hv=>?_;obtain⟨bb,S1,rows1,rfl,le1,st1,hv⟩:=hv;rcases hv with⟨rfl,hno⟩|⟨rfl,cur1,vs1,f1,hc1⟩
  ·simp only[xNot_b,Bool.not_false,vb_some,bite_t];refine Ret.of ⟨S1,le.trans le1,st1.drop (List.nil_sublist _),bp,i,rfl,by omega,hne,fun _=>by rw[<-hp];exact hno,fun e=>by omega⟩
  ·simp only[xNot_b,Bool.not_true,vb_some,bite_f,F17_0,vN_eq,xAdd_i,show(((1:Nat):Int))=1 from rfl,wrap1 (i:=i) (by omega)];refine ih (i+1) fu S1 S0 (past++[cur]) cur1 rows1 h' (by omega) (by omega) (by simp[hp]) (gv.mono le1.1) (nl.mono le1.1) (rk.mono le1.1) (le.trans le1) st1 vs1 f1 fun j hj=>?_
   by_cases e:j<=i
   ·exact hne j e
   ·have e:j=i+1:=by omega
    subst e;obtain⟨x,hx⟩:=List.exists_mem_of_ne_nil _ hc1;refine⟨x,?_⟩;have:=(f1 (i+1) cur1 (by rw[List.getElem?_append_right (by simp[hp])];simp[hp])).2 x;exact this.1 hx
theorem ab51{b nn c:Nat}:abuild Try.prog 51 [(0,.agg ⟨gcs g rv fv cv kv⟩),(1,.slice (some ⟨b,0,none⟩) nn c)]=some (.agg ⟨gcs g rv fv cv kv++[.slice (some ⟨b,0,none⟩) nn c,nils,nils]⟩):=by kernel_rfl
theorem ab53':abuild Try.prog 53 [(0,vM 0)]=some (.agg ⟨[.int .i64 (-1),.int .i64 0]⟩):=by kernel_rfl
theorem ab55':abuild Try.prog 55 [(0,.agg ⟨[.int .i64 (-1),.int .i64 0]⟩)]=some (.agg ⟨itc (-1,0,0)⟩):=by kernel_rfl
theorem c17[OkH h]{ih:CL}{kvs:Value}(hn:9223372036854775808<=n)(hgood:goodB g=true)(hG:GIn g)(hS:Vw.le S h.cells)(gv:GrV S g rv fv cv kv)(hv:veq (.agg ⟨gcs g rv fv cv kv⟩) (.agg ⟨gcs g rv fv cv kv⟩)=true)(rk:RdV (rI .i64) S kvs ks)(kl:ks.length<=40):
  Ret (F17 n (CLy n ih) (.agg ⟨gcs g rv fv cv kv⟩) kvs h.fzn) fun v h1=> ∃S',VwN h.fzn S S'/\Sl h.fzn h1 S' OM.emp []/\RunP g ks v S':=by
 have hg:=gok_of hgood;unfold F17;refine Ret.lbox (Sl.start h.fzn (fun b cs e=>hS b cs e)) fun h1 c st1=>?_;have st1:Sl h.fzn h1 S OM.emp [(c,.row .own 1 (gcs g rv fv cv kv))]:=st1;have la:xLdA 7 (.pointer (some ⟨c,0,none⟩)) h1=some (.agg ⟨gcs g rv fv cv kv⟩):=st1.ldA (.head _) rfl (by simp);have okh:=st1.ok;simp only[la,vb_some];have r1:=gv.rd (h:=h1) (fun b cs e=>st1.leS b cs e);refine Ret.lfcall st1 (fr_nul (S:=S) (fun b cs e=>st1.leS b cs e) hgood (c31 (h:=h1) (ih:=ih) hn r1 hG)) fun v h2 ex hv2 st2=>?_;obtain⟨bn,md,e,cn,nul,rfl,hnul,rfl⟩:=hv2;have la2:xLdA 7 (.pointer (some ⟨c,0,none⟩)) h2=some (.agg ⟨gcs g rv fv cv kv⟩):=st2.ldA (.tail _ (.head _)) rfl (by simp);simp only[la2,lchk_t hv,ab51,vb_some];have hnn:=(st2.sm.own bn _ (st2.mem (.head _))).2;obtain⟨st3,hSn⟩:=st2.settle (i:=0) rfl;have le3:=VwN.put (h0:=h.fzn) hSn hnn (cs:=bv nul);have st3:Sl h.fzn h2 (S.put bn (bv nul)) OM.emp [(c,.row .own 1 (gcs g rv fv cv kv))]:=st3;have nl:NlV (S.put bn (bv nul)) g (.slice (some ⟨bn,0,none⟩) g.names.toNat cn):=⟨nul,bn,cn,hnul,rfl,Vw.put_self⟩;refine Ret.lbox st3 fun h4 bp st4=>?_;have gv4:=gv.mono le3.1;have rk4:=rk.mono le3.1;refine Ret.hb (c33 st4 (VS0.nil (rest:=[(c,.row .own 1 (gcs g rv fv cv kv))])) (by simp)) fun v5 h5 hv5=>?_;obtain⟨rfl,rows5,st5,vs5⟩:=hv5;simp only[ab53',ab55',vb_some];refine Ret.hb (c32 (past:=[]) st5 vs5 (by simp)) fun v6 h6 hv6=>?_;obtain⟨rfl,rows6,st6,vs6⟩:=hv6;have ha:addI [] ((-1,0,0):It3)=[(-1,0,0)]:=rfl;rw[ha]at vs6;have pl0:Pl g ks []:=⟨kl,by simp,fun i l hi=>by simp at hi⟩;refine Ret.hb (c34 (past:=[]) hn hg gv4 nl pl0 st6 vs6 (by simp) (fun y hy=>by rw[List.mem_singleton]at hy;subst hy;exact .start)) fun v7 h7 hv7=>?_;obtain⟨rfl,rows7,cur7,st7,vs7,w7,hc7⟩:=hv7;have h07:((-1,0,0):It3)∈cur7:=w7.sub (.head _);have F:Whole g ks ([]++[cur7]):=Whole.snoc hg (fun j l hj=>by simp at hj) w7.nd w7.ei hc7 (fun _=>h07) (fun j x s k e=>by simp at e);simp only[rk4.lenV,vb_some,vN_eq];exact loop17 hn hg kl ks.length 0 n _ S [] cur7 rows7 h7 (by omega) (by omega) rfl gv4 nl rk4 le3 st7 vs7 F fun j hj=>⟨(-1,0,0),by
  have:j=0:=by omega
  subst this;exact .start⟩
end
theorem alive6_run:isT (F6 3000 (CLV 3000 30) h00)=true:=by kernel_rfl
noncomputable def CLU(n d:Nat):CL:=CLy n (CLV n d)
theorem CLU_ok(n d:Nat):OkCL Try.prog (CLU n d):=by
 obtain⟨k,hk⟩:=isT_ok alive6_run;have:=(S6 _ (CLV_ok _ _)).c0 hk;refine toldOr_ok (CLs_ok (CLV_ok n d)) this.1.1 rfl ?_;have hc:=this.1.2;have h0:h00.abs=[]:=rfl;rw[h0]at hc;exact hc.mono fun u k hq=>hq.1
theorem told6{n d:Nat}{h:PH}:pcall (CLU n d 6 [] h)=some (.bool true):=rfl
theorem clu39{n d:Nat}{u v w x:Value}{h:PH}:CLU n d 39 [u,v,w,x] h=CLV n (d+1) 39 [u,v,w,x] h:=rfl
theorem ChkQ.zero{g:Gr}{x:Int×Int}(q:ChkQ g x)(h:x.2=0):goodB g=true:=by
 cases q with
 |bad hb=>
  unfold goodB at hb;simp only[h]at hb;simp at hb
 |good ha _ _ _=>exact ha
structure Pre(g:Gr)(ks:List Int)(c:Nat):Prop where
 le:c<=ks.length
 yes: ∀j,j<=c-> ∃x,EI g ks j x
 no:c<ks.length-> ∀x, ¬ EI g ks (c+1) x
theorem Pre.det{g:Gr}{ks:List Int}{c d:Nat}(p:Pre g ks c)(q:Pre g ks d):c=d:=by
 rcases Nat.lt_trichotomy c d with h|h|h
 ·obtain⟨x,hx⟩:=q.yes (c+1) (by omega);exact absurd hx (p.no (by have:=q.le;omega) x)
 ·exact h
 ·obtain⟨x,hx⟩:=p.yes (d+1) (by omega);exact absurd hx (q.no (by have:=p.le;omega) x)
section
variable {Q:Value->PH->Prop}{n:Nat}{cl ih:CL}{h h0:PH}{S:Vw}{m:OM}{rows rest rows1:Rws}{bp:Nat}{g:Gr}{rv fv cv kv nv kvs:Value}{past:List (List It3)}{cur:List It3}{ks:List Int}
theorem c16[OkH h](hn:9223372036854775808<=n)(hG:GIn g)(hS:Vw.le S h.cells)(gv:GrV S g rv fv cv kv)(hv:veq (.agg ⟨gcs g rv fv cv kv⟩) (.agg ⟨gcs g rv fv cv kv⟩)=true):
  ∃x,ChkQ g x/\pcall (F16 n (CLy n ih) (.agg ⟨gcs g rv fv cv kv⟩) h.fzn)=some (.bool (decide (x.2=0))):=by
 have key:Ret (F16 n (CLy n ih) (.agg ⟨gcs g rv fv cv kv⟩) h.fzn) fun u _=> ∃x,ChkQ g x/\u= .bool (decide (x.2=0)):=by
  unfold F16;refine Ret.lbox (Sl.start h.fzn (fun b cs e=>hS b cs e)) fun h1 c st1=>?_;have st1:Sl h.fzn h1 S OM.emp [(c,.row .own 1 (gcs g rv fv cv kv))]:=st1;have la:xLdA 7 (.pointer (some ⟨c,0,none⟩)) h1=some (.agg ⟨gcs g rv fv cv kv⟩):=st1.ldA (.head _) rfl (by simp);have okh:=st1.ok;have r1:=gv.rd (h:=h1) (fun b cs e=>st1.leS b cs e);obtain⟨x,q,e⟩:=c30 (h:=h1) (ih:=ih) hn r1 hG hv;simp only[la,vb_some,e,xExt_t',List.getElem?_cons_zero,List.getElem?_cons_succ,vN_eq,show(((0:Nat):Int))=0 from rfl,xEq_i];exact Ret.of ⟨x,q,rfl⟩
 obtain⟨v,h',e,x,q,rfl⟩:=key;exact⟨x,q,by rw[e];rfl⟩
theorem c8[OkH h](hn:9223372036854775808<=n)(hG:GIn g)(hS:Vw.le S h.cells)(gv:GrV S g rv fv cv kv)(hv:veq (.agg ⟨gcs g rv fv cv kv⟩) (.agg ⟨gcs g rv fv cv kv⟩)=true)(rk:RdV (rI .i64) S kvs ks)(kl:ks.length<=40):
  ∃x c,ChkQ g x/\(x.2=0->Pre g ks c)/\pcall (F8 n (CLy n ih) (.agg ⟨gcs g rv fv cv kv⟩) kvs h.fzn)=some (.int .i64 (if x.2=0 then(c:Nat)else 0)):=by
 have key:Ret (F8 n (CLy n ih) (.agg ⟨gcs g rv fv cv kv⟩) kvs h.fzn) fun u _=> ∃(x:Int×Int) (c:Nat),ChkQ g x/\(x.2=0->Pre g ks c)/\u= .int .i64 (if x.2=0 then(c:Nat)else 0):=by
  unfold F8;refine Ret.lbox (Sl.start h.fzn (fun b cs e=>hS b cs e)) fun h1 c st1=>?_;have st1:Sl h.fzn h1 S OM.emp [(c,.row .own 1 (gcs g rv fv cv kv))]:=st1;have la:xLdA 7 (.pointer (some ⟨c,0,none⟩)) h1=some (.agg ⟨gcs g rv fv cv kv⟩):=st1.ldA (.head _) rfl (by simp);have okh:=st1.ok;obtain⟨x,q,e⟩:=c16 (h:=h1) (ih:=ih) hn hG (fun b cs e=>st1.leS b cs e) gv hv;simp only[la,vb_some,e,xNot_b]
  by_cases hx:x.2=0
  ·simp only[decide_eq_true hx,Bool.not_true,bite_f,F8_0,la,vb_some];refine Ret.lfcallV st1 (fun v V W=>RunP.mono v V W) (c17 (h:=h1) (ih:=ih) hn (q.zero hx) hG (fun b cs e=>st1.leS b cs e) gv hv rk kl) fun v h2 S2 le2 st2 hp=>?_;obtain⟨bp,cc,rfl,q2,q3,q4,q5⟩:=hp.h;simp only[xExt_t',List.getElem?_cons_zero,List.getElem?_cons_succ,vb_some];refine Ret.of ⟨x,cc,q,fun _=>⟨q2,q3,q4⟩,by rw[if_pos hx]⟩
  ·simp only[decide_eq_false hx,Bool.not_false,bite_t];exact Ret.of ⟨x,0,q,fun h=>absurd h hx,by rw[if_neg hx];rfl⟩
 obtain⟨v,h',e,x,c,q1,q2,rfl⟩:=key;exact⟨x,c,q1,q2,by rw[e];rfl⟩
end
def Gc(v:Value):Prop:=v=nils\/ ∃b k,v= .slice (some ⟨b,0,none⟩) k openCap
theorem growR_v{sz b k o n:Nat}{kill:Bool}{cs new:List Value}{h h':PH}{v:Value}(hx:growR sz b k o kill cs new n h=some (v,h')): ∃b',v= .slice (some ⟨b',0,none⟩) n openCap:=by
 unfold growR at hx
 split at hx<;>try (cases hx;done)
 split at hx
 ·split at hx<;>try (cases hx;done)
  rw[seqN_eq]at hx;cases hx;exact⟨_,rfl⟩
 ·rw[seqN_eq]at hx;cases hx;exact⟨_,rfl⟩
theorem xApp_gc{ai:Option (Nat×Nat)}{v v' x:Value}{h h':PH}(g:Gc v)(e:xApp ai v x h=some (v',h')):Gc v':=by
 unfold xApp at e
 split at e<;>try (cases e;done)
 split at e<;>try (cases e;done)
 split at e<;>try (cases e;done)
 rcases g with rfl|⟨b,k,rfl⟩
 ·simp only[nils]at e
  split at e
  ·cases e;exact .inl rfl
  ·split at e<;>try (cases e;done)
   split at e<;>try (cases e;done)
   cases e;exact .inr ⟨_,_,rfl⟩
 ·simp only at e
  split at e
  ·split at e<;>try (cases e;done)
   cases e;exact .inr ⟨_,_,rfl⟩
  ·split at e<;>try (cases e;done)
   split at e<;>try (cases e;done)
   split at e<;>try (cases e;done)
   split at e
   ·split at e
    ·split at e<;>try (cases e;done)
     split at e<;>try (cases e;done)
     exact .inr ⟨_,_,(stayR_ok e).1⟩
    ·obtain⟨_,q⟩:=growR_v e;exact .inr ⟨_,_,q⟩
   ·split at e<;>try (cases e;done)
    split at e<;>try (cases e;done)
    split at e<;>try (cases e;done)
    split at e<;>try (cases e;done)
    split at e
    ·exact .inr ⟨_,_,(stayR_ok e).1⟩
    ·obtain⟨_,q⟩:=growR_v e;exact .inr ⟨_,_,q⟩
section
variable {Q:Value->PH->Prop}{n:Nat}{cl:CL}{h h0:PH}{S:Vw}{m:OM}{rows:Rws}{K2:Value->PH->R}
theorem hb_id{X:R}:Go.Am.hb X (fun v h=>some (v,h))=X:=by
 cases X with
 |none=>rfl
 |some p=>rfl
theorem Ret.gappC{ex:Rws}(s:Sl h0 h S m (ex++rows)){P:Program}{T:TypeId}{ats:Array TypeId}{parts:List (Nat×Value)}{sz bt k:Nat}{v:Value}{cells new:List Value}(g:Gl sz v k cells ex)(gc:Gc v)
  (hb:bsRow P T 1 parts=some (sz,new)) (ha:appInfo P ats=some (sz,bt)) (hl:new.length=sz) (hone:oneCells new=true) (hsz:(2*(k+1)+512)*bt<=281474976710656)
  (hk: ∀h' v' ex',Sl h0 h' S m (ex'++rows)->Gl sz v' (k+1) (cells++new) ex'->Gc v'->Ret (K2 v' h') Q):Ret (Go.Am.hb (xBS 1 (bsRow P T 1 parts) h) fun v1 h=>Go.Am.hb (xApp (appInfo P ats) v v1 h) K2) Q:=by
 refine Ret.lbs s hb fun h1 b st=>?_;have st1:=st.perm (rows':=ex++(b,.row .own sz new)::rows) List.perm_middle.symm;have hx:=st1.ptail (n:=1) (sz:=sz) (c:=1) (b:=b) (List.mem_append_right _ (.head _)) (by rw[hl,Nat.one_mul]);rw[ha];have r:=Ret.lapp (bt:=bt) (K2:=fun v h=>some (v,h)) (Q:=fun v' h'=> ∃ex',Sl h0 h' S m (ex'++(b,.row .own sz new)::rows)/\Gl sz v' (k+1) (cells++new) ex') st1 g hx (by rw[hl,Nat.one_mul]) (by omega) hone hsz fun h' v' ex' st' g'=>Ret.of ⟨ex',st',g'⟩;rw[hb_id]at r;obtain⟨v',h',e,ex',st',g'⟩:=r;rw[e];exact hk h' v' ex' (st'.drop (List.Sublist.append (List.Sublist.refl _) (List.sublist_cons_self _ _))) g' (xApp_gc gc e)
end
theorem Sl.float{h0 h:PH}{S:Vw}{m:OM}{rows:Rws}{b:Nat}{o:AObj}(s:Sl h0 h S (m.upd b o) rows)(hm:m b=none):Sl h0 h S m ((b,o)::rows):=by
 have hne:=s.ne (b:=b) (o:=o) OM.upd_self;refine⟨?_,.cons (fun p hp e=>hne p hp e.symm) s.nd,fun p hp=>?_⟩
 ·have e:over ((b,o)::rows) m=over rows (m.upd b o):=over_upd hne;rw[e];exact s.sm
 ·rcases List.mem_cons.1 hp with rfl|hp
  ·exact hm
  ·have h1:=s.out p hp;have h2:=hne p hp
   rwa [OM.upd_ne h2]at h1
theorem fz_zv(l:List Int):fz (fun i=>l.getD i 0) l.length=zv l:=by
 apply List.ext_getElem?
 intro i
 by_cases hi:i<l.length
 ·rw[fz_get hi,zv_get (List.getElem?_eq_getElem hi),List.getD_eq_getElem?_getD,List.getElem?_eq_getElem hi];rfl
 ·rw[List.getElem?_eq_none (by rw[fz_len];omega),List.getElem?_eq_none (by rw[zv_len];omega)]
section
variable {Q:Value->PH->Prop}{n:Nat}{cl ih:CL}{h h0:PH}{S:Vw}{m:OM}{rows rest rows1 ex:Rws}
def Anc(N:Nat)(v:Value):Prop:=v=nils\/ ∃b o n c,v= .slice (some ⟨b,o,none⟩) n c/\N<=b
theorem Gl.anc{sz k:Nat}{v:Value}{cells:List Value}(g:Gl sz v k cells ex)(st:Sl h0 h S m (ex++rows)):Anc h0.n v:=by
 rcases g.h with⟨_,_,rfl,_⟩|⟨b,o,cap,all,rfl,rfl,_⟩
 ·exact .inl rfl
 ·exact .inr ⟨b,o,k,cap,rfl,(st.sm.own b _ (st.mem (.head _))).2⟩
def Asc(l:List Int):Prop:=l.Pairwise (· < ·)
theorem nil21(hn:9223372036854775808<=n){D:Nat}(h39: ∀u v w x h,cl 39 [u,v,w,x] h=CLV n (D+1) 39 [u,v,w,x] h)[OkH h]:F21 n cl nils h=some (.tuple ⟨[]⟩,h):=by
 unfold F21;obtain⟨n,rfl⟩: ∃k,n=k+1:=⟨n-1,by omega⟩;have hl:xLenS nils=some (.int .i64 ((0:Nat):Int)):=rfl;obtain⟨L,h1,h2,hp⟩:=c40 (n:=n+1) (cl:=cl) (h:=h.fzn) (x:=0) (by omega);simp only[hl,vb_some,xConvI_i',wr64u (show 0<18446744073709551616 by omega),hp,vN_eq,h39,CLV39];unfold F39;rw[lp_succ];simp only[F39_19,ucons_cons,F39_18,xSub_i,xLe_i,vb_some];have d1:decide (IntKind.i64.wrap (((0:Nat):Int)-((0:Nat):Int))<=((12:Nat):Int))=true:=by decide
 simp only[vN_eq,xLe_i,vb_some,d1,bite_t,F39_0];unfold F56;rw[lp_succ];have d2:IntKind.i64.wrap (((0:Nat):Int)+((1:Nat):Int))=1:=by decide
 have d3:decide ((1:Int)<((0:Nat):Int))=false:=by decide
 simp only[vN_eq,xAdd_i,vb_some,d2,F56_5,ucons_cons,F56_4,xLt_i,d3,bite_f,hb_some]
theorem sortC(hn:9223372036854775808<=n){D:Nat}(hD:65536<=D)(h39: ∀u v w x h,cl 39 [u,v,w,x] h=CLV n (D+1) 39 [u,v,w,x] h){v:Value}{l:List Int}(hl:l.length<=65536)(st:Sl h0 h S OM.emp (ex++rows))(g:Gl 1 v l.length (zv l) ex)(gc:Gc v)
  (hQ: ∀v' h' S' l',VwN h0 S S'->Sl h0 h' S' OM.emp rows->RdV (rI .i64) S' v' l'->Asc l'->(∀x,x∈l'↔x∈l)->Anc h0.n v'->Q v' h'):
  Ret (Go.Am.hb (F21 n cl v h) fun b h=>Go.Am.hb (F22 n cl v h) fun c h=>some (c,h)) Q:=by
 rcases g.h with⟨h1,h2,rfl,rfl⟩|⟨b,o,cap,all,rfl,rfl,h2,h3,h4,h5,h6⟩
 ·have hl0:l=[]:=List.length_eq_zero_iff.1 h1;subst hl0;have ok:=st.ok;rw[nil21 hn h39];have hlen:xLenS nils=some (.int .i64 ((0:Nat):Int)):=rfl;have d:decide (((0:Nat):Int)<((2:Nat):Int))=true:=by decide
  unfold F22;simp only[hb_some,hlen,vN_eq,xLt_i,vb_some,d,bite_t];exact Ret.of (hQ nils h S [] VwN.refl st (.inl ⟨rfl,none,0,rfl⟩) .nil (fun x=>Iff.rfl) (.inl rfl))
 ·obtain⟨rfl,rfl⟩:o=0/\cap=openCap:=by
   rcases gc with e|⟨b',k',e⟩
   ·cases e
   ·cases e;exact⟨rfl,rfl⟩
  have h3:0+l.length*1<=all.length:=h3;rw[Nat.mul_one]at h2 h3;have hall:all=all.take 0++(fz (fun i=>l.getD i 0) l.length++all.drop (0+l.length)):=by
   rw[fz_zv,h2, <-List.drop_drop,List.take_append_drop,List.take_append_drop]
  have hto:(all.take 0).length=0:=by rw[List.length_take];omega
  obtain⟨st1,hm⟩:=st.sink (i:=0) rfl;have st1:Sl h0 h S (SM b .opn (all.take 0) (all.drop (0+l.length)) l.length (fun i=>l.getD i 0)) rows:=by
   unfold SM;rw[<-hall];exact st1
  have hv:(Value.slice (some ⟨b,0,none⟩) l.length openCap)=sv b (all.take 0) l.length openCap:=by
   unfold sv;rw[hto]
  rw[hv];have hc:CapOk l.length openCap:=CapOk.opn (by omega);refine Ret.hb (c21 (md:=.opn) rfl (by omega) (by omega) (show l.length<=D by omega) h39 st1) fun v1 h1' ⟨f1,q1,q2,st2⟩=>?_;refine Ret.hb (c22 (md:=.opn) rfl (by omega) hc (by omega) q2 st2) fun v2 h2' hv2=>?_;obtain⟨K,f2,post',hK,⟨o1,o2,o3⟩,rfl,st3⟩:=hv2;have st4:=Sl.float (m:=OM.emp) (b:=b) st3 rfl;obtain⟨st5,hS⟩:=st4.settle (i:=0) rfl;have hn':=(st4.sm.own b _ (st4.mem (.head _))).2;have le:=VwN.put (h0:=h0) hS hn' (cs:=all.take 0++(fz f2 K++post'));refine Ret.of (hQ _ h2' _ ((List.range K).map f2) le st5 (.inr ⟨b,0,openCap,_,by unfold sv;rw[hto];simp,Vw.put_self,fun i z hz=>?_⟩) ?_ (fun x=>?_) (.inr ⟨b,_,_,_,rfl,hn'⟩))
  ·rw[List.getElem?_map,Option.map_eq_some_iff]at hz;obtain⟨j,hj,rfl⟩:=hz;obtain⟨hiK,rfl⟩:i<K/\i=j:=by
    obtain⟨a,b⟩:=List.getElem?_eq_some_iff.1 hj;simp at a b;exact⟨a,b⟩
   have hg:=sGet (pre:=all.take 0) (f:=f2) (post:=post') hiK;rw[hto]at hg;have hlt:=(List.getElem?_eq_some_iff.1 hg).1;refine⟨by show 0+i*1+1<=_;omega,?_⟩
   show((all.take 0++(fz f2 K++post')).drop (0+i*1)).take 1=[.int .i64 (f2 i)]
   rw[Nat.mul_one,List.drop_eq_getElem_cons hlt,List.take_succ_cons];exact congrArg (fun x=>[x]) (List.getElem?_eq_some_iff.1 hg).2
  ·unfold Asc;rw[List.pairwise_map];refine List.Pairwise.imp_of_mem (R:=(· < ·)) (fun {a b} ha hb hab=>o1 a b hab (List.mem_range.1 hb)) ?_;exact List.pairwise_lt_range
  ·have hsw: ∀z,(∃i,i<l.length/\f1 i=z)↔z∈l:=fun z=>by
    constructor
    ·rintro⟨i,hi,rfl⟩;obtain⟨j,hj,e⟩:=q1.from (k:=i) ⟨Nat.zero_le _,hi⟩;rw[e]
     show l.getD j 0∈l
     have hj':j<l.length:=hj.2;rw[List.getD_eq_getElem?_getD,List.getElem?_eq_getElem hj'];exact List.getElem_mem hj'
    ·intro hz;obtain⟨i,hi⟩:=List.getElem?_of_mem hz;have hi':=(List.getElem?_eq_some_iff.1 hi).1;obtain⟨j,hj,e⟩:=q1.to (k:=i) ⟨Nat.zero_le _,hi'⟩;refine⟨j,hj.2,?_⟩;rw[<-e]
     show l.getD i 0=z
     rw[List.getD_eq_getElem?_getD,hi];rfl
   rw[<-hsw];simp only[List.mem_map,List.mem_range];constructor
   ·rintro⟨j,hj,rfl⟩;obtain⟨i,hi,e⟩:=o3 j hj;exact⟨i,hi,e.symm⟩
   ·rintro⟨i,hi,rfl⟩;obtain⟨j,hj,e⟩:=o2 i hi;exact⟨j,hj,e⟩
end
def outI(g:Gr)(x:It3):List Int:=match behI g x.1 x.2.1 with
 |some s=>if isKind g.kinds s=true then [-1-s]else []
 |none=>if x.1= -1 then [g.kinds]else []
theorem outI_len{g:Gr}{x:It3}:(outI g x).length<=1:=by
 unfold outI
 split<;>split<;>simp
def Nx(g:Gr)(ks:List Int)(k:Int):Prop:= ∃y,EI g ks ks.length y/\k∈outI g y
structure NextP(g:Gr)(ks:List Int)(x:Int×Int)(v:Value)(V:Vw):Prop where
 h: ∃l,RdV (rI .i64) V v l/\Asc l/\ ∀k,k∈l↔x.2=0/\Nx g ks k
theorem NextP.mono{g:Gr}{ks:List Int}{x:Int×Int}(v:Value)(V W:Vw)(hs:Vw.le V W)(p:NextP g ks x v V):NextP g ks x v W:=by
 obtain⟨l,a,b⟩:=p.h;exact⟨l,a.mono hs,b⟩
theorem Asc.ext: ∀{l l':List Int},Asc l->Asc l'->(∀k,k∈l↔k∈l')->l=l'
 | [],[],_,_,_=>rfl
 | [],b::l',_,_,h=>by have:=(h b).2 (.head _);cases this
 |a::l,[],_,_,h=>by have:=(h a).1 (.head _);cases this
 |a::l,b::l',h1,h2,h=>by
  unfold Asc at h1 h2;rw[List.pairwise_cons]at h1 h2;have e:a=b:=by
   rcases List.mem_cons.1 ((h a).1 (.head _))with e|e
   ·exact e
   ·rcases List.mem_cons.1 ((h b).2 (.head _))with e'|e'
    ·exact e'.symm
    ·have:=h2.1 a e;have:=h1.1 b e';omega
  subst e;have:l=l':=Asc.ext h1.2 h2.2 fun k=>by
   constructor
   ·intro hk;rcases List.mem_cons.1 ((h k).1 (.tail _ hk))with e|e
    ·have:=h1.1 k hk;omega
    ·exact e
   ·intro hk;rcases List.mem_cons.1 ((h k).2 (.tail _ hk))with e|e
    ·have:=h2.1 k hk;omega
    ·exact e
  rw[this]
theorem EI.down{g:Gr}{ks:List Int}{j:Nat}{x:It3}(h:EI g ks j x): ∀i,j=i+1-> ∃y,EI g ks i y:=by
 induction h with
 |start=>intro i e;omega
 |pred hx hb hs' hr hl ih=>exact ih
 |null hx hb hs' hn ih=>exact ih
 |comp hx h1 hr ha hf hy hb ih1 ih2=>exact ih1
 |shift hx hb hs' hk he ih=>intro i e;cases e;exact⟨_,hx⟩
theorem Pre.none{g:Gr}{ks:List Int}{c:Nat}(p:Pre g ks c)(h:c<ks.length){j:Nat}(hj:c<j)(x:It3): ¬ EI g ks j x:=by
 obtain⟨d,rfl⟩: ∃d,j=c+1+d:=⟨j-(c+1),by omega⟩
 clear hj
 induction d generalizing x with
 |zero=>exact p.no h x
 |succ d ih=>
  intro hx;obtain⟨y,hy⟩:=hx.down (c+1+d) rfl;exact ih y hy
section
variable {Q:Value->PH->Prop}{n:Nat}{cl ih:CL}{h h0:PH}{S:Vw}{m:OM}{rows rest rows1 ex:Rws}{g:Gr}{rv fv cv kv kvs:Value}{ks:List Int}
theorem ai24x:appInfo Try.prog #[24,24]=some (1,8):=by kernel_rfl
set_option maxRecDepth 100000 in
theorem loop11(hn:9223372036854775808<=n)(hg:GOk g)(kl:ks.length<=40){D:Nat}(hD:65536<=D)(h39: ∀u v w x h,cl 39 [u,v,w,x] h=CLV n (D+1) 39 [u,v,w,x] h)(gv:GrV S g rv fv cv kv){J:Nat}{l:List It3}{v:Value}{c:Nat}(hl:SlC S 3 v l.length (l.flatMap itc))(ll:l.length<=65536)(hE: ∀y∈l,EI g ks J y)
  (hQ: ∀v' h' S' l',VwN h0 S S'->Sl h0 h' S' OM.emp [(c,.row .own 1 (gcs g rv fv cv kv))]->RdV (rI .i64) S' v' l'->Asc l'->(∀x,x∈l'↔x∈l.flatMap (outI g))->Anc h0.n v'->Q v' h'):
  ∀(q i fu:Nat)(ov:Value)(outs:List Int)(ex:Rws)(h:PH),l.length=i+q->q<fu->Sl h0 h S OM.emp (ex++[(c,.row .own 1 (gcs g rv fv cv kv))])->Gl 1 ov outs.length (zv outs) ex->Gc ov->outs.length<=i->outs=(l.take i).flatMap (outI g)->
   Ret (lp fu (F11_10 n cl) [.pointer (some ⟨c,0,none⟩),ov,v,.int .i64 (l.length:Nat),.int .i64 (i:Nat)] h) Q:=by
 intro q
 induction q with
 |zero=>
  intro i fu ov outs ex h hq hf st gl gc ho he;obtain⟨fu,rfl⟩: ∃q,fu=q+1:=⟨fu-1,by omega⟩;rw[lp_succ];have dc:decide (((i:Nat):Int)<((l.length:Nat):Int))=false:=decide_eq_false (by omega);simp only[F11_10,ucons_cons,F11_9,xLt_i,dc,vb_some,bite_f,F11_8];refine sortC hn hD h39 (by omega) st gl gc fun v' h' S' l' q1 q2 q3 q4 q5 q6=>hQ v' h' S' l' q1 q2 q3 q4 (fun x=>?_) q6;rw[q5,he,List.take_of_length_le (by omega)]
 |succ q ih'=>
  intro i fu ov outs ex h hq hf st gl gc ho he;obtain⟨fu,rfl⟩: ∃q,fu=q+1:=⟨fu-1,by omega⟩;rw[lp_succ];have dc:decide (((i:Nat):Int)<((l.length:Nat):Int))=true:=decide_eq_true (by omega);have hy:=List.getElem?_eq_getElem (l:=l) (i:=i) (by omega);have htk:l.take (i+1)=l.take i++[l[i]]:=by rw[List.take_add_one,hy];rfl
  generalize l[i]=y at hy htk;obtain⟨pq,g1,g2⟩:=hl.itAt hy st;have hyE:=hE y (List.mem_of_getElem? hy);obtain⟨oky,fy,_⟩:=EI.ok hg hyE;simp only[F11_10,ucons_cons,F11_9,xLt_i,dc,vb_some,bite_t,jn_eq,F11_7,g1,g2];refine Ret.lalloc st zc55 fun hA b st1=>?_;refine Ret.lstA st1 0 rfl rfl rfl (by simp) rfl fun hB st2=>?_;rw[setsL_all (by rfl)]at st2;have st2:Sl h0 hB S OM.emp ((b,.row .own 1 (itc y))::(ex++[(c,.row .own 1 (gcs g rv fv cv kv))])):=st2;obtain⟨b1,b2⟩:=beh_box (n:=n) (cl:=cl) st2 gv oky (.head _);have lc:xLdA 7 (.pointer (some ⟨c,0,none⟩)) hB=some (.agg ⟨gcs g rv fv cv kv⟩):=st2.ldA (b:=c) (e:=1) (md:=.own) (cs:=gcs g rv fv cv kv) (by simp) rfl (by simp);have lr:xLd (.pointer (some ⟨b,0,none⟩)) hB=some (.int .i64 y.1):=st2.ld (.head _) rfl;have lk:xLd (.pointer (some ⟨c,1,none⟩)) hB=some (.int .i64 g.kinds):=st2.ld (b:=c) (e:=1) (md:=.own) (cs:=gcs g rv fv cv kv) (by simp) rfl;have okh:=st2.ok;have eM:vM 0= .int .i64 (-1):=rfl;have k20: ∀s,inR s->pcall (F20 n cl (.agg ⟨gcs g rv fv cv kv⟩) (.int .i64 s) hB.fzn)=some (.tuple ⟨[.int .i64 (-1-s),.bool (isKind g.kinds s)]⟩):=fun s hs=>c20 (h:=hB) hs;simp only[xFld_p,Nat.zero_add,lc,b1,b2,vb_some,xExt_t',List.getElem?_cons_zero,List.getElem?_cons_succ,jn_eq,F11_5];have st3:Sl h0 hB S OM.emp (ex++[(c,.row .own 1 (gcs g rv fv cv kv))]):=st2.drop (List.sublist_cons_self _ _);have hnext: ∀(ov':Value)(outs':List Int)(ex':Rws)(h':PH),Sl h0 h' S OM.emp (ex'++[(c,.row .own 1 (gcs g rv fv cv kv))])->Gl 1 ov' outs'.length (zv outs') ex'->Gc ov'->outs'=outs++outI g y->
    Ret (F11_6 n cl (lp fu (F11_10 n cl)) [.pointer (some ⟨c,0,none⟩),ov',v,.int .i64 (l.length:Nat),.int .i64 (i:Nat)] h') Q:=by
   intro ov' outs' ex' h' st' gl' gc' e';simp only[F11_6,ucons_cons,F11_0,vN_eq,xAdd_i,vb_some,show(((1:Nat):Int))=1 from rfl,wrap1 (i:=i) (by omega)];refine ih' (i+1) fu ov' outs' ex' h' (by omega) (by omega) st' gl' gc' ?_ ?_
   ·have:=outI_len (g:=g) (x:=y);rw[e',List.length_append];omega
   ·rw[e',he,htk,List.flatMap_append];simp
  have happ: ∀(z:Int)(K2:Value->PH->R),(∀h' v' ex',Sl h0 h' S OM.emp (ex'++[(c,.row .own 1 (gcs g rv fv cv kv))])->Gl 1 v' (outs++[z]).length (zv (outs++[z])) ex'->Gc v'->Ret (K2 v' h') Q)->
    Ret (Go.Am.hb (xBS 1 (bsRow Try.prog 24 1 [(0,.int .i64 z)]) hB) fun v1 h=>Go.Am.hb (xApp (appInfo Try.prog #[24,24]) ov v1 h) K2) Q:=by
   intro z K2 hk;have hsz:(2*(outs.length+1)+512)*8<=281474976710656:=by omega
   refine Ret.gappC st3 gl gc bsI24 ai24x rfl rfl hsz fun h' v' ex' st' gl' gc'=>hk h' v' ex' st' ?_ gc';rw[List.length_append,List.length_singleton];have e:zv (outs++[z])=zv outs++[.int .i64 z]:=by simp[zv]
   rw[e];exact gl'
  cases hb:behI g y.1 y.2.1 with
  |none=>
   have e0: ∀o:Option Value,gd (isB true (.bool false)) o=some undef:=fun o=>rfl;simp only[Option.isSome_none,Option.getD_none,k20 0 (by unfold inR;omega),vb_some,xExt_t',List.getElem?_cons_zero,List.getElem?_cons_succ,e0,xPick_f,ff_eq,bite_f,F11_4,ucons_cons,F11_2,xNot_b,Bool.not_false,isB_t,gd_true,xFld_p,Nat.zero_add,lr,eM,xEq_i,xPick_t]
   by_cases hr:y.1= -1
   ·simp only[decide_eq_true hr,bite_t,F11_1,xFld_p,Nat.zero_add,lk,vb_some];refine happ _ _ fun h' v' ex' st' gl' gc'=>hnext v' _ ex' h' st' gl' gc' ?_;unfold outI;rw[hb];simp[hr]
   ·simp only[decide_eq_false hr,bite_f];refine hnext ov outs ex hB st3 gl gc ?_;unfold outI;rw[hb];simp[hr]
  |some s=>
   have hs:=beh_sym hg hb;have hkn:=hg.kn;have hnm:=hg.nm;have hsr: -1000000000<s/\s<1000000000:=by
    rcases hs with h|h
    ·have:=isName_iff.1 h;omega
    ·omega
   have e1: ∀o:Option Value,gd (isB true (.bool true)) o=o:=fun o=>rfl;simp only[Option.isSome_some,Option.getD_some,k20 s (by unfold inR;omega),vb_some,xExt_t',List.getElem?_cons_zero,List.getElem?_cons_succ,e1,xPick_t];have hback: ∀(ov':Value)(outs':List Int)(ex':Rws)(h':PH),Sl h0 h' S OM.emp (ex'++[(c,.row .own 1 (gcs g rv fv cv kv))])->Gl 1 ov' outs'.length (zv outs') ex'->Gc ov'->outs'=outs++outI g y->
     Ret (F11_4 n cl (F11_6 n cl (lp fu (F11_10 n cl))) [.pointer (some ⟨c,0,none⟩),ov',.pointer (some ⟨b,0,none⟩),.bool true,v,.int .i64 (l.length:Nat),.int .i64 (i:Nat)] h') Q:=by
    intro ov' outs' ex' h' st' gl' gc' e';have e0: ∀o:Option Value,gd (isB true (.bool false)) o=some undef:=fun o=>rfl;simp only[F11_4,ucons_cons,F11_2,xNot_b,Bool.not_true,e0,vb_some,xPick_f,ff_eq,bite_f];exact hnext ov' outs' ex' h' st' gl' gc' e'
   cases hk:isKind g.kinds s with
   |true=>
    simp only[bite_t,F11_3];refine happ _ _ fun h' v' ex' st' gl' gc'=>hback v' _ ex' h' st' gl' gc' ?_;unfold outI;rw[hb];simp[hk]
   |false=>
    simp only[bite_f];refine hback ov outs ex hB st3 gl gc ?_;unfold outI;rw[hb];simp[hk]
theorem c11[OkH h](hn:9223372036854775808<=n){D:Nat}(hD:65536<=D)(h39: ∀u v w x h,CLy n ih 39 [u,v,w,x] h=CLV n (D+1) 39 [u,v,w,x] h)(hG:GIn g)(hS:Vw.le S h.cells)(gv:GrV S g rv fv cv kv)(hv:veq (.agg ⟨gcs g rv fv cv kv⟩) (.agg ⟨gcs g rv fv cv kv⟩)=true)(rk:RdV (rI .i64) S kvs ks)(kl:ks.length<=40):
  Ret (F11 n (CLy n ih) (.agg ⟨gcs g rv fv cv kv⟩) kvs h.fzn) fun v h1=> ∃S',VwN h.fzn S S'/\Sl h.fzn h1 S' OM.emp []/\ ∃x,ChkQ g x/\NextP g ks x v S'/\Anc h.n v:=by
 unfold F11;refine Ret.lbox (Sl.start h.fzn (fun b cs e=>hS b cs e)) fun h1 c st1=>?_;have st1:Sl h.fzn h1 S OM.emp [(c,.row .own 1 (gcs g rv fv cv kv))]:=st1;have la:xLdA 7 (.pointer (some ⟨c,0,none⟩)) h1=some (.agg ⟨gcs g rv fv cv kv⟩):=st1.ldA (.head _) rfl (by simp);have okh:=st1.ok;obtain⟨x,q,e⟩:=c16 (h:=h1) (ih:=ih) hn hG (fun b cs e=>st1.leS b cs e) gv hv;simp only[la,vb_some,e,xNot_b]
 by_cases hx:x.2=0
 ·simp only[decide_eq_true hx,Bool.not_true,bite_f,F11_12,la,vb_some];refine Ret.lfcallV st1 (fun v V W=>RunP.mono v V W) (c17 (h:=h1) (ih:=ih) hn (q.zero hx) hG (fun b cs e=>st1.leS b cs e) gv hv rk kl) fun v h2 S2 le2 st2 hp=>?_;obtain⟨bp,cc,rfl,q2,q3,q4,q5⟩:=hp.h;have hpre:Pre g ks cc:=⟨q2,q3,q4⟩;simp only[xExt_t',List.getElem?_cons_zero,List.getElem?_cons_succ,vb_some,(rk.mono le2.1).lenV,xLt_i]
  by_cases hlt:cc<ks.length
  ·have dc:decide (((cc:Nat):Int)<((ks.length:Nat):Int))=true:=decide_eq_true (by omega);simp only[dc,bite_t];refine Ret.of ⟨S2,le2,st2.drop (List.nil_sublist _),x,q,⟨[],.inl ⟨rfl,none,0,rfl⟩,.nil,fun k=>⟨fun h=>(by cases h),fun⟨_,y,hy,_⟩=>absurd hy (hpre.none hlt hlt y)⟩⟩,.inl rfl⟩
  ·have dc:decide (((cc:Nat):Int)<((ks.length:Nat):Int))=false:=decide_eq_false (by omega);have ec:cc=ks.length:=by omega
   subst ec;obtain⟨cs,allv,lv,l,r1,r2,⟨b,o,cp,cs2,rfl,r4,r5⟩,r6,r7,r8⟩:=q5 rfl;have l8:xLd (.pointer (some ⟨bp,8,none⟩)) h2=some (.slice (some ⟨b,o,none⟩) (ks.length+1) cp):=st2.ldS r1 r2;have li:xIdxS 1 (.slice (some ⟨b,o,none⟩) (ks.length+1) cp) (.int .i64 (ks.length:Nat))=some (.pointer (some ⟨b,o+ks.length,none⟩)):=by
    rw[xIdxS_at (by omega) (by omega)];simp
   have ll:xLd (.pointer (some ⟨b,o+ks.length,none⟩)) h2=some lv:=st2.ldS r4 r5;simp only[dc,bite_f,F11_11,xNil_p,xFld_p,Nat.zero_add,vb_some,l8,li,ll,r6.itLen,vN_eq];have hg:=gok_of (q.zero hx);have hE: ∀y∈l,EI g ks ks.length y:=fun y hy=>(r8 y).1 hy;have hf:=few_EI hg kl r7 hE;refine loop11 hn hg kl hD h39 (gv.mono le2.1) r6 hf hE (fun v' h' S' l' p1 p2 p3 p4 p5 p6=>⟨S',le2.trans p1,p2.drop (List.nil_sublist _),x,q,⟨l',p3,p4,fun k=>?_⟩,p6⟩) l.length 0 n nils [] [] h2 (by omega) (by omega) st2 Gl.nil (.inl rfl) (Nat.le_refl _) rfl;rw[p5,List.mem_flatMap];exact⟨fun⟨y,hy,hk⟩=>⟨hx,y,hE y hy,hk⟩,fun⟨_,y,hy,hk⟩=>⟨y,(r8 y).2 hy,hk⟩⟩
 ·simp only[decide_eq_false hx,Bool.not_false,bite_t];exact Ret.of ⟨S,VwN.refl,st1.drop (List.nil_sublist _),x,q,⟨[],.inl ⟨rfl,none,0,rfl⟩,.nil,fun k=>⟨fun h=>(by cases h),fun h=>absurd h.1 hx⟩⟩,.inl rfl⟩
end
theorem nest63: ∃fs fs0 f0 f1 i0,Nest Try.prog 63 53 3 fs fs0 f0 f1 i0:=by
 have e2:(Try.prog.info? 53).map (·.size)=some 2:=by kernel_rfl
 rw[Option.map_eq_some_iff]at e2;obtain⟨inf,h1,h2⟩:=e2;refine⟨_,_,_,_,inf,⟨Try.underlying63,rfl,by decide,by decide,rfl,rfl,rfl,rfl,by kernel_rfl,Try.underlying53,h1,h2,by kernel_rfl,fun j f hf=>?_,rfl,Try.underlying3⟩⟩
 match j,hf with
 |0,hf=>cases hf;exact⟨by decide,rfl,.i64,Try.underlying3⟩
 |1,hf=>cases hf;exact⟨by decide,rfl,.i64,Try.underlying3⟩
theorem g63:Try.prog.eqGuardType Try.prog.depth 63=false:=by kernel_rfl
theorem eq63{o1 o2:Operand}{x y:It3}:abin Try.prog .eql 63 o1 o2 (.agg ⟨itc x⟩) (.agg ⟨itc y⟩)=some (.bool (decide (x=y))):=by
 obtain⟨fs,fs0,f0,f1,i0,n⟩:=nest63;have h:=n.eq 9997 (a:=x.1) (b:=(x.2.1:Nat)) (c:=(x.2.2:Nat)) (a':=y.1) (b':=(y.2.1:Nat)) (c':=(y.2.2:Nat));have e:decide (x.1=y.1/\((x.2.1:Nat):Int)=(y.2.1:Nat)/\((x.2.2:Nat):Int)=(y.2.2:Nat))=decide (x=y):=by
  rw[Bool.eq_iff_iff,decide_eq_true_eq,decide_eq_true_eq];exact itc_inj
 rw[e]at h;exact abin_ints (k:=.i64) («as»:=[x.1,(x.2.1:Nat),(x.2.2:Nat)]) (bs:=[y.1,(y.2.1:Nat),(y.2.2:Nat)]) (o1:=o1) (o2:=o2) (.inl rfl) g63 h
section
variable {Q:Value->PH->Prop}{n:Nat}{cl ih:CL}{h h0:PH}{S:Vw}{m:OM}{rows rest rows1 ex:Rws}{g:Gr}{rv fv cv kv kvs:Value}{ks:List Int}
theorem Gl.seen{sz k:Nat}{v:Value}{cells:List Value}(g:Gl sz v k cells ex)(st:Sl h0 h S m rows)(hsub: ∀p∈ex,p∈rows): ∃V,Vw.le V h.fzn.cells/\Vw.le S V/\SlC V sz v k cells:=by
 have ok:=st.ok;refine⟨vall S (over rows m),st.fz,fun b cs e=>by unfold vall;rw[(st.sm.see b cs e).2];exact e,?_⟩;rcases g.h with⟨rfl,rfl,rfl,rfl⟩|⟨b,o,cap,all,rfl,rfl,rfl,h2,_⟩
 ·exact .inl ⟨rfl,rfl,rfl⟩
 ·exact .inr ⟨b,o,cap,all,rfl,vall_m (st.mem (hsub _ (.head _))),h2,rfl⟩
theorem loop55{l:List It3}{v:Value}(r:SlC S 3 v l.length (l.flatMap itc))(ll:l.length<=65536){x:It3}{c:Nat}:
  ∀(q i fu:Nat)(h:PH),l.length=i+q->q<fu->Sl h0 h S OM.emp [(c,.row .own 1 (itc x))]->(∀y∈l.take i,y≠x)->
   Fr h0 S (lp fu (F55_3 n cl) [v,.pointer (some ⟨c,0,none⟩),.int .i64 (i:Nat)] h) fun v _=>v= .bool (decide (x∈l)):=by
 intro q
 induction q with
 |zero=>
  intro i fu h hq hf st hd;obtain⟨fu,rfl⟩: ∃q,fu=q+1:=⟨fu-1,by omega⟩;rw[lp_succ];have dc:decide (((i:Nat):Int)<((l.length:Nat):Int))=false:=decide_eq_false (by omega);unfold Fr;simp only[F55_3,ucons_cons,F55_2,r.itLen,xLt_i,dc,vb_some,bite_f,ff_eq];refine Fr.ret st ?_;rw[decide_eq_false];intro hx;exact hd x (by rw[List.take_of_length_le (by omega)];exact hx) rfl
 |succ q ih'=>
  intro i fu h hq hf st hd;obtain⟨fu,rfl⟩: ∃q,fu=q+1:=⟨fu-1,by omega⟩;rw[lp_succ];have dc:decide (((i:Nat):Int)<((l.length:Nat):Int))=true:=decide_eq_true (by omega);have hy:=List.getElem?_eq_getElem (l:=l) (i:=i) (by omega);have htk:l.take (i+1)=l.take i++[l[i]]:=by rw[List.take_add_one,hy];rfl
  generalize l[i]=y at hy htk;obtain⟨pq,g1,g2⟩:=r.itAt hy st;have lc:xLdA 3 (.pointer (some ⟨c,0,none⟩)) h=some (.agg ⟨itc x⟩):=st.ldA (.head _) rfl (by simp[itc]);unfold Fr;simp only[F55_3,ucons_cons,F55_2,r.itLen,xLt_i,dc,vb_some,bite_t,F55_1,g1,g2,lc,eq63]
  by_cases e:y=x
  ·subst e;simp only[decide_true,bite_t,tt_eq];refine Fr.ret st ?_;rw[decide_eq_true (List.mem_of_getElem? hy)]
  ·simp only[decide_eq_false e,bite_f,F55_0,vN_eq,xAdd_i,vb_some,show(((1:Nat):Int))=1 from rfl,wrap1 (i:=i) (by omega)];refine ih' (i+1) fu h (by omega) (by omega) st fun z hz=>?_;rw[htk]at hz;rcases List.mem_append.1 hz with hz|hz
   ·exact hd z hz
   ·rw[List.mem_singleton]at hz;subst hz;exact e
theorem c55[OkH h](hn:9223372036854775808<=n)(hS:Vw.le S h.cells){l:List It3}{v:Value}(r:SlC S 3 v l.length (l.flatMap itc))(ll:l.length<=65536){x:It3}:pcall (F55 n cl v (.agg ⟨itc x⟩) h)=some (.bool (decide (x∈l))):=by
 refine pcall_fr (h:=h) (S:=S) ?_ rfl;unfold Fr F55;refine Ret.lbox (Sl.start h hS) fun h1 c st1=>?_;have st1:Sl h h1 S OM.emp [(c,.row .own 1 (itc x))]:=st1;exact loop55 r ll l.length 0 n h1 (by omega) (by omega) st1 (fun y hy=>by cases hy)
theorem c23[OkH h](hS:Vw.le S h.cells)(gv:GrV S g rv fv cv kv){x:It3}(hx:OkI g x)(hrl:g.rules.length<=60):
  ∃s0,pcall (F23 n cl (.agg ⟨gcs g rv fv cv kv⟩) (.agg ⟨[.int .i64 x.1,.int .i64 (x.2.1:Nat)]⟩) h)=some (.tuple ⟨[.int .i64 s0,.bool (behI g x.1 x.2.1).isSome]⟩)/\ ∀s,behI g x.1 x.2.1=some s->s0=s:=by
 have key:Fr h S (F23 n cl (.agg ⟨gcs g rv fv cv kv⟩) (.agg ⟨[.int .i64 x.1,.int .i64 (x.2.1:Nat)]⟩) h) fun v _=> ∃s0,v= .tuple ⟨[.int .i64 s0,.bool (behI g x.1 x.2.1).isSome]⟩/\ ∀s,behI g x.1 x.2.1=some s->s0=s:=by
  unfold Fr F23;refine Ret.lbox (Sl.start h hS) fun h1 b st1=>?_;have st1:Sl h h1 S OM.emp [(b,.row .own 1 (gcs g rv fv cv kv))]:=st1;refine Ret.lbox st1 fun h2 c st2=>?_;have st2:Sl h h2 S OM.emp [(c,.row .own 1 [.int .i64 x.1,.int .i64 (x.2.1:Nat)]),(b,.row .own 1 (gcs g rv fv cv kv))]:=st2;have l0:xLd (.pointer (some ⟨c,0,none⟩)) h2=some (.int .i64 x.1):=st2.ld (.head _) rfl;have l1:xLd (.pointer (some ⟨c,1,none⟩)) h2=some (.int .i64 (x.2.1:Nat)):=st2.ld (.head _) rfl;have l2:xLd (.pointer (some ⟨b,2,none⟩)) h2=some (.int .i64 g.start):=st2.ld (.tail _ (.head _)) rfl;have l3:xLd (.pointer (some ⟨b,3,none⟩)) h2=some rv:=st2.ld (.tail _ (.head _)) rfl;have eM:vM 0= .int .i64 (-1):=rfl;simp only[xFld_p,Nat.zero_add,vb_some,l0,eM,xEq_i];rcases hx.cases with⟨a1,a2⟩|⟨i0,r,a1,a2,a3,a4⟩
  ·simp only[decide_eq_true a1,bite_t,F23_0,xFld_p,Nat.zero_add,vb_some,l2,l1,vN_eq,xEq_i];refine Fr.ret st2 ⟨g.start,?_,fun s hs=>?_⟩
   ·rw[a1]
    by_cases e:x.2.1=0
    ·rw[e];rfl
    ·rw[behI_top1 (by omega),decide_eq_false (by omega)];rfl
   ·rw[a1]at hs
    by_cases e:x.2.1=0
    ·rw[e,behI_top]at hs;cases hs;rfl
    ·rw[behI_top1 (by omega)]at hs;cases hs
  ·have hlt:=(List.getElem?_eq_some_iff.1 a2).1;obtain⟨b2,o2,cs2,wv,e1,e2,e3,e4,e5⟩:=gv.rule a2;have lw:xLd (.pointer (some ⟨b2,o2+1,none⟩)) h2=some wv:=st2.ldS e2 (cells3 e3).2.1;rw[a1]at l0;have hne: ¬((i0:Nat):Int)= -1:=by omega
   have d1: ¬((i0:Nat):Int)<((0:Nat):Int):=by omega
   have d2: ¬((g.rules.length:Nat):Int)<=((i0:Nat):Int):=by omega
   have d3: ¬((x.2.1:Nat):Int)<((0:Nat):Int):=by omega
   have e0: ∀o:Option Value,gd (isB false (.bool false)) o=o:=fun o=>rfl;simp only[a1,decide_eq_false hne,bite_f,F23_2,xFld_p,Nat.zero_add,vb_some,l0,l1,l3,vN_eq,xLt_i,xGe_i,decide_eq_false d1,decide_eq_false d2,decide_eq_false d3,e0,xPick_f,gv.rules.lenV,e1,lw,e5.lenV]
   by_cases hl:x.2.1<r.right.length
   ·have d4: ¬((r.right.length:Nat):Int)<=((x.2.1:Nat):Int):=by omega
    have hz:=List.getElem?_eq_getElem hl;generalize r.right[x.2.1]=z at hz;obtain⟨b1,o1,cs1,f1,f2,f3⟩:=e5.atI hz;have lz:xLd (.pointer (some ⟨b1,o1,none⟩)) h2=some (.int .i64 z):=st2.ldS f2 f3;simp only[decide_eq_false d4,bite_f,F23_1,xFld_p,Nat.zero_add,vb_some,l3,l0,l1,e1,lw,f1,lz,tt_eq];refine Fr.ret st2 ⟨z,?_,fun s hs=>?_⟩
    ·rw[behI_rule a2,hz];rfl
    ·rw[behI_rule a2,hz]at hs;cases hs;rfl
   ·have d4:((r.right.length:Nat):Int)<=((x.2.1:Nat):Int):=by omega
    simp only[decide_eq_true d4,bite_t,ff_eq];refine Fr.ret st2 ⟨0,?_,fun s hs=>?_⟩
    ·rw[behI_rule a2,List.getElem?_eq_none (by omega)];rfl
    ·rw[behI_rule a2,List.getElem?_eq_none (by omega)]at hs;cases hs
 obtain⟨v,h',e,rows,_,s0,rfl,q⟩:=key;exact⟨s0,by rw[e];rfl,q⟩
end
theorem bs61{x:It3}:bsRow Try.prog 61 1 [(0,.agg ⟨itc x⟩)]=some (3,itc x):=by kernel_rfl
theorem ai61:appInfo Try.prog #[61,61]=some (3,24):=by kernel_rfl
theorem ab63(a b c:Int):abuild Try.prog 63 [(0,.agg ⟨[.int .i64 a,.int .i64 b]⟩),(1,.int .i64 c)]=some (.agg ⟨[.int .i64 a,.int .i64 b,.int .i64 c]⟩):=by kernel_rfl
theorem ab53c(a b:Int):abuild Try.prog 53 [(0,.int .i64 a),(1,.int .i64 b)]=some (.agg ⟨[.int .i64 a,.int .i64 b]⟩):=by kernel_rfl
theorem take2{cs:List Value}{o:Nat}{x:It3}(h:(cs.drop o).take 3=itc x):(cs.drop o).take 2=[.int .i64 x.1,.int .i64 (x.2.1:Nat)]:=by
 have:=congrArg (List.take 2) h;rw[List.take_take]at this;exact this
section
variable {Q:Value->PH->Prop}{n:Nat}{cl ih:CL}{h h0:PH}{S:Vw}{m:OM}{rows rest rows1 ex:Rws}{g:Gr}{rv fv cv kv kvs lv nv:Value}{ks:List Int}{L N:List It3}{c:Nat}
theorem Gl.itm{v:Value}{l:List It3}(r:Gl 3 v l.length (l.flatMap itc) ex){i:Nat}{x:It3}(hi:l[i]?=some x):
  ∃b o all,xIdxS 3 v (.int .i64 (i:Nat))=some (.pointer (some ⟨b,o,none⟩))/\ex=[(b,.row .opn 3 all)]/\(all.drop o).take 3=itc x/\o+3<=all.length:=by
 obtain⟨b,o,all,e1,e2,e3,e4⟩:=r.atc (List.getElem?_eq_some_iff.1 hi).1;rw[itc_at hi]at e3;exact⟨b,o,all,e1,e2,e3,e4⟩
theorem SlC.itm{v:Value}{l:List It3}(r:SlC S 3 v l.length (l.flatMap itc)){i:Nat}{x:It3}(hi:l[i]?=some x):
  ∃b o cs,xIdxS 3 v (.int .i64 (i:Nat))=some (.pointer (some ⟨b,o,none⟩))/\S b=some cs/\(cs.drop o).take 3=itc x/\o+3<=cs.length:=by
 have hil:=(List.getElem?_eq_some_iff.1 hi).1;rcases r with⟨h1,_⟩|⟨b,o,c,cs,rfl,h1,h2,h3⟩
 ·omega
 ·refine⟨b,o+i*3,cs,by rw[xIdxS_at (by omega) (by omega)];simp,h1,?_,by omega⟩;have:=itc_at hi;rw[h3,List.drop_take,List.take_take,List.drop_drop,Nat.min_eq_left (by omega)]at this;exact this
def Gx(v:Value)(l:List It3)(ex:Rws):Prop:=Gl 3 v l.length (l.flatMap itc) ex\/ ∃b,v= .slice (some ⟨b,0,none⟩) l.length l.length/\ex=[(b,.row .own 3 (l.flatMap itc))]/\0<l.length
theorem Gx.len{v:Value}{l:List It3}(r:Gx v l ex):xLenS v=some (.int .i64 (l.length:Nat)):=by
 rcases r with r|⟨b,rfl,_⟩
 ·exact r.len
 ·simp
theorem Gx.one{v:Value}{l:List It3}(r:Gx v l ex):v.oneCell'=true:=by
 rcases r with r|⟨b,rfl,_⟩
 ·exact r.one
 ·rfl
theorem Gx.itm{v:Value}{l:List It3}(r:Gx v l ex){i:Nat}{x:It3}(hi:l[i]?=some x):
  ∃b o md all,xIdxS 3 v (.int .i64 (i:Nat))=some (.pointer (some ⟨b,o,none⟩))/\ex=[(b,.row md 3 all)]/\(all.drop o).take 3=itc x/\o+3<=all.length:=by
 have hil:=(List.getElem?_eq_some_iff.1 hi).1;rcases r with r|⟨b,rfl,rfl,h1⟩
 ·obtain⟨b,o,all,e⟩:=r.itm hi;exact⟨b,o,.opn,all,e⟩
 ·refine⟨b,0+i*3,.own,_,by rw[xIdxS_at (by omega) (by omega)];simp,rfl,?_,?_⟩
  ·rw[Nat.zero_add];exact itc_at hi
  ·rw[itc_len];omega
theorem Gx.seen{v:Value}{l:List It3}(g:Gx v l ex)(st:Sl h0 h S m rows)(hsub: ∀p∈ex,p∈rows): ∃V,Vw.le V h.fzn.cells/\Vw.le S V/\SlC V 3 v l.length (l.flatMap itc):=by
 rcases g with g|⟨b,rfl,rfl,h1⟩
 ·exact g.seen st hsub
 ·have ok:=st.ok;refine⟨vall S (over rows m),st.fz,fun b cs e=>by unfold vall;rw[(st.sm.see b cs e).2];exact e,?_⟩;refine .inr ⟨b,0,l.length,l.flatMap itc,rfl,vall_m (st.mem (hsub _ (.head _))),by rw[itc_len];omega,?_⟩;rw[List.drop_zero,List.take_of_length_le (by rw[itc_len];omega)]
theorem flat1{l:List It3}{z:It3}:(l++[z]).flatMap itc=l.flatMap itc++itc z:=by simp
theorem Ret.gxapp{v:Value}{l:List It3}(g:Gx v l ex)(st:Sl h0 h S m (ex++rows))(hl:l.length<=70000){z:It3}{K2:Value->PH->R}(hk: ∀h' v' ex',Sl h0 h' S m (ex'++rows)->Gl 3 v' (l++[z]).length ((l++[z]).flatMap itc) ex'->Ret (K2 v' h') Q):
  Ret (Go.Am.hb (xBS 1 (bsRow Try.prog 61 1 [(0,.agg ⟨itc z⟩)]) h) fun v1 h=>Go.Am.hb (xApp (appInfo Try.prog #[61,61]) v v1 h) K2) Q:=by
 have hsz:(2*(l.length+1)+512)*24<=281474976710656:=by omega
 have hoc:4611686018427387904<=openCap:=by unfold openCap;decide
 rcases g with g|⟨b,rfl,rfl,h1⟩
 ·refine Ret.gapp st g bs61 ai61 rfl rfl hsz fun h' v' ex' st' g'=>hk h' v' ex' st' ?_;rw[flat1,List.length_append];exact g'
 ·refine Ret.lbs st bs61 fun h1 d st1=>?_;have hx:=st1.ptail (n:=1) (sz:=3) (c:=1) (b:=d) (.head _) rfl;rw[ai61];refine Ret.lappF st1 (o:=0) (k:=l.length) (st1.mem (.tail _ (.head _))) (by rw[itc_len];omega) (by omega) hx (by omega) rfl hsz fun h2 b' st2=>?_;rw[List.drop_zero,List.take_of_length_le (by rw[itc_len];omega)]at st2;refine hk h2 _ [(b',.row .opn 3 (l.flatMap itc++itc z))] (st2.drop ?_) (.mk (.inr ⟨b',0,openCap,_,by rw[List.length_append,List.length_singleton],rfl,?_,?_,by rw[Nat.sub_self,Nat.zero_mul],Nat.le_refl _,hoc⟩))
  ·exact .cons_cons _ (.cons _ (.cons _ (List.Sublist.refl _)))
  ·rw[List.drop_zero,flat1,List.take_of_length_le];rw[<-flat1,itc_len];omega
  ·rw[<-flat1,itc_len];omega
theorem Gx.settleV{v:Value}{l:List It3}(st:Sl h0 h S m (ex++rows))(g:Gx v l ex): ∃S',VwN h0 S S'/\Sl h0 h S' m rows/\SlC S' 3 v l.length (l.flatMap itc):=by
 rcases g with g|⟨b,rfl,rfl,h1⟩
 ·exact Gl.settleV st g
 ·have hn:=(st.sm.own b _ (st.mem (.head _))).2;obtain⟨s1,hS⟩:=st.settle (i:=0) rfl;refine⟨_,VwN.put hS hn,s1,.inr ⟨b,0,l.length,_,rfl,Vw.put_self,by rw[itc_len];omega,?_⟩⟩;rw[List.drop_zero,List.take_of_length_le (by rw[itc_len];omega)]
structure FS(h0 h:PH)(S:Vw)(m:OM)(c:Nat)(g:Gr)(rv fv cv kv lv:Value)(L:List It3)(nv:Value)(N:List It3)(rest:Rws):Prop where
 h: ∃exL exN,Sl h0 h S m (exL++(exN++((c,.row .own 1 (gcs g rv fv cv kv))::rest)))/\Gx lv L exL/\Gl 3 nv N.length (N.flatMap itc) exN
theorem FS.addL(f:FS h0 h S m c g rv fv cv kv lv L nv N rest)(hl:L.length<=65536){z:It3}{K2:Value->PH->R}(hk: ∀h' lv',FS h0 h' S m c g rv fv cv kv lv' (L++[z]) nv N rest->Ret (K2 lv' h') Q):
  Ret (Go.Am.hb (xBS 1 (bsRow Try.prog 61 1 [(0,.agg ⟨itc z⟩)]) h) fun v1 h=>Go.Am.hb (xApp (appInfo Try.prog #[61,61]) lv v1 h) K2) Q:=by
 obtain⟨exL,exN,st,gL,gN⟩:=f.h;exact Ret.gxapp gL st (by omega) fun h' v' ex' st' g'=>hk h' v' ⟨ex',exN,st',.inl g',gN⟩
theorem FS.addN(f:FS h0 h S m c g rv fv cv kv lv L nv N rest)(hl:N.length<=66536){z:It3}{K2:Value->PH->R}(hk: ∀h' nv',FS h0 h' S m c g rv fv cv kv lv L nv' (N++[z]) rest->Ret (K2 nv' h') Q):
  Ret (Go.Am.hb (xBS 1 (bsRow Try.prog 61 1 [(0,.agg ⟨itc z⟩)]) h) fun v1 h=>Go.Am.hb (xApp (appInfo Try.prog #[61,61]) nv v1 h) K2) Q:=by
 obtain⟨exL,exN,st,gL,gN⟩:=f.h;have pm: ∀(A B C:Rws),(A++(B++C)).Perm (B++(A++C)):=fun A B C=>by
  rw[<-List.append_assoc, <-List.append_assoc];exact List.Perm.append_right _ List.perm_append_comm
 have hsz:(2*(N.length+1)+512)*24<=281474976710656:=by omega
 refine Ret.gapp (st.perm (pm _ _ _)) gN bs61 ai61 rfl rfl hsz fun h' v' ex' st' g'=>hk h' v' ⟨exL,ex',st'.perm (pm _ _ _),gL,?_⟩;rw[flat1,List.length_append];exact g'
theorem FS.itL(f:FS h0 h S m c g rv fv cv kv lv L nv N rest){i:Nat}{x:It3}(hi:L[i]?=some x):
  ∃b o,xIdxS 3 lv (.int .i64 (i:Nat))=some (.pointer (some ⟨b,o,none⟩))/\xLd (.pointer (some ⟨b,o,none⟩)) h=some (.int .i64 x.1)/\xLd (.pointer (some ⟨b,o+1,none⟩)) h=some (.int .i64 (x.2.1:Nat))/\xLd (.pointer (some ⟨b,o+2,none⟩)) h=some (.int .i64 (x.2.2:Nat))/\xLdA 2 (.pointer (some ⟨b,o,none⟩)) h=some (.agg ⟨[.int .i64 x.1,.int .i64 (x.2.1:Nat)]⟩):=by
 obtain⟨exL,exN,st,gL,gN⟩:=f.h;obtain⟨b,o,md,all,e1,rfl,e3,e4⟩:=gL.itm hi;obtain⟨a1,a2,a3⟩:=cells3 e3;exact⟨b,o,e1,st.ld (b:=b) (e:=3) (md:=md) (by simp) a1,st.ld (b:=b) (e:=3) (md:=md) (by simp) a2,st.ld (b:=b) (e:=3) (md:=md) (by simp) a3,st.ldA (b:=b) (e:=3) (md:=md) (cs:=all) (by simp) (take2 e3) (by omega)⟩
theorem FS.itN(f:FS h0 h S m c g rv fv cv kv lv L nv N rest){i:Nat}{x:It3}(hi:N[i]?=some x):
  ∃q,xIdxS 3 nv (.int .i64 (i:Nat))=some q/\xLdA 3 q h=some (.agg ⟨itc x⟩):=by
 obtain⟨exL,exN,st,gL,gN⟩:=f.h;obtain⟨b,o,all,e1,rfl,e3,e4⟩:=gN.itm hi;exact⟨_,e1,st.ldA (b:=b) (e:=3) (md:=.opn) (cs:=all) (by simp) e3 e4⟩
theorem FS.gr(f:FS h0 h S m c g rv fv cv kv lv L nv N rest):xLdA 7 (.pointer (some ⟨c,0,none⟩)) h=some (.agg ⟨gcs g rv fv cv kv⟩)/\xLd (.pointer (some ⟨c,3,none⟩)) h=some rv:=by
 obtain⟨exL,exN,st,gL,gN⟩:=f.h;exact⟨st.ldA (b:=c) (e:=1) (md:=.own) (cs:=gcs g rv fv cv kv) (by simp) rfl (by simp),st.ld (b:=c) (e:=1) (md:=.own) (cs:=gcs g rv fv cv kv) (by simp) rfl⟩
theorem FS.ok(f:FS h0 h S m c g rv fv cv kv lv L nv N rest):OkH h/\Vw.le S h.fzn.cells/\xLenS lv=some (.int .i64 (L.length:Nat))/\xLenS nv=some (.int .i64 (N.length:Nat))/\lv.oneCell'=true:=by
 obtain⟨exL,exN,st,gL,gN⟩:=f.h;exact⟨st.ok,fun b cs e=>st.leS b cs e,gL.len,gN.len,gL.one⟩
theorem FS.newN(f:FS h0 h S m c g rv fv cv kv lv L nv N rest):FS h0 h S m c g rv fv cv kv lv L nils [] rest:=by
 obtain⟨exL,exN,st,gL,gN⟩:=f.h;exact⟨exL,[],st.drop (List.Sublist.append_left (by simp) _),gL,Gl.nil⟩
theorem FS.has(hn:9223372036854775808<=n)(f:FS h0 h S m c g rv fv cv kv lv L nv N rest)(hl:L.length<=65536){z:It3}:pcall (F55 n cl lv (.agg ⟨itc z⟩) h.fzn)=some (.bool (decide (z∈L))):=by
 obtain⟨exL,exN,st,gL,gN⟩:=f.h;have okh:=st.ok;obtain⟨V,v1,v2,v3⟩:=gL.seen st (fun p hp=>List.mem_append_left _ hp);exact c55 hn v1 v3 hl
theorem loop37a(hn:9223372036854775808<=n)(hg:GOk g)(kl:ks.length<=40){J:Nat}{nlv pv:Value}{idx:Nat}{K:Kt}{L0:List It3}(hN: ∀y∈N,EI g ks J y)(hNl:N.length<=70000)
  (hk: ∀h' lv' L',FS h0 h' S m c g rv fv cv kv lv' L' nv N rest->Grw g ks J L0 L'->(∀y∈N,y∈L')->Ret (F37_4 n cl (.int .i64 (idx:Nat)) K nlv pv lv' (.pointer (some ⟨c,0,none⟩)) (.int .i64 (J:Nat)) h') Q):
  ∀(q i fu:Nat)(lv:Value)(L:List It3)(h:PH),N.length=i+q->q<fu->FS h0 h S m c g rv fv cv kv lv L nv N rest->Grw g ks J L0 L->(∀y∈N.take i,y∈L)->
   Ret (lp fu (F37_6 n cl K) [nlv,pv,lv,.pointer (some ⟨c,0,none⟩),.int .i64 (J:Nat),.int .i64 (idx:Nat),nv,.int .i64 (i:Nat)] h) Q:=by
 intro q
 induction q with
 |zero=>
  intro i fu lv L h hq hf f w hd;obtain⟨fu,rfl⟩: ∃q,fu=q+1:=⟨fu-1,by omega⟩;rw[lp_succ];have dc:decide (((i:Nat):Int)<((N.length:Nat):Int))=false:=decide_eq_false (by omega);simp only[F37_6,ucons_cons,F37_5,f.ok.2.2.2.1,xLt_i,dc,vb_some,bite_f];exact hk h lv L f w fun y hy=>hd y (by rw[List.take_of_length_le (by omega)];exact hy)
 |succ q ih'=>
  intro i fu lv L h hq hf f w hd;obtain⟨fu,rfl⟩: ∃q,fu=q+1:=⟨fu-1,by omega⟩;rw[lp_succ];have dc:decide (((i:Nat):Int)<((N.length:Nat):Int))=true:=decide_eq_true (by omega);have hy:=List.getElem?_eq_getElem (l:=N) (i:=i) (by omega);have htk:N.take (i+1)=N.take i++[N[i]]:=by rw[List.take_add_one,hy];rfl
  generalize N[i]=y at hy htk;obtain⟨pq,g1,g2⟩:=f.itN hy;have hL:=few_EI hg kl w.nd w.ei;simp only[F37_6,ucons_cons,F37_5,f.ok.2.2.2.1,xLt_i,dc,vb_some,bite_t,jn_eq,F37_3,g1,g2,f.has hn hL,xNot_b];have hnext: ∀(lv':Value)(L':List It3)(h':PH),FS h0 h' S m c g rv fv cv kv lv' L' nv N rest->Grw g ks J L0 L'->(∀y∈L,y∈L')->y∈L'->
    Ret (F37_2 n cl (lp fu (F37_6 n cl K)) [nlv,pv,lv',.pointer (some ⟨c,0,none⟩),.int .i64 (J:Nat),.int .i64 (idx:Nat),nv,.int .i64 (i:Nat)] h') Q:=by
   intro lv' L' h' f' w' hs hyL;simp only[F37_2,ucons_cons,F37_0,vN_eq,xAdd_i,vb_some,show(((1:Nat):Int))=1 from rfl,wrap1 (i:=i) (by omega)];refine ih' (i+1) fu lv' L' h' (by omega) (by omega) f' w' fun z hz=>?_;rw[htk]at hz;rcases List.mem_append.1 hz with hz|hz
   ·exact hs z (hd z hz)
   ·rw[List.mem_singleton]at hz;subst hz;exact hyL
  by_cases hm:y∈L
  ·simp only[decide_eq_true hm,Bool.not_true,bite_f];exact hnext lv L h f w (fun y hy=>hy) hm
  ·simp only[decide_eq_false hm,Bool.not_false,bite_t,F37_1,g1,g2,vb_some];have ha:addI L y=L++[y]:=by unfold addI;rw[if_neg hm]
   refine f.addL hL fun h' lv' f'=>hnext lv' _ h' f' ?_ (fun z hz=>List.mem_append_left _ hz) (by simp);rw[<-ha];exact w.add (hN y (List.mem_of_getElem? hy))
end
structure PtsR(S:Vw)(pv:Value)(past:List (List It3))(exP:Rws):Prop where
 h: ∃cP,Gl 1 pv past.length cP exP/\ ∀(i:Nat) l,past[i]?=some l-> ∃v,cP[i]?=some v/\SlC S 3 v l.length (l.flatMap itc)
section
variable {Q:Value->PH->Prop}{n:Nat}{cl ih:CL}{h h0:PH}{S:Vw}{m:OM}{rows rest rows1 ex exP:Rws}{g:Gr}{rv fv cv kv kvs lv nv nlv pv:Value}{ks:List Int}{L N:List It3}{c:Nat}{past:List (List It3)}
theorem PtsR.at(p:PtsR S pv past exP)(st:Sl h0 h S m rows)(hsub: ∀p∈exP,p∈rows){j:Nat}{l:List It3}(hj:past[j]?=some l):
  ∃q v,xIdxS 1 pv (.int .i64 (j:Nat))=some q/\xLd q h=some v/\SlC S 3 v l.length (l.flatMap itc):=by
 obtain⟨cP,gP,hP⟩:=p.h;obtain⟨b,o,all,e1,rfl,e2,e3,_⟩:=gP.set1 (List.getElem?_eq_some_iff.1 hj).1;obtain⟨v,q1,q2⟩:=hP j l hj;exact⟨_,v,e1,st.ld (b:=b) (e:=1) (md:=.opn) (cs:=all) (hsub _ (.head _)) (e2.trans q1),q2⟩
theorem FS.beh(f:FS h0 h S m c g rv fv cv kv lv L nv N rest)(gv:GrV S g rv fv cv kv)(hrl:g.rules.length<=60){x:It3}(hx:OkI g x):
  ∃s0,pcall (F23 n cl (.agg ⟨gcs g rv fv cv kv⟩) (.agg ⟨[.int .i64 x.1,.int .i64 (x.2.1:Nat)]⟩) h.fzn)=some (.tuple ⟨[.int .i64 s0,.bool (behI g x.1 x.2.1).isSome]⟩)/\ ∀s,behI g x.1 x.2.1=some s->s0=s:=by
 have okh:=f.ok.1;exact c23 (h:=h.fzn) f.ok.2.1 gv hx hrl
theorem loop37b(hg:GOk g)(gv:GrV S g rv fv cv kv){y:It3}{s:Int}{J idx:Nat}(hJ:J<=40){K:Kt}(hy:EI g ks J y)(hb:behI g y.1 y.2.1=some s)(hs:0<=s)
  (hk: ∀h' nv' N',FS h0 h' S m c g rv fv cv kv lv L nv' N' rest->N'.length<=60->(∀z∈N',EI g ks J z)->(∀(k:Nat) r,g.rules[k]?=some r->r.left=s->((k:Int),0,J)∈N')->Ret (F37_12 n cl nlv (.int .i64 s) lv (.int .i64 (idx:Nat)) nv' K pv (.pointer (some ⟨c,0,none⟩)) (.int .i64 (J:Nat)) h') Q):
  ∀(q i fu:Nat)(nv:Value)(N:List It3)(h:PH),g.rules.length=i+q->q<fu->FS h0 h S m c g rv fv cv kv lv L nv N rest->N.length<=i->(∀z∈N,EI g ks J z)->(∀(k:Nat) r,k<i->g.rules[k]?=some r->r.left=s->((k:Int),0,J)∈N)->
   Ret (lp fu (F37_14 n cl K) [nlv,pv,lv,.pointer (some ⟨c,0,none⟩),.int .i64 (J:Nat),.int .i64 (idx:Nat),.int .i64 s,nv,.int .i64 (i:Nat)] h) Q:=by
 have hrl:=hg.rl;intro q
 induction q with
 |zero=>
  intro i fu nv N h hq hf f hNl hN hd;obtain⟨fu,rfl⟩: ∃q,fu=q+1:=⟨fu-1,by omega⟩;rw[lp_succ];have dc:decide (((i:Nat):Int)<((g.rules.length:Nat):Int))=false:=decide_eq_false (by omega);simp only[F37_14,ucons_cons,F37_13,xFld_p,Nat.zero_add,f.gr.2,vb_some,gv.rules.lenV,xLt_i,dc,bite_f];refine hk h nv N f (by omega) hN fun k r hr hl=>hd k r ?_ hr hl;have:=(List.getElem?_eq_some_iff.1 hr).1;omega
 |succ q ih'=>
  intro i fu nv N h hq hf f hNl hN hd;obtain⟨fu,rfl⟩: ∃q,fu=q+1:=⟨fu-1,by omega⟩;rw[lp_succ];have dc:decide (((i:Nat):Int)<((g.rules.length:Nat):Int))=true:=decide_eq_true (by omega);have hr:=List.getElem?_eq_getElem (l:=g.rules) (i:=i) (by omega);generalize g.rules[i]=r at hr;obtain⟨b2,o2,cs2,wv,e1,e2,e3,e4,e5⟩:=gv.rule hr;have ll:xLd (.pointer (some ⟨b2,o2,none⟩)) h=some (.int .i64 r.left):=by
   obtain⟨exL,exN,st,gL,gN⟩:=f.h;exact st.ldS e2 (cells3 e3).1
  simp only[F37_14,ucons_cons,F37_13,xFld_p,Nat.zero_add,Nat.add_zero,f.gr.2,vb_some,gv.rules.lenV,xLt_i,dc,bite_t,jn_eq,F37_10,e1,ll,xEq_i];have hnext: ∀(nv':Value)(N':List It3)(h':PH),FS h0 h' S m c g rv fv cv kv lv L nv' N' rest->N'.length<=i+1->(∀z∈N',EI g ks J z)->(∀z∈N,z∈N')->(r.left=s->((i:Int),0,J)∈N')->
    Ret (F37_9 n cl (lp fu (F37_14 n cl K)) [nlv,pv,lv,.pointer (some ⟨c,0,none⟩),.int .i64 (J:Nat),.int .i64 (idx:Nat),.int .i64 s,nv',.int .i64 (i:Nat)] h') Q:=by
   intro nv' N' h' f' hl' hN' hsub hst;simp only[F37_9,ucons_cons,F37_7,vN_eq,xAdd_i,vb_some,show(((1:Nat):Int))=1 from rfl,wrap1 (i:=i) (by omega)];refine ih' (i+1) fu nv' N' h' (by omega) (by omega) f' hl' hN' fun k r' hk' hr' hl=>?_
   by_cases e:k=i
   ·subst e;rw[hr]at hr';cases hr';exact hst hl
   ·exact hsub _ (hd k r' (by omega) hr' hl)
  by_cases hl:r.left=s
  ·have ab2:abuild Try.prog 63 [(0,.agg ⟨[.int .i64 (i:Nat),.int .i64 0]⟩),(1,.int .i64 (J:Nat))]=some (.agg ⟨itc ((i:Int),0,J)⟩):=ab63 _ _ _;simp only[decide_eq_true hl,bite_t,F37_8,ab53,ab2,vb_some];refine f.addN (by omega) fun h' nv' f'=>hnext nv' _ h' f' (by rw[List.length_append,List.length_singleton];omega) (fun z hz=>?_) (fun z hz=>List.mem_append_left _ hz) fun _=>by simp
   rcases List.mem_append.1 hz with hz|hz
   ·exact hN z hz
   ·rw[List.mem_singleton]at hz;subst hz;exact .pred hy hb hs hr hl
  ·simp only[decide_eq_false hl,bite_f];exact hnext nv N h f (by omega) hN (fun z hz=>hz) fun e=>absurd e hl
theorem loop37c(hg:GOk g)(gv:GrV S g rv fv cv kv)(kl:ks.length<=40){y:It3}{r:Rl}{J idx i0:Nat}{K:Kt}(hy:EI g ks J y)(h1:y.1=(i0:Int))(hr:g.rules[i0]?=some r)(h2:y.2.1=r.right.length)(hf0:y.2.2<J){P:List It3}{pl:Value}(hl:SlC S 3 pl P.length (P.flatMap itc))(lP:P.length<=65536)(hE: ∀z∈P,EI g ks y.2.2 z)
  (hk: ∀h' nv' N',FS h0 h' S m c g rv fv cv kv lv L nv' N' rest->N'.length<=65536->(∀z∈N',EI g ks J z)->(∀z∈P,behI g z.1 z.2.1=some r.left->stepI z∈N')->Ret (K [nlv,pv,lv,.pointer (some ⟨c,0,none⟩),.int .i64 (J:Nat),.int .i64 (idx:Nat),nv'] h') Q):
  ∀(q i fu:Nat)(nv:Value)(N:List It3)(h:PH),P.length=i+q->q<fu->FS h0 h S m c g rv fv cv kv lv L nv N rest->N.length<=i->(∀z∈N,EI g ks J z)->(∀z∈P.take i,behI g z.1 z.2.1=some r.left->stepI z∈N)->
   Ret (lp fu (F37_20 n cl K) [nlv,pv,lv,.pointer (some ⟨c,0,none⟩),.int .i64 (J:Nat),.int .i64 (idx:Nat),nv,.int .i64 r.left,pl,.int .i64 (i:Nat)] h) Q:=by
 have hrl:=hg.rl;intro q
 induction q with
 |zero=>
  intro i fu nv N h hq hf f hNl hN hd;obtain⟨fu,rfl⟩: ∃q,fu=q+1:=⟨fu-1,by omega⟩;rw[lp_succ];have dc:decide (((i:Nat):Int)<((P.length:Nat):Int))=false:=decide_eq_false (by omega);simp only[F37_20,ucons_cons,F37_19,hl.itLen,vb_some,xLt_i,dc,bite_f];exact hk h nv N f (by omega) hN fun z hz=>hd z (by rw[List.take_of_length_le (by omega)];exact hz)
 |succ q ih'=>
  intro i fu nv N h hq hf f hNl hN hd;obtain⟨fu,rfl⟩: ∃q,fu=q+1:=⟨fu-1,by omega⟩;rw[lp_succ];have dc:decide (((i:Nat):Int)<((P.length:Nat):Int))=true:=decide_eq_true (by omega);have hz:=List.getElem?_eq_getElem (l:=P) (i:=i) (by omega);have htk:P.take (i+1)=P.take i++[P[i]]:=by rw[List.take_add_one,hz];rfl
  generalize P[i]=z at hz htk;have hzE:=hE z (List.mem_of_getElem? hz);obtain⟨okz,fz',_⟩:=EI.ok hg hzE;obtain⟨b2,o2,cs2,e1,e2,e3,e4⟩:=hl.itm hz;obtain⟨a1,a2,a3⟩:=cells3 e3;obtain⟨l1,l2,l3,la⟩:xLd (.pointer (some ⟨b2,o2,none⟩)) h=some (.int .i64 z.1)/\xLd (.pointer (some ⟨b2,o2+1,none⟩)) h=some (.int .i64 (z.2.1:Nat))/\xLd (.pointer (some ⟨b2,o2+2,none⟩)) h=some (.int .i64 (z.2.2:Nat))/\xLdA 2 (.pointer (some ⟨b2,o2,none⟩)) h=some (.agg ⟨[.int .i64 z.1,.int .i64 (z.2.1:Nat)]⟩):=by
   obtain⟨exL,exN,st,gL,gN⟩:=f.h;exact⟨st.ldS e2 a1,st.ldS e2 a2,st.ldS e2 a3,st.ldSA e2 (take2 e3) (by omega)⟩
  obtain⟨s0,eb,es⟩:=f.beh (n:=n) (cl:=cl) gv hrl okz;simp only[F37_20,ucons_cons,F37_19,hl.itLen,vb_some,xLt_i,dc,bite_t,jn_eq,F37_18,e1,xFld_p,Nat.zero_add,Nat.add_zero,f.gr.1,la,eb,xExt_t',List.getElem?_cons_zero,List.getElem?_cons_succ];have hnext: ∀(nv':Value)(N':List It3)(h':PH),FS h0 h' S m c g rv fv cv kv lv L nv' N' rest->N'.length<=i+1->(∀z∈N',EI g ks J z)->(∀z∈N,z∈N')->(behI g z.1 z.2.1=some r.left->stepI z∈N')->
    Ret (F37_17 n cl (lp fu (F37_20 n cl K)) [nlv,pv,lv,.pointer (some ⟨c,0,none⟩),.int .i64 (J:Nat),.int .i64 (idx:Nat),nv',.int .i64 r.left,pl,.int .i64 (i:Nat)] h') Q:=by
   intro nv' N' h' f' hl' hN' hsub hst;simp only[F37_17,ucons_cons,F37_15,vN_eq,xAdd_i,vb_some,show(((1:Nat):Int))=1 from rfl,wrap1 (i:=i) (by omega)];refine ih' (i+1) fu nv' N' h' (by omega) (by omega) f' hl' hN' fun w hw hb=>?_;rw[htk]at hw;rcases List.mem_append.1 hw with hw|hw
   ·exact hsub _ (hd w hw hb)
   ·rw[List.mem_singleton]at hw;subst hw;exact hst hb
  cases hb:behI g z.1 z.2.1 with
  |none=>
   have e0: ∀o:Option Value,gd (isB true (.bool false)) o=some undef:=fun o=>rfl;simp only[Option.isSome_none,e0,vb_some,xPick_f,ff_eq,bite_f];exact hnext nv N h f (by omega) hN (fun z hz=>hz) fun e=>by rw[hb]at e;cases e
  |some s=>
   have:=es s hb;subst this;have e1': ∀o:Option Value,gd (isB true (.bool true)) o=o:=fun o=>rfl;simp only[Option.isSome_some,e1',vb_some,xEq_i,xPick_t]
   by_cases hs:s0=r.left
   ·have hzb:z.2.1<1000000:=by
     rcases okz.cases with⟨_,q⟩|⟨_,_,_,_,q,q'⟩<;>omega
    have hw:=wrapN (show z.2.1<4611686018427387904 by omega);have ab2:abuild Try.prog 63 [(0,.agg ⟨[.int .i64 z.1,.int .i64 ((z.2.1+1:Nat):Int)]⟩),(1,.int .i64 (z.2.2:Nat))]=some (.agg ⟨itc (stepI z)⟩):=ab63 _ _ _;simp only[decide_eq_true hs,bite_t,F37_16,e1,xFld_p,Nat.zero_add,Nat.add_zero,l1,l2,l3,vb_some,vN_eq,xAdd_i,hw,ab53c,ab2];subst hs;refine f.addN (by omega) fun h' nv' f'=>hnext nv' _ h' f' (by rw[List.length_append,List.length_singleton];omega) (fun w hw=>?_) (fun w hw=>List.mem_append_left _ hw) fun _=>by simp
    rcases List.mem_append.1 hw with hw|hw
    ·exact hN w hw
    ·rw[List.mem_singleton]at hw;subst hw;exact .comp hy h1 hr h2 hf0 hzE hb
   ·simp only[decide_eq_false hs,bite_f];exact hnext nv N h f (by omega) hN (fun z hz=>hz) fun e=>by rw[hb]at e;cases e;exact absurd rfl hs
end
section
variable {Q:Value->PH->Prop}{n:Nat}{cl ih:CL}{h h0:PH}{S:Vw}{m:OM}{rows rest rows1 ex exP exL:Rws}{g:Gr}{rv fv cv kv kvs lv nv nlv pv:Value}{ks:List Int}{L N:List It3}{c:Nat}{past:List (List It3)}
theorem loop37(hn:9223372036854775808<=n)(hg:GOk g)(gv:GrV S g rv fv cv kv)(nl:NlV S g nlv)(pl:Pl g ks past)(pr:PtsR S pv past exP)(hsub: ∀p∈exP,p∈rest){L0:List It3}
  (hk: ∀h' lv' L' exL,Sl h0 h' S m (exL++rest)->Gx lv' L' exL->Grw g ks past.length L0 L'->(∀y∈L',Clo g (fun j=>past.getD j []) past.length L' y)->Q lv' h'):
  ∀(q i fu:Nat)(lv:Value)(L:List It3)(h:PH),65537<=i+q->q<fu->FS h0 h S m c g rv fv cv kv lv L nils [] rest->Grw g ks past.length L0 L->i<=L.length->
   (∀(k:Nat) y,k<i->L[k]?=some y->Clo g (fun j=>past.getD j []) past.length L y)->
   Ret (lp fu (F37_27 n cl) [nlv,pv,lv,.pointer (some ⟨c,0,none⟩),.int .i64 (past.length:Nat),.int .i64 (i:Nat)] h) Q:=by
 have kl:=pl.kl;have hpl:=pl.pl;have hrl:=hg.rl;intro q
 induction q with
 |zero=>
  intro i fu lv L h hq hf f w hi hd;have:=few_EI hg kl w.nd w.ei;omega
 |succ q ih'=>
  intro i fu lv L h hq hf f w hi hd;obtain⟨fu,rfl⟩: ∃q,fu=q+1:=⟨fu-1,by omega⟩;rw[lp_succ];have hlf:=few_EI hg kl w.nd w.ei;simp only[F37_27,ucons_cons,F37_26,f.ok.2.2.1,vb_some,xLt_i]
  by_cases hlt:i<L.length
  ·have dc:decide (((i:Nat):Int)<((L.length:Nat):Int))=true:=decide_eq_true (by omega);have hy:=List.getElem?_eq_getElem hlt;generalize L[i]=y at hy;have hyE:=w.ei y (List.mem_of_getElem? hy);obtain⟨oky,fy,_⟩:=EI.ok hg hyE;obtain⟨b,o,e1,l1,l2,l3,la⟩:=f.itL hy;obtain⟨s0,eb,es⟩:=f.beh (n:=n) (cl:=cl) gv hrl oky;have put: ∀(h':PH)(nv':Value)(N':List It3),FS h0 h' S m c g rv fv cv kv lv L nv' N' rest->N'.length<=70000->(∀z∈N',EI g ks past.length z)->Clo g (fun j=>past.getD j []) past.length N' y->
     Ret (F37_23 n cl (lp fu (F37_27 n cl)) [nlv,pv,lv,.pointer (some ⟨c,0,none⟩),.int .i64 (past.length:Nat),.int .i64 (i:Nat),nv'] h') Q:=by
    intro h' nv' N' f' hNl hN hcl;simp only[F37_23,ucons_cons,vN_eq];refine loop37a (L0:=L) hn hg kl hN hNl (fun h2 lv2 L2 f2 w2 hs2=>?_) N'.length 0 n lv L h' (by omega) (by omega) f' ⟨⟨[],by simp⟩,w.nd,w.ei⟩ (fun z hz=>by cases hz);obtain⟨ex2,hex⟩:=w2.pre;simp only[F37_4,vN_eq,xAdd_i,vb_some,show(((1:Nat):Int))=1 from rfl,wrap1 (i:=i) (by omega)];refine ih' (i+1) fu lv2 L2 h2 (by omega) (by omega) f2.newN (w.trans w2) ?_ ?_
    ·rw[hex,List.length_append];omega
    ·intro k z hk' hz;rw[hex,List.getElem?_append_left (by omega)]at hz
     by_cases e:k=i
     ·subst e;rw[hy]at hz;cases hz;exact hcl.mono hs2
     ·exact(hd k z (by omega) hz).mono fun y hy=>w2.sub hy
   have e0: ∀o:Option Value,gd (isB true (.bool false)) o=some undef:=fun o=>rfl;have e1': ∀o:Option Value,gd (isB true (.bool true)) o=o:=fun o=>rfl;simp only[dc,bite_t,F37_25,e1,xFld_p,Nat.zero_add,Nat.add_zero,vb_some,f.gr.1,la,eb,xExt_t',List.getElem?_cons_zero,List.getElem?_cons_succ,jn_eq,F37_24];cases hb:behI g y.1 y.2.1 with
   |none=>
    simp only[Option.isSome_none,e0,vb_some,xPick_f,ff_eq,bite_f,F37_22,xNot_b,Bool.not_false,e1',e1,xFld_p,Nat.zero_add,Nat.add_zero,l1,vN_eq,xGe_i,xPick_t];have hno:(∀(i:Nat) r,y.1=(i:Int)->g.rules[i]?=some r->y.2.1=r.right.length->y.2.2<past.length->False)->Clo g (fun j=>past.getD j []) past.length [] y:=fun hh=>
     ⟨fun s i r e=>(by rw[hb]at e;cases e),fun s e=>(by rw[hb]at e;cases e),fun i r z q1 q2 q3 q4=>absurd q4 fun q4=>hh i r q1 q2 q3 q4⟩
    rcases oky.cases with⟨a1,a2⟩|⟨i0,r,a1,a2,a3,a4⟩
    ·have d1: ¬((0:Nat):Int)<=y.1:=by omega
     simp only[decide_eq_false d1,e0,vb_some,xPick_f,bite_f];exact put h nils [] f (by simp) (fun z hz=>by cases hz) (hno fun i r q1=>by omega)
    ·have d1:((0:Nat):Int)<=y.1:=by omega
     simp only[decide_eq_true d1,e1',e1,xFld_p,Nat.zero_add,Nat.add_zero,l3,vb_some,xLt_i,xPick_t];have h2:y.2.1=r.right.length:=by
      rw[a1,behI_rule a2,List.getElem?_eq_none_iff]at hb;omega
     by_cases hf0:y.2.2<past.length
     ·have d2:((y.2.2:Nat):Int)<((past.length:Nat):Int):=by omega
      have hP:=List.getElem?_eq_getElem hf0;generalize hPg:past[y.2.2]=P at hP;obtain⟨b2,o2,cs2,wv,f1,f2,f3,f4,f5⟩:=gv.rule a2;obtain⟨exL,exN,st,gL,gN⟩:=f.h;have ll:xLd (.pointer (some ⟨b2,o2,none⟩)) h=some (.int .i64 r.left):=st.ldS f2 (cells3 f3).1;obtain⟨pq,plv,p1,p2,p3⟩:=pr.at st (fun p hp=>by simp[hsub p hp]) hP;rw[a1]at l1;simp only[decide_eq_true d2,bite_t,F37_21,e1,xFld_p,Nat.zero_add,Nat.add_zero,l1,l3,f.gr.2,f1,ll,p1,p2,vb_some,vN_eq];obtain⟨hP1,hP2⟩:=pl.h _ _ hP;refine loop37c hg gv kl hyE a1 a2 h2 hf0 p3 (few_EI hg kl hP1 hP2) hP2 (fun h3 nv3 N3 f3 hl3 hN3 hc3=>put h3 nv3 N3 f3 (by omega) hN3 ⟨fun s i r e=>(by rw[hb]at e;cases e),fun s e=>(by rw[hb]at e;cases e),fun i r' z q1 q2 q3 q4 q5 q6=>?_⟩) P.length 0 n nils [] h (by omega) (by have:=few_EI hg kl hP1 hP2;omega) f (by simp) (fun z hz=>by cases hz) (fun z hz=>by cases hz);have:i=i0:=by omega
      subst this;rw[a2]at q2;cases q2;refine hc3 z ?_ q6;have q5:z∈past.getD y.2.2 []:=q5;rw[List.getD_eq_getElem?_getD,hP]at q5;exact q5
     ·have d2: ¬((y.2.2:Nat):Int)<((past.length:Nat):Int):=by omega
      simp only[decide_eq_false d2,bite_f];exact put h nils [] f (by simp) (fun z hz=>by cases hz) (hno fun i r q1 q2 q3 q4=>hf0 q4)
   |some s=>
    have:=es s hb;subst this;have hnc: ∀(i:Nat) r,y.1=(i:Int)->g.rules[i]?=some r->y.2.1=r.right.length->False:=fun i r q1 q2 q3=>by
     rw[q1,behI_rule q2,q3,List.getElem?_eq_none (Nat.le_refl _)]at hb;cases hb
    simp only[Option.isSome_some,e1',vb_some,vN_eq,xGe_i,xPick_t]
    by_cases hs:0<=s0
    ·have d1:((0:Nat):Int)<=s0:=by omega
     have hsn:isName g.names s0=true:=by
      rcases beh_sym hg hb with h|h
      ·exact h
      ·omega
     simp only[decide_eq_true d1,bite_t];refine loop37b (K:=F37_23 n cl (lp fu (F37_27 n cl))) hg gv (by omega) hyE hb hs (fun h3 nv3 N3 f3 hl3 hN3 hc3=>?_) g.rules.length 0 n nils [] h (by omega) (by omega) f (by simp) (fun z hz=>by cases hz) (fun k r hk=>by omega);obtain⟨p,nb,no,ncs,bx,n1,rfl,n2,n3,n4⟩:=nl.at hsn;have lb:xLd (.pointer (some ⟨nb,no,none⟩)) h3=some (.bool bx):=by
      obtain⟨exL,exN,st,gL,gN⟩:=f3.h;exact st.ldS n2 n3
     simp only[F37_12,n1,lb,vb_some];cases bx with
     |false=>
      simp only[bite_f];refine put h3 nv3 N3 f3 (by omega) hN3 ⟨fun s' i r e q2 q3 q4=>?_,fun s' e q2 q3=>?_,fun i r z q1 q2 q3=>absurd q3 fun q3=>hnc i r q1 q2 q3⟩
      ·rw[hb]at e;cases e;exact hc3 i r q3 q4
      ·rw[hb]at e;cases e;cases n4.2 q3
     |true=>
      obtain⟨b,o,e1,l1,l2,l3,la⟩:=f3.itL hy;have hyb:y.2.1<1000000:=by
       rcases oky.cases with⟨_,q⟩|⟨_,_,_,_,q,q'⟩<;>omega
      have hw:=wrapN (show y.2.1<4611686018427387904 by omega);have ab2:abuild Try.prog 63 [(0,.agg ⟨[.int .i64 y.1,.int .i64 ((y.2.1+1:Nat):Int)]⟩),(1,.int .i64 (y.2.2:Nat))]=some (.agg ⟨itc (stepI y)⟩):=ab63 _ _ _;simp only[bite_t,F37_11,e1,xFld_p,Nat.zero_add,Nat.add_zero,l1,l2,l3,vb_some,vN_eq,xAdd_i,hw,ab53c,ab2];refine f3.addN (by omega) fun h4 nv4 f4=>put h4 nv4 _ f4 (by rw[List.length_append,List.length_singleton];omega) (fun z hz=>?_) ⟨fun s' i r e q2 q3 q4=>?_,fun s' e q2 q3=>by simp,fun i r z q1 q2 q3=>absurd q3 fun q3=>hnc i r q1 q2 q3⟩
      ·rcases List.mem_append.1 hz with hz|hz
       ·exact hN3 z hz
       ·rw[List.mem_singleton]at hz;subst hz;exact .null hyE hb hs (n4.1 rfl)
      ·rw[hb]at e;cases e;exact List.mem_append_left _ (hc3 i r q3 q4)
    ·have d1: ¬((0:Nat):Int)<=s0:=by omega
     simp only[decide_eq_false d1,bite_f,F37_22,xNot_b,Bool.not_true,e0,vb_some,xPick_f,ff_eq];refine put h nils [] f (by simp) (fun z hz=>by cases hz) ⟨fun s' i r e q2=>?_,fun s' e q2=>?_,fun i r z q1 q2 q3=>absurd q3 fun q3=>hnc i r q1 q2 q3⟩
     ·rw[hb]at e;cases e;exact absurd q2 hs
     ·rw[hb]at e;cases e;exact absurd q2 hs
  ·have dc:decide (((i:Nat):Int)<((L.length:Nat):Int))=false:=decide_eq_false (by omega);simp only[dc,bite_f];obtain⟨exL,exN,st,gL,gN⟩:=f.h;refine Ret.of (hk h lv L exL (st.drop (List.Sublist.append_left ((List.sublist_cons_self _ _).trans (List.sublist_append_right _ _)) _)) gL w fun y hy=>?_);obtain⟨k,hk'⟩:=List.getElem?_of_mem hy;have:=(List.getElem?_eq_some_iff.1 hk').1;exact hd k y (by omega) hk'
theorem c37(hn:9223372036854775808<=n)(hg:GOk g)(gv:GrV S g rv fv cv kv)(nl:NlV S g nlv)(pl:Pl g ks past)(pr:PtsR S pv past exP)(hsub: ∀p∈exP,p∈rest)(st:Sl h0 h S m (exL++rest))(gL:Gx lv L exL)(hnd:L.Nodup)(hei: ∀y∈L,EI g ks past.length y):
  Ret (F37 n cl (.agg ⟨gcs g rv fv cv kv⟩) nlv pv lv h) fun lv' h'=> ∃L' exL',Sl h0 h' S m (exL'++rest)/\Gx lv' L' exL'/\Grw g ks past.length L L'/\ ∀y∈L',Clo g (fun j=>past.getD j []) past.length L' y:=by
 unfold F37;refine Ret.lbox st fun h1 c st1=>?_;have st1:Sl h0 h1 S m (exL++([]++((c,.row .own 1 (gcs g rv fv cv kv))::rest))):=st1.perm List.perm_middle.symm;obtain⟨cP,gP,_⟩:=pr.h;simp only[gP.len,vb_some,vN_eq];exact loop37 hn hg gv nl pl pr hsub (fun h' lv' L' exL' st' g' w' hc'=>⟨L',exL',st',g',w',hc'⟩) 65537 0 n lv L h1 (by omega) (by omega) ⟨exL,[],st1,gL,Gl.nil⟩ ⟨⟨[],by simp⟩,hnd,hei⟩ (Nat.zero_le _) (fun k y hk=>by omega)
end
def hit(g:Gr)(k:Int)(x:It3):Bool:=decide (behI g x.1 x.2.1=some (-1-k)/\ -1-k<0)
def shf(g:Gr)(k:Int)(l:List It3):List It3:=(l.filter (hit g k)).map stepI
theorem shf_nd{g:Gr}{k:Int}{l:List It3}(h:l.Nodup):(shf g k l).Nodup:=by
 unfold shf;unfold List.Nodup;rw[List.pairwise_map];refine(h.filter _).imp ?_;rintro⟨a,b,c⟩ ⟨a',b',c'⟩ hne e
 apply hne
 unfold stepI at e;simp only[Prod.mk.injEq]at e;obtain⟨e1,e2,e3⟩:=e;have e2:b+1=b'+1:=e2;have:b=b':=by omega
 subst this;have e1:a=a':=e1;have e3:c=c':=e3;rw[e1,e3]
structure WalkP(g:Gr)(ks:List Int)(v:Value)(V:Vw):Prop where
 h: ∃PS cP,SlC V 1 v PS.length cP/\(∀(i:Nat) l,PS[i]?=some l-> ∃w,cP[i]?=some w/\SlC V 3 w l.length (l.flatMap itc))/\Whole g ks PS/\Pre g ks (PS.length-1)/\0<PS.length
theorem WalkP.mono{g:Gr}{ks:List Int}(v:Value)(V W:Vw)(hs:Vw.le V W)(p:WalkP g ks v V):WalkP g ks v W:=by
 obtain⟨PS,cP,h1,h2,h3⟩:=p.h;exact⟨PS,cP,h1.mono hs,fun i l hi=>let⟨w,q1,q2⟩:=h2 i l hi;⟨w,q1,q2.mono hs⟩,h3⟩
theorem bs44{V:Vw}{v:Value}{k:Nat}{cells:List Value}(hv:SlC V 3 v k cells):bsRow Try.prog 44 1 [(0,v)]=some (1,[v])/\v.oneCell'=true:=by
 rcases hv with⟨_,_,rfl⟩|⟨b,o,c,cs,rfl,_⟩
 ·exact⟨by kernel_rfl,rfl⟩
 ·exact⟨by kernel_rfl,rfl⟩
theorem ai44:appInfo Try.prog #[44,44]=some (1,24):=by kernel_rfl
section
variable {Q:Value->PH->Prop}{n:Nat}{cl ih:CL}{h h0:PH}{S:Vw}{m:OM}{rows rest rows1 ex exP exL:Rws}{g:Gr}{rv fv cv kv kvs lv nv nlv pv:Value}{ks:List Int}{L N:List It3}{c:Nat}{past:List (List It3)}
theorem loop18a(hn:9223372036854775808<=n)(hg:GOk g)(gv:GrV S g rv fv cv kv)(kl:ks.length<=40)(rk:RdV (rI .i64) S kvs ks){l:List It3}{v:Value}{k:Int}{J:Nat}{K1 K2:Kt}(hl:SlC S 3 v l.length (l.flatMap itc))(ll:l.length<=65536)(hE: ∀y∈l,EI g ks J y)(hkJ:ks[J]?=some k)
  (hk: ∀h' nv',FS h0 h' S m c g rv fv cv kv nils [] nv' (shf g k l) rest->Ret (F18_5 n cl nv' K1 pv (.pointer (some ⟨c,0,none⟩)) nlv (.int .i64 (J:Nat)) K2 kvs h') Q):
  ∀(q i fu:Nat)(nv:Value)(N:List It3)(h:PH),l.length=i+q->q<fu->FS h0 h S m c g rv fv cv kv nils [] nv N rest->N=shf g k (l.take i)->
   Ret (lp fu (F18_7 n cl K1 K2) [kvs,.pointer (some ⟨c,0,none⟩),nlv,pv,.int .i64 (J:Nat),nv,v,.int .i64 (i:Nat)] h) Q:=by
 have hrl:=hg.rl;intro q
 induction q with
 |zero=>
  intro i fu nv N h hq hf f hN;obtain⟨fu,rfl⟩: ∃q,fu=q+1:=⟨fu-1,by omega⟩;rw[lp_succ];have dc:decide (((i:Nat):Int)<((l.length:Nat):Int))=false:=decide_eq_false (by omega);simp only[F18_7,ucons_cons,F18_6,hl.itLen,vb_some,xLt_i,dc,bite_f];rw[List.take_of_length_le (by omega)]at hN;subst hN;exact hk h nv f
 |succ q ih'=>
  intro i fu nv N h hq hf f hN;obtain⟨fu,rfl⟩: ∃q,fu=q+1:=⟨fu-1,by omega⟩;rw[lp_succ];have dc:decide (((i:Nat):Int)<((l.length:Nat):Int))=true:=decide_eq_true (by omega);have hz:=List.getElem?_eq_getElem (l:=l) (i:=i) (by omega);have htk:l.take (i+1)=l.take i++[l[i]]:=by rw[List.take_add_one,hz];rfl
  generalize l[i]=z at hz htk;have hzE:=hE z (List.mem_of_getElem? hz);obtain⟨okz,fz',_⟩:=EI.ok hg hzE;obtain⟨b2,o2,cs2,e1,e2,e3,e4⟩:=hl.itm hz;obtain⟨a1,a2,a3⟩:=cells3 e3;obtain⟨kb,ko,kcs,k1,k2,k3⟩:=rk.atI hkJ;obtain⟨l1,l2,l3,la,lk⟩:xLd (.pointer (some ⟨b2,o2,none⟩)) h=some (.int .i64 z.1)/\xLd (.pointer (some ⟨b2,o2+1,none⟩)) h=some (.int .i64 (z.2.1:Nat))/\xLd (.pointer (some ⟨b2,o2+2,none⟩)) h=some (.int .i64 (z.2.2:Nat))/\xLdA 2 (.pointer (some ⟨b2,o2,none⟩)) h=some (.agg ⟨[.int .i64 z.1,.int .i64 (z.2.1:Nat)]⟩)/\xLd (.pointer (some ⟨kb,ko,none⟩)) h=some (.int .i64 k):=by
   obtain⟨exL,exN,st,gL,gN⟩:=f.h;exact⟨st.ldS e2 a1,st.ldS e2 a2,st.ldS e2 a3,st.ldSA e2 (take2 e3) (by omega),st.ldS k2 k3⟩
  obtain⟨s0,eb,es⟩:=f.beh (n:=n) (cl:=cl) gv hrl okz;have eM:vM 0= .int .i64 (-1):=rfl;have hNl:N.length<=i:=by
   rw[hN];unfold shf;rw[List.length_map];have:=List.length_filter_le (hit g k) (l.take i);have:=List.length_take_le i l;omega
  simp only[F18_7,ucons_cons,F18_6,hl.itLen,vb_some,xLt_i,dc,bite_t,jn_eq,F18_3,e1,xFld_p,Nat.zero_add,Nat.add_zero,f.gr.1,la,eb,xExt_t',List.getElem?_cons_zero,List.getElem?_cons_succ];have hnext: ∀(nv':Value)(N':List It3)(h':PH),FS h0 h' S m c g rv fv cv kv nils [] nv' N' rest->N'=(if hit g k z=true then N++[stepI z]else N)->
    Ret (F18_2 n cl (lp fu (F18_7 n cl K1 K2)) [kvs,.pointer (some ⟨c,0,none⟩),nlv,pv,.int .i64 (J:Nat),nv',v,.int .i64 (i:Nat)] h') Q:=by
   intro nv' N' h' f' hN';simp only[F18_2,ucons_cons,F18_0,vN_eq,xAdd_i,vb_some,show(((1:Nat):Int))=1 from rfl,wrap1 (i:=i) (by omega)];refine ih' (i+1) fu nv' N' h' (by omega) (by omega) f' ?_;rw[hN',htk,hN];unfold shf;rw[List.filter_append,List.map_append]
   by_cases hh:hit g k z=true
   ·rw[if_pos hh];simp[hh]
   ·rw[if_neg hh];simp[hh]
  have e0: ∀o:Option Value,gd (isB true (.bool false)) o=some undef:=fun o=>rfl;have e1': ∀o:Option Value,gd (isB true (.bool true)) o=o:=fun o=>rfl;cases hb:behI g z.1 z.2.1 with
  |none=>
   have hh:hit g k z=false:=by unfold hit;rw[hb];simp
   simp only[Option.isSome_none,e0,vb_some,xPick_f,ff_eq,bite_f];exact hnext nv N h f (by rw[hh];rfl)
  |some s=>
   have:=es s hb;subst this;have hsr:=beh_sym hg hb;have hnm:=hg.nm;have hkn:=hg.kn;simp only[Option.isSome_some,e1',vb_some,vN_eq,show(((0:Nat):Int))=0 from rfl,xLt_i,xPick_t]
   by_cases hs:s0<0
   ·have hsb: -1000<=s0:=by
     rcases hsr with h|h
     ·have:=isName_iff.1 h;omega
     ·omega
    have hw:IntKind.i64.wrap (-1-s0)= -1-s0:=wrap_in (by omega) (by omega);simp only[decide_eq_true hs,e1',vb_some,eM,xSub_i,hw,k1,lk,xEq_i,xPick_t]
    by_cases hkz: -1-s0=k
    ·have hh:hit g k z=true:=by
      unfold hit;rw[decide_eq_true_eq,hb];have e:s0= -1-k:=by omega
      exact⟨congrArg some e,by omega⟩
     have hzb:z.2.1<1000000:=by
      rcases okz.cases with⟨_,q⟩|⟨_,_,_,_,q,q'⟩<;>omega
     have hw2:=wrapN (show z.2.1<4611686018427387904 by omega);have ab2:abuild Try.prog 63 [(0,.agg ⟨[.int .i64 z.1,.int .i64 ((z.2.1+1:Nat):Int)]⟩),(1,.int .i64 (z.2.2:Nat))]=some (.agg ⟨itc (stepI z)⟩):=ab63 _ _ _;simp only[decide_eq_true hkz,bite_t,F18_1,e1,xFld_p,Nat.zero_add,Nat.add_zero,l1,l2,l3,vb_some,vN_eq,xAdd_i,hw2,ab53c,ab2];exact f.addN (by omega) fun h' nv' f'=>hnext nv' _ h' f' (by rw[if_pos hh])
    ·have hh:hit g k z=false:=by
      unfold hit;rw[decide_eq_false_iff_not,hb];rintro⟨e,_⟩;cases e;omega
     simp only[decide_eq_false hkz,bite_f];exact hnext nv N h f (by rw[hh];rfl)
   ·have hh:hit g k z=false:=by
     unfold hit;rw[decide_eq_false_iff_not,hb];rintro⟨e,e'⟩;cases e;omega
    simp only[decide_eq_false hs,e0,vb_some,xPick_f,ff_eq,bite_f];exact hnext nv N h f (by rw[hh];rfl)
end
theorem EI.fromS{g:Gr}{ks:List Int}{j:Nat}{x:It3}(h:EI g ks j x): ∀i,j=i+1-> ∃z s k,EI g ks i z/\behI g z.1 z.2.1=some s/\s<0/\ks[i]?=some k/\s= -1-k:=by
 induction h with
 |start=>intro i e;omega
 |pred hx hb hs' hr hl ih=>exact ih
 |null hx hb hs' hn ih=>exact ih
 |comp hx h1 hr ha hf hy hb ih1 ih2=>exact ih1
 |shift hx hb hs' hk he ih=>intro i e;cases e;exact⟨_,_,_,hx,hb,hs',hk,he⟩
section
variable {Q:Value->PH->Prop}{n:Nat}{cl ih:CL}{h h0:PH}{S:Vw}{m:OM}{rows rest rows1 ex exP exL:Rws}{g:Gr}{rv fv cv kv kvs lv nv nlv pv:Value}{ks:List Int}{L N:List It3}{c:Nat}{past:List (List It3)}
theorem PtsR.mono{S':Vw}(hs:Vw.le S S')(p:PtsR S pv past exP):PtsR S' pv past exP:=by
 obtain⟨cP,gP,h⟩:=p.h;exact⟨cP,gP,fun i l hi=>let⟨w,q1,q2⟩:=h i l hi;⟨w,q1,q2.mono hs⟩⟩
theorem Ret.ptsapp{K2:Value->PH->R}(p:PtsR S pv past exP)(st:Sl h0 h S m (exP++rows))(hl:past.length<=1000){w:Value}(hw:SlC S 3 w L.length (L.flatMap itc))(hk: ∀h' pv' exP',Sl h0 h' S m (exP'++rows)->PtsR S pv' (past++[L]) exP'->Ret (K2 pv' h') Q):
  Ret (Go.Am.hb (xBS 1 (bsRow Try.prog 44 1 [(0,w)]) h) fun v1 h=>Go.Am.hb (xApp (appInfo Try.prog #[44,44]) pv v1 h) K2) Q:=by
 obtain⟨cP,gP,hP⟩:=p.h;have hsz:(2*(past.length+1)+512)*24<=281474976710656:=by omega
 refine Ret.gapp st gP (bs44 hw).1 ai44 rfl ?_ hsz fun h' v' ex' st' g'=>hk h' v' ex' st' ⟨cP++[w],?_,fun i l hi=>?_⟩
 ·show(w.oneCell'&&true)=true
  rw[(bs44 hw).2];rfl
 ·rw[List.length_append];exact g'
 ·have hcl:cP.length=past.length:=by rw[gP.length];omega
  by_cases hlt:i<past.length
  ·rw[List.getElem?_append_left hlt]at hi;obtain⟨w',q1,q2⟩:=hP i l hi;exact⟨w',by rw[List.getElem?_append_left (by omega)];exact q1,q2⟩
  ·have hl':=(List.getElem?_eq_some_iff.1 hi).1;rw[List.length_append,List.length_singleton]at hl';have e:i=past.length:=by omega
   subst e;rw[List.getElem?_append_right (Nat.le_refl _),Nat.sub_self]at hi;simp at hi;subst hi;exact⟨w,by rw[<-hcl,List.getElem?_append_right (Nat.le_refl _),Nat.sub_self];rfl,hw⟩
theorem PtsR.fin{S0:Vw}(p:PtsR S pv past exP)(le:VwN h0 S0 S)(st:Sl h0 h S OM.emp (exP++rows))(f:Whole g ks past)(hp:Pre g ks (past.length-1))(h0':0<past.length): ∃S',VwN h0 S0 S'/\Sl h0 h S' OM.emp []/\WalkP g ks pv S':=by
 obtain⟨cP,gP,hP⟩:=p.h;obtain⟨S1,le1,st1,hA⟩:=Gl.settleV st gP;exact⟨S1,le.trans le1,st1.drop (List.nil_sublist _),past,cP,hA,fun i l hi=>let⟨w,q1,q2⟩:=hP i l hi;⟨w,q1,q2.mono le1.1⟩,f,hp,h0'⟩
theorem loop18(hn:9223372036854775808<=n)(hg:GOk g)(kl:ks.length<=40){S0:Vw}:
  ∀(q i fu:Nat)(S:Vw)(pv:Value)(PS:List (List It3))(exP:Rws)(h:PH),ks.length=i+q->q<fu->PS.length=i+1->GrV S g rv fv cv kv->NlV S g nlv->RdV (rI .i64) S kvs ks->VwN h0 S0 S->Sl h0 h S OM.emp (exP++[(c,.row .own 1 (gcs g rv fv cv kv))])->PtsR S pv PS exP->Whole g ks PS->(∀j,j<=i-> ∃x,EI g ks j x)->
   Ret (lp fu (F18_10 n cl (fun o h=>ucons o fun p q=>some (p,h))) [kvs,.pointer (some ⟨c,0,none⟩),nlv,pv,.int .i64 (i:Nat)] h) fun v h'=> ∃S',VwN h0 S0 S'/\Sl h0 h' S' OM.emp []/\WalkP g ks v S':=by
 intro q
 induction q with
 |zero=>
  intro i fu S pv PS exP h hq hf hp gv nl rk le st pr f hne;obtain⟨fu,rfl⟩: ∃q,fu=q+1:=⟨fu-1,by omega⟩;rw[lp_succ];have dc:decide (((i:Nat):Int)<((ks.length:Nat):Int))=false:=decide_eq_false (by omega);simp only[F18_10,ucons_cons,F18_9,rk.lenV,xLt_i,dc,vb_some,bite_f];exact Ret.of (pr.fin le st f ⟨by omega,fun j hj=>hne j (by omega),fun h=>by omega⟩ (by omega))
 |succ q ih'=>
  intro i fu S pv PS exP h hq hf hp gv nl rk le st pr f hne;obtain⟨fu,rfl⟩: ∃q,fu=q+1:=⟨fu-1,by omega⟩;rw[lp_succ];have dc:decide (((i:Nat):Int)<((ks.length:Nat):Int))=true:=decide_eq_true (by omega);have hkJ:=List.getElem?_eq_getElem (l:=ks) (i:=i) (by omega);generalize ks[i]=k at hkJ;have hPi:=List.getElem?_eq_getElem (l:=PS) (i:=i) (by omega);generalize PS[i]=l at hPi;obtain⟨pq,plv,p1,p2,p3⟩:=pr.at st (fun p hp=>List.mem_append_left _ hp) hPi;have fl:=f i l hPi;have hE: ∀y∈l,EI g ks i y:=fun y hy=>(fl.2 y).1 hy;have ll:=few_EI hg kl fl.1 hE;simp only[F18_10,ucons_cons,F18_9,rk.lenV,xLt_i,dc,vb_some,bite_t,F18_8,p1,p2,vN_eq];have hnd:=shf_nd (g:=g) (k:=k) fl.1;have hshf: ∀z,EI g ks i z-> ∀s,behI g z.1 z.2.1=some s->s<0->s= -1-k->stepI z∈shf g k l:=fun z hz s hb hs he=>by
   subst he;unfold shf;refine List.mem_map_of_mem (List.mem_filter.2 ⟨(fl.2 z).2 hz,?_⟩);unfold hit;rw[decide_eq_true_eq];exact⟨hb,hs⟩
  have hei: ∀y∈shf g k l,EI g ks (i+1) y:=fun y hy=>by
   unfold shf at hy;obtain⟨z,hz,rfl⟩:=List.mem_map.1 hy;obtain⟨hz1,hz2⟩:=List.mem_filter.1 hz;unfold hit at hz2;rw[decide_eq_true_eq]at hz2;exact .shift (hE z hz1) hz2.1 hz2.2 hkJ rfl
  refine loop18a (rest:=exP) (K1:=fun o h=>ucons o fun p q=>some (p,h)) (K2:=lp fu (F18_10 n cl (fun o h=>ucons o fun p q=>some (p,h)))) hn hg gv kl rk p3 ll hE hkJ (fun h2 nv2 f2=>?_) l.length 0 n nils [] h (by omega) (by omega) ⟨[],[],st.perm (List.perm_append_singleton _ _),.inl Gl.nil,Gl.nil⟩ rfl;have hlen:=f2.ok.2.2.2.1;simp only[F18_5,hlen,vb_some,vN_eq,xEq_i];obtain⟨exL,exN,st2,gL,gN⟩:=f2.h;have st3:Sl h0 h2 S OM.emp (exN++((c,.row .own 1 (gcs g rv fv cv kv))::exP)):=st2.drop (List.sublist_append_right _ _)
  by_cases hz:shf g k l=[]
  ·have dz:(((shf g k l).length:Nat):Int)=((0:Nat):Int):=by rw[hz];rfl
   simp only[decide_eq_true dz,bite_t,ucons_cons];have st4:Sl h0 h2 S OM.emp (exP++[(c,.row .own 1 (gcs g rv fv cv kv))]):=(st3.drop (List.sublist_append_right _ _)).perm (List.perm_append_singleton _ _).symm;refine Ret.of (pr.fin le st4 f ⟨by omega,fun j hj=>hne j (by omega),fun _ x hx=>?_⟩ (by omega));obtain⟨z,s,k',q1,q2,q3,q4,q5⟩:=hx.fromS i (by omega);rw[hkJ]at q4;cases q4;have:=hshf z q1 s q2 q3 q5;rw[hz]at this;cases this
  ·have hpos:=List.length_pos_iff.2 hz;have dz: ¬(((shf g k l).length:Nat):Int)=((0:Nat):Int):=by omega
   have lc:xLdA 7 (.pointer (some ⟨c,0,none⟩)) h2=some (.agg ⟨gcs g rv fv cv kv⟩):=st3.ldA (b:=c) (e:=1) (md:=.own) (cs:=gcs g rv fv cv kv) (by simp) rfl (by simp);simp only[decide_eq_false dz,bite_f,F18_4,lc,vb_some];have pl1:Pl g ks PS:=f.pl kl (by omega);refine Ret.hb (c37 (rest:=(c,.row .own 1 (gcs g rv fv cv kv))::exP) hn hg gv nl pl1 pr (fun p hp=>.tail _ hp) st3 (.inl gN) hnd (fun y hy=>by rw[hp];exact hei y hy)) fun lv3 h3 hv3=>?_;obtain⟨L',exL',st5,g5,w5,hc5⟩:=hv3;obtain⟨S6,le6,st6,hS6⟩:=Gx.settleV st5 g5;have st6:Sl h0 h3 S6 OM.emp (exP++[(c,.row .own 1 (gcs g rv fv cv kv))]):=st6.perm (List.perm_append_singleton _ _).symm;have F:Whole g ks (PS++[L']):=Whole.snoc hg f w5.nd w5.ei hc5 (fun e=>by omega) fun j x s k' e hx hb hs hk' he=>by
    have e:i=j:=by omega
    subst e;rw[hkJ]at hk';cases hk';exact w5.sub (hshf x hx s hb hs he)
   refine Ret.ptsapp (pr.mono le6.1) st6 (by omega) hS6 fun h7 pv7 exP7 st7 pr7=>?_;simp only[vN_eq,xAdd_i,vb_some,show(((1:Nat):Int))=1 from rfl,wrap1 (i:=i) (by omega)];refine ih' (i+1) fu S6 pv7 (PS++[L']) exP7 h7 (by omega) (by omega) (by simp[hp]) (gv.mono le6.1) (nl.mono le6.1) (rk.mono le6.1) (le.trans le6) st7 pr7 F fun j hj=>?_
   by_cases e:j<=i
   ·exact hne j e
   ·have e:j=i+1:=by omega
    subst e;obtain⟨x,hx⟩:=List.exists_mem_of_ne_nil _ hz;exact⟨x,hei x hx⟩
theorem c18[OkH h](hn:9223372036854775808<=n)(hgood:goodB g=true)(hG:GIn g)(hS:Vw.le S h.cells)(gv:GrV S g rv fv cv kv)(rk:RdV (rI .i64) S kvs ks)(kl:ks.length<=40):
  Ret (F18 n cl (.agg ⟨gcs g rv fv cv kv⟩) kvs h.fzn) fun v h1=> ∃S',VwN h.fzn S S'/\Sl h.fzn h1 S' OM.emp []/\WalkP g ks v S':=by
 have hg:=gok_of hgood;unfold F18;refine Ret.lbox (Sl.start h.fzn (fun b cs e=>hS b cs e)) fun h1 c st1=>?_;have st1:Sl h.fzn h1 S OM.emp [(c,.row .own 1 (gcs g rv fv cv kv))]:=st1;have la:xLdA 7 (.pointer (some ⟨c,0,none⟩)) h1=some (.agg ⟨gcs g rv fv cv kv⟩):=st1.ldA (.head _) rfl (by simp);have okh:=st1.ok;simp only[la,vb_some];have r1:=gv.rd (h:=h1) (fun b cs e=>st1.leS b cs e);refine Ret.lfcall st1 (fr_nul (S:=S) (fun b cs e=>st1.leS b cs e) hgood (c36 (h:=h1) hn r1 hG)) fun v h2 ex hv2 st2=>?_;obtain⟨bn,md,e,cn,nul,rfl,hnul,rfl⟩:=hv2;have la2:xLdA 7 (.pointer (some ⟨c,0,none⟩)) h2=some (.agg ⟨gcs g rv fv cv kv⟩):=st2.ldA (.tail _ (.head _)) rfl (by simp);have ab2:abuild Try.prog 63 [(0,.agg ⟨[.int .i64 (-1),.int .i64 0]⟩),(1,vN 0)]=some (.agg ⟨itc (-1,0,0)⟩):=ab63 _ _ _;simp only[la2,ab53',ab2,vb_some];have hnn:=(st2.sm.own bn _ (st2.mem (.head _))).2;obtain⟨st3,hSn⟩:=st2.settle (i:=0) rfl;have le3:=VwN.put (h0:=h.fzn) hSn hnn (cs:=bv nul);have st3:Sl h.fzn h2 (S.put bn (bv nul)) OM.emp [(c,.row .own 1 (gcs g rv fv cv kv))]:=st3;have nl:NlV (S.put bn (bv nul)) g (.slice (some ⟨bn,0,none⟩) g.names.toNat cn):=⟨nul,bn,cn,hnul,rfl,Vw.put_self⟩;have gv4:=gv.mono le3.1;have rk4:=rk.mono le3.1;refine Ret.lbs st3 bs61 fun h4 b4 st4=>?_;have pl0:Pl g ks []:=⟨kl,by simp,fun i l hi=>by simp at hi⟩;have pr0:PtsR (S.put bn (bv nul)) nils [] []:=⟨[],Gl.nil,fun i l hi=>by simp at hi⟩;have gx0:Gx (.slice (some ⟨b4,0,none⟩) 1 1) [(-1,0,0)] [(b4,.row .own 3 (itc (-1,0,0)))]:=.inr ⟨b4,rfl,rfl,by simp⟩;refine Ret.hb (c37 (past:=[]) (exL:=[(b4,.row .own 3 (itc (-1,0,0)))]) (rest:=[(c,.row .own 1 (gcs g rv fv cv kv))]) hn hg gv4 nl pl0 pr0 (fun p hp=>by cases hp) st4 gx0 (by simp) (fun y hy=>by rw[List.mem_singleton]at hy;subst hy;exact .start)) fun lv5 h5 hv5=>?_;obtain⟨L',exL',st5,g5,w5,hc5⟩:=hv5;obtain⟨S6,le6,st6,hS6⟩:=Gx.settleV st5 g5;have h05:((-1,0,0):It3)∈L':=w5.sub (.head _);have F:Whole g ks ([]++[L']):=Whole.snoc hg (fun j l hj=>by simp at hj) w5.nd w5.ei hc5 (fun _=>h05) (fun j x s k e=>by simp at e);refine Ret.ptsapp (exP:=[]) (rows:=[(c,.row .own 1 (gcs g rv fv cv kv))]) (pr0.mono le6.1) st6 (by simp) hS6 fun h7 pv7 exP7 st7 pr7=>?_;simp only[jn_eq,vN_eq];exact loop18 hn hg kl ks.length 0 n S6 pv7 ([]++[L']) exP7 h7 (by omega) (by omega) rfl (gv4.mono le6.1) (nl.mono le6.1) (rk4.mono le6.1) (le3.trans le6) st7 pr7 F fun j hj=>⟨(-1,0,0),by
  have:j=0:=by omega
  subst this;exact .start⟩
end
theorem SlC.rdI{V:Vw}{v:Value}{l:List Int}(r:SlC V 1 v l.length (zv l)):RdV (rI .i64) V v l:=by
 rcases r with⟨h1,_,rfl⟩|⟨b,o,c,cs,rfl,h1,h2,h3⟩
 ·exact .inl ⟨List.length_eq_zero_iff.1 h1,none,0,rfl⟩
 ·refine .inr ⟨b,o,c,cs,rfl,h1,fun i z hz=>?_⟩;have hlt:=(List.getElem?_eq_some_iff.1 hz).1;have hg:=zv_get hz;rw[h3,Nat.mul_one,List.getElem?_take,if_pos hlt,List.getElem?_drop]at hg;obtain⟨q1,q2⟩:=List.getElem?_eq_some_iff.1 hg;refine⟨by show o+i*1+1<=_;omega,?_⟩
  show(cs.drop (o+i*1)).take 1=[.int .i64 z]
  rw[Nat.mul_one,List.drop_eq_getElem_cons q1,List.take_succ_cons,List.take_zero];exact congrArg (fun x=>[x]) q2
def trues(B:List Bool)(i:Nat):List Int:=((List.range i).filter fun j=>B.getD j false).map Int.ofNat
theorem trues_asc{B:List Bool}{i:Nat}:Asc (trues B i):=by
 unfold Asc trues;rw[List.pairwise_map];refine(List.pairwise_lt_range.filter _).imp fun {a b} h=>?_;exact Int.ofNat_lt.2 h
theorem trues_mem{B:List Bool}{k:Int}:k∈trues B B.length↔ ∃i:Nat,k=i/\B[i]?=some true:=by
 unfold trues;rw[List.mem_map];constructor
 ·rintro⟨i,hi,rfl⟩;rw[List.mem_filter,List.mem_range]at hi;refine⟨i,rfl,?_⟩;have:=hi.2;rw[List.getD_eq_getElem?_getD]at this;rw[List.getElem?_eq_getElem hi.1]at this ⊢;exact congrArg some (by simpa using this)
 ·rintro⟨i,rfl,hi⟩;refine⟨i,?_,rfl⟩;rw[List.mem_filter,List.mem_range];refine⟨(List.getElem?_eq_some_iff.1 hi).1,?_⟩;rw[List.getD_eq_getElem?_getD,hi];rfl
theorem trues_succ{B:List Bool}{i:Nat}:trues B (i+1)=trues B i++(if B.getD i false=true then [(i:Int)]else []):=by
 unfold trues;rw[List.range_succ,List.filter_append,List.map_append]
 by_cases h:B.getD i false=true
 ·rw[if_pos h,List.filter_cons_of_pos (p:=fun j=>B.getD j false) h];rfl
 ·rw[if_neg h,List.filter_cons_of_neg (p:=fun j=>B.getD j false) h];rfl
theorem trues_len{B:List Bool}{i:Nat}:(trues B i).length<=i:=by
 unfold trues;rw[List.length_map];have:=List.length_filter_le (fun j=>B.getD j false) (List.range i);rw[List.length_range]at this;exact this
section
variable {Q:Value->PH->Prop}{n:Nat}{cl ih:CL}{h h0:PH}{S:Vw}{m:OM}{rows rest rows1 ex exP exL:Rws}{g:Gr}{rv fv cv kv kvs lv nv nlv pv:Value}{ks:List Int}{L N:List It3}{c:Nat}{past:List (List It3)}
set_option maxRecDepth 100000 in
theorem loop24{B:List Bool}{b cp:Nat}(hB:B.length<=1000)(hb:S b=some (bv B)):
  ∀(q i fu:Nat)(ov:Value)(ex:Rws)(h:PH),B.length=i+q->q<fu->Sl h0 h S OM.emp (ex++[])->Gl 1 ov (trues B i).length (zv (trues B i)) ex->
   Ret (lp fu (F24_5 n cl) [.slice (some ⟨b,0,none⟩) B.length cp,ov,.int .i64 (i:Nat)] h) fun v h'=> ∃S',VwN h0 S S'/\Sl h0 h' S' OM.emp []/\RdV (rI .i64) S' v (trues B B.length)/\Anc h0.n v:=by
 have hlenB:xLenS (.slice (some ⟨b,0,none⟩) B.length cp)=some (.int .i64 ((B.length:Nat):Int)):=by simp
 intro q
 induction q with
 |zero=>
  intro i fu ov ex h hq hf st gl;obtain⟨fu,rfl⟩: ∃q,fu=q+1:=⟨fu-1,by omega⟩;rw[lp_succ];have dc:decide (((i:Nat):Int)<((B.length:Nat):Int))=false:=decide_eq_false (by omega);have e:i=B.length:=by omega
  subst e;simp only[F24_5,ucons_cons,F24_4,hlenB,xLt_i,dc,vb_some,bite_f];obtain⟨S1,le1,st1,hA⟩:=Gl.settleV st gl;exact Ret.of ⟨S1,le1,st1,hA.rdI,gl.anc st⟩
 |succ q ih'=>
  intro i fu ov ex h hq hf st gl;obtain⟨fu,rfl⟩: ∃q,fu=q+1:=⟨fu-1,by omega⟩;rw[lp_succ];have dc:decide (((i:Nat):Int)<((B.length:Nat):Int))=true:=decide_eq_true (by omega);have hy:=List.getElem?_eq_getElem (l:=B) (i:=i) (by omega);have hD:B.getD i false=B[i]:=by rw[List.getD_eq_getElem?_getD,hy];rfl
  have hix:xIdxS 1 (.slice (some ⟨b,0,none⟩) B.length cp) (.int .i64 (i:Nat))=some (.pointer (some ⟨b,i,none⟩)):=by
   rw[xIdxS_at (by omega) (by omega)];simp
  have hld:xLd (.pointer (some ⟨b,i,none⟩)) h=some (.bool B[i]):=st.ldS hb (by unfold bv;rw[List.getElem?_map,hy];rfl);have hs:=trues_succ (B:=B) (i:=i);rw[hD]at hs;generalize B[i]=y at hy hld hs;have htl:=trues_len (B:=B) (i:=i);simp only[F24_5,ucons_cons,F24_4,hlenB,xLt_i,dc,vb_some,bite_t,jn_eq,F24_3,hix,hld];have hnext: ∀(ov':Value)(ex':Rws)(h':PH),Sl h0 h' S OM.emp (ex'++[])->Gl 1 ov' (trues B (i+1)).length (zv (trues B (i+1))) ex'->
    Ret (F24_2 n cl (lp fu (F24_5 n cl)) [.slice (some ⟨b,0,none⟩) B.length cp,ov',.int .i64 (i:Nat)] h') fun v h'=> ∃S',VwN h0 S S'/\Sl h0 h' S' OM.emp []/\RdV (rI .i64) S' v (trues B B.length)/\Anc h0.n v:=by
   intro ov' ex' h' st' gl';simp only[F24_2,ucons_cons,F24_0,vN_eq,xAdd_i,vb_some,show(((1:Nat):Int))=1 from rfl,wrap1 (i:=i) (by omega)];exact ih' (i+1) fu ov' ex' h' (by omega) (by omega) st' gl'
  cases y with
  |false=>
   simp only[bite_f];refine hnext ov ex h st ?_;rw[hs];simpa using gl
  |true=>
   simp only[bite_t,F24_1];have hsz:(2*((trues B i).length+1)+512)*8<=281474976710656:=by omega
   refine Ret.gapp st gl bsI24 ai24 rfl rfl hsz fun h' v' ex' st' g'=>hnext v' ex' h' st' ?_;rw[hs,if_pos rfl,List.length_append,List.length_singleton];have e:zv (trues B i++[(i:Int)])=zv (trues B i)++[.int .i64 (i:Nat)]:=by simp[zv]
   rw[e];exact g'
theorem c24[OkH h](hn:9223372036854775808<=n)(hS:Vw.le S h.cells){B:List Bool}{b cp:Nat}(hB:B.length<=1000)(hb:S b=some (bv B)):
  Ret (F24 n cl (.slice (some ⟨b,0,none⟩) B.length cp) h.fzn) fun v h1=> ∃S',VwN h.fzn S S'/\Sl h.fzn h1 S' OM.emp []/\RdV (rI .i64) S' v (trues B B.length)/\Anc h.n v:=by
 unfold F24;simp only[vN_eq];refine loop24 hB hb B.length 0 n nils [] h.fzn (by omega) (by omega) (Sl.start h.fzn (fun b cs e=>hS b cs e)) ?_;exact Gl.nil
theorem c9[OkH h](hn:9223372036854775808<=n)(hG:GIn g)(hS:Vw.le S h.cells)(gv:GrV S g rv fv cv kv)(rk:RdV (rI .i64) S kvs ks)(kl:ks.length<=40):
  ∃x c,ChkQ g x/\(x.2=0->Pre g ks c)/\pcall (F9 n cl (.agg ⟨gcs g rv fv cv kv⟩) kvs h.fzn)=some (.int .i64 (if x.2=0 then(c:Nat)else 0)):=by
 have key:Ret (F9 n cl (.agg ⟨gcs g rv fv cv kv⟩) kvs h.fzn) fun u _=> ∃(x:Int×Int) (c:Nat),ChkQ g x/\(x.2=0->Pre g ks c)/\u= .int .i64 (if x.2=0 then(c:Nat)else 0):=by
  unfold F9;refine Ret.lbox (Sl.start h.fzn (fun b cs e=>hS b cs e)) fun h1 c st1=>?_;have st1:Sl h.fzn h1 S OM.emp [(c,.row .own 1 (gcs g rv fv cv kv))]:=st1;have la:xLdA 7 (.pointer (some ⟨c,0,none⟩)) h1=some (.agg ⟨gcs g rv fv cv kv⟩):=st1.ldA (.head _) rfl (by simp);have okh:=st1.ok;obtain⟨x,q,e⟩:=c13 (h:=h1) (n:=n) (cl:=cl) hn (gv.rd (h:=h1) (fun b cs e=>st1.leS b cs e)) hG;simp only[la,vb_some,e,xExt_t',List.getElem?_cons_zero,List.getElem?_cons_succ,vN_eq,show(((0:Nat):Int))=0 from rfl,xNe_i]
  by_cases hx:x.2=0
  ·simp only[decide_eq_true hx,Bool.not_true,bite_f,F9_0,la,vb_some];refine Ret.lfcallV st1 (fun v V W=>WalkP.mono v V W) (c18 (h:=h1) hn (q.zero hx) hG (fun b cs e=>st1.leS b cs e) gv rk kl) fun v h2 S2 le2 st2 hp=>?_;obtain⟨PS,cP,q1,q2,q3,q4,q5⟩:=hp.h;have hlen:xLenS v=some (.int .i64 (PS.length:Nat)):=by
    rcases q1 with⟨e,_,rfl⟩|⟨b,o,cp,cs,rfl,_⟩
    ·rw[e];rfl
    ·simp
   have:=q4.le;have hw:IntKind.i64.wrap (((PS.length:Nat):Int)-((1:Nat):Int))=((PS.length-1:Nat):Int):=by
    rw[wrap_in (by omega) (by omega)];omega
   simp only[hlen,vb_some,vN_eq,xSub_i,hw];exact Ret.of ⟨x,PS.length-1,q,fun _=>q4,by rw[if_pos hx]⟩
  ·simp only[decide_eq_false hx,Bool.not_false,bite_t];exact Ret.of ⟨x,0,q,fun h=>absurd h hx,by rw[if_neg hx]⟩
 obtain⟨v,h',e,x,c,q1,q2,rfl⟩:=key;exact⟨x,c,q1,q2,by rw[e];rfl⟩
end
section
variable {Q:Value->PH->Prop}{n:Nat}{cl ih:CL}{h h0:PH}{S:Vw}{m:OM}{rows rest rows1 ex exP exL:Rws}{g:Gr}{rv fv cv kv kvs lv nv nlv pv:Value}{ks:List Int}{L N:List It3}{c:Nat}{past:List (List It3)}
theorem bv_set{B:List Bool}{k:Nat}:(bv B).set k (.bool true)=bv (B.set k true):=by simp[bv]
theorem set_true{B:List Bool}{k j:Nat}(hk:k<B.length):(B.set k true)[j]?=some true↔(j=k\/B[j]?=some true):=by
 by_cases e:k=j
 ·subst e;rw[List.getElem?_set_self hk];simp
 ·rw[List.getElem?_set_ne e];constructor
  ·exact .inr
  ·rintro(h|h)
   ·exact absurd h.symm e
   ·exact h
theorem loop12(hg:GOk g)(gv:GrV S g rv fv cv kv){l:List It3}{v:Value}{J bB:Nat}(hl:SlC S 3 v l.length (l.flatMap itc))(ll:l.length<=65536)(hE: ∀y∈l,EI g ks J y)
  (hk: ∀h' B',Sl h0 h' S OM.emp [(bB,.row .own 1 (bv B')),(c,.row .own 1 (gcs g rv fv cv kv))]->B'.length=g.kinds.toNat+1->(∀k:Nat,B'[k]?=some true↔ ∃y∈l,(k:Int)∈outI g y)->Ret (F12_8 n cl (.slice (some ⟨bB,0,none⟩) (g.kinds.toNat+1) (g.kinds.toNat+1)) h') Q):
  ∀(q i fu:Nat)(B:List Bool)(h:PH),l.length=i+q->q<fu->Sl h0 h S OM.emp [(bB,.row .own 1 (bv B)),(c,.row .own 1 (gcs g rv fv cv kv))]->B.length=g.kinds.toNat+1->(∀k:Nat,B[k]?=some true↔ ∃y∈l.take i,(k:Int)∈outI g y)->
   Ret (lp fu (F12_10 n cl) [.pointer (some ⟨c,0,none⟩),.slice (some ⟨bB,0,none⟩) (g.kinds.toNat+1) (g.kinds.toNat+1),v,.int .i64 (i:Nat)] h) Q:=by
 have hrl:=hg.rl;have hkn:=hg.kn;intro q
 induction q with
 |zero=>
  intro i fu B h hq hf st hBl hB;obtain⟨fu,rfl⟩: ∃q,fu=q+1:=⟨fu-1,by omega⟩;rw[lp_succ];have dc:decide (((i:Nat):Int)<((l.length:Nat):Int))=false:=decide_eq_false (by omega);simp only[F12_10,ucons_cons,F12_9,hl.itLen,vb_some,xLt_i,dc,bite_f];rw[List.take_of_length_le (by omega)]at hB;exact hk h B st hBl hB
 |succ q ih'=>
  intro i fu B h hq hf st hBl hB;obtain⟨fu,rfl⟩: ∃q,fu=q+1:=⟨fu-1,by omega⟩;rw[lp_succ];have dc:decide (((i:Nat):Int)<((l.length:Nat):Int))=true:=decide_eq_true (by omega);have hz:=List.getElem?_eq_getElem (l:=l) (i:=i) (by omega);have htk:l.take (i+1)=l.take i++[l[i]]:=by rw[List.take_add_one,hz];rfl
  generalize l[i]=z at hz htk;have hzE:=hE z (List.mem_of_getElem? hz);obtain⟨okz,fz',_⟩:=EI.ok hg hzE;obtain⟨b2,o2,cs2,e1,e2,e3,e4⟩:=hl.itm hz;obtain⟨a1,a2,a3⟩:=cells3 e3;have la:xLdA 2 (.pointer (some ⟨b2,o2,none⟩)) h=some (.agg ⟨[.int .i64 z.1,.int .i64 (z.2.1:Nat)]⟩):=st.ldSA e2 (take2 e3) (by omega);have lc:xLdA 7 (.pointer (some ⟨c,0,none⟩)) h=some (.agg ⟨gcs g rv fv cv kv⟩):=st.ldA (.tail _ (.head _)) rfl (by simp);have okh:=st.ok;obtain⟨s0,eb,es⟩:=c23 (h:=h.fzn) (n:=n) (cl:=cl) (S:=S) (fun b cs e=>st.leS b cs e) gv okz hrl;simp only[F12_10,ucons_cons,F12_9,hl.itLen,vb_some,xLt_i,dc,bite_t,jn_eq,F12_7,e1,xFld_p,Nat.zero_add,Nat.add_zero,lc,la,eb,xExt_t',List.getElem?_cons_zero,List.getElem?_cons_succ];have hnext: ∀(B':List Bool)(h':PH),Sl h0 h' S OM.emp [(bB,.row .own 1 (bv B')),(c,.row .own 1 (gcs g rv fv cv kv))]->B'.length=g.kinds.toNat+1->(∀k:Nat,B'[k]?=some true↔(B[k]?=some true\/(k:Int)∈outI g z))->
    Ret (F12_6 n cl (lp fu (F12_10 n cl)) [.pointer (some ⟨c,0,none⟩),.slice (some ⟨bB,0,none⟩) (g.kinds.toNat+1) (g.kinds.toNat+1),v,.int .i64 (i:Nat)] h') Q:=by
   intro B' h' st' hl' hB';simp only[F12_6,ucons_cons,F12_0,vN_eq,xAdd_i,vb_some,show(((1:Nat):Int))=1 from rfl,wrap1 (i:=i) (by omega)];refine ih' (i+1) fu B' h' (by omega) (by omega) st' hl' fun k=>?_;rw[hB',hB,htk];constructor
   ·rintro(⟨y,hy,hk'⟩|hk')
    ·exact⟨y,List.mem_append_left _ hy,hk'⟩
    ·exact⟨z,by simp,hk'⟩
   ·rintro⟨y,hy,hk'⟩;rcases List.mem_append.1 hy with hy|hy
    ·exact .inl ⟨y,hy,hk'⟩
    ·rw[List.mem_singleton]at hy;subst hy;exact .inr hk'
  have hset: ∀(k:Nat)(K2:Value->PH->R),k<g.kinds.toNat+1->(∀h',Sl h0 h' S OM.emp [(bB,.row .own 1 (bv (B.set k true))),(c,.row .own 1 (gcs g rv fv cv kv))]->Ret (K2 undef h') Q)->
    Ret (Go.Am.hb (xSt1 (.pointer (some ⟨bB,k,none⟩)) (.bool true) h) K2) Q:=by
   intro k K2 hk1 hk2;refine Ret.lst1 st 0 rfl rfl (by simp[bv];omega) rfl fun h' st'=>hk2 h' ?_;rw[bv_set]at st';exact st'
  have hix: ∀k:Nat,k<g.kinds.toNat+1->xIdxS 1 (.slice (some ⟨bB,0,none⟩) (g.kinds.toNat+1) (g.kinds.toNat+1)) (.int .i64 (k:Nat))=some (.pointer (some ⟨bB,k,none⟩)):=fun k hk1=>by
   rw[xIdxS_at (by omega) (by omega)];simp
  have e0: ∀o:Option Value,gd (isB true (.bool false)) o=some undef:=fun o=>rfl;have e1': ∀o:Option Value,gd (isB true (.bool true)) o=o:=fun o=>rfl;have eM:vM 0= .int .i64 (-1):=rfl;cases hb:behI g z.1 z.2.1 with
  |none=>
   have l1:xLd (.pointer (some ⟨b2,o2,none⟩)) h=some (.int .i64 z.1):=st.ldS e2 a1;have l2:xLd (.pointer (some ⟨b2,o2+1,none⟩)) h=some (.int .i64 (z.2.1:Nat)):=st.ldS e2 a2;simp only[F12_5,Option.isSome_none,e0,vb_some,xPick_f,ff_eq,bite_f,F12_4,ucons_cons,F12_2,e1,xFld_p,Nat.zero_add,Nat.add_zero,l1,eM,xEq_i]
   by_cases hr:z.1= -1
   ·have hd1:z.2.1=1:=by
     rw[hr]at hb;rcases okz.cases with⟨_,q⟩|⟨i0,_,q,_⟩
     ·have:z.2.1≠0:=fun e=>by rw[e,behI_top]at hb;cases hb
      omega
     ·omega
    have d1:(((z.2.1:Nat):Int))=((1:Nat):Int):=by rw[hd1]
    have lk:xLd (.pointer (some ⟨c,1,none⟩)) h=some (.int .i64 ((g.kinds.toNat:Nat):Int)):=by
     rw[Int.toNat_of_nonneg hkn.1];exact st.ld (.tail _ (.head _)) rfl
    simp only[decide_eq_true hr,e1',e1,xFld_p,Nat.zero_add,Nat.add_zero,l2,vb_some,vN_eq,xEq_i,decide_eq_true d1,xPick_t,bite_t,F12_1,lk,hix g.kinds.toNat (by omega),tt_eq];refine hset g.kinds.toNat _ (by omega) fun h' st'=>hnext _ h' st' (by simp[hBl]) fun k=>?_;rw[set_true (by omega)];have ho:outI g z=[g.kinds]:=by unfold outI;rw[hb];simp[hr]
    rw[ho,List.mem_singleton];constructor
    ·rintro(h|h)
     ·right;omega
     ·exact .inl h
    ·rintro(h|h)
     ·exact .inr h
     ·left;omega
   ·simp only[decide_eq_false hr,e0,vb_some,xPick_f,bite_f];refine hnext B h st hBl fun k=>?_;have ho:outI g z=[]:=by unfold outI;rw[hb];simp[hr]
    rw[ho];simp
  |some s=>
   have:=es s hb;subst this;have hsr:=beh_sym hg hb;have hnm:=hg.nm;have hno: ∀(B':List Bool)(h':PH),Sl h0 h' S OM.emp [(bB,.row .own 1 (bv B')),(c,.row .own 1 (gcs g rv fv cv kv))]->B'.length=g.kinds.toNat+1->(∀k:Nat,B'[k]?=some true↔(B[k]?=some true\/(k:Int)∈outI g z))->
     Ret (F12_4 n cl (F12_6 n cl (lp fu (F12_10 n cl))) [.pointer (some ⟨c,0,none⟩),.slice (some ⟨bB,0,none⟩) (g.kinds.toNat+1) (g.kinds.toNat+1),v,.int .i64 (i:Nat)] h') Q:=by
    intro B' h' st' hl' hB';have l1:xLd (.pointer (some ⟨b2,o2,none⟩)) h'=some (.int .i64 z.1):=st'.ldS e2 a1;have l2:xLd (.pointer (some ⟨b2,o2+1,none⟩)) h'=some (.int .i64 (z.2.1:Nat)):=st'.ldS e2 a2;simp only[F12_4,ucons_cons,F12_2,e1,xFld_p,Nat.zero_add,Nat.add_zero,l1,vb_some,eM,xEq_i]
    by_cases hr:z.1= -1
    ·have d1: ¬(((z.2.1:Nat):Int))=((1:Nat):Int):=fun e=>by
      rw[hr,behI_top1 (by omega)]at hb;cases hb
     simp only[decide_eq_true hr,e1',e1,xFld_p,Nat.zero_add,Nat.add_zero,l2,vb_some,vN_eq,xEq_i,decide_eq_false d1,xPick_t,bite_f];exact hnext B' h' st' hl' hB'
    ·simp only[decide_eq_false hr,e0,vb_some,xPick_f,ff_eq,bite_f];exact hnext B' h' st' hl' hB'
   simp only[F12_5,Option.isSome_some,e1',vb_some,vN_eq,show(((0:Nat):Int))=0 from rfl,xLt_i,xPick_t]
   by_cases hs:s0<0
   ·obtain⟨k,hk1⟩: ∃k:Nat, -1-s0=k:=⟨(-1-s0).toNat,by omega⟩;have hkk: -1-s0<g.kinds:=by
     rcases hsr with h|h
     ·have:=isName_iff.1 h;omega
     ·exact h.2
    have hw:IntKind.i64.wrap (-1-s0)=((k:Nat):Int):=by rw[wrap_in (by omega) (by omega)];exact hk1
    simp only[decide_eq_true hs,bite_t,F12_3,eM,xSub_i,hw,vb_some,hix k (by omega),tt_eq];refine hset k _ (by omega) fun h' st'=>hno _ h' st' (by simp[hBl]) fun j=>?_;rw[set_true (by omega)];have ho:outI g z=[(k:Int)]:=by
     unfold outI;rw[hb];have:isKind g.kinds s0=true:=by unfold isKind;rw[decide_eq_true_eq];exact⟨hs,hkk⟩
     simp[this,hk1]
    rw[ho,List.mem_singleton];constructor
    ·rintro(h|h)
     ·right;omega
     ·exact .inl h
    ·rintro(h|h)
     ·exact .inr h
     ·left;omega
   ·simp only[decide_eq_false hs,bite_f];refine hno B h st hBl fun j=>?_;have ho:outI g z=[]:=by
     unfold outI;rw[hb];have:isKind g.kinds s0=false:=by unfold isKind;rw[decide_eq_false_iff_not];exact fun h=>hs h.1
     simp[this]
    rw[ho];simp
end
section
variable {Q:Value->PH->Prop}{n:Nat}{cl ih:CL}{h h0:PH}{S:Vw}{m:OM}{rows rest rows1 ex exP exL:Rws}{g:Gr}{rv fv cv kv kvs lv nv nlv pv:Value}{ks:List Int}{L N:List It3}{c:Nat}{past:List (List It3)}
theorem outI_nn{g:Gr}(hg:GOk g){x:It3}{k:Int}(h:k∈outI g x): ∃j:Nat,k=j:=by
 have hkn:=hg.kn;unfold outI at h
 split at h
 ·split at h
  ·rename_i h2;unfold isKind at h2;rw[decide_eq_true_eq]at h2;rw[List.mem_singleton]at h;exact⟨k.toNat,by omega⟩
  ·cases h
 ·split at h
  ·rw[List.mem_singleton]at h;exact⟨k.toNat,by omega⟩
  ·cases h
theorem c12[OkH h](hn:9223372036854775808<=n)(hG:GIn g)(hS:Vw.le S h.cells)(gv:GrV S g rv fv cv kv)(rk:RdV (rI .i64) S kvs ks)(kl:ks.length<=40):
  Ret (F12 n cl (.agg ⟨gcs g rv fv cv kv⟩) kvs h.fzn) fun v h1=> ∃S',VwN h.fzn S S'/\Sl h.fzn h1 S' OM.emp []/\ ∃x,ChkQ g x/\NextP g ks x v S'/\Anc h.n v:=by
 unfold F12;refine Ret.lbox (Sl.start h.fzn (fun b cs e=>hS b cs e)) fun h1 c st1=>?_;have st1:Sl h.fzn h1 S OM.emp [(c,.row .own 1 (gcs g rv fv cv kv))]:=st1;have la:xLdA 7 (.pointer (some ⟨c,0,none⟩)) h1=some (.agg ⟨gcs g rv fv cv kv⟩):=st1.ldA (.head _) rfl (by simp);have okh:=st1.ok;obtain⟨x,q,e⟩:=c13 (h:=h1) (n:=n) (cl:=cl) hn (gv.rd (h:=h1) (fun b cs e=>st1.leS b cs e)) hG;simp only[la,vb_some,e,xExt_t',List.getElem?_cons_zero,List.getElem?_cons_succ,vN_eq,show(((0:Nat):Int))=0 from rfl,xNe_i]
 by_cases hx:x.2=0
 ·have hg:=gok_of (q.zero hx);have hkn:=hg.kn;simp only[decide_eq_true hx,Bool.not_true,bite_f,F12_12,la,vb_some];refine Ret.lfcallV st1 (fun v V W=>WalkP.mono v V W) (c18 (h:=h1) hn (q.zero hx) hG (fun b cs e=>st1.leS b cs e) gv rk kl) fun v h2 S2 le2 st2 hp=>?_;obtain⟨PS,cP,q1,q2,q3,q4,q5⟩:=hp.h;have hlen:xLenS v=some (.int .i64 (PS.length:Nat)):=by
   rcases q1 with⟨e,_,rfl⟩|⟨b,o,cp,cs,rfl,_⟩
   ·rw[e];rfl
   ·simp
  have hw:IntKind.i64.wrap (((ks.length:Nat):Int)+((1:Nat):Int))=((ks.length+1:Nat):Int):=by
   rw[wrap_in (by omega) (by omega)];omega
  simp only[hlen,(rk.mono le2.1).lenV,vb_some,vN_eq,xAdd_i,hw,xNe_i]
  by_cases hlt:PS.length=ks.length+1
  ·have d1:((PS.length:Nat):Int)=((ks.length+1:Nat):Int):=by omega
   have l1:xLd (.pointer (some ⟨c,1,none⟩)) h2=some (.int .i64 g.kinds):=st2.ld (.head _) rfl;have hw2:IntKind.i64.wrap (g.kinds+((1:Nat):Int))=((g.kinds.toNat+1:Nat):Int):=by
    rw[wrap_in (by omega) (by omega)];omega
   simp only[decide_eq_true d1,Bool.not_true,bite_f,F12_11,xFld_p,Nat.zero_add,l1,vb_some,vN_eq,xAdd_i,hw2];refine Ret.lmk st2 zi47 (by omega) (by omega) (by omega) (by omega) fun h3 bB st3=>?_;rw[zrows1]at st3;have hto:(((g.kinds.toNat+1:Nat):Int)).toNat=g.kinds.toNat+1:=Int.toNat_natCast _;rw[hto]at st3;have st3:Sl h.fzn h3 S2 OM.emp [(bB,.row .own 1 (bv (List.replicate (g.kinds.toNat+1) false))),(c,.row .own 1 (gcs g rv fv cv kv))]:=by
    have e:bv (List.replicate (g.kinds.toNat+1) false)=List.replicate (g.kinds.toNat+1) (.bool false):=by simp[bv]
    rw[e];exact st3
   have hP:=List.getElem?_eq_getElem (l:=PS) (i:=ks.length) (by omega);generalize PS[ks.length]=l at hP;obtain⟨w,w1,w2⟩:=q2 _ l hP;have fl:=q3 _ l hP;have hE: ∀y∈l,EI g ks ks.length y:=fun y hy=>(fl.2 y).1 hy;have ll:=few_EI hg kl fl.1 hE;obtain⟨pq,p1,p2⟩: ∃pq,xIdxS 1 v (.int .i64 (ks.length:Nat))=some pq/\xLd pq h3=some w:=by
    rcases q1 with⟨e,_,_⟩|⟨b,o,cp,cs,rfl,f1,f2,rfl⟩
    ·omega
    ·refine⟨.pointer (some ⟨b,o+ks.length,none⟩),by rw[xIdxS_at (by omega) (by omega)];simp,st3.ldS f1 ?_⟩;rw[List.getElem?_take]at w1
     split at w1
     ·rw[List.getElem?_drop]at w1;exact w1
     ·cases w1
   simp only[hto,(rk.mono le2.1).lenV,p1,p2,vb_some];refine loop12 hg (gv.mono le2.1) w2 ll hE (fun h4 B' st4 hl4 hB4=>?_) l.length 0 n (List.replicate (g.kinds.toNat+1) false) h3 (by omega) (by omega) st3 (by simp) (fun k=>?_)
   ·unfold F12_8;have hnn:=(st4.sm.own bB _ (st4.mem (.head _))).2;obtain⟨st5,hSn⟩:=st4.settle (i:=0) rfl;have le5:=VwN.put (h0:=h.fzn) hSn hnn (cs:=bv B');have st5:Sl h.fzn h4 (S2.put bB (bv B')) OM.emp [(c,.row .own 1 (gcs g rv fv cv kv))]:=st5;have okh4:=st5.ok;have c24':=c24 (h:=h4) (n:=n) (cl:=cl) (S:=S2.put bB (bv B')) (B:=B') (b:=bB) (cp:=g.kinds.toNat+1) hn (fun b cs e=>st5.leS b cs e) (by omega) Vw.put_self;rw[hl4]at c24';refine Ret.lfcallV (P:=fun v V=>RdV (rI .i64) V v (trues B' (g.kinds.toNat+1))/\Anc h4.n v) st5 (fun v V W hs p=>⟨p.1.mono hs,p.2⟩) c24' fun v6 h6 S6 le6 st6 hp6=>?_;refine Ret.of ⟨S6,(le2.trans le5).trans le6,st6.drop (List.nil_sublist _),x,q,⟨trues B' (g.kinds.toNat+1),hp6.1,trues_asc,fun k=>?_⟩,hp6.2.imp_right fun⟨b,o,n,c,e,hb⟩=>⟨b,o,n,c,e,Nat.le_trans st5.sm.kp.le hb⟩⟩;rw[<-hl4,trues_mem];constructor
    ·rintro⟨i,rfl,hi⟩;obtain⟨y,hy,hk⟩:=(hB4 i).1 hi;exact⟨hx,y,hE y hy,hk⟩
    ·rintro⟨_,y,hy,hk⟩;obtain⟨j,rfl⟩:=outI_nn hg hk;exact⟨j,rfl,(hB4 j).2 ⟨y,(fl.2 y).2 hy,hk⟩⟩
   ·constructor
    ·intro hk;have:=List.mem_of_getElem? hk;rw[List.mem_replicate]at this;cases this.2
    ·rintro⟨y,hy,_⟩;cases hy
  ·have d1: ¬((PS.length:Nat):Int)=((ks.length+1:Nat):Int):=by omega
   have hle:=q4.le;simp only[decide_eq_false d1,Bool.not_false,bite_t];refine Ret.of ⟨S2,le2,st2.drop (List.nil_sublist _),x,q,⟨[],.inl ⟨rfl,none,0,rfl⟩,.nil,fun k=>⟨fun h=>(by cases h),fun⟨_,y,hy,_⟩=>absurd hy (q4.none (by omega) (by omega) y)⟩⟩,.inl rfl⟩
 ·simp only[decide_eq_false hx,Bool.not_false,bite_t];exact Ret.of ⟨S,VwN.refl,st1.drop (List.nil_sublist _),x,q,⟨[],.inl ⟨rfl,none,0,rfl⟩,.nil,fun k=>⟨fun h=>(by cases h),fun h=>absurd h.1 hx⟩⟩,.inl rfl⟩
end
end Go.Am
namespace Go.Am
open Go Go.RowKit Go.Proofs Go.ChangeShapes Go.WideShapes
structure IntsV(V:Vw)(v:Value)(l:List Int):Prop where
 rd:RdV (rI .i64) V v l
 emp:l=[]->v=nils\/ ∃b c,v= .slice (some ⟨b,0,none⟩) 0 c
theorem IntsV.mono{V W:Vw}{v:Value}{l:List Int}(hs:Vw.le V W)(h:IntsV V v l):IntsV W v l:=⟨h.rd.mono hs,h.emp⟩
theorem opens_ints{P:Program}{T e:TypeId}(hu:P.underlying T=some (.slice e))(hsz:P.cellsOf e=1)(he:P.underlying e=some (.int .i64)){H:Type}{enc:TypeId×Value->H}{w:World}{ρ:RMap}{l:Heap}{fuel:Nat}{v:Value}{y:DataW H×List MemPlace}(m:Im w ρ l)(ht:DataW.trod enc P w 0 (fun _=>true) true fuel T [v]=some y):
  ∃(ρ':RMap) (ext:Heap) (v':Value) (zs:List Int),Im w ρ' (l++ext)/\ρ.le ρ'/\VR ρ' v' v/\IntsV (vl (l++ext)) v' zs:=by
 have hmx:maxLen=9223372036854775807:=rfl;have op:Opens P e (rI .i64) (fun z=>(Lit.int .i64 z).wf=true):=opens_int he;rcases Deep.open_slice hu ht with⟨hcs,_⟩|⟨a,len,cap,mm,n,D,Pl,hcs,_,hlc,hm,hmm,_,hcell⟩
 ·cases hcs;exact⟨ρ,[],nils,[],by rw[List.append_nil];exact m,RMap.le_refl _,.snil _ _,⟨.inl ⟨rfl,none,0,rfl⟩,fun _=>.inl rfl⟩⟩
 ·cases hcs;simp only[if_true]at hmm;rw[hsz]at hcell;cases hc0:cap with
  |zero=>
   have hl0:len=0:=by omega
   subst hl0;exact⟨ρ,[],.slice (some ⟨0,0,none⟩) 0 openCap,[],by rw[List.append_nil];exact m,RMap.le_refl _,.slz m.zero (by decide) rfl,⟨.inl ⟨rfl,_,_,rfl⟩,fun _=>.inr ⟨_,_,rfl⟩⟩⟩
  |succ cap'=>
   obtain⟨cs0,hc,_⟩:=hcell 0 (by omega);obtain⟨_,hlen0,hat0⟩:=World.cells?_some hc;have hat0:=hat0 0 (by omega);have hx0:=List.getElem?_eq_getElem (l:=cs0) (i:=0) (by omega);obtain⟨hb,hs⟩:=cell_lt (v:=cs0[0]'(by omega)) (by rw[hat0];exact hx0);have hb:a.block<w.heap.size:=by simpa[Addr.add]using hb
   have hs:a.spot=none:=by simpa[Addr.add]using hs
   have ea:a=⟨a.block,a.off,none⟩:=by cases a;simp_all
   obtain⟨ρ1,ext,xs,cs,m1,le1,h1,h2,h3,h4,h5⟩:=Im.rowsK op m hs (fun i hi=>let⟨c,q1,q2⟩:=hcell i (by omega);⟨c,q1,_,q2⟩) len (Nat.le_refl _);have h2:cs.length=len*1:=h2;have m':=m1.row 1 a.block a.off cap cs hb h3;have hnew:vl (l++(ext++[.row .ro 1 cs])) (l++ext).length=some cs:=by
    unfold vl;rw[<-List.append_assoc,List.getElem?_append_right (Nat.le_refl _),Nat.sub_self];simp
   refine⟨_,ext++[.row .ro 1 cs],.slice (some ⟨(l++ext).length,0,none⟩) len openCap,xs,by rw[<-List.append_assoc];exact m',RMap.le_trans le1 (upR_le m1 _),?_,⟨.inr ⟨(l++ext).length,0,openCap,cs,by rw[h1],hnew,fun i x hx=>?_⟩,fun e=>.inr ⟨(l++ext).length,openCap,?_⟩⟩⟩
   ·rw[ea];have e:upR ρ1 (l++ext).length ⟨a.block,a.off,cap⟩ (l++ext).length=some ⟨a.block,a.off,cap⟩:=by unfold upR;rw[if_pos rfl]
    rw[<-hc0];exact VR.slo e (by decide) (Nat.add_comm _ _) hlc
   ·have hlt:=(List.getElem?_eq_some_iff.1 hx).1;have q:=h4 i x hx;have q:(cs.drop (i*1)).take 1=[.int .i64 x]:=q;refine⟨by show 0+i*1+1<=_;omega,?_⟩
    show(cs.drop (0+i*1)).take 1=[.int .i64 x]
    rw[Nat.zero_add];exact q
   ·have:xs.length=0:=by rw[e];rfl
    have hl:len=0:=by omega
    rw[hl]
theorem PH.abs_list{h:PH}{l:List AObj}(hn:h.n=l.length)(hz:h.fz=0)(hr: ∀b,h.raw b=l[b]?):h.abs=l:=by
 apply List.ext_getElem?
 intro i
 show((List.range h.n).map fun i=>frz (Nat.blt i h.fz) ((h.br.get i).getD .dead))[i]?=l[i]?
 rw[List.getElem?_map]
 by_cases hi:i<h.n
 ·have hl:l[i]?=some l[i]:=List.getElem?_eq_getElem (by omega);have hb:Nat.blt i h.fz=false:=by rw[hz];rfl
  have hg:h.br.get i=some l[i]:=by rw[<-PH.raw_lt hi,hr,hl]
  rw[List.getElem?_range hi,hl];simp only[Option.map_some,hb,hg,Option.getD_some,frz]
 ·rw[List.getElem?_eq_none (by simp;omega),List.getElem?_eq_none (by omega)];rfl
theorem VR.av{w:World}{ρ:RMap}{l:Heap}(m:Im w ρ l){x y:Value}(h:VR ρ x y)(hx:(∃k z,x= .int k z)\/ ∃a n c,x= .slice a n c){q k:Nat}(hq:l.length<=q):avV0 q k x=true:=by
 have hlt: ∀{b:Nat}{L:RLoc},ρ b=some L->b<l.length:=fun h=>m.rel.fin _ _ h;rcases hx with⟨k,z,rfl⟩|⟨a,n,c,rfl⟩
 ·rfl
 ·cases h with
  |snil=>rfl
  |sl h _=>exact av1_t (by have:=hlt h;omega)
  |slo h _ _ _=>exact av1_t (by have:=hlt h;omega)
  |slz h _ _=>exact av1_t (by have:=hlt h;omega)
  |sl0 h=>exact av1_t (by have:=hlt h;omega)
end Go.Am
namespace Go.Am
open Go Go.RowKit Go.Proofs
theorem oneCells_zv(l:List Int):oneCells (zv l)=true:=by
 unfold oneCells zv;rw[List.all_map];exact List.all_eq_true.2 fun x _=>rfl
theorem RdV.slc{V:Vw}{v:Value}{l:List Int}(r:RdV (rI .i64) V v l)(hl:l≠[]): ∃b o c cs,v= .slice (some ⟨b,o,none⟩) l.length c/\V b=some cs/\o+l.length<=cs.length/\(cs.drop o).take l.length=zv l:=by
 rcases r with⟨rfl,_⟩|⟨b,o,c,cs,rfl,h1,h2⟩
 ·exact absurd rfl hl
 ·have h3: ∀(i:Nat) z,l[i]?=some z->o+i+1<=cs.length/\cs[o+i]?=some (.int .i64 z):=fun i z hz=>by
   obtain⟨q1,q2⟩:=h2 i z hz;have q1:o+i*1+1<=cs.length:=q1;have q2:(cs.drop (o+i*1)).take 1=[.int .i64 z]:=q2;rw[Nat.mul_one]at q1 q2;rw[List.drop_eq_getElem_cons (by omega),List.take_succ_cons,List.take_zero]at q2;refine⟨q1,?_⟩;rw[List.getElem?_eq_getElem (by omega)];exact congrArg some (List.cons.inj q2).1
  have hpos:0<l.length:=List.length_pos_iff.2 hl;have hle:=(h3 (l.length-1) _ (List.getElem?_eq_getElem (by omega))).1;refine⟨b,o,c,cs,rfl,h1,by omega,?_⟩
  apply List.ext_getElem?
  intro i
  by_cases hi:i<l.length
  ·rw[List.getElem?_take,if_pos hi,List.getElem?_drop,zv_get (List.getElem?_eq_getElem hi)];exact(h3 i _ (List.getElem?_eq_getElem hi)).2
  ·rw[List.getElem?_eq_none (by rw[List.length_take];omega),List.getElem?_eq_none (by rw[zv_len];omega)]
section
variable {Q:Value->PH->Prop}{n:Nat}{cl ih:CL}{h h0:PH}{S:Vw}{m:OM}{rows rest rows1 ex exP exL:Rws}{g:Gr}{rv fv cv kv kvs lv nv nlv pv:Value}{ks:List Int}{L N:List It3}{c:Nat}{past:List (List It3)}
theorem fr_copy[OkH h](hS:Vw.le S h.cells)(r:IntsV S kvs ks)(kl:ks.length<=40):Ret (xApp (appInfo Try.prog #[24,24]) nils kvs h.fzn) fun v h1=> ∃S',VwN h.fzn S S'/\Sl h.fzn h1 S' OM.emp []/\RdV (rI .i64) S' v ks/\Anc h.n v:=by
 have st:Sl h.fzn h.fzn S OM.emp ([]++[]):=Sl.start h.fzn (fun b cs e=>hS b cs e);rw[ai24]
 by_cases e:ks=[]
 ·subst e;have e:xApp (some (1,8)) nils kvs h.fzn=some (nils,h.fzn):=by
   refine xApp_00 ?_;rcases r.emp rfl with rfl|⟨b,c,rfl⟩
   ·rfl
   ·show(match h.fzn.raw b with
     |some (.row _ _ cs)=>tkA (Nat.mul 0 1) (cs.drop 0) [] fun l=>match Nat.ble (Nat.add 0 (Nat.mul 0 1)) cs.length with
      |true=>some (0,l)
      |false=>none
     |_=>match Nat.beq 0 0 with
      |true=>some (0,[])
      |false=>none)=some (0,[])
    cases hq:h.fzn.raw b with
    |none=>rfl
    |some ob=>cases ob<;>rfl
  rw[e];exact Ret.of ⟨S,VwN.refl,st,.inl ⟨rfl,none,0,rfl⟩,.inl rfl⟩
 ·obtain⟨b,o,cp,cs,rfl,h1,h2,h3⟩:=r.rd.slc e;have hp:=st.sm.ptailS (b:=b) (o:=o) (n:=ks.length) (sz:=1) (c:=cp) h1 (by omega);rw[Nat.mul_one,h3]at hp;have hpos:0<ks.length:=List.length_pos_iff.2 e;have hsz:(2*(0+ks.length)+512)*8<=281474976710656:=by omega
  have r2:=Ret.lapp (bt:=8) (K2:=fun v h=>some (v,h)) (Q:=fun v h1=> ∃S',VwN h.fzn S S'/\Sl h.fzn h1 S' OM.emp []/\RdV (rI .i64) S' v ks/\Anc h.n v) st (Gl.nil (sz:=1)) hp (by rw[zv_len];omega) hpos (oneCells_zv ks) hsz fun h' v' ex' st' g'=>by
   obtain⟨S1,le1,st1,hA⟩:=Gl.settleV st' g';rw[List.nil_append,Nat.zero_add]at hA;have ha:Anc h.fzn.n v':=g'.anc st';exact Ret.of ⟨S1,le1,st1,hA.rdI,ha⟩
  rw[hb_id]at r2;exact r2
theorem asc_len: ∀(l:List Int)(lo hi:Int),Asc l->(∀k∈l,lo<=k/\k<=hi)->l.length<=(hi-lo+1).toNat
 | [],_,_,_,_=>Nat.zero_le _
 |a::l,lo,hi,h,hb=>by
  unfold Asc at h;rw[List.pairwise_cons]at h;have h1:=hb a (.head _);have:=asc_len l (a+1) hi h.2 fun k hk=>⟨by have:=h.1 k hk;omega,(hb k (.tail _ hk)).2⟩;rw[List.length_cons];omega
theorem outI_le{g:Gr}(hg:GOk g){x:It3}{k:Int}(h:k∈outI g x):0<=k/\k<=40:=by
 have hkn:=hg.kn;unfold outI at h
 split at h
 ·split at h
  ·rename_i h2;unfold isKind at h2;rw[decide_eq_true_eq]at h2;rw[List.mem_singleton]at h;omega
  ·cases h
 ·split at h
  ·rw[List.mem_singleton]at h;omega
  ·cases h
theorem Anc.av{N q:Nat}{v:Value}(a:Anc N v)(hq:q<N):avV q 1 v=true:=by
 rcases a with rfl|⟨b,o,n,c,rfl,hb⟩
 ·rfl
 ·show av1 q 1 b=true
  unfold av1;have h1:Nat.blt b q=false:=by
   cases h:Nat.blt b q with
   |false=>rfl
   |true=>have:=Nat.le_of_ble_eq_true h;omega
  rw[h1];exact Nat.ble_eq_true_of_le (by show q+1<=b;omega)
theorem law3[OkH h]{d:Nat}(hn:9223372036854775808<=n)(hd:65536<=d)(hG:GIn g)(hS:Vw.le S h.cells)(gv:GrV S g rv fv cv kv)(rk:IntsV S kvs ks)(hv:veq (.agg ⟨gcs g rv fv cv kv⟩) (.agg ⟨gcs g rv fv cv kv⟩)=true)
  (hav: ∀q k,h.n<=q->avV0 q k rv=true/\avV0 q k fv=true/\avV0 q k cv=true/\avV0 q k kv=true/\avV q k kvs=true):
  Ret (F3 n (CLU n d) (.agg ⟨gcs g rv fv cv kv⟩) kvs h) fun u _=>u= .bool true:=by
 have ek:CLU n d=CLy n (CLV n d):=rfl;unfold F3;refine Ret.lbox (Sl.start h hS) fun h1 c st1=>?_;have st1:Sl h h1 S OM.emp [(c,.row .own 1 (gcs g rv fv cv kv))]:=st1;have la:xLdA 7 (.pointer (some ⟨c,0,none⟩)) h1=some (.agg ⟨gcs g rv fv cv kv⟩):=st1.ldA (.head _) rfl (by simp);have okh:=st1.ok;have r1:=gv.rd (h:=h1) (fun b cs e=>st1.leS b cs e);have e0: ∀o:Option Value,gd (isB false (.bool true)) o=some undef:=fun o=>rfl;have e1: ∀o:Option Value,gd (isB false (.bool false)) o=o:=fun o=>rfl;simp only[told6,xNot_b,Bool.not_true,e1,la,vb_some,c7 (h:=h1) (n:=n) (cl:=CLU n d) r1,xPick_f];cases hfew:fewB g with
 |false=>
  simp only[Bool.not_false,e0,vb_some,xPick_t,tt_eq,bite_t];exact Ret.of rfl
 |true=>
  simp only[Bool.not_true,e1,vb_some,xPick_f,rk.rd.lenV,vN_eq,xGt_i]
  by_cases hl:30<ks.length
  ·have dl:decide (((30:Nat):Int)<((ks.length:Nat):Int))=true:=decide_eq_true (by omega);simp only[dl,bite_t];exact Ret.of rfl
  ·have dl:decide (((30:Nat):Int)<((ks.length:Nat):Int))=false:=decide_eq_false (by omega);have kl:ks.length<=40:=by omega
   simp only[dl,bite_f,F3_0];refine Ret.lkp st1 fun h2 q st2 hq1 hq2=>?_;have hcn:=(st1.sm.own c _ (st1.mem (.head _))).2;have hcq:=hq1 c _ (st1.mem (.head _));have hnq:h.n<=q:=by omega
   obtain⟨v1,v2,v3,v4,v5⟩:=hav q 1 hnq;have hqn:q<h2.n:=st2.sm.lt (st2.mem (b:=q) (o:=.hole) (.head _));have st2:Sl h h2 S OM.emp [(q,.hole),(c,.row .own 1 (gcs g rv fv cv kv))]:=st2;have la2:xLdA 7 (.pointer (some ⟨c,0,none⟩)) h2=some (.agg ⟨gcs g rv fv cv kv⟩):=st2.ldA (.tail _ (.head _)) rfl (by simp);have okh2:=st2.ok;have avg:avV q 1 (.agg ⟨gcs g rv fv cv kv⟩)=true:=by simp only[gcs,avV,avL0,v1,v2,v3,v4];rfl
   have avn:avV q 1 nils=true:=rfl;have avL2: ∀a b,avV q 1 a=true->avV q 1 b=true->avL q 1 [a,b]=true:=fun a b ha hb=>by simp[avL,ha,hb]
   simp only[la2,vb_some];rw[avk_t (avL2 _ _ avn v5)];refine Ret.lfcallV (P:=fun v V=>RdV (rI .i64) V v ks/\Anc h2.n v) st2 (fun v V W hs p=>⟨p.1.mono hs,p.2⟩) (fr_copy (h:=h2) (fun b cs e=>st2.leS b cs e) rk kl) fun fv' h3 S3 le3 st3 hp3=>?_;have okh3:=st3.ok;have gv3:=gv.mono le3.1;have rk3:=rk.mono le3.1;have hle3:Vw.le S3 h3.cells:=fun b cs e=>st3.leS b cs e;rw[avk_t (avL2 _ _ avg (hp3.2.av hqn))];rw[ek];obtain⟨x,c1,x1,x2,x3⟩:=c8 (h:=h3) (n:=n) (ih:=CLV n d) hn hG hle3 gv3 hv hp3.1 kl;obtain⟨y,c2,y1,y2,y3⟩:=c9 (h:=h3) (n:=n) (cl:=CLy n (CLV n d)) hn hG hle3 gv3 rk3.rd kl;have hxy:=x1.det y1;subst hxy;have hcc:(if x.2=0 then((c1:Nat):Int)else 0)=if x.2=0 then((c2:Nat):Int)else 0:=by
    by_cases hx:x.2=0
    ·rw[if_pos hx,if_pos hx,(x2 hx).det (y2 hx)]
    ·rw[if_neg hx,if_neg hx]
   rw[x3];simp only[vb_some];rw[avk_t (avL2 _ _ avg v5),y3];have la3:xLdA 7 (.pointer (some ⟨c,0,none⟩)) h3=some (.agg ⟨gcs g rv fv cv kv⟩):=st3.ldA (.tail _ (.head _)) rfl (by simp);have t1: ∀o:Option Value,gd (isB true (.bool true)) o=o:=fun o=>rfl;have t2: ∀(h:PH)(o:R),gh (isB true (.bool true)) h o=o:=fun h o=>rfl;simp only[vb_some,xEq_i,hcc,decide_true,t1,t2,la3];rw[avk_t (avL2 _ _ avg v5)];refine Ret.lfcallV (P:=fun v V=> ∃x,ChkQ g x/\NextP g ks x v V/\Anc h3.n v) st3 (fun v V W hs ⟨x,a,b,c⟩=>⟨x,a,b.mono v V W hs,c⟩) (c11 (h:=h3) (n:=n) (ih:=CLV n d) hn hd (fun u v w x h=>clu39) hG hle3 gv3 hv rk3.rd kl) fun p h4 S4 le4 st4 hp4=>?_;have okh4:=st4.ok;rw[avk_t (avL2 _ _ avg v5)];have gv4:=gv3.mono le4.1;have rk4:=rk3.mono le4.1;refine Ret.lfcallV (P:=fun v V=> ∃x,ChkQ g x/\NextP g ks x v V/\Anc h4.n v) st4 (fun v V W hs ⟨x,a,b,c⟩=>⟨x,a,b.mono v V W hs,c⟩) (c12 (h:=h4) (n:=n) (cl:=CLy n (CLV n d)) hn hG (fun b cs e=>st4.leS b cs e) gv4 rk4.rd kl) fun p' h5 S5 le5 st5 hp5=>?_;obtain⟨z,z1,z2,z3⟩:=hp4;obtain⟨z',z1',z2',z3'⟩:=hp5;have hzz:=z1.det z1';subst hzz;obtain⟨l,l1,l2,l3⟩:=(z2.mono p S4 S5 le5.1).h;obtain⟨l',l1',l2',l3'⟩:=z2'.h;have hll:l=l':=l2.ext l2' fun k=>by rw[l3,l3']
   subst hll;have q3:q<h3.n:=st3.sm.lt (st3.mem (b:=q) (o:=.hole) (.head _));have q4:q<h4.n:=st4.sm.lt (st4.mem (b:=q) (o:=.hole) (.head _));rw[avk_t (avL2 _ _ (z3.av (by omega)) (z3'.av (by omega)))];have okh5:=st5.ok;have lll:l.length<9223372036854775808:=by
    have:=asc_len l 0 40 l2 fun k hk=>by
     obtain⟨hz,y,_,hy⟩:=(l3 k).1 hk;exact outI_le (gok_of (z1.zero hz)) hy
    have e:((40:Int)-0+1).toNat=41:=rfl;omega
   have e10:=c10 (h:=h5) (n:=n) (cl:=CLy n (CLV n d)) hn (l1.mono (fun b cs e=>st5.leS b cs e)).toS (l1'.mono (fun b cs e=>st5.leS b cs e)).toS lll;simp only[e10,vb_some,xPick_t];exact Ret.of rfl
end
end Go.Am
namespace Go.Am
open Go Go.RowKit Go.Proofs Go.ChangeShapes Go.WideShapes
set_option maxRecDepth 100000 in
theorem law_gz{f:FuncId}{H:Type}{enc:TypeId×Value->H}{w:World}{r:_root_.Go.Reach}{b0:Nat}{v0 v1:Value}{d0 d1:DataW H}{p0 p1:List MemPlace}
  (hv0:Value.okWide Try.prog w r b0 26 v0) (hv1:Value.okWide Try.prog w r b0 24 v1) (ht0:DataW.Trod enc Try.prog w 0 (fun _=>true) true 26 v0 d0 p0) (ht1:DataW.Trod enc Try.prog w 0 (fun _=>true) true 24 v1 d1 p1)
  (law: ∀(h:PH)(g:Gr)(rv fv cv kv kvs:Value)(ks:List Int),OkH h->GIn g->GrV h.cells g rv fv cv kv->IntsV h.cells kvs ks->veq (.agg ⟨gcs g rv fv cv kv⟩) (.agg ⟨gcs g rv fv cv kv⟩)=true->(∀q k,h.n<=q->avV0 q k rv=true/\avV0 q k fv=true/\avV0 q k cv=true/\avV0 q k kv=true/\avV q k kvs=true)-> ∃k,ACall Try.prog f [.agg ⟨gcs g rv fv cv kv⟩,kvs] h.abs fun u k'=>u= .bool true/\k'=k):
  Calls Try.prog f #[v0,v1] w fun e w'=>e= .returned (.bool true)/\Below w.heap.size w w':=by
 obtain⟨⟨cs⟩,rfl,hsz⟩:=okWide_struct Try.underlying26 hv0;obtain⟨a1,l1,c1,rfl⟩:=okWide_slice Try.underlying24 hv1;obtain⟨f0,ht0⟩:=ht0;obtain⟨f1,ht1⟩:=ht1;have hc26:Try.prog.cellsOf 26=7:=by kernel_rfl
 have hlen:cs.length=7:=by rw[<-hc26];exact hsz
 obtain⟨ρ1,ext1,es,g,m1,le1,hve,hE,hG⟩:=oGram (Im.start w) (cs:=cs) hlen ht0;obtain⟨rv,fv,cv,kv,rfl,gv⟩:=rGram_V hE;obtain⟨ρ,ext,kvs,ks,m,le,hv,hi⟩:=opens_ints Try.underlying24 (by kernel_rfl) Try.underlying3 m1 ht1;obtain⟨h,ok,hhn,hz,hrw⟩:=PH.of_list ([.dead]++ext1++ext);have hve':=hve.mono le;have sl: ∀{α:Type}{R:Rdr α}{V:Vw}{v:Value}{l:List α},RdV R V v l-> ∃a n c,v= .slice a n c:=fun r=>by
  rcases r with⟨_,a,c,rfl⟩|⟨b,o,c,cs,rfl,_⟩
  ·exact⟨_,_,_,rfl⟩
  ·exact⟨_,_,_,rfl⟩
 have hs1:=sl gv.rules;have hs2:=sl gv.forbid;have hs3:=sl gv.rclass;have hs4:=sl gv.kclass;have hs5:=sl hi.rd;have vrs: ∃y1 y2 y3 y4,VR ρ rv y1/\VR ρ fv y2/\VR ρ cv y3/\VR ρ kv y4:=by
  cases hve' with
  |cons _ r=>cases r with
   |cons _ r=>cases r with
    |cons _ r=>cases r with
     |cons q1 r=>cases r with
      |cons q2 r=>cases r with
       |cons q3 r=>cases r with
        |cons q4 r=>exact⟨_,_,_,_,q1,q2,q3,q4⟩
 obtain⟨y1,y2,y3,y4,r1,r2,r3,r4⟩:=vrs;have hveq:veq (.agg ⟨gcs g rv fv cv kv⟩) (.agg ⟨gcs g rv fv cv kv⟩)=true:=by
  have e1:=r1.veq1 (.inr hs1);have e2:=r2.veq1 (.inr hs2);have e3:=r3.veq1 (.inr hs3);have e4:=r4.veq1 (.inr hs4);have ei: ∀z,Go.Am.veq1 (.int .i64 z) (.int .i64 z)=true:=fun z=>(VR.int .i64 z:VR ρ _ _).veq1 (.inl ⟨_,_,rfl⟩)
  show veqs (gcs g rv fv cv kv) (gcs g rv fv cv kv)=true
  simp only[gcs,veqs,ei,e1,e2,e3,e4]
 obtain⟨k,hk⟩:=law h g rv fv cv kv kvs ks ok hG (gv.mono fun b cs e=>vl_ph hrw b cs (vl_app _ _ b cs e)) (hi.mono (vl_ph hrw)) hveq (fun q k hq=>by
  have hq':([.dead]++ext1++ext:Heap).length<=q:=by rw[<-hhn];exact hq
  refine⟨r1.av m (.inr hs1) hq',r2.av m (.inr hs2) hq',r3.av m (.inr hs3) hq',r4.av m (.inr hs4) hq',?_⟩;have h5:=hv.av (k:=k) m (.inr hs5) hq';obtain⟨a,n,c,rfl⟩:=hs5;exact h5)
 rw[PH.abs_list hhn hz hrw]at hk;exact calls_rel (Q:=fun k'=>k'=k) m.rel (.cons (.agg hve') (.cons hv .nil)) rfl hk
end Go.Am
