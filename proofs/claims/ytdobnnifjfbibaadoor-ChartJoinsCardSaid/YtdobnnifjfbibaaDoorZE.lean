import Derived.Test.YtdobnnifjfbibaaDoorZD
set_option linter.unusedSimpArgs false
set_option linter.unusedVariables false
namespace Go.Am
open Go Go.RowKit Go.Proofs Go.ChangeShapes Go.WideShapes
inductive Flds(P:Program):Nat->List (TypeId×Nat)->{α:Type}->Rdr α->(α->Prop)->Prop
 |one {o:Nat} {t:TypeId} {α:Type} {R:Rdr α} {G:α->Prop}:Opens P t R G->P.cellsOf t=R.sz->Flds P o [(t,o)] R G
 |cons {o:Nat} {t:TypeId} {L:List (TypeId×Nat)} {α β:Type} {R:Rdr α} {S:Rdr β} {G:α->Prop} {G':β->Prop}:Opens P t R G->P.cellsOf t=R.sz->Flds P (o+R.sz) L S G'->Flds P o ((t,o)::L) (R.pr S) fun x=>G x.1/\G' x.2
section
variable {P:Program}
theorem Flds.open{α:Type}{R:Rdr α}{G:α->Prop}{o:Nat}{L:List (TypeId×Nat)}(f:Flds P o L R G): ∀{H:Type}{enc:TypeId×Value->H}{w:World}{ρ:RMap}{l:Heap}{n:Nat}{cs:List Value},Im w ρ l->o+R.sz<=cs.length->
  (∀p∈L, ∃y,DataW.trod enc P w 0 (fun _=>true) true n p.1 ((cs.drop p.2).take (P.cellsOf p.1))=some y)->
  ∃(ρ':RMap) (ext:Heap) (es:List Value) (x:α),Im w ρ' (l++ext)/\ρ.le ρ'/\VRs ρ' es ((cs.drop o).take R.sz)/\R.E (vl (l++ext)) x es/\G x:=by
 induction f with
 |one op hc=>
  intro H enc w ρ l n cs m hl hf;obtain⟨y,hy⟩:=hf _ (.head _);rw[hc]at hy;exact op m (by simp;omega) hy
 | @cons o t L α β R S G G' op hc f ih=>
  intro H enc w ρ l n cs m hl hf;have hl:o+(R.sz+S.sz)<=cs.length:=hl;obtain⟨y,hy⟩:=hf _ (.head _);rw[hc]at hy;obtain⟨ρ1,ext1,es1,x1,m1,le1,v1,E1,G1⟩:=op m (by simp;omega) hy;obtain⟨ρ2,ext2,es2,x2,m2,le2,v2,E2,G2⟩:=ih m1 (by omega) fun p hp=>hf p (.tail _ hp);refine⟨ρ2,ext1++ext2,es1++es2,(x1,x2),by rw[<-List.append_assoc];exact m2,RMap.le_trans le1 le2,?_,⟨es1,es2,rfl,by rw[<-List.append_assoc];exact R.mono (vl_app _ _) E1,by rw[<-List.append_assoc];exact E2⟩,G1,G2⟩;have e:(cs.drop o).take (R.pr S).sz=(cs.drop o).take R.sz++(cs.drop (o+R.sz)).take S.sz:=by
   show(cs.drop o).take (R.sz+S.sz)=_
   rw[List.take_add,List.drop_drop]
  rw[e];exact(v1.mono le2).append v2
theorem opens_struct{α:Type}{R:Rdr α}{G:α->Prop}{T:TypeId}{fs:Array Field}(hu:P.underlying T=some (.struct fs))(f:Flds P 0 (fs.toList.map fun f=>(f.type,f.offset)) R G):Opens P T R G:=by
 intro H enc w ρ l fuel cs y m hl ht;obtain⟨xs,n,_,_,_,hxl,hf⟩:=DataW.trod_struct hu ht;obtain⟨ρ',ext,es,x,h1,h2,h3,h4,h5⟩:=f.open (enc:=enc) (n:=n) (cs:=cs) m (by omega) fun p hp=>by
  rw[List.mem_map]at hp;obtain⟨g,hg,rfl⟩:=hp;obtain⟨i,hi⟩:=List.getElem?_of_mem hg;have hlt:=(List.getElem?_eq_some_iff.1 hi).1;rw[Array.length_toList]at hlt;have h0:=hf i g (by rw[<-Array.getElem?_toList];exact hi);rw[List.getElem?_eq_getElem (by omega)]at h0;exact⟨_,h0⟩
 rw[List.drop_zero, <-hl,List.take_length]at h3;exact⟨ρ',ext,es,x,h1,h2,h3,h4,h5⟩
end
def r3:Rdr (Int×Int×Int):=⟨3,fun _ x es=>int3E x es,fun _ h=>h,fun h=>by rw[h];rfl,fun h=>by rw[h];rfl⟩
def rRule:Rdr Rl:=((rI .i64).pr ((rI .i64).sl.pr (rI .i64))).of fun r=>(r.left,(r.right,r.dyn))
def rGram:Rdr Gr:=((rI .i64).pr ((rI .i64).pr ((rI .i64).pr (rRule.sl.pr (r3.sl.pr ((rI .i64).sl.pr (rI .i64).sl)))))).of fun g=>(g.names,(g.kinds,(g.start,(g.rules,(g.forbid,(g.rclass,g.kclass))))))
theorem oi:Opens Tryd.prog 3 (rI .i64) inR:=opens_i64 Tryd.underlying3
theorem oI24:Opens Tryd.prog 24 (rI .i64).sl (GLen inR):=opens_slice Tryd.underlying24 (by kernel_rfl) (by decide) oi
theorem cI3:Tryd.prog.cellsOf 3=1:=by kernel_rfl
theorem cI24:Tryd.prog.cellsOf 24=1:=by kernel_rfl
theorem Opens.of{P:Program}{T:TypeId}{α β:Type}{R:Rdr α}{G:α->Prop}{G':β->Prop}(f:β->α)(g:α->β)(hfg: ∀x,f (g x)=x)(h:Opens P T R G)(hG: ∀x,G x->G' (g x)):Opens P T (R.of f) G':=by
 intro H enc w ρ l fuel cs y m hl ht;obtain⟨ρ',ext,es,x,h1,h2,h3,h4,h5⟩:=h m hl ht;exact⟨ρ',ext,es,g x,h1,h2,h3,by show R.E _ (f (g x)) es;rw[hfg];exact h4,hG x h5⟩
theorem oRule:Opens Tryd.prog 37 rRule fun r=>inR r.left/\(GLen inR r.right)/\inR r.dyn:=
 Opens.of (fun r:Rl=>(r.left,(r.right,r.dyn))) (fun x=>⟨x.1,x.2.1,x.2.2⟩) (fun _=>rfl) (opens_struct Tryd.underlying37 (Flds.cons oi cI3 (Flds.cons oI24 cI24 (Flds.one oi cI3)))) fun x h=>h
theorem o76:Opens Tryd.prog 76 r3 fun x=>inR x.1/\inR x.2.1/\inR x.2.2:=by
 intro H enc w ρ l fuel cs y m hl ht;obtain⟨xs,n,_,_,_,hxl,hf⟩:=DataW.trod_array Tryd.underlying76 ht;rw[cI3]at hf;have hl:cs.length=3:=hl
 match cs,hl with
 | [a,b,c],_=>
  have k: ∀(i:Nat),i<3-> ∀v,[a,b,c][i]?=some v-> ∃z,v= .int .i64 z/\inR z:=by
   intro i hi v hv;have h0:=hf i hi;have e:([a,b,c].drop (i*1)).take 1=[v]:=by
    match i,hi with
    |0,_=>simpa using hv
    |1,_=>simpa using hv
    |2,_=>simpa using hv
   rw[e,List.getElem?_eq_getElem (by omega)]at h0;obtain⟨z,e,hz⟩:=DataW.trod_int Tryd.underlying3 h0;simp at e;exact⟨z,e,wf64 hz.2⟩
  obtain⟨z0,rfl,g0⟩:=k 0 (by decide) a rfl;obtain⟨z1,rfl,g1⟩:=k 1 (by decide) b rfl;obtain⟨z2,rfl,g2⟩:=k 2 (by decide) c rfl;exact⟨ρ,[],_,(z0,z1,z2),by rw[List.append_nil];exact m,RMap.le_refl _,.cons (.int _ _) (.cons (.int _ _) (.cons (.int _ _) .nil)),rfl,g0,g1,g2⟩
theorem o22:Opens Tryd.prog 22 rRule.sl (GLen fun r=>inR r.left/\(GLen inR r.right)/\inR r.dyn):=opens_slice Tryd.underlying22 (by kernel_rfl) (by decide) oRule
theorem o23:Opens Tryd.prog 23 r3.sl (GLen fun x=>inR x.1/\inR x.2.1/\inR x.2.2):=opens_slice Tryd.underlying23 (by kernel_rfl) (by decide) o76
theorem cI22:Tryd.prog.cellsOf 22=1:=by kernel_rfl
theorem cI23:Tryd.prog.cellsOf 23=1:=by kernel_rfl
theorem oGram:Opens Tryd.prog 26 rGram GIn:=
 Opens.of (fun g:Gr=>(g.names,(g.kinds,(g.start,(g.rules,(g.forbid,(g.rclass,g.kclass))))))) (fun x=>⟨x.1,x.2.1,x.2.2.1,x.2.2.2.1,x.2.2.2.2.1,x.2.2.2.2.2.1,x.2.2.2.2.2.2⟩) (fun _=>rfl)
  (opens_struct Tryd.underlying26 (Flds.cons oi cI3 (Flds.cons oi cI3 (Flds.cons oi cI3 (Flds.cons o22 cI22 (Flds.cons o23 cI23 (Flds.cons oI24 cI24 (Flds.one oI24 cI24))))))))
  fun x ⟨h1,h2,h3,h4,h5,h6,h7⟩=>⟨h1,h2,h3,h4.1,h5.1,h6.1,h7.1,fun r hr=>(h4.2 r hr).1,fun r hr=>(h4.2 r hr).2.2,fun r hr=>(h4.2 r hr).2.1.2,fun r hr=>(h4.2 r hr).2.1.1,fun f hf=>h5.2 f hf⟩
theorem rGram_rd{h:PH}{g:Gr}{es:List Value}(hE:rGram.E h.cells g es): ∃rv fv cv kv,RdG h (.agg ⟨es⟩) g rv fv cv kv:=by
 obtain⟨e1,_,rfl,h1,e2,_,rfl,h2,e3,_,rfl,h3,e4,_,rfl,⟨rv,h4,r4,_⟩,e5,_,rfl,⟨fv,h5,r5,_⟩,e6,e7,rfl,⟨cv,h6,r6,_⟩,⟨kv,h7,r7,_⟩⟩:=hE;have h1:e1=[.int .i64 g.names]:=h1;have h2:e2=[.int .i64 g.kinds]:=h2;have h3:e3=[.int .i64 g.start]:=h3;subst h1 h2 h3 h4 h5 h6 h7;refine⟨rv,fv,cv,kv,rfl,?_,r5.toS,r6.toS,r7.toS⟩;have h:=r4.toS;refine RdS.mono (fun _ _ s=>s) (fun r _ es hE=>?_) h;obtain⟨a1,_,rfl,b1,a2,a3,rfl,⟨rv,b2,r2,_⟩,b3⟩:=hE;have b1:a1=[.int .i64 r.left]:=b1;have b3:a3=[.int .i64 r.dyn]:=b3;subst b1 b2 b3;exact⟨rv,rfl,r2.toS⟩
theorem VR.veq1{ρ:RMap}{x y:Value}(h:VR ρ x y)(hx:(∃k z,x= .int k z)\/ ∃a n c,x= .slice a n c):Go.Am.veq1 x x=true:=by
 have hk: ∀k,kb k k=true:=fun k=>by cases k<;>rfl
 have hi: ∀z,ieq z z=true:=fun z=>by rw[ieq_eq];simp
 rcases hx with⟨k,z,rfl⟩|⟨a,n,c,rfl⟩
 ·show(match kb k k with|true=>ieq z z|false=>false)=true
  rw[hk];exact hi z
 ·cases h<;>(unfold Go.Am.veq1;simp only[Nat.beq_refl];first|rfl|(unfold aeq;simp only[Nat.beq_refl]))
end Go.Am
namespace Go.Am
open Go Go.RowKit Go.Proofs
abbrev pt(b:Nat):Value:=.pointer (some ⟨b,0,none⟩)
def zv(l:List Int):List Value:=l.map fun z=>.int .i64 z
structure GrV(V:Vw)(g:Gr)(rv fv cv kv:Value):Prop where
 rules:RdV rRule V rv g.rules
 forbid:RdV r3 V fv g.forbid
 rclass:RdV (rI .i64) V cv g.rclass
 kclass:RdV (rI .i64) V kv g.kclass
 er:g.rules=[]->Emp rv
 ef:g.forbid=[]->Emp fv
 ec:g.rclass=[]->Emp cv
 ek:g.kclass=[]->Emp kv
theorem GrV.mono{V W:Vw}{g:Gr}{rv fv cv kv:Value}(hs:Vw.le V W)(h:GrV V g rv fv cv kv):GrV W g rv fv cv kv:=⟨h.rules.mono hs,h.forbid.mono hs,h.rclass.mono hs,h.kclass.mono hs,h.er,h.ef,h.ec,h.ek⟩
theorem GrV.E{V:Vw}{g:Gr}{rv fv cv kv:Value}(h:GrV V g rv fv cv kv):rGram.E V g (gcs g rv fv cv kv):=
 ⟨[_],_,rfl,rfl,[_],_,rfl,rfl,[_],_,rfl,rfl,[_],_,rfl,⟨rv,rfl,h.rules,h.er⟩,[_],_,rfl,⟨fv,rfl,h.forbid,h.ef⟩,[_],[_],rfl,⟨cv,rfl,h.rclass,h.ec⟩,⟨kv,rfl,h.kclass,h.ek⟩⟩
theorem GrV.rd{V:Vw}{h:PH}{g:Gr}{rv fv cv kv:Value}(r:GrV V g rv fv cv kv)(hS:Vw.le V h.cells):RdG h (.agg ⟨gcs g rv fv cv kv⟩) g rv fv cv kv:=by
 obtain⟨a,b,c,d,hr⟩:=rGram_rd (r.mono hS).E;have:=hr.v;simp only[Value.agg.injEq,Array.mk.injEq,List.cons.injEq]at this;obtain⟨_,_,_,rfl,rfl,rfl,rfl,_⟩:=this;exact hr
theorem rGram_V{V:Vw}{g:Gr}{es:List Value}(hE:rGram.E V g es): ∃rv fv cv kv,es=gcs g rv fv cv kv/\GrV V g rv fv cv kv:=by
 obtain⟨e1,_,rfl,h1,e2,_,rfl,h2,e3,_,rfl,h3,e4,_,rfl,⟨rv,h4,r4,m4⟩,e5,_,rfl,⟨fv,h5,r5,m5⟩,e6,e7,rfl,⟨cv,h6,r6,m6⟩,⟨kv,h7,r7,m7⟩⟩:=hE;have h1:e1=[.int .i64 g.names]:=h1;have h2:e2=[.int .i64 g.kinds]:=h2;have h3:e3=[.int .i64 g.start]:=h3;subst h1 h2 h3 h4 h5 h6 h7;exact⟨rv,fv,cv,kv,rfl,r4,r5,r6,r7,m4,m5,m6,m7⟩
theorem RdV.lenV{α:Type}{R:Rdr α}{V:Vw}{v:Value}{l:List α}(r:RdV R V v l):xLenS v=some (.int .i64 (l.length:Nat)):=by
 rcases r with⟨rfl,a,c,rfl⟩|⟨b,o,c,cs,rfl,_⟩<;>simp
theorem RdV.atI{V:Vw}{v:Value}{l:List Int}(r:RdV (rI .i64) V v l){i:Nat}{z:Int}(hi:l[i]?=some z): ∃b o cs,xIdxS 1 v (.int .i64 (i:Nat))=some (.pointer (some ⟨b,o,none⟩))/\V b=some cs/\cs[o]?=some (.int .i64 z):=by
 have hlt:=(List.getElem?_eq_some_iff.1 hi).1;rcases r with⟨rfl,_⟩|⟨b,o,c,cs,rfl,h1,h2⟩
 ·simp at hi
 ·obtain⟨q1,q2⟩:=h2 i z hi;have q1:o+i*1+1<=cs.length:=q1;have q2:(cs.drop (o+i*1)).take 1=[.int .i64 z]:=q2;refine⟨b,o+i,cs,by rw[xIdxS_at (by omega) (by omega)];simp,h1,?_⟩;have:=congrArg (fun l=>l[0]?) q2;simp only[List.getElem?_take,List.getElem?_drop]at this;simpa using this
theorem GrV.rule{V:Vw}{g:Gr}{rv fv cv kv:Value}(h:GrV V g rv fv cv kv){i:Nat}{r:Rl}(hi:g.rules[i]?=some r): ∃b o cs wv,xIdxS 3 rv (.int .i64 (i:Nat))=some (.pointer (some ⟨b,o,none⟩))/\V b=some cs/\(cs.drop o).take 3=[.int .i64 r.left,wv,.int .i64 r.dyn]/\o+3<=cs.length/\RdV (rI .i64) V wv r.right:=by
 have hlt:=(List.getElem?_eq_some_iff.1 hi).1;rcases h.rules with⟨h0,_⟩|⟨b,o,c,cs,rfl,h1,h2⟩
 ·rw[h0]at hi;simp at hi
 ·obtain⟨q1,a1,_,q2,b1,a2,a3,rfl,⟨wv,b2,r2,_⟩,b3⟩:=h2 i r hi;have q1:o+i*3+3<=cs.length:=q1;have b1:a1=[.int .i64 r.left]:=b1;have b3:a3=[.int .i64 r.dyn]:=b3;subst b1 b2 b3;refine⟨b,o+i*3,cs,wv,?_,h1,q2,q1,r2⟩;rw[xIdxS_at (by omega) (by omega)];simp
theorem cells3{cs:List Value}{o:Nat}{a b c:Value}(h:(cs.drop o).take 3=[a,b,c]):cs[o]?=some a/\cs[o+1]?=some b/\cs[o+2]?=some c:=by
 have k: ∀j,j<3->cs[o+j]?=[a,b,c][j]?:=fun j hj=>by
  rw[<-h,List.getElem?_take,if_pos hj,List.getElem?_drop]
 exact⟨k 0 (by omega),k 1 (by omega),k 2 (by omega)⟩
section
variable {n:Nat}{cl:CL}{h h0:PH}{S:Vw}{m:OM}{rows:Rws}
end
structure GOk(g:Gr):Prop where
 start:isName g.names g.start=true
 left: ∀r∈g.rules,isName g.names r.left=true
 right: ∀r∈g.rules, ∀s∈r.right,isSym g.names g.kinds s=true
 r8: ∀r∈g.rules,r.right.length<=8
 rl:g.rules.length<=60
 nm:1<=g.names/\g.names<=40
 kn:0<=g.kinds/\g.kinds<=40
section
variable {g:Gr}{ks:List Int}
theorem inj_le: ∀(n k:Nat)(f:Nat->Nat),(∀i,i<k->f i<n)->(∀i j,i<k->j<k->f i=f j->i=j)->k<=n
 |0,k,f,h1,_=>by
  by_cases e:k=0
  ·omega
  ·have:=h1 0 (by omega);omega
 |n+1,k,f,h1,h2=>by
  by_cases hk:k=0
  ·omega
  by_cases hex: ∃i,i<k/\f i=n
  ·obtain⟨i0,hi0,e0⟩:=hex;have:=inj_le n (k-1) (fun i=>if i<i0 then f i else f (i+1)) (fun i hi=>by
    show(if i<i0 then f i else f (i+1))<n
    split
    ·have a:=h1 i (by omega);have b:f i≠n:=fun e=>by have:=h2 i i0 (by omega) hi0 (by rw[e,e0]);omega
     omega
    ·have a:=h1 (i+1) (by omega);have b:f (i+1)≠n:=fun e=>by have:=h2 (i+1) i0 (by omega) hi0 (by rw[e,e0]);omega
     omega) (fun i j hi hj he=>by
    have he:(if i<i0 then f i else f (i+1))=(if j<i0 then f j else f (j+1)):=he
    split at he<;>split at he
    ·exact h2 i j (by omega) (by omega) he
    ·have:=h2 i (j+1) (by omega) (by omega) he;omega
    ·have:=h2 (i+1) j (by omega) (by omega) he;omega
    ·have:=h2 (i+1) (j+1) (by omega) (by omega) he;omega)
   omega
  ·have:=inj_le n k f (fun i hi=>by
    have a:=h1 i hi;have b:f i≠n:=fun e=>hex ⟨i,hi,e⟩;omega) h2
   omega
end
def VwN(h0:PH)(S S':Vw):Prop:=Vw.le S S'/\ ∀b cs,S' b=some cs->S b=some cs\/h0.n<=b
theorem VwN.refl{h0:PH}{S:Vw}:VwN h0 S S:=⟨Vw.le.refl _,fun _ _ h=>.inl h⟩
theorem VwN.trans{h0:PH}{S T U:Vw}(a:VwN h0 S T)(b:VwN h0 T U):VwN h0 S U:=⟨a.1.trans b.1,fun x cs h=>by
 rcases b.2 x cs h with h|h
 ·exact a.2 x cs h
 ·exact .inr h⟩
theorem VwN.put{h0:PH}{S:Vw}{b:Nat}{cs:List Value}(h:S b=none)(hb:h0.n<=b):VwN h0 S (S.put b cs):=⟨Vw.le_put h,fun x ys hx=>by
 unfold Vw.put at hx
 split at hx
 ·rename_i e;rw[e];exact .inr hb
 ·exact .inl hx⟩
theorem Gl.settleV{h0 h:PH}{S:Vw}{m:OM}{rows ex:Rws}{sz k:Nat}{v:Value}{cells:List Value}(s:Sl h0 h S m (ex++rows))(g:Gl sz v k cells ex): ∃S',VwN h0 S S'/\Sl h0 h S' m rows/\SlC S' sz v k cells:=by
 rcases g.h with⟨rfl,rfl,rfl,rfl⟩|⟨b,o,cap,all,rfl,rfl,rfl,h2,_⟩
 ·exact⟨S,VwN.refl,s,.inl ⟨rfl,rfl,rfl⟩⟩
 ·have hn:=(s.sm.own b _ (s.mem (.head _))).2;obtain⟨s1,hS⟩:=s.settle (i:=0) rfl;exact⟨_,VwN.put hS hn,s1,.inr ⟨b,o,cap,all,rfl,Vw.put_self,h2,rfl⟩⟩
section
variable {Q:Value->PH->Prop}{h h0:PH}{S:Vw}{m:OM}{rows:Rws}{K2:Value->PH->R}
end
theorem gok_of{g:Gr}(h:goodB g=true):GOk g:=by
 obtain⟨a1,a2,a3,a4,a5,a6,a7⟩:=goodB_whole h;exact⟨a7,fun r hr=>(goodB_rule h hr).1,fun r hr=>(goodB_rule h hr).2.1,fun r hr=>(goodB_rule h hr).2.2,a5,⟨a1,a2⟩,⟨a3,a4⟩⟩
theorem ChkQ.zero{g:Gr}{x:Int×Int}(q:ChkQ g x)(h:x.2=0):goodB g=true:=by
 cases q with
 |bad hb=>
  unfold goodB at hb;simp only[h]at hb;simp at hb
 |good ha _ _ _=>exact ha
section
variable {Q:Value->PH->Prop}{n:Nat}{cl ih:CL}{h h0:PH}{S:Vw}{m:OM}{rows rest rows1:Rws}{bp:Nat}{g:Gr}{rv fv cv kv nv kvs:Value}{ks:List Int}
end
theorem hb_id{X:R}:Go.Am.hb X (fun v h=>some (v,h))=X:=by
 cases X with
 |none=>rfl
 |some p=>rfl
section
variable {h h0:PH}{S:Vw}{m:OM}{rows ex:Rws}
def Anc(N:Nat)(v:Value):Prop:=v=nils\/ ∃b o n c,v= .slice (some ⟨b,o,none⟩) n c/\N<=b
def Asc(l:List Int):Prop:=l.Pairwise (· < ·)
end
def trues(B:List Bool)(i:Nat):List Int:=((List.range i).filter fun j=>B.getD j false).map Int.ofNat
section
variable {Q:Value->PH->Prop}{n:Nat}{cl ih:CL}{h h0:PH}{S:Vw}{m:OM}{rows rest rows1 ex exP exL:Rws}{g:Gr}{rv fv cv kv kvs lv nv nlv pv:Value}{ks:List Int}{c:Nat}
end
end Go.Am
namespace Go.Am
open Go Go.RowKit Go.Proofs Go.ChangeShapes Go.WideShapes
structure IntsV(V:Vw)(v:Value)(l:List Int):Prop where
 rd:RdV (rI .i64) V v l
 emp:l=[]->v=nils\/ ∃b c,v= .slice (some ⟨b,0,none⟩) 0 c
 cap:l.length<=1000000-> ∀a k c,v= .slice a k c->CapOk k c
theorem IntsV.mono{V W:Vw}{v:Value}{l:List Int}(hs:Vw.le V W)(h:IntsV V v l):IntsV W v l:=⟨h.rd.mono hs,h.emp,h.cap⟩
theorem opens_ints{P:Program}{T e:TypeId}(hu:P.underlying T=some (.slice e))(hsz:P.cellsOf e=1)(he:P.underlying e=some (.int .i64)){H:Type}{enc:TypeId×Value->H}{w:World}{ρ:RMap}{l:Heap}{fuel:Nat}{v:Value}{y:DataW H×List MemPlace}(m:Im w ρ l)(ht:DataW.trod enc P w 0 (fun _=>true) true fuel T [v]=some y):
  ∃(ρ':RMap) (ext:Heap) (v':Value) (zs:List Int),Im w ρ' (l++ext)/\ρ.le ρ'/\VR ρ' v' v/\IntsV (vl (l++ext)) v' zs:=by
 have hmx:maxLen=9223372036854775807:=rfl;have op:Opens P e (rI .i64) (fun z=>(Lit.int .i64 z).wf=true):=opens_int he;rcases Deep.open_slice hu ht with⟨hcs,_⟩|⟨a,len,cap,mm,n,D,Pl,hcs,_,hlc,hm,hmm,_,hcell⟩
 ·cases hcs;exact⟨ρ,[],nils,[],by rw[List.append_nil];exact m,RMap.le_refl _,.snil _ _,⟨.inl ⟨rfl,none,0,rfl⟩,fun _=>.inl rfl,fun _ a k c e=>by cases e;exact CapOk.self (by decide)⟩⟩
 ·cases hcs;simp only[if_true]at hmm;rw[hsz]at hcell;cases hc0:cap with
  |zero=>
   have hl0:len=0:=by omega
   subst hl0;exact⟨ρ,[],.slice (some ⟨0,0,none⟩) 0 openCap,[],by rw[List.append_nil];exact m,RMap.le_refl _,.slz m.zero (by decide) rfl,⟨.inl ⟨rfl,some 0,_,rfl⟩,fun _=>.inr ⟨_,_,rfl⟩,fun _ a k c e=>by cases e;exact CapOk.opn (by decide)⟩⟩
  |succ cap'=>
   obtain⟨cs0,hc,_⟩:=hcell 0 (by omega);obtain⟨_,hlen0,hat0⟩:=World.cells?_some hc;have hat0:=hat0 0 (by omega);have hx0:=List.getElem?_eq_getElem (l:=cs0) (i:=0) (by omega);obtain⟨hb,hs⟩:=cell_lt (v:=cs0[0]'(by omega)) (by rw[hat0];exact hx0);have hb:a.block<w.heap.size:=by simpa[Addr.add]using hb
   have hs:a.spot=none:=by simpa[Addr.add]using hs
   have ea:a=⟨a.block,a.off,none⟩:=by cases a;simp_all
   obtain⟨ρ1,ext,xs,cs,m1,le1,h1,h2,h3,h4,h5⟩:=Im.rowsK op m hs (fun i hi=>let⟨c,q1,q2⟩:=hcell i (by omega);⟨c,q1,_,q2⟩) len (Nat.le_refl _);have h2:cs.length=len*1:=h2;have m':=m1.row 1 a.block a.off cap cs hb h3;have hnew:vl (l++(ext++[.row .ro 1 cs])) (l++ext).length=some cs:=by
    unfold vl;rw[<-List.append_assoc,List.getElem?_append_right (Nat.le_refl _),Nat.sub_self];simp
   refine⟨_,ext++[.row .ro 1 cs],.slice (some ⟨(l++ext).length,0,none⟩) len openCap,xs,by rw[<-List.append_assoc];exact m',RMap.le_trans le1 (upR_le m1 _),?_,⟨.inr ⟨(l++ext).length,0,openCap,cs,by rw[h1],hnew,fun i x hx=>?_⟩,fun e=>.inr ⟨(l++ext).length,openCap,?_⟩,fun hm a k c e=>by cases e;exact CapOk.opn (by omega)⟩⟩
   ·rw[ea];have e:upR ρ1 (l++ext).length ⟨a.block,a.off,cap⟩ (l++ext).length=some ⟨a.block,a.off,cap⟩:=by unfold upR;rw[if_pos rfl]
    rw[<-hc0];exact VR.slo e (by decide) (Nat.add_comm _ _) hlc
   ·have hlt:=(List.getElem?_eq_some_iff.1 hx).1;have q:=h4 i x hx;have q:(cs.drop (i*1)).take 1=[.int .i64 x]:=q;refine⟨by show 0+i*1+1<=_;omega,?_⟩
    show(cs.drop (0+i*1)).take 1=[.int .i64 x]
    rw[Nat.zero_add];exact q
   ·have:xs.length=0:=by rw[e];rfl
    have hl:len=0:=by omega
    rw[hl]
theorem PH.abs_list{h:PH}{l:List AObj}(hn:h.n=l.length)(hz:h.fz=0)(hr: ∀b,h.raw b=l[b]?):h.abs=l:=by
 apply List.ext_getElem?
 intro i
 show((List.range h.n).map fun i=>frz (Nat.blt i h.fz) ((h.br.get i).getD .dead))[i]?=l[i]?
 rw[List.getElem?_map]
 by_cases hi:i<h.n
 ·have hl:l[i]?=some l[i]:=List.getElem?_eq_getElem (by omega);have hb:Nat.blt i h.fz=false:=by rw[hz];rfl
  have hg:h.br.get i=some l[i]:=by rw[<-PH.raw_lt hi,hr,hl]
  rw[List.getElem?_range hi,hl];simp only[Option.map_some,hb,hg,Option.getD_some,frz]
 ·rw[List.getElem?_eq_none (by simp;omega),List.getElem?_eq_none (by omega)];rfl
theorem VR.av{w:World}{ρ:RMap}{l:Heap}(m:Im w ρ l){x y:Value}(h:VR ρ x y)(hx:(∃k z,x= .int k z)\/ ∃a n c,x= .slice a n c){q k:Nat}(hq:l.length<=q):avV0 q k x=true:=by
 have hlt: ∀{b:Nat}{L:RLoc},ρ b=some L->b<l.length:=fun h=>m.rel.fin _ _ h;rcases hx with⟨k,z,rfl⟩|⟨a,n,c,rfl⟩
 ·rfl
 ·cases h with
  |snil=>rfl
  |sl h _=>exact av1_t (by have:=hlt h;omega)
  |slo h _ _ _=>exact av1_t (by have:=hlt h;omega)
  |slz h _ _=>exact av1_t (by have:=hlt h;omega)
  |sl0 h=>exact av1_t (by have:=hlt h;omega)
end Go.Am
namespace Go.Am
open Go Go.RowKit Go.Proofs
section
variable {Q:Value->PH->Prop}{n:Nat}{cl ih:CL}{h h0:PH}{S:Vw}{m:OM}{rows rest rows1 ex exP exL:Rws}{g:Gr}{rv fv cv kv kvs lv nv nlv pv:Value}{ks:List Int}{c:Nat}
end
end Go.Am
namespace Go.Am
open Go Go.RowKit Go.Proofs Go.ChangeShapes Go.WideShapes
set_option maxRecDepth 100000 in
theorem law_gz{f:FuncId}{H:Type}{enc:TypeId×Value->H}{w:World}{r:_root_.Go.Reach}{b0:Nat}{v0 v1:Value}{d0 d1:DataW H}{p0 p1:List MemPlace}(gl:Glob w.heap.size w)
  (hv0:Value.okWide Tryd.prog w r b0 26 v0) (hv1:Value.okWide Tryd.prog w r b0 24 v1) (ht0:DataW.Trod enc Tryd.prog w 0 (fun _=>true) true 26 v0 d0 p0) (ht1:DataW.Trod enc Tryd.prog w 0 (fun _=>true) true 24 v1 d1 p1)
  (law: ∀(h:PH)(g:Gr)(rv fv cv kv kvs:Value)(ks:List Int),OkH h->GIn g->GrV h.cells g rv fv cv kv->IntsV h.cells kvs ks->veq (.agg ⟨gcs g rv fv cv kv⟩) (.agg ⟨gcs g rv fv cv kv⟩)=true->(∀q k,h.n<=q->avV0 q k rv=true/\avV0 q k fv=true/\avV0 q k cv=true/\avV0 q k kv=true/\avV q k kvs=true)-> ∃k,ACall Tryd.prog f [.agg ⟨gcs g rv fv cv kv⟩,kvs] h.abs fun u k'=>u= .bool true/\k'=k):
  Calls Tryd.prog f #[v0,v1] w fun e w'=>e= .returned (.bool true)/\Below w.heap.size w w':=by
 obtain⟨⟨cs⟩,rfl,hsz⟩:=okWide_struct Tryd.underlying26 hv0;obtain⟨a1,l1,c1,rfl⟩:=okWide_slice Tryd.underlying24 hv1;obtain⟨f0,ht0⟩:=ht0;obtain⟨f1,ht1⟩:=ht1;have hc26:Tryd.prog.cellsOf 26=7:=by kernel_rfl
 have hlen:cs.length=7:=by rw[<-hc26];exact hsz
 obtain⟨ρ1,ext1,es,g,m1,le1,hve,hE,hG⟩:=oGram (Im.start w gl) (cs:=cs) hlen ht0;obtain⟨rv,fv,cv,kv,rfl,gv⟩:=rGram_V hE;obtain⟨ρ,ext,kvs,ks,m,le,hv,hi⟩:=opens_ints Tryd.underlying24 (by kernel_rfl) Tryd.underlying3 m1 ht1;obtain⟨h,ok,hhn,hz,hrw⟩:=PH.of_list ([.dead]++ext1++ext);have hve':=hve.mono le;have sl: ∀{α:Type}{R:Rdr α}{V:Vw}{v:Value}{l:List α},RdV R V v l-> ∃a n c,v= .slice a n c:=fun r=>by
  rcases r with⟨_,a,c,rfl⟩|⟨b,o,c,cs,rfl,_⟩
  ·exact⟨_,_,_,rfl⟩
  ·exact⟨_,_,_,rfl⟩
 have hs1:=sl gv.rules;have hs2:=sl gv.forbid;have hs3:=sl gv.rclass;have hs4:=sl gv.kclass;have hs5:=sl hi.rd;have vrs: ∃y1 y2 y3 y4,VR ρ rv y1/\VR ρ fv y2/\VR ρ cv y3/\VR ρ kv y4:=by
  cases hve' with
  |cons _ r=>cases r with
   |cons _ r=>cases r with
    |cons _ r=>cases r with
     |cons q1 r=>cases r with
      |cons q2 r=>cases r with
       |cons q3 r=>cases r with
        |cons q4 r=>exact⟨_,_,_,_,q1,q2,q3,q4⟩
 obtain⟨y1,y2,y3,y4,r1,r2,r3,r4⟩:=vrs;have hveq:veq (.agg ⟨gcs g rv fv cv kv⟩) (.agg ⟨gcs g rv fv cv kv⟩)=true:=by
  have e1:=r1.veq1 (.inr hs1);have e2:=r2.veq1 (.inr hs2);have e3:=r3.veq1 (.inr hs3);have e4:=r4.veq1 (.inr hs4);have ei: ∀z,Go.Am.veq1 (.int .i64 z) (.int .i64 z)=true:=fun z=>(VR.int .i64 z:VR ρ _ _).veq1 (.inl ⟨_,_,rfl⟩)
  show veqs (gcs g rv fv cv kv) (gcs g rv fv cv kv)=true
  simp only[gcs,veqs,ei,e1,e2,e3,e4]
 obtain⟨k,hk⟩:=law h g rv fv cv kv kvs ks ok hG (gv.mono fun b cs e=>vl_ph hrw b cs (vl_app _ _ b cs e)) (hi.mono (vl_ph hrw)) hveq (fun q k hq=>by
  have hq':([.dead]++ext1++ext:Heap).length<=q:=by rw[<-hhn];exact hq
  refine⟨r1.av m (.inr hs1) hq',r2.av m (.inr hs2) hq',r3.av m (.inr hs3) hq',r4.av m (.inr hs4) hq',?_⟩;have h5:=hv.av (k:=k) m (.inr hs5) hq';obtain⟨a,n,c,rfl⟩:=hs5;exact h5)
 rw[PH.abs_list hhn hz hrw]at hk;exact calls_rel (Q:=fun k'=>k'=k) m.rel (.cons (.agg hve') (.cons hv .nil)) rfl hk
end Go.Am
namespace Go.Am
open Go Go.RowKit Go.Proofs
section
variable {Q:Value->PH->Prop}{n:Nat}{cl ih:CL}{h h0:PH}{S:Vw}{m:OM}{rows rest rows1 ex exP exL:Rws}{g:Gr}{rv fv cv kv kvs lv nv nlv pv:Value}{ks:List Int}{c:Nat}
end
inductive DvR(g:Gr)(ks:List Int):List Int->Nat->Nat->Prop
 |nil {i:Nat}:DvR g ks [] i i
 |kind {s k:Int} {l:List Int} {i j:Nat}:s<0->ks[i]?=some k->k= -1-s->DvR g ks l (i+1) j->DvR g ks (s::l) i j
 |name {r:Rl} {l:List Int} {i m j:Nat}:r∈g.rules->0<=r.left->DvR g ks r.right i m->DvR g ks l m j->DvR g ks (r.left::l) i j
section
variable {g:Gr}{ks:List Int}{k:Int}
theorem DvR.le{l:List Int}{i j:Nat}(h:DvR g ks l i j):i<=j:=by
 induction h with
 |nil=>exact Nat.le_refl _
 |kind _ _ _ _ ih=>omega
 |name _ _ _ _ ih1 ih2=>omega
theorem DvR.app{l l':List Int}{i m j:Nat}(h:DvR g ks l i m)(h':DvR g ks l' m j):DvR g ks (l++l') i j:=by
 induction h with
 |nil=>exact h'
 |kind a b c _ ih=>exact .kind a b c (ih h')
 |name a b c _ _ ih2=>exact .name a b c (ih2 h')
theorem DvR.into{l:List Int}{i j:Nat}(h:DvR g ks l i j)(hi:i<=ks.length):j<=ks.length:=by
 induction h with
 |nil=>exact hi
 |kind _ h2 _ _ ih=>exact ih (List.getElem?_eq_some_iff.1 h2).1
 |name _ _ _ _ ih1 ih2=>exact ih2 (ih1 hi)
theorem take_snoc'{l:List Int}{a:Nat}{s:Int}(h:l[a]?=some s):l.take (a+1)=l.take a++[s]:=by
 rw[List.take_add_one,h];rfl
end
abbrev lfv(N:Nat)(b:Nat):Value:=.slice (some ⟨b,0,none⟩) N N
def ent3(N:Nat)(T:List (List Bool))(a i j:Nat):Prop:=i<N/\ ∃r,T[a*N+i]?=some r/\r[j]?=some true
structure Tb(A N:Nat)(T:List (List Bool)):Prop where
 len:T.length=A*N
 row: ∀r∈T,r.length=N
 up: ∀a i j,ent3 N T a i j->i<=j
def Stp(ks:List Int)(N:Nat)(T:List (List Bool))(s:Int)(i m:Nat):Prop:=(s<0/\ks[i]?=some (-1-s)/\m=i+1)\/(0<=s/\ent3 N T s.toNat i m)
def Rw(ks:List Int)(N:Nat)(T:List (List Bool)):List Int->Nat->Nat->Prop
 | [],i,j=>i=j
 |s::l,i,j=> ∃m,Stp ks N T s i m/\Rw ks N T l m j
theorem SlC.at1{V:Vw}{v:Value}{k i:Nat}{cells:List Value}{x:Value}(r:SlC V 1 v k cells)(hi:cells[i]?=some x): ∃b o cs,xIdxS 1 v (.int .i64 (i:Nat))=some (.pointer (some ⟨b,o,none⟩))/\V b=some cs/\cs[o]?=some x:=by
 rcases r with⟨_,rfl,_⟩|⟨b,o,c,cs,rfl,h1,h2,rfl⟩
 ·simp at hi
 ·rw[List.getElem?_take]at hi
  split at hi
  ·rw[List.getElem?_drop]at hi;exact⟨b,o+i,cs,by rw[xIdxS_at (by omega) (by omega)];simp,h1,hi⟩
  ·cases hi
structure EnV(V:Vw)(N:Nat)(v:Value)(A:Nat)(L:List Nat):Prop where
 h: ∃W:List Value,W.length=A/\SlC V 1 v A W/\ ∀a w,W[a]?=some w->SlC V 1 w N (((L.drop (a*N)).take N).map (lfv N))
 len:L.length=A*N
def LfV(V:Vw)(L:List Nat)(T:List (List Bool)):Prop:= ∀(x:Nat) b r,L[x]?=some b->T[x]?=some r->V b=some (bv r)
structure ChV(V:Vw)(cp:Nat)(g:Gr)(rv fv cv kv kw ew:Value)(ks:List Int)(L:List Nat):Prop where
 cell:V cp=some (gcs g rv fv cv kv++[kw,ew])
 kinds:RdV (rI .i64) V kw ks
 ends:EnV V (ks.length+1) ew g.names.toNat L
section
variable {Q:Value->PH->Prop}{n:Nat}{cl:CL}{h h0:PH}{S:Vw}{m:OM}{rows rest:Rws}{cp bn bo:Nat}{g:Gr}{rv fv cv kv kw ew qv:Value}{ks l:List Int}{L:List Nat}{T:List (List Bool)}
end
def lrows(L:List Nat)(T:List (List Bool)):Rws:=List.zipWith (fun b r=>(b,AObj.row .own 1 (bv r))) L T
theorem perm_a{α:Type}(A E X:List α):(A++(E++X)).Perm (E++(A++X)):=by
 rw[<-List.append_assoc, <-List.append_assoc];exact List.perm_append_comm.append_right _
theorem perm_b{α:Type}(A E X:List α):(A++(E++X)).Perm ((E++A)++X):=by
 rw[<-List.append_assoc];exact List.perm_append_comm.append_right _
section
variable {Q:Value->PH->Prop}{n:Nat}{cl:CL}{h h0:PH}{S:Vw}{m:OM}{rows rest:Rws}{cp gp:Nat}{g:Gr}{rv fv cv kv kw ew qv kvs:Value}{ks l:List Int}{L:List Nat}{T:List (List Bool)}
structure Bld(S:Vw)(N a:Nat)(W:List Value)(L:List Nat):Prop where
 w:W.length=a
 l:L.length=a*N
 h: ∀x w,W[x]?=some w->SlC S 1 w N (((L.drop (x*N)).take N).map (lfv N))
end
def cntT:List (List Bool)->Nat
 | []=>0
 |r::T=>r.count true+cntT T
def Snd3(g:Gr)(ks:List Int)(T:List (List Bool)):Prop:= ∀a i j,ent3 (ks.length+1) T a i j->DvR g ks [(a:Int)] i j
def Clo3(g:Gr)(ks:List Int)(T:List (List Bool))(r i:Nat):Prop:= ∀rl,g.rules[r]?=some rl-> ∀j,Rw ks (ks.length+1) T rl.right i j->ent3 (ks.length+1) T rl.left.toNat i j
structure ChT(g:Gr)(ks:List Int)(T:List (List Bool)):Prop where
 tb:Tb g.names.toNat (ks.length+1) T
 tells: ∀a i j:Nat,i<=ks.length->(ent3 (ks.length+1) T a i j↔DvR g ks [(a:Int)] i j)
section
variable {Q:Value->PH->Prop}{n:Nat}{cl:CL}{h h0:PH}{S:Vw}{m:OM}{rows rest:Rws}{cp gp bt:Nat}{g:Gr}{rv fv cv kv kw ew qv kvs:Value}{ks l:List Int}{L:List Nat}{T:List (List Bool)}
structure Md(g:Gr)(ks:List Int)(T0 T:List (List Bool))(mv:Bool):Prop where
 tb:Tb g.names.toNat (ks.length+1) T
 sd:Snd3 g ks T
 same:mv=false->T=T0
 more:mv=true->cntT T0<cntT T
 ge:cntT T0<=cntT T
end
section
variable {Q:Value->PH->Prop}{n:Nat}{cl ih:CL}{h h0:PH}{S:Vw}{m:OM}{rows rest:Rws}{cp gp bt:Nat}{g:Gr}{rv fv cv kv kw ew qv kvs:Value}{ks l:List Int}{L:List Nat}{T:List (List Bool)}
theorem VwN.all{r1:Rws}(st:Sl h0 h S m (r1++rows)):VwN h0 S (vall S (over r1 OM.emp)):=by
 refine⟨(Sl.settleAll st).2,fun b cs hb=>?_⟩;unfold vall at hb
 split at hb
 ·rename_i e;rcases over_cases e with h|⟨h,_⟩
  ·exact .inr (st.sm.own b _ (st.mem (List.mem_append_left _ h))).2
  ·cases h
 ·exact .inl hb
structure Cht(V:Vw)(cp:Nat)(g:Gr)(rv fv cv kv:Value)(ks:List Int):Prop where
 h: ∃kw ew L T,ChV V cp g rv fv cv kv kw ew ks L/\LfV V L T/\ChT g ks T
end
end Go.Am
