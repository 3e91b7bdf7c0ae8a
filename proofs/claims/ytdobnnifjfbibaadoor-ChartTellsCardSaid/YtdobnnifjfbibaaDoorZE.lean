import Derived.Test.YtdobnnifjfbibaaDoorZD
set_option linter.unusedSimpArgs false
set_option linter.unusedVariables false
namespace Go.Am
open Go Go.RowKit Go.Proofs Go.ChangeShapes Go.WideShapes
inductive Flds(P:Program):Nat->List (TypeId×Nat)->{α:Type}->Rdr α->(α->Prop)->Prop
 |one {o:Nat} {t:TypeId} {α:Type} {R:Rdr α} {G:α->Prop}:Opens P t R G->P.cellsOf t=R.sz->Flds P o [(t,o)] R G
 |cons {o:Nat} {t:TypeId} {L:List (TypeId×Nat)} {α β:Type} {R:Rdr α} {S:Rdr β} {G:α->Prop} {G':β->Prop}:Opens P t R G->P.cellsOf t=R.sz->Flds P (o+R.sz) L S G'->Flds P o ((t,o)::L) (R.pr S) fun x=>G x.1/\G' x.2
section
variable {P:Program}
theorem Flds.open{α:Type}{R:Rdr α}{G:α->Prop}{o:Nat}{L:List (TypeId×Nat)}(f:Flds P o L R G): ∀{H:Type}{enc:TypeId×Value->H}{w:World}{ρ:RMap}{l:Heap}{n:Nat}{cs:List Value},Im w ρ l->o+R.sz<=cs.length->
  (∀p∈L, ∃y,DataW.trod enc P w 0 (fun _=>true) true n p.1 ((cs.drop p.2).take (P.cellsOf p.1))=some y)->
  ∃(ρ':RMap) (ext:Heap) (es:List Value) (x:α),Im w ρ' (l++ext)/\ρ.le ρ'/\VRs ρ' es ((cs.drop o).take R.sz)/\R.E (vl (l++ext)) x es/\G x:=by
 induction f with
 |one op hc=>
  intro H enc w ρ l n cs m hl hf;obtain⟨y,hy⟩:=hf _ (.head _);rw[hc]at hy;exact op m (by simp;omega) hy
 | @cons o t L α β R S G G' op hc f ih=>
  intro H enc w ρ l n cs m hl hf;have hl:o+(R.sz+S.sz)<=cs.length:=hl;obtain⟨y,hy⟩:=hf _ (.head _);rw[hc]at hy;obtain⟨ρ1,ext1,es1,x1,m1,le1,v1,E1,G1⟩:=op m (by simp;omega) hy;obtain⟨ρ2,ext2,es2,x2,m2,le2,v2,E2,G2⟩:=ih m1 (by omega) fun p hp=>hf p (.tail _ hp);refine⟨ρ2,ext1++ext2,es1++es2,(x1,x2),by rw[<-List.append_assoc];exact m2,RMap.le_trans le1 le2,?_,⟨es1,es2,rfl,by rw[<-List.append_assoc];exact R.mono (vl_app _ _) E1,by rw[<-List.append_assoc];exact E2⟩,G1,G2⟩;have e:(cs.drop o).take (R.pr S).sz=(cs.drop o).take R.sz++(cs.drop (o+R.sz)).take S.sz:=by
   show(cs.drop o).take (R.sz+S.sz)=_
   rw[List.take_add,List.drop_drop]
  rw[e];exact(v1.mono le2).append v2
theorem opens_struct{α:Type}{R:Rdr α}{G:α->Prop}{T:TypeId}{fs:Array Field}(hu:P.underlying T=some (.struct fs))(f:Flds P 0 (fs.toList.map fun f=>(f.type,f.offset)) R G):Opens P T R G:=by
 intro H enc w ρ l fuel cs y m hl ht;obtain⟨xs,n,_,_,_,hxl,hf⟩:=DataW.trod_struct hu ht;obtain⟨ρ',ext,es,x,h1,h2,h3,h4,h5⟩:=f.open (enc:=enc) (n:=n) (cs:=cs) m (by omega) fun p hp=>by
  rw[List.mem_map]at hp;obtain⟨g,hg,rfl⟩:=hp;obtain⟨i,hi⟩:=List.getElem?_of_mem hg;have hlt:=(List.getElem?_eq_some_iff.1 hi).1;rw[Array.length_toList]at hlt;have h0:=hf i g (by rw[<-Array.getElem?_toList];exact hi);rw[List.getElem?_eq_getElem (by omega)]at h0;exact⟨_,h0⟩
 rw[List.drop_zero, <-hl,List.take_length]at h3;exact⟨ρ',ext,es,x,h1,h2,h3,h4,h5⟩
end
def r3:Rdr (Int×Int×Int):=⟨3,fun _ x es=>int3E x es,fun _ h=>h,fun h=>by rw[h];rfl,fun h=>by rw[h];rfl⟩
def rRule:Rdr Rl:=((rI .i64).pr ((rI .i64).sl.pr (rI .i64))).of fun r=>(r.left,(r.right,r.dyn))
def rGram:Rdr Gr:=((rI .i64).pr ((rI .i64).pr ((rI .i64).pr (rRule.sl.pr (r3.sl.pr ((rI .i64).sl.pr (rI .i64).sl)))))).of fun g=>(g.names,(g.kinds,(g.start,(g.rules,(g.forbid,(g.rclass,g.kclass))))))
theorem oi:Opens Tryd.prog 3 (rI .i64) inR:=opens_i64 Tryd.underlying3
theorem oI24:Opens Tryd.prog 24 (rI .i64).sl (GLen inR):=opens_slice Tryd.underlying24 (by kernel_rfl) (by decide) oi
theorem cI3:Tryd.prog.cellsOf 3=1:=by kernel_rfl
theorem cI24:Tryd.prog.cellsOf 24=1:=by kernel_rfl
theorem Opens.of{P:Program}{T:TypeId}{α β:Type}{R:Rdr α}{G:α->Prop}{G':β->Prop}(f:β->α)(g:α->β)(hfg: ∀x,f (g x)=x)(h:Opens P T R G)(hG: ∀x,G x->G' (g x)):Opens P T (R.of f) G':=by
 intro H enc w ρ l fuel cs y m hl ht;obtain⟨ρ',ext,es,x,h1,h2,h3,h4,h5⟩:=h m hl ht;exact⟨ρ',ext,es,g x,h1,h2,h3,by show R.E _ (f (g x)) es;rw[hfg];exact h4,hG x h5⟩
theorem oRule:Opens Tryd.prog 37 rRule fun r=>inR r.left/\(GLen inR r.right)/\inR r.dyn:=
 Opens.of (fun r:Rl=>(r.left,(r.right,r.dyn))) (fun x=>⟨x.1,x.2.1,x.2.2⟩) (fun _=>rfl) (opens_struct Tryd.underlying37 (Flds.cons oi cI3 (Flds.cons oI24 cI24 (Flds.one oi cI3)))) fun x h=>h
theorem o76:Opens Tryd.prog 76 r3 fun x=>inR x.1/\inR x.2.1/\inR x.2.2:=by
 intro H enc w ρ l fuel cs y m hl ht;obtain⟨xs,n,_,_,_,hxl,hf⟩:=DataW.trod_array Tryd.underlying76 ht;rw[cI3]at hf;have hl:cs.length=3:=hl
 match cs,hl with
 | [a,b,c],_=>
  have k: ∀(i:Nat),i<3-> ∀v,[a,b,c][i]?=some v-> ∃z,v= .int .i64 z/\inR z:=by
   intro i hi v hv;have h0:=hf i hi;have e:([a,b,c].drop (i*1)).take 1=[v]:=by
    match i,hi with
    |0,_=>simpa using hv
    |1,_=>simpa using hv
    |2,_=>simpa using hv
   rw[e,List.getElem?_eq_getElem (by omega)]at h0;obtain⟨z,e,hz⟩:=DataW.trod_int Tryd.underlying3 h0;simp at e;exact⟨z,e,wf64 hz.2⟩
  obtain⟨z0,rfl,g0⟩:=k 0 (by decide) a rfl;obtain⟨z1,rfl,g1⟩:=k 1 (by decide) b rfl;obtain⟨z2,rfl,g2⟩:=k 2 (by decide) c rfl;exact⟨ρ,[],_,(z0,z1,z2),by rw[List.append_nil];exact m,RMap.le_refl _,.cons (.int _ _) (.cons (.int _ _) (.cons (.int _ _) .nil)),rfl,g0,g1,g2⟩
theorem o22:Opens Tryd.prog 22 rRule.sl (GLen fun r=>inR r.left/\(GLen inR r.right)/\inR r.dyn):=opens_slice Tryd.underlying22 (by kernel_rfl) (by decide) oRule
theorem o23:Opens Tryd.prog 23 r3.sl (GLen fun x=>inR x.1/\inR x.2.1/\inR x.2.2):=opens_slice Tryd.underlying23 (by kernel_rfl) (by decide) o76
theorem cI22:Tryd.prog.cellsOf 22=1:=by kernel_rfl
theorem cI23:Tryd.prog.cellsOf 23=1:=by kernel_rfl
theorem oGram:Opens Tryd.prog 26 rGram GIn:=
 Opens.of (fun g:Gr=>(g.names,(g.kinds,(g.start,(g.rules,(g.forbid,(g.rclass,g.kclass))))))) (fun x=>⟨x.1,x.2.1,x.2.2.1,x.2.2.2.1,x.2.2.2.2.1,x.2.2.2.2.2.1,x.2.2.2.2.2.2⟩) (fun _=>rfl)
  (opens_struct Tryd.underlying26 (Flds.cons oi cI3 (Flds.cons oi cI3 (Flds.cons oi cI3 (Flds.cons o22 cI22 (Flds.cons o23 cI23 (Flds.cons oI24 cI24 (Flds.one oI24 cI24))))))))
  fun x ⟨h1,h2,h3,h4,h5,h6,h7⟩=>⟨h1,h2,h3,h4.1,h5.1,h6.1,h7.1,fun r hr=>(h4.2 r hr).1,fun r hr=>(h4.2 r hr).2.2,fun r hr=>(h4.2 r hr).2.1.2,fun r hr=>(h4.2 r hr).2.1.1,fun f hf=>h5.2 f hf⟩
theorem rGram_rd{h:PH}{g:Gr}{es:List Value}(hE:rGram.E h.cells g es): ∃rv fv cv kv,RdG h (.agg ⟨es⟩) g rv fv cv kv:=by
 obtain⟨e1,_,rfl,h1,e2,_,rfl,h2,e3,_,rfl,h3,e4,_,rfl,⟨rv,h4,r4,_⟩,e5,_,rfl,⟨fv,h5,r5,_⟩,e6,e7,rfl,⟨cv,h6,r6,_⟩,⟨kv,h7,r7,_⟩⟩:=hE;have h1:e1=[.int .i64 g.names]:=h1;have h2:e2=[.int .i64 g.kinds]:=h2;have h3:e3=[.int .i64 g.start]:=h3;subst h1 h2 h3 h4 h5 h6 h7;refine⟨rv,fv,cv,kv,rfl,?_,r5.toS,r6.toS,r7.toS⟩;have h:=r4.toS;refine RdS.mono (fun _ _ s=>s) (fun r _ es hE=>?_) h;obtain⟨a1,_,rfl,b1,a2,a3,rfl,⟨rv,b2,r2,_⟩,b3⟩:=hE;have b1:a1=[.int .i64 r.left]:=b1;have b3:a3=[.int .i64 r.dyn]:=b3;subst b1 b2 b3;exact⟨rv,rfl,r2.toS⟩
theorem VR.veq1{ρ:RMap}{x y:Value}(h:VR ρ x y)(hx:(∃k z,x= .int k z)\/ ∃a n c,x= .slice a n c):Go.Am.veq1 x x=true:=by
 have hk: ∀k,kb k k=true:=fun k=>by cases k<;>rfl
 have hi: ∀z,ieq z z=true:=fun z=>by rw[ieq_eq];simp
 rcases hx with⟨k,z,rfl⟩|⟨a,n,c,rfl⟩
 ·show(match kb k k with|true=>ieq z z|false=>false)=true
  rw[hk];exact hi z
 ·cases h<;>(unfold Go.Am.veq1;simp only[Nat.beq_refl];first|rfl|(unfold aeq;simp only[Nat.beq_refl]))
end Go.Am
namespace Go.Am
open Go Go.RowKit Go.Proofs
abbrev pt(b:Nat):Value:=.pointer (some ⟨b,0,none⟩)
def zv(l:List Int):List Value:=l.map fun z=>.int .i64 z
theorem zv_get{l:List Int}{i:Nat}{z:Int}(h:l[i]?=some z):(zv l)[i]?=some (.int .i64 z):=by simp[zv,h]
theorem zv_len(l:List Int):(zv l).length=l.length:=by simp[zv]
structure GrV(V:Vw)(g:Gr)(rv fv cv kv:Value):Prop where
 rules:RdV rRule V rv g.rules
 forbid:RdV r3 V fv g.forbid
 rclass:RdV (rI .i64) V cv g.rclass
 kclass:RdV (rI .i64) V kv g.kclass
 er:g.rules=[]->Emp rv
 ef:g.forbid=[]->Emp fv
 ec:g.rclass=[]->Emp cv
 ek:g.kclass=[]->Emp kv
theorem GrV.mono{V W:Vw}{g:Gr}{rv fv cv kv:Value}(hs:Vw.le V W)(h:GrV V g rv fv cv kv):GrV W g rv fv cv kv:=⟨h.rules.mono hs,h.forbid.mono hs,h.rclass.mono hs,h.kclass.mono hs,h.er,h.ef,h.ec,h.ek⟩
theorem GrV.E{V:Vw}{g:Gr}{rv fv cv kv:Value}(h:GrV V g rv fv cv kv):rGram.E V g (gcs g rv fv cv kv):=
 ⟨[_],_,rfl,rfl,[_],_,rfl,rfl,[_],_,rfl,rfl,[_],_,rfl,⟨rv,rfl,h.rules,h.er⟩,[_],_,rfl,⟨fv,rfl,h.forbid,h.ef⟩,[_],[_],rfl,⟨cv,rfl,h.rclass,h.ec⟩,⟨kv,rfl,h.kclass,h.ek⟩⟩
theorem GrV.rd{V:Vw}{h:PH}{g:Gr}{rv fv cv kv:Value}(r:GrV V g rv fv cv kv)(hS:Vw.le V h.cells):RdG h (.agg ⟨gcs g rv fv cv kv⟩) g rv fv cv kv:=by
 obtain⟨a,b,c,d,hr⟩:=rGram_rd (r.mono hS).E;have:=hr.v;simp only[Value.agg.injEq,Array.mk.injEq,List.cons.injEq]at this;obtain⟨_,_,_,rfl,rfl,rfl,rfl,_⟩:=this;exact hr
theorem rGram_V{V:Vw}{g:Gr}{es:List Value}(hE:rGram.E V g es): ∃rv fv cv kv,es=gcs g rv fv cv kv/\GrV V g rv fv cv kv:=by
 obtain⟨e1,_,rfl,h1,e2,_,rfl,h2,e3,_,rfl,h3,e4,_,rfl,⟨rv,h4,r4,m4⟩,e5,_,rfl,⟨fv,h5,r5,m5⟩,e6,e7,rfl,⟨cv,h6,r6,m6⟩,⟨kv,h7,r7,m7⟩⟩:=hE;have h1:e1=[.int .i64 g.names]:=h1;have h2:e2=[.int .i64 g.kinds]:=h2;have h3:e3=[.int .i64 g.start]:=h3;subst h1 h2 h3 h4 h5 h6 h7;exact⟨rv,fv,cv,kv,rfl,r4,r5,r6,r7,m4,m5,m6,m7⟩
theorem RdV.lenV{α:Type}{R:Rdr α}{V:Vw}{v:Value}{l:List α}(r:RdV R V v l):xLenS v=some (.int .i64 (l.length:Nat)):=by
 rcases r with⟨rfl,a,c,rfl⟩|⟨b,o,c,cs,rfl,_⟩<;>simp
theorem RdV.atI{V:Vw}{v:Value}{l:List Int}(r:RdV (rI .i64) V v l){i:Nat}{z:Int}(hi:l[i]?=some z): ∃b o cs,xIdxS 1 v (.int .i64 (i:Nat))=some (.pointer (some ⟨b,o,none⟩))/\V b=some cs/\cs[o]?=some (.int .i64 z):=by
 have hlt:=(List.getElem?_eq_some_iff.1 hi).1;rcases r with⟨rfl,_⟩|⟨b,o,c,cs,rfl,h1,h2⟩
 ·simp at hi
 ·obtain⟨q1,q2⟩:=h2 i z hi;have q1:o+i*1+1<=cs.length:=q1;have q2:(cs.drop (o+i*1)).take 1=[.int .i64 z]:=q2;refine⟨b,o+i,cs,by rw[xIdxS_at (by omega) (by omega)];simp,h1,?_⟩;have:=congrArg (fun l=>l[0]?) q2;simp only[List.getElem?_take,List.getElem?_drop]at this;simpa using this
theorem GrV.rule{V:Vw}{g:Gr}{rv fv cv kv:Value}(h:GrV V g rv fv cv kv){i:Nat}{r:Rl}(hi:g.rules[i]?=some r): ∃b o cs wv,xIdxS 3 rv (.int .i64 (i:Nat))=some (.pointer (some ⟨b,o,none⟩))/\V b=some cs/\(cs.drop o).take 3=[.int .i64 r.left,wv,.int .i64 r.dyn]/\o+3<=cs.length/\RdV (rI .i64) V wv r.right:=by
 have hlt:=(List.getElem?_eq_some_iff.1 hi).1;rcases h.rules with⟨h0,_⟩|⟨b,o,c,cs,rfl,h1,h2⟩
 ·rw[h0]at hi;simp at hi
 ·obtain⟨q1,a1,_,q2,b1,a2,a3,rfl,⟨wv,b2,r2,_⟩,b3⟩:=h2 i r hi;have q1:o+i*3+3<=cs.length:=q1;have b1:a1=[.int .i64 r.left]:=b1;have b3:a3=[.int .i64 r.dyn]:=b3;subst b1 b2 b3;refine⟨b,o+i*3,cs,wv,?_,h1,q2,q1,r2⟩;rw[xIdxS_at (by omega) (by omega)];simp
theorem cells3{cs:List Value}{o:Nat}{a b c:Value}(h:(cs.drop o).take 3=[a,b,c]):cs[o]?=some a/\cs[o+1]?=some b/\cs[o+2]?=some c:=by
 have k: ∀j,j<3->cs[o+j]?=[a,b,c][j]?:=fun j hj=>by
  rw[<-h,List.getElem?_take,if_pos hj,List.getElem?_drop]
 exact⟨k 0 (by omega),k 1 (by omega),k 2 (by omega)⟩
section
variable {n:Nat}{cl:CL}{h h0:PH}{S:Vw}{m:OM}{rows:Rws}
end
structure GOk(g:Gr):Prop where
 start:isName g.names g.start=true
 left: ∀r∈g.rules,isName g.names r.left=true
 right: ∀r∈g.rules, ∀s∈r.right,isSym g.names g.kinds s=true
 r8: ∀r∈g.rules,r.right.length<=8
 rl:g.rules.length<=60
 nm:1<=g.names/\g.names<=40
 kn:0<=g.kinds/\g.kinds<=40
section
variable {g:Gr}{ks:List Int}
theorem inj_le: ∀(n k:Nat)(f:Nat->Nat),(∀i,i<k->f i<n)->(∀i j,i<k->j<k->f i=f j->i=j)->k<=n
 |0,k,f,h1,_=>by
  by_cases e:k=0
  ·omega
  ·have:=h1 0 (by omega);omega
 |n+1,k,f,h1,h2=>by
  by_cases hk:k=0
  ·omega
  by_cases hex: ∃i,i<k/\f i=n
  ·obtain⟨i0,hi0,e0⟩:=hex;have:=inj_le n (k-1) (fun i=>if i<i0 then f i else f (i+1)) (fun i hi=>by
    show(if i<i0 then f i else f (i+1))<n
    split
    ·have a:=h1 i (by omega);have b:f i≠n:=fun e=>by have:=h2 i i0 (by omega) hi0 (by rw[e,e0]);omega
     omega
    ·have a:=h1 (i+1) (by omega);have b:f (i+1)≠n:=fun e=>by have:=h2 (i+1) i0 (by omega) hi0 (by rw[e,e0]);omega
     omega) (fun i j hi hj he=>by
    have he:(if i<i0 then f i else f (i+1))=(if j<i0 then f j else f (j+1)):=he
    split at he<;>split at he
    ·exact h2 i j (by omega) (by omega) he
    ·have:=h2 i (j+1) (by omega) (by omega) he;omega
    ·have:=h2 (i+1) j (by omega) (by omega) he;omega
    ·have:=h2 (i+1) (j+1) (by omega) (by omega) he;omega)
   omega
  ·have:=inj_le n k f (fun i hi=>by
    have a:=h1 i hi;have b:f i≠n:=fun e=>hex ⟨i,hi,e⟩;omega) h2
   omega
end
def VwN(h0:PH)(S S':Vw):Prop:=Vw.le S S'/\ ∀b cs,S' b=some cs->S b=some cs\/h0.n<=b
theorem VwN.refl{h0:PH}{S:Vw}:VwN h0 S S:=⟨Vw.le.refl _,fun _ _ h=>.inl h⟩
theorem VwN.trans{h0:PH}{S T U:Vw}(a:VwN h0 S T)(b:VwN h0 T U):VwN h0 S U:=⟨a.1.trans b.1,fun x cs h=>by
 rcases b.2 x cs h with h|h
 ·exact a.2 x cs h
 ·exact .inr h⟩
theorem VwN.put{h0:PH}{S:Vw}{b:Nat}{cs:List Value}(h:S b=none)(hb:h0.n<=b):VwN h0 S (S.put b cs):=⟨Vw.le_put h,fun x ys hx=>by
 unfold Vw.put at hx
 split at hx
 ·rename_i e;rw[e];exact .inr hb
 ·exact .inl hx⟩
theorem Gl.settleV{h0 h:PH}{S:Vw}{m:OM}{rows ex:Rws}{sz k:Nat}{v:Value}{cells:List Value}(s:Sl h0 h S m (ex++rows))(g:Gl sz v k cells ex): ∃S',VwN h0 S S'/\Sl h0 h S' m rows/\SlC S' sz v k cells:=by
 rcases g.h with⟨rfl,rfl,rfl,rfl⟩|⟨b,o,cap,all,rfl,rfl,rfl,h2,_⟩
 ·exact⟨S,VwN.refl,s,.inl ⟨rfl,rfl,rfl⟩⟩
 ·have hn:=(s.sm.own b _ (s.mem (.head _))).2;obtain⟨s1,hS⟩:=s.settle (i:=0) rfl;exact⟨_,VwN.put hS hn,s1,.inr ⟨b,o,cap,all,rfl,Vw.put_self,h2,rfl⟩⟩
section
variable {Q:Value->PH->Prop}{h h0:PH}{S:Vw}{m:OM}{rows:Rws}{K2:Value->PH->R}
end
theorem gok_of{g:Gr}(h:goodB g=true):GOk g:=by
 obtain⟨a1,a2,a3,a4,a5,a6,a7⟩:=goodB_whole h;exact⟨a7,fun r hr=>(goodB_rule h hr).1,fun r hr=>(goodB_rule h hr).2.1,fun r hr=>(goodB_rule h hr).2.2,a5,⟨a1,a2⟩,⟨a3,a4⟩⟩
theorem ChkQ.zero{g:Gr}{x:Int×Int}(q:ChkQ g x)(h:x.2=0):goodB g=true:=by
 cases q with
 |bad hb=>
  unfold goodB at hb;simp only[h]at hb;simp at hb
 |good ha _ _ _=>exact ha
section
variable {Q:Value->PH->Prop}{n:Nat}{cl ih:CL}{h h0:PH}{S:Vw}{m:OM}{rows rest rows1:Rws}{bp:Nat}{g:Gr}{rv fv cv kv nv kvs:Value}{ks:List Int}
end
theorem hb_id{X:R}:Go.Am.hb X (fun v h=>some (v,h))=X:=by
 cases X with
 |none=>rfl
 |some p=>rfl
section
variable {h h0:PH}{S:Vw}{m:OM}{rows ex:Rws}
def Anc(N:Nat)(v:Value):Prop:=v=nils\/ ∃b o n c,v= .slice (some ⟨b,o,none⟩) n c/\N<=b
def Asc(l:List Int):Prop:=l.Pairwise (· < ·)
end
theorem SlC.rdI{V:Vw}{v:Value}{l:List Int}(r:SlC V 1 v l.length (zv l)):RdV (rI .i64) V v l:=by
 rcases r with⟨h1,_,rfl⟩|⟨b,o,c,cs,rfl,h1,h2,h3⟩
 ·exact .inl ⟨List.length_eq_zero_iff.1 h1,none,0,rfl⟩
 ·refine .inr ⟨b,o,c,cs,rfl,h1,fun i z hz=>?_⟩;have hlt:=(List.getElem?_eq_some_iff.1 hz).1;have hg:=zv_get hz;rw[h3,Nat.mul_one,List.getElem?_take,if_pos hlt,List.getElem?_drop]at hg;obtain⟨q1,q2⟩:=List.getElem?_eq_some_iff.1 hg;refine⟨by show o+i*1+1<=_;omega,?_⟩
  show(cs.drop (o+i*1)).take 1=[.int .i64 z]
  rw[Nat.mul_one,List.drop_eq_getElem_cons q1,List.take_succ_cons,List.take_zero];exact congrArg (fun x=>[x]) q2
def trues(B:List Bool)(i:Nat):List Int:=((List.range i).filter fun j=>B.getD j false).map Int.ofNat
section
variable {Q:Value->PH->Prop}{n:Nat}{cl ih:CL}{h h0:PH}{S:Vw}{m:OM}{rows rest rows1 ex exP exL:Rws}{g:Gr}{rv fv cv kv kvs lv nv nlv pv:Value}{ks:List Int}{c:Nat}
end
end Go.Am
namespace Go.Am
open Go Go.RowKit Go.Proofs Go.ChangeShapes Go.WideShapes
structure IntsV(V:Vw)(v:Value)(l:List Int):Prop where
 rd:RdV (rI .i64) V v l
 emp:l=[]->v=nils\/ ∃b c,v= .slice (some ⟨b,0,none⟩) 0 c
 cap:l.length<=1000000-> ∀a k c,v= .slice a k c->CapOk k c
theorem IntsV.mono{V W:Vw}{v:Value}{l:List Int}(hs:Vw.le V W)(h:IntsV V v l):IntsV W v l:=⟨h.rd.mono hs,h.emp,h.cap⟩
theorem opens_ints{P:Program}{T e:TypeId}(hu:P.underlying T=some (.slice e))(hsz:P.cellsOf e=1)(he:P.underlying e=some (.int .i64)){H:Type}{enc:TypeId×Value->H}{w:World}{ρ:RMap}{l:Heap}{fuel:Nat}{v:Value}{y:DataW H×List MemPlace}(m:Im w ρ l)(ht:DataW.trod enc P w 0 (fun _=>true) true fuel T [v]=some y):
  ∃(ρ':RMap) (ext:Heap) (v':Value) (zs:List Int),Im w ρ' (l++ext)/\ρ.le ρ'/\VR ρ' v' v/\IntsV (vl (l++ext)) v' zs:=by
 have hmx:maxLen=9223372036854775807:=rfl;have op:Opens P e (rI .i64) (fun z=>(Lit.int .i64 z).wf=true):=opens_int he;rcases Deep.open_slice hu ht with⟨hcs,_⟩|⟨a,len,cap,mm,n,D,Pl,hcs,_,hlc,hm,hmm,_,hcell⟩
 ·cases hcs;exact⟨ρ,[],nils,[],by rw[List.append_nil];exact m,RMap.le_refl _,.snil _ _,⟨.inl ⟨rfl,none,0,rfl⟩,fun _=>.inl rfl,fun _ a k c e=>by cases e;exact CapOk.self (by decide)⟩⟩
 ·cases hcs;simp only[if_true]at hmm;rw[hsz]at hcell;cases hc0:cap with
  |zero=>
   have hl0:len=0:=by omega
   subst hl0;exact⟨ρ,[],.slice (some ⟨0,0,none⟩) 0 openCap,[],by rw[List.append_nil];exact m,RMap.le_refl _,.slz m.zero (by decide) rfl,⟨.inl ⟨rfl,some 0,_,rfl⟩,fun _=>.inr ⟨_,_,rfl⟩,fun _ a k c e=>by cases e;exact CapOk.opn (by decide)⟩⟩
  |succ cap'=>
   obtain⟨cs0,hc,_⟩:=hcell 0 (by omega);obtain⟨_,hlen0,hat0⟩:=World.cells?_some hc;have hat0:=hat0 0 (by omega);have hx0:=List.getElem?_eq_getElem (l:=cs0) (i:=0) (by omega);obtain⟨hb,hs⟩:=cell_lt (v:=cs0[0]'(by omega)) (by rw[hat0];exact hx0);have hb:a.block<w.heap.size:=by simpa[Addr.add]using hb
   have hs:a.spot=none:=by simpa[Addr.add]using hs
   have ea:a=⟨a.block,a.off,none⟩:=by cases a;simp_all
   obtain⟨ρ1,ext,xs,cs,m1,le1,h1,h2,h3,h4,h5⟩:=Im.rowsK op m hs (fun i hi=>let⟨c,q1,q2⟩:=hcell i (by omega);⟨c,q1,_,q2⟩) len (Nat.le_refl _);have h2:cs.length=len*1:=h2;have m':=m1.row 1 a.block a.off cap cs hb h3;have hnew:vl (l++(ext++[.row .ro 1 cs])) (l++ext).length=some cs:=by
    unfold vl;rw[<-List.append_assoc,List.getElem?_append_right (Nat.le_refl _),Nat.sub_self];simp
   refine⟨_,ext++[.row .ro 1 cs],.slice (some ⟨(l++ext).length,0,none⟩) len openCap,xs,by rw[<-List.append_assoc];exact m',RMap.le_trans le1 (upR_le m1 _),?_,⟨.inr ⟨(l++ext).length,0,openCap,cs,by rw[h1],hnew,fun i x hx=>?_⟩,fun e=>.inr ⟨(l++ext).length,openCap,?_⟩,fun hm a k c e=>by cases e;exact CapOk.opn (by omega)⟩⟩
   ·rw[ea];have e:upR ρ1 (l++ext).length ⟨a.block,a.off,cap⟩ (l++ext).length=some ⟨a.block,a.off,cap⟩:=by unfold upR;rw[if_pos rfl]
    rw[<-hc0];exact VR.slo e (by decide) (Nat.add_comm _ _) hlc
   ·have hlt:=(List.getElem?_eq_some_iff.1 hx).1;have q:=h4 i x hx;have q:(cs.drop (i*1)).take 1=[.int .i64 x]:=q;refine⟨by show 0+i*1+1<=_;omega,?_⟩
    show(cs.drop (0+i*1)).take 1=[.int .i64 x]
    rw[Nat.zero_add];exact q
   ·have:xs.length=0:=by rw[e];rfl
    have hl:len=0:=by omega
    rw[hl]
theorem PH.abs_list{h:PH}{l:List AObj}(hn:h.n=l.length)(hz:h.fz=0)(hr: ∀b,h.raw b=l[b]?):h.abs=l:=by
 apply List.ext_getElem?
 intro i
 show((List.range h.n).map fun i=>frz (Nat.blt i h.fz) ((h.br.get i).getD .dead))[i]?=l[i]?
 rw[List.getElem?_map]
 by_cases hi:i<h.n
 ·have hl:l[i]?=some l[i]:=List.getElem?_eq_getElem (by omega);have hb:Nat.blt i h.fz=false:=by rw[hz];rfl
  have hg:h.br.get i=some l[i]:=by rw[<-PH.raw_lt hi,hr,hl]
  rw[List.getElem?_range hi,hl];simp only[Option.map_some,hb,hg,Option.getD_some,frz]
 ·rw[List.getElem?_eq_none (by simp;omega),List.getElem?_eq_none (by omega)];rfl
theorem VR.av{w:World}{ρ:RMap}{l:Heap}(m:Im w ρ l){x y:Value}(h:VR ρ x y)(hx:(∃k z,x= .int k z)\/ ∃a n c,x= .slice a n c){q k:Nat}(hq:l.length<=q):avV0 q k x=true:=by
 have hlt: ∀{b:Nat}{L:RLoc},ρ b=some L->b<l.length:=fun h=>m.rel.fin _ _ h;rcases hx with⟨k,z,rfl⟩|⟨a,n,c,rfl⟩
 ·rfl
 ·cases h with
  |snil=>rfl
  |sl h _=>exact av1_t (by have:=hlt h;omega)
  |slo h _ _ _=>exact av1_t (by have:=hlt h;omega)
  |slz h _ _=>exact av1_t (by have:=hlt h;omega)
  |sl0 h=>exact av1_t (by have:=hlt h;omega)
end Go.Am
namespace Go.Am
open Go Go.RowKit Go.Proofs
theorem oneCells_zv(l:List Int):oneCells (zv l)=true:=by
 unfold oneCells zv;rw[List.all_map];exact List.all_eq_true.2 fun x _=>rfl
theorem RdV.slc{V:Vw}{v:Value}{l:List Int}(r:RdV (rI .i64) V v l)(hl:l≠[]): ∃b o c cs,v= .slice (some ⟨b,o,none⟩) l.length c/\V b=some cs/\o+l.length<=cs.length/\(cs.drop o).take l.length=zv l:=by
 rcases r with⟨rfl,_⟩|⟨b,o,c,cs,rfl,h1,h2⟩
 ·exact absurd rfl hl
 ·have h3: ∀(i:Nat) z,l[i]?=some z->o+i+1<=cs.length/\cs[o+i]?=some (.int .i64 z):=fun i z hz=>by
   obtain⟨q1,q2⟩:=h2 i z hz;have q1:o+i*1+1<=cs.length:=q1;have q2:(cs.drop (o+i*1)).take 1=[.int .i64 z]:=q2;rw[Nat.mul_one]at q1 q2;rw[List.drop_eq_getElem_cons (by omega),List.take_succ_cons,List.take_zero]at q2;refine⟨q1,?_⟩;rw[List.getElem?_eq_getElem (by omega)];exact congrArg some (List.cons.inj q2).1
  have hpos:0<l.length:=List.length_pos_iff.2 hl;have hle:=(h3 (l.length-1) _ (List.getElem?_eq_getElem (by omega))).1;refine⟨b,o,c,cs,rfl,h1,by omega,?_⟩
  apply List.ext_getElem?
  intro i
  by_cases hi:i<l.length
  ·rw[List.getElem?_take,if_pos hi,List.getElem?_drop,zv_get (List.getElem?_eq_getElem hi)];exact(h3 i _ (List.getElem?_eq_getElem hi)).2
  ·rw[List.getElem?_eq_none (by rw[List.length_take];omega),List.getElem?_eq_none (by rw[zv_len];omega)]
section
variable {Q:Value->PH->Prop}{n:Nat}{cl ih:CL}{h h0:PH}{S:Vw}{m:OM}{rows rest rows1 ex exP exL:Rws}{g:Gr}{rv fv cv kv kvs lv nv nlv pv:Value}{ks:List Int}{c:Nat}
end
end Go.Am
namespace Go.Am
open Go Go.RowKit Go.Proofs Go.ChangeShapes Go.WideShapes
end Go.Am
namespace Go.Am
open Go Go.RowKit Go.Proofs
section
variable {Q:Value->PH->Prop}{n:Nat}{cl ih:CL}{h h0:PH}{S:Vw}{m:OM}{rows rest rows1 ex exP exL:Rws}{g:Gr}{rv fv cv kv kvs lv nv nlv pv:Value}{ks:List Int}{c:Nat}
end
inductive DvR(g:Gr)(ks:List Int):List Int->Nat->Nat->Prop
 |nil {i:Nat}:DvR g ks [] i i
 |kind {s k:Int} {l:List Int} {i j:Nat}:s<0->ks[i]?=some k->k= -1-s->DvR g ks l (i+1) j->DvR g ks (s::l) i j
 |name {r:Rl} {l:List Int} {i m j:Nat}:r∈g.rules->0<=r.left->DvR g ks r.right i m->DvR g ks l m j->DvR g ks (r.left::l) i j
section
variable {g:Gr}{ks:List Int}{k:Int}
theorem DvR.le{l:List Int}{i j:Nat}(h:DvR g ks l i j):i<=j:=by
 induction h with
 |nil=>exact Nat.le_refl _
 |kind _ _ _ _ ih=>omega
 |name _ _ _ _ ih1 ih2=>omega
theorem DvR.app{l l':List Int}{i m j:Nat}(h:DvR g ks l i m)(h':DvR g ks l' m j):DvR g ks (l++l') i j:=by
 induction h with
 |nil=>exact h'
 |kind a b c _ ih=>exact .kind a b c (ih h')
 |name a b c _ _ ih2=>exact .name a b c (ih2 h')
theorem DvR.into{l:List Int}{i j:Nat}(h:DvR g ks l i j)(hi:i<=ks.length):j<=ks.length:=by
 induction h with
 |nil=>exact hi
 |kind _ h2 _ _ ih=>exact ih (List.getElem?_eq_some_iff.1 h2).1
 |name _ _ _ _ ih1 ih2=>exact ih2 (ih1 hi)
theorem take_snoc'{l:List Int}{a:Nat}{s:Int}(h:l[a]?=some s):l.take (a+1)=l.take a++[s]:=by
 rw[List.take_add_one,h];rfl
end
abbrev lfv(N:Nat)(b:Nat):Value:=.slice (some ⟨b,0,none⟩) N N
def ent3(N:Nat)(T:List (List Bool))(a i j:Nat):Prop:=i<N/\ ∃r,T[a*N+i]?=some r/\r[j]?=some true
structure Tb(A N:Nat)(T:List (List Bool)):Prop where
 len:T.length=A*N
 row: ∀r∈T,r.length=N
 up: ∀a i j,ent3 N T a i j->i<=j
theorem idx_lt{A N a i:Nat}(ha:a<A)(hi:i<N):a*N+i<A*N:=by
 have:(a+1)*N<=A*N:=Nat.mul_le_mul_right N ha;rw[Nat.add_mul,Nat.one_mul]at this;omega
theorem idx_inj{N a i b j:Nat}(hi:i<N)(hj:j<N)(h:a*N+i=b*N+j):a=b/\i=j:=by
 have h1:(a*N+i) / N=a:=by
  rw[Nat.mul_comm,Nat.mul_add_div (by omega),Nat.div_eq_of_lt hi];rfl
 have h2:(b*N+j) / N=b:=by
  rw[Nat.mul_comm,Nat.mul_add_div (by omega),Nat.div_eq_of_lt hj];rfl
 have:a=b:=by rw[<-h1,h,h2]
 subst this;exact⟨rfl,by omega⟩
theorem Tb.at{A N a i:Nat}{T:List (List Bool)}(t:Tb A N T)(ha:a<A)(hi:i<N): ∃r,T[a*N+i]?=some r/\r.length=N:=by
 have h:=List.getElem?_eq_getElem (l:=T) (i:=a*N+i) (by rw[t.len];exact idx_lt ha hi);exact⟨_,h,t.row _ (List.mem_of_getElem? h)⟩
def Stp(ks:List Int)(N:Nat)(T:List (List Bool))(s:Int)(i m:Nat):Prop:=(s<0/\ks[i]?=some (-1-s)/\m=i+1)\/(0<=s/\ent3 N T s.toNat i m)
def Rw(ks:List Int)(N:Nat)(T:List (List Bool)):List Int->Nat->Nat->Prop
 | [],i,j=>i=j
 |s::l,i,j=> ∃m,Stp ks N T s i m/\Rw ks N T l m j
theorem Rw.snoc{ks:List Int}{N:Nat}{T:List (List Bool)}{s:Int}: ∀{l:List Int}{i j:Nat},Rw ks N T (l++[s]) i j↔ ∃m,Rw ks N T l i m/\Stp ks N T s m j
 | [],i,j=>⟨fun⟨m,h,e⟩=>⟨i,rfl,by have e:m=j:=e;subst e;exact h⟩,fun⟨m,e,h⟩=>⟨j,by have e:i=m:=e;subst e;exact h,rfl⟩⟩
 |t::l,i,j=>by
  constructor
  ·rintro⟨m,h,h'⟩;obtain⟨q,h1,h2⟩:=Rw.snoc.1 h';exact⟨q,⟨m,h,h1⟩,h2⟩
  ·rintro⟨q,⟨m,h,h1⟩,h2⟩;exact⟨m,h,Rw.snoc.2 ⟨q,h1,h2⟩⟩
theorem Stp.le{A N:Nat}{ks:List Int}{T:List (List Bool)}(t:Tb A N T){s:Int}{i m:Nat}(h:Stp ks N T s i m):i<=m:=by
 rcases h with⟨_,_,e⟩|⟨_,h⟩
 ·omega
 ·exact t.up _ _ _ h
theorem Rw.le{A N:Nat}{ks:List Int}{T:List (List Bool)}(t:Tb A N T): ∀{l:List Int}{i j:Nat},Rw ks N T l i j->i<=j
 | [],i,j,h=>Nat.le_of_eq h
 |s::l,i,j,⟨m,h1,h2⟩=>Nat.le_trans (h1.le t) (Rw.le t h2)
theorem SlC.at1{V:Vw}{v:Value}{k i:Nat}{cells:List Value}{x:Value}(r:SlC V 1 v k cells)(hi:cells[i]?=some x): ∃b o cs,xIdxS 1 v (.int .i64 (i:Nat))=some (.pointer (some ⟨b,o,none⟩))/\V b=some cs/\cs[o]?=some x:=by
 rcases r with⟨_,rfl,_⟩|⟨b,o,c,cs,rfl,h1,h2,rfl⟩
 ·simp at hi
 ·rw[List.getElem?_take]at hi
  split at hi
  ·rw[List.getElem?_drop]at hi;exact⟨b,o+i,cs,by rw[xIdxS_at (by omega) (by omega)];simp,h1,hi⟩
  ·cases hi
structure EnV(V:Vw)(N:Nat)(v:Value)(A:Nat)(L:List Nat):Prop where
 h: ∃W:List Value,W.length=A/\SlC V 1 v A W/\ ∀a w,W[a]?=some w->SlC V 1 w N (((L.drop (a*N)).take N).map (lfv N))
 len:L.length=A*N
def LfV(V:Vw)(L:List Nat)(T:List (List Bool)):Prop:= ∀(x:Nat) b r,L[x]?=some b->T[x]?=some r->V b=some (bv r)
structure ChV(V:Vw)(cp:Nat)(g:Gr)(rv fv cv kv kw ew:Value)(ks:List Int)(L:List Nat):Prop where
 cell:V cp=some (gcs g rv fv cv kv++[kw,ew])
 kinds:RdV (rI .i64) V kw ks
 ends:EnV V (ks.length+1) ew g.names.toNat L
theorem EnV.mono{V W:Vw}{N A:Nat}{v:Value}{L:List Nat}(hs:Vw.le V W)(e:EnV V N v A L):EnV W N v A L:=by
 obtain⟨w,h1,h2,h3⟩:=e.h;exact⟨⟨w,h1,h2.mono hs,fun a x hx=>(h3 a x hx).mono hs⟩,e.len⟩
theorem ChV.mono{V W:Vw}{cp:Nat}{g:Gr}{rv fv cv kv kw ew:Value}{ks:List Int}{L:List Nat}(hs:Vw.le V W)(e:ChV V cp g rv fv cv kv kw ew ks L):ChV W cp g rv fv cv kv kw ew ks L:=⟨hs _ _ e.cell,e.kinds.mono hs,e.ends.mono hs⟩
theorem EnV.two{V:Vw}{N A a i b:Nat}{v:Value}{L:List Nat}(e:EnV V N v A L)(ha:a<A)(hi:i<N)(hb:L[a*N+i]?=some b):
  ∃b1 o1 c1 w b2 o2 c2,xIdxS 1 v (.int .i64 (a:Nat))=some (.pointer (some ⟨b1,o1,none⟩))/\V b1=some c1/\c1[o1]?=some w/\xIdxS 1 w (.int .i64 (i:Nat))=some (.pointer (some ⟨b2,o2,none⟩))/\V b2=some c2/\c2[o2]?=some (lfv N b):=by
 obtain⟨W,h1,h2,h3⟩:=e.h;have hw:=List.getElem?_eq_getElem (l:=W) (i:=a) (by omega);obtain⟨b1,o1,c1,q1,q2,q3⟩:=h2.at1 hw;obtain⟨b2,o2,c2,p1,p2,p3⟩:=(h3 a _ hw).at1 (i:=i) (x:=lfv N b) (by rw[List.getElem?_map,List.getElem?_take,if_pos hi,List.getElem?_drop,hb];rfl);exact⟨b1,o1,c1,_,b2,o2,c2,q1,q2,q3,p1,p2,p3⟩
theorem bv_get{r:List Bool}{j:Nat}{x:Bool}(h:r[j]?=some x):(bv r)[j]?=some (.bool x):=by simp[bv,h]
theorem lfv_at{N b j:Nat}(hj:j<N):xIdxS 1 (lfv N b) (.int .i64 (j:Nat))=some (.pointer (some ⟨b,j,none⟩)):=by
 rw[xIdxS_at (by omega) (by omega)];simp
theorem set_true'{B:List Bool}{k j:Nat}{x:Bool}(hk:k<B.length):(B.set k x)[j]?=some true↔((j=k/\x=true)\/(j≠k/\B[j]?=some true)):=by
 by_cases e:k=j
 ·subst e;rw[List.getElem?_set_self hk];simp
 ·rw[List.getElem?_set_ne e];have: ¬ j=k:=fun h=>e h.symm;simp[this]
section
variable {Q:Value->PH->Prop}{n:Nat}{cl:CL}{h h0:PH}{S:Vw}{m:OM}{rows rest:Rws}{cp bn bo:Nat}{g:Gr}{rv fv cv kv kw ew qv:Value}{ks l:List Int}{L:List Nat}{T:List (List Bool)}
theorem loop29j(c:ChV S cp g rv fv cv kv kw ew ks L)(lf:LfV S L T)(t:Tb g.names.toNat (ks.length+1) T)(kl:ks.length<=2000)(rl:RdV (rI .i64) S qv l){k a i:Nat}(hk:l[k]?=some ((a:Nat):Int))(ha:a<g.names.toNat)(hi:i<=ks.length)(nb:g.names<=40){nowv fromv:Value}{Ki Kk:Kt}{next0:List Bool}
  (hK: ∀h next,Sl h0 h S m ((bn,.row .own 1 (bv next))::rows)->next.length=ks.length+1->(∀j:Nat,next[j]?=some true↔(next0[j]?=some true\/ent3 (ks.length+1) T a i j))->Ret (Kk [pt cp,qv,fromv,.int .i64 (ks.length:Nat),nowv,.int .i64 (k:Nat),lfv (ks.length+1) bn,.int .i64 (i:Nat)] h) Q):
  ∀(q j fu:Nat)(next:List Bool)(h:PH),ks.length+1=j+q->q<fu->i<=j->Sl h0 h S m ((bn,.row .own 1 (bv next))::rows)->next.length=ks.length+1->(∀y:Nat,next[y]?=some true↔(next0[y]?=some true\/(y<j/\ent3 (ks.length+1) T a i y)))->
   Ret (lp fu (F29_5 n cl Kk) [pt cp,qv,fromv,.int .i64 (ks.length:Nat),nowv,.int .i64 (k:Nat),lfv (ks.length+1) bn,.int .i64 (i:Nat),.int .i64 (j:Nat)] h) Q:=by
 have hlt:i<ks.length+1:=by omega
 obtain⟨r,hr,rl'⟩:=t.at ha hlt;obtain⟨b,hb⟩: ∃b,L[a*(ks.length+1)+i]?=some b:=⟨_,List.getElem?_eq_getElem (by rw[c.ends.len];exact idx_lt ha hlt)⟩;have hrow:=lf _ _ _ hb hr;intro q
 induction q with
 |zero=>
  intro j fu next h hq hf hij st hl hN;obtain⟨fu,rfl⟩: ∃q,fu=q+1:=⟨fu-1,by omega⟩;rw[lp_succ];have dc:decide (((j:Nat):Int)<=((ks.length:Nat):Int))=false:=decide_eq_false (by omega);simp only[F29_5,ucons_cons,F29_4,xLe_i,dc,vb_some,bite_f];refine hK h next st hl fun y=>?_;rw[hN];constructor
  ·rintro(h|⟨_,h⟩)
   ·exact .inl h
   ·exact .inr h
  ·rintro(h|h)
   ·exact .inl h
   ·refine .inr ⟨?_,h⟩;obtain⟨_,r',e1,e2⟩:=h;rw[hr]at e1;cases e1;have:=(List.getElem?_eq_some_iff.1 e2).1;omega
 |succ q ih=>
  intro j fu next h hq hf hij st hl hN;obtain⟨fu,rfl⟩: ∃q,fu=q+1:=⟨fu-1,by omega⟩;rw[lp_succ];have dc:decide (((j:Nat):Int)<=((ks.length:Nat):Int))=true:=decide_eq_true (by omega);have hx:=List.getElem?_eq_getElem (l:=next) (i:=j) (by omega);have hx':=List.getElem?_eq_getElem (l:=r) (i:=j) (by omega);have e8:(gcs g rv fv cv kv++[kw,ew])[8]?=some ew:=rfl;obtain⟨b1,o1,c1,w,b2,o2,c2,q1,q2,q3,p1,p2,p3⟩:=c.ends.two ha hlt hb;obtain⟨b3,o3,c3,u1,u2,u3⟩:=rl.atI hk;have i1:xIdxS 1 (lfv (ks.length+1) bn) (.int .i64 (j:Nat))=some (.pointer (some ⟨bn,j,none⟩)):=lfv_at (by omega);have l1:xLd (.pointer (some ⟨bn,j,none⟩)) h=some (.bool next[j]):=st.ld (.head _) (bv_get hx);have lz:xLd (.pointer (some ⟨b3,o3,none⟩)) h=some (.int .i64 ((a:Nat):Int)):=st.ldS u2 u3;have le:xLd (.pointer (some ⟨cp,8,none⟩)) h=some ew:=st.ldS c.cell e8;have lw:xLd (.pointer (some ⟨b1,o1,none⟩)) h=some w:=st.ldS q2 q3;have ll:xLd (.pointer (some ⟨b2,o2,none⟩)) h=some (lfv (ks.length+1) b):=st.ldS p2 p3;have i2:xIdxS 1 (lfv (ks.length+1) b) (.int .i64 (j:Nat))=some (.pointer (some ⟨b,j,none⟩)):=lfv_at (by omega);have lx:xLd (.pointer (some ⟨b,j,none⟩)) h=some (.bool r[j]):=st.ldS hrow (bv_get hx');have hset: ∀x:Bool,((next0[j]?=some true\/(j<j+1/\ent3 (ks.length+1) T a i j))↔x=true)->
    Ret (Go.Am.hb (xSt1 (.pointer (some ⟨bn,j,none⟩)) (.bool x) h) fun _ h=>vb (xAri Int.add (.int .i64 (j:Nat)) (vN 1)) fun k1=>lp fu (F29_5 n cl Kk) [pt cp,qv,fromv,.int .i64 (ks.length:Nat),nowv,.int .i64 (k:Nat),lfv (ks.length+1) bn,.int .i64 (i:Nat),k1] h) Q:=by
   intro x hx;refine Ret.lst1 st 0 rfl rfl (by simp[bv];omega) rfl fun h' st'=>?_;have ev:(bv next).set j (.bool x)=bv (next.set j x):=by simp[bv]
   rw[ev]at st';simp only[vN_eq,xAdd_i,vb_some,show(((1:Nat):Int))=1 from rfl,wrap1 (i:=j) (by omega)];refine ih (j+1) fu (next.set j x) h' (by omega) (by omega) (by omega) st' (by simp[hl]) fun y=>?_;rw[set_true' (by omega)]
   by_cases e:y=j
   ·subst e;rw[hx];simp
   ·rw[hN];constructor
    ·rintro(⟨h,_⟩|⟨_,h|⟨h1,h2⟩⟩)
     ·exact absurd h e
     ·exact .inl h
     ·exact .inr ⟨by omega,h2⟩
    ·rintro(h|⟨h1,h2⟩)
     ·exact .inr ⟨e,.inl h⟩
     ·exact .inr ⟨e,.inr ⟨by omega,h2⟩⟩
  simp only[F29_5,ucons_cons,F29_4,xLe_i,dc,vb_some,bite_t,F29_3,i1,l1];have hent:ent3 (ks.length+1) T a i j↔r[j]=true:=by
   constructor
   ·rintro⟨_,r',e1,e2⟩;rw[hr]at e1;cases e1;rw[hx']at e2;simpa using e2
   ·intro e;exact⟨hlt,r,hr,by rw[hx',e]⟩
  cases hb1:next[j]with
  |true=>
   have u0: ∀o:Option Value,gd (isB false (.bool true)) o=some undef:=fun o=>rfl;simp only[u0,vb_some,xPick_t,tt_eq];refine hset true ?_;rw[hb1]at hx;rcases(hN j).1 hx with h|h
   ·simp[h]
   ·exact absurd h.1 (Nat.lt_irrefl _)
  |false=>
   have u1': ∀o:Option Value,gd (isB false (.bool false)) o=o:=fun o=>rfl;simp only[u1',vb_some,xNil_p,xFld_p,Nat.zero_add,u1,lz,le,q1,lw,p1,ll,i2,lx,xPick_f];refine hset r[j] ?_;rw[hb1]at hx;have hno: ¬ next0[j]?=some true:=fun h=>by
    have:=(hN j).2 (.inl h);rw[hx]at this;cases this
   rw[<-hent];simp[hno]
theorem loop29i(c:ChV S cp g rv fv cv kv kw ew ks L)(lf:LfV S L T)(t:Tb g.names.toNat (ks.length+1) T)(hn:9223372036854775808<=n)(kl:ks.length<=2000)(rl:RdV (rI .i64) S qv l){k i0:Nat}{s:Int}(hk:l[k]?=some s)(k8:k<=1000000)(hs:isSym g.names g.kinds s=true)(nb:g.names<=40)(kb:g.kinds<=40){Ko:Kt}{now:List Bool}(nl:now.length=ks.length+1)
  (hK: ∀h next,Sl h0 h S m ((bn,.row .own 1 (bv next))::(bo,.row .own 1 (bv now))::rows)->next.length=ks.length+1->(∀j:Nat,next[j]?=some true↔ ∃i:Nat,i0<=i/\now[i]?=some true/\Stp ks (ks.length+1) T s i j)->Ret (Ko [pt cp,qv,.int .i64 (i0:Nat),.int .i64 (ks.length:Nat),lfv (ks.length+1) bn,.int .i64 ((k+1:Nat):Int)] h) Q):
  ∀(q i fu:Nat)(next:List Bool)(h:PH),ks.length+1=i+q->q<fu->i0<=i->Sl h0 h S m ((bn,.row .own 1 (bv next))::(bo,.row .own 1 (bv now))::rows)->next.length=ks.length+1->(∀j:Nat,next[j]?=some true↔ ∃i':Nat,i0<=i'/\i'<i/\now[i']?=some true/\Stp ks (ks.length+1) T s i' j)->
   Ret (lp fu (F29_11 n cl Ko) [pt cp,qv,.int .i64 (i0:Nat),.int .i64 (ks.length:Nat),lfv (ks.length+1) bo,.int .i64 (k:Nat),lfv (ks.length+1) bn,.int .i64 (i:Nat)] h) Q:=by
 intro q
 induction q with
 |zero=>
  intro i fu next h hq hf hii st hl hN;obtain⟨fu,rfl⟩: ∃q,fu=q+1:=⟨fu-1,by omega⟩;rw[lp_succ];have dc:decide (((i:Nat):Int)<=((ks.length:Nat):Int))=false:=decide_eq_false (by omega);simp only[F29_11,ucons_cons,F29_10,xLe_i,dc,vb_some,bite_f,F29_9,vN_eq,xAdd_i,show(((1:Nat):Int))=1 from rfl,wrap1 (i:=k) (by omega)];refine hK h next st hl fun j=>?_;rw[hN];constructor
  ·rintro⟨i',h1,h2,h3⟩;exact⟨i',h1,h3⟩
  ·rintro⟨i',h1,h3⟩;have:=(List.getElem?_eq_some_iff.1 h3.1).1;exact⟨i',h1,by omega,h3⟩
 |succ q ih=>
  intro i fu next h hq hf hii st hl hN;obtain⟨fu,rfl⟩: ∃q,fu=q+1:=⟨fu-1,by omega⟩;rw[lp_succ];have dc:decide (((i:Nat):Int)<=((ks.length:Nat):Int))=true:=decide_eq_true (by omega);have hx:=List.getElem?_eq_getElem (l:=now) (i:=i) (by omega);have i1:xIdxS 1 (lfv (ks.length+1) bo) (.int .i64 (i:Nat))=some (.pointer (some ⟨bo,i,none⟩)):=lfv_at (by omega);have l1:xLd (.pointer (some ⟨bo,i,none⟩)) h=some (.bool now[i]):=st.ld (.tail _ (.head _)) (bv_get hx);simp only[F29_11,ucons_cons,F29_10,xLe_i,dc,vb_some,bite_t,jn_eq,F29_8,i1,l1,xNot_b];have hnext: ∀h' next',Sl h0 h' S m ((bn,.row .own 1 (bv next'))::(bo,.row .own 1 (bv now))::rows)->next'.length=ks.length+1->(∀j:Nat,next'[j]?=some true↔(next[j]?=some true\/(now[i]?=some true/\Stp ks (ks.length+1) T s i j)))->
    Ret (F29_7 n cl (lp fu (F29_11 n cl Ko)) [pt cp,qv,.int .i64 (i0:Nat),.int .i64 (ks.length:Nat),lfv (ks.length+1) bo,.int .i64 (k:Nat),lfv (ks.length+1) bn,.int .i64 (i:Nat)] h') Q:=by
   intro h' next' st' hl' hN';simp only[F29_7,ucons_cons,F29_0,vN_eq,xAdd_i,vb_some,show(((1:Nat):Int))=1 from rfl,wrap1 (i:=i) (by omega)];refine ih (i+1) fu next' h' (by omega) (by omega) (by omega) st' hl' fun j=>?_;rw[hN',hN];constructor
   ·rintro(⟨i',h1,h2,h3⟩|h3)
    ·exact⟨i',h1,by omega,h3⟩
    ·exact⟨i,hii,by omega,h3⟩
   ·rintro⟨i',h1,h2,h3⟩
    by_cases e:i'=i
    ·subst e;exact .inr h3
    ·exact .inl ⟨i',h1,by omega,h3⟩
  cases hb1:now[i]with
  |false=>
   simp only[Bool.not_false,bite_t];refine hnext h next st hl fun j=>?_;rw[hx,hb1];simp
  |true=>
   have hnow:now[i]?=some true:=by rw[hx,hb1]
   obtain⟨b3,o3,c3,u1,u2,u3⟩:=rl.atI hk;have lz:xLd (.pointer (some ⟨b3,o3,none⟩)) h=some (.int .i64 s):=st.ldS u2 u3;simp only[Bool.not_true,bite_f,F29_6,u1,lz,vb_some,vN_eq,show(((0:Nat):Int))=0 from rfl,xLt_i];unfold isSym isKind at hs;simp only[Bool.or_eq_true,decide_eq_true_eq]at hs
   by_cases h0s:s<0
   ·have hsk: -1-s<g.kinds:=by
     rcases hs with h|h
     ·first|exact h.2|(have:=isName_iff.1 h;omega)
     ·first|exact h.2|(have:=isName_iff.1 h;omega)
    have hw:IntKind.i64.wrap (-1-s)= -1-s:=wrap_in (by omega) (by omega);have eM:vM 0= .int .i64 (-1):=rfl;have e7:(gcs g rv fv cv kv++[kw,ew])[7]?=some kw:=rfl;have l7:xLd (.pointer (some ⟨cp,7,none⟩)) h=some kw:=st.ldS c.cell e7;simp only[decide_eq_true h0s,bite_t,F29_2,xLt_i,vb_some]
    by_cases hin:i<ks.length
    ·have d2:decide (((i:Nat):Int)<((ks.length:Nat):Int))=true:=decide_eq_true (by omega);have hki:=List.getElem?_eq_getElem (l:=ks) (i:=i) hin;generalize ks[i]=kd at hki;obtain⟨b4,o4,c4,v1,v2,v3⟩:=c.kinds.atI hki;have l4:xLd (.pointer (some ⟨b4,o4,none⟩)) h=some (.int .i64 kd):=st.ldS v2 v3;have t1: ∀o:Option Value,gd (isB true (.bool true)) o=o:=fun o=>rfl;simp only[d2,t1,vb_some,xNil_p,xFld_p,Nat.zero_add,u1,l7,v1,l4,lz,eM,xSub_i,hw,xEq_i,xPick_t]
     by_cases hkd:kd= -1-s
     ·simp only[decide_eq_true hkd,bite_t,F29_1,vN_eq,xAdd_i,vb_some,show(((1:Nat):Int))=1 from rfl,wrap1 (i:=i) (by omega),tt_eq];have i2:xIdxS 1 (lfv (ks.length+1) bn) (.int .i64 ((i+1:Nat):Int))=some (.pointer (some ⟨bn,i+1,none⟩)):=lfv_at (by omega);simp only[i2,vb_some];refine Ret.lst1 st 0 rfl rfl (by simp[bv];omega) rfl fun h' st'=>?_;have ev:(bv next).set (i+1) (.bool true)=bv (next.set (i+1) true):=by simp[bv]
      rw[ev]at st';refine hnext h' _ st' (by simp[hl]) fun j=>?_;rw[set_true' (by omega)]
      by_cases e:j=i+1
      ·subst e;have:Stp ks (ks.length+1) T s i (i+1):=.inl ⟨h0s,by rw[hki,hkd],rfl⟩;simp[hnow,this]
      ·have: ¬ Stp ks (ks.length+1) T s i j:=by
        rintro(⟨_,_,h⟩|⟨h,_⟩)
        ·exact e h
        ·omega
       simp[e,this]
     ·simp only[decide_eq_false hkd,bite_f];refine hnext h next st hl fun j=>?_;have: ¬ Stp ks (ks.length+1) T s i j:=by
       rintro(⟨_,h,_⟩|⟨h,_⟩)
       ·rw[hki]at h;cases h;exact hkd rfl
       ·omega
      simp[this]
    ·have d2:decide (((i:Nat):Int)<((ks.length:Nat):Int))=false:=decide_eq_false (by omega);have t0: ∀o:Option Value,gd (isB true (.bool false)) o=some undef:=fun o=>rfl;simp only[d2,t0,vb_some,xPick_f,ff_eq,bite_f];refine hnext h next st hl fun j=>?_;have: ¬ Stp ks (ks.length+1) T s i j:=by
      rintro(⟨_,h,_⟩|⟨h,_⟩)
      ·have:=(List.getElem?_eq_some_iff.1 h).1;omega
      ·omega
     simp[this]
   ·have hsn:s<g.names:=by
     rcases hs with h|h
     ·first|exact(isName_iff.1 h).2|omega
     ·first|exact(isName_iff.1 h).2|omega
    obtain⟨a,rfl⟩: ∃a:Nat,s=a:=⟨s.toNat,by omega⟩;simp only[decide_eq_false h0s,bite_f];refine loop29j c lf t kl rl hk (by omega) (by omega) nb (next0:=next) (rows:=(bo,.row .own 1 (bv now))::rows) (Ki:=Ko) (fun h' next' st' hl' hN'=>hnext h' next' st' hl' fun j=>?_) (ks.length+1-i) i n next h (by omega) (by omega) (Nat.le_refl _) st hl fun y=>?_
    ·rw[hN'];have:Stp ks (ks.length+1) T ((a:Nat):Int) i j↔ent3 (ks.length+1) T a i j:=by
      constructor
      ·rintro(⟨h,_⟩|⟨_,h⟩)
       ·omega
       ·rwa [Int.toNat_natCast]at h
      ·intro h;exact .inr ⟨by omega,by rwa [Int.toNat_natCast]⟩
     rw[this];simp[hnow]
    ·constructor
     ·intro h;exact .inl h
     ·rintro(h|⟨h1,h2⟩)
      ·exact h
      ·have:=t.up _ _ _ h2;omega
theorem rep_false{N j:Nat}: ¬(List.replicate N false)[j]?=some true:=by
 intro h;have:=List.mem_of_getElem? h;rw[List.mem_replicate]at this;cases this.2
theorem bv_rep{N:Nat}:bv (List.replicate N false)=List.replicate N (.bool false):=by simp[bv]
theorem loop29k(c:ChV S cp g rv fv cv kv kw ew ks L)(lf:LfV S L T)(t:Tb g.names.toNat (ks.length+1) T)(hn:9223372036854775808<=n)(kl:ks.length<=2000)(rl:RdV (rI .i64) S qv l)(l8:l.length<=1000)(hs: ∀s∈l,isSym g.names g.kinds s=true)(nb:g.names<=40)(kb:g.kinds<=40){i0:Nat}(hi0:i0<=ks.length)
  (hK: ∀h b now,Sl h0 h S m ((b,.row .own 1 (bv now))::rows)->now.length=ks.length+1->(∀j:Nat,now[j]?=some true↔Rw ks (ks.length+1) T l i0 j)->Q (lfv (ks.length+1) b) h):
  ∀(q k fu b:Nat)(now:List Bool)(h:PH),l.length=k+q->q<fu->Sl h0 h S m ((b,.row .own 1 (bv now))::rows)->now.length=ks.length+1->(∀j:Nat,now[j]?=some true↔Rw ks (ks.length+1) T (l.take k) i0 j)->
   Ret (lp fu (F29_14 n cl) [pt cp,qv,.int .i64 (i0:Nat),.int .i64 (ks.length:Nat),lfv (ks.length+1) b,.int .i64 (k:Nat)] h) Q:=by
 intro q
 induction q with
 |zero=>
  intro k fu b now h hq hf st hl hN;obtain⟨fu,rfl⟩: ∃q,fu=q+1:=⟨fu-1,by omega⟩;rw[lp_succ];have dc:decide (((k:Nat):Int)<((l.length:Nat):Int))=false:=decide_eq_false (by omega);simp only[F29_14,ucons_cons,F29_13,rl.lenV,xLt_i,dc,vb_some,bite_f];rw[List.take_of_length_le (by omega)]at hN;exact Ret.of (hK h b now st hl hN)
 |succ q ih=>
  intro k fu b now h hq hf st hl hN;obtain⟨fu,rfl⟩: ∃q,fu=q+1:=⟨fu-1,by omega⟩;rw[lp_succ];have dc:decide (((k:Nat):Int)<((l.length:Nat):Int))=true:=decide_eq_true (by omega);have hk:=List.getElem?_eq_getElem (l:=l) (i:=k) (by omega);have htk:=take_snoc' hk;generalize l[k]=s at hk htk;have hw:IntKind.i64.wrap (((ks.length:Nat):Int)+((1:Nat):Int))=((ks.length+1:Nat):Int):=by
   rw[wrap_in (by omega) (by omega)];omega
  simp only[F29_14,ucons_cons,F29_13,rl.lenV,xLt_i,dc,vb_some,bite_t,F29_12,vN_eq,xAdd_i,hw];refine Ret.lmk st zi47 (by omega) (by omega) (by omega) (by omega) fun h1 bn st1=>?_;rw[zrows1,Int.toNat_natCast]at st1;rw[Int.toNat_natCast, <-bv_rep]at*;refine loop29i c lf t hn kl rl hk (by omega) (hs s (List.mem_of_getElem? hk)) nb kb (now:=now) (i0:=i0) hl (fun h' next' st' hl' hN'=>?_) (ks.length+1-i0) i0 n _ h1 (by omega) (by omega) (Nat.le_refl _) st1 (by simp) fun j=>?_
  ·refine ih (k+1) fu bn next' h' (by omega) (by omega) (st'.drop (.cons_cons _ (List.sublist_cons_self _ _))) hl' fun j=>?_;rw[hN',htk,Rw.snoc];constructor
   ·rintro⟨i,h1,h2,h3⟩;exact⟨i,(hN i).1 h2,h3⟩
   ·rintro⟨i,h2,h3⟩;exact⟨i,Rw.le t h2,(hN i).2 h2,h3⟩
  ·constructor
   ·intro h;exact absurd h rep_false
   ·rintro⟨i',h1,h2,_⟩;omega
theorem c29[OkH h](hn:9223372036854775808<=n)(hS:Vw.le S h.cells)(c:ChV S cp g rv fv cv kv kw ew ks L)(lf:LfV S L T)(t:Tb g.names.toNat (ks.length+1) T)(kl:ks.length<=2000)(rl:RdV (rI .i64) S qv l)(l8:l.length<=1000)(hs: ∀s∈l,isSym g.names g.kinds s=true)(nb:g.names<=40)(kb:g.kinds<=40){i0:Nat}(hi0:i0<=ks.length):
  Fr h.fzn S (F29 n cl (pt cp) qv (.int .i64 (i0:Nat)) h.fzn) fun v ex=> ∃b now,v=lfv (ks.length+1) b/\ex=[(b,.row .own 1 (bv now))]/\now.length=ks.length+1/\ ∀j:Nat,now[j]?=some true↔Rw ks (ks.length+1) T l i0 j:=by
 unfold Fr F29;have st:Sl h.fzn h.fzn S OM.emp []:=Sl.start h.fzn (fun b cs e=>hS b cs e);have e7:(gcs g rv fv cv kv++[kw,ew])[7]?=some kw:=rfl;have l7:xLd (.pointer (some ⟨cp,7,none⟩)) h.fzn=some kw:=st.ldS c.cell e7;have hw:IntKind.i64.wrap (((ks.length:Nat):Int)+((1:Nat):Int))=((ks.length+1:Nat):Int):=by
  rw[wrap_in (by omega) (by omega)];omega
 simp only[xNil_p,vb_some,xFld_p,Nat.zero_add,l7,c.kinds.lenV,vN_eq,xAdd_i,hw];refine Ret.lmk st zi47 (by omega) (by omega) (by omega) (by omega) fun h1 b st1=>?_;rw[zrows1,Int.toNat_natCast]at st1;rw[Int.toNat_natCast, <-bv_rep]at*;have i1:xIdxS 1 (lfv (ks.length+1) b) (.int .i64 (i0:Nat))=some (.pointer (some ⟨b,i0,none⟩)):=lfv_at (by omega);simp only[i1,vb_some,tt_eq];refine Ret.lst1 st1 0 rfl rfl (by simp[bv];omega) rfl fun h2 st2=>?_;have ev:(bv (List.replicate (ks.length+1) false)).set i0 (.bool true)=bv ((List.replicate (ks.length+1) false).set i0 true):=by simp[bv]
 rw[ev]at st2;refine loop29k c lf t hn kl rl l8 hs nb kb hi0 (fun h' b' now' st' hl' hN'=>⟨_,st',b',now',rfl,rfl,hl',hN'⟩) l.length 0 n b _ h2 (by omega) (by omega) st2 (by simp) fun j=>?_;rw[set_true' (by simp;omega),List.take_zero];constructor
 ·rintro(⟨h,_⟩|⟨_,h⟩)
  ·exact h.symm
  ·exact absurd h rep_false
 ·intro h;exact .inl ⟨(h:i0=j).symm,rfl⟩
end
def lrows(L:List Nat)(T:List (List Bool)):Rws:=List.zipWith (fun b r=>(b,AObj.row .own 1 (bv r))) L T
theorem lrows_snoc{L:List Nat}{T:List (List Bool)}{b:Nat}{r:List Bool}(h:L.length=T.length):lrows (L++[b]) (T++[r])=lrows L T++[(b,.row .own 1 (bv r))]:=by
 unfold lrows;rw[List.zipWith_append h];rfl
theorem lrows_app{L L':List Nat}{T T':List (List Bool)}(h:L.length=T.length):lrows (L++L') (T++T')=lrows L T++lrows L' T':=by
 unfold lrows;rw[List.zipWith_append h]
theorem lrows_get{L:List Nat}{T:List (List Bool)}{x b:Nat}{r:List Bool}(h1:L[x]?=some b)(h2:T[x]?=some r):(lrows L T)[x]?=some (b,.row .own 1 (bv r)):=by
 unfold lrows;rw[List.getElem?_zipWith,h1,h2]
theorem lrows_set: ∀{L:List Nat}{T:List (List Bool)}{x b:Nat}{r:List Bool},L[x]?=some b->(lrows L T).set x (b,.row .own 1 (bv r))=lrows L (T.set x r)
 | [],_,x,b,r,h=>by simp at h
 |q::L,[],x,b,r,h=>rfl
 |q::L,t::T,0,b,r,h=>by simp at h;subst h;rfl
 |q::L,t::T,x+1,b,r,h=>by
  have h:L[x]?=some b:=by simpa using h
  show(_::(lrows L T).set x (b,.row .own 1 (bv r)))=_::lrows L (T.set x r)
  rw[lrows_set h]
theorem perm_a{α:Type}(A E X:List α):(A++(E++X)).Perm (E++(A++X)):=by
 rw[<-List.append_assoc, <-List.append_assoc];exact List.perm_append_comm.append_right _
theorem perm_b{α:Type}(A E X:List α):(A++(E++X)).Perm ((E++A)++X):=by
 rw[<-List.append_assoc];exact List.perm_append_comm.append_right _
section
variable {Q:Value->PH->Prop}{n:Nat}{cl:CL}{h h0:PH}{S:Vw}{m:OM}{rows rest:Rws}{cp gp:Nat}{g:Gr}{rv fv cv kv kw ew qv kvs:Value}{ks l:List Int}{L:List Nat}{T:List (List Bool)}
theorem LfV_all(st:Sl h0 h S m (lrows L T++rest)):LfV (vall S (over (lrows L T) OM.emp)) L T:=by
 intro x b r h1 h2;have nd:=st.nd;rw[List.pairwise_append]at nd;exact vall_m (over_mem nd.1 (List.mem_of_getElem? (lrows_get h1 h2)))
theorem LfV.mono{V W:Vw}(hs:Vw.le V W)(f:LfV V L T):LfV W L T:=fun x b r h1 h2=>hs _ _ (f x b r h1 h2)
theorem bs71{N b:Nat}:bsRow Tryd.prog 71 1 [(0,lfv N b)]=some (1,[lfv N b]):=by kernel_rfl
theorem ai71:appInfo Tryd.prog #[71,71]=some (1,24):=by kernel_rfl
theorem ai68:appInfo Tryd.prog #[68,68]=some (1,24):=by kernel_rfl
theorem bs68{b o k c:Nat}:bsRow Tryd.prog 68 1 [(0,.slice (some ⟨b,o,none⟩) k c)]=some (1,[.slice (some ⟨b,o,none⟩) k c]):=by kernel_rfl
theorem ab70{b o k c:Nat}:abuild Tryd.prog 70 [(0,.agg ⟨gcs g rv fv cv kv⟩),(1,.slice (some ⟨b,o,none⟩) k c)]=some (.agg ⟨gcs g rv fv cv kv++[.slice (some ⟨b,o,none⟩) k c,nils]⟩):=by kernel_rfl
theorem ab70n:abuild Tryd.prog 70 [(0,.agg ⟨gcs g rv fv cv kv⟩),(1,nils)]=some (.agg ⟨gcs g rv fv cv kv++[nils,nils]⟩):=by kernel_rfl
set_option maxRecDepth 100000 in
theorem loop12i(hn:9223372036854775808<=n){N:Nat}(kl:N<=2000){gptr cptr av:Value}{Ko:Kt}{R:Rws}
  (hK: ∀h S' rv' Ln,VwN h0 S S'->Sl h0 h S' m (lrows Ln (List.replicate (N+1) (List.replicate (N+1) false))++R)->Ln.length=N+1->SlC S' 1 rv' (N+1) (Ln.map (lfv (N+1)))->(∃b o k c,rv'= .slice (some ⟨b,o,none⟩) k c)->Ret (F12_1 n cl cptr rv' av Ko gptr (.int .i64 (N:Nat)) h) Q):
  ∀(q i fu:Nat)(rv':Value)(Ln:List Nat)(ex:Rws)(h:PH),N+1=i+q->q<fu->Ln.length=i->Gl 1 rv' i (Ln.map (lfv (N+1))) ex->Sl h0 h S m (ex++(lrows Ln (List.replicate i (List.replicate (N+1) false))++R))->
   Ret (lp fu (F12_3 n cl Ko) [gptr,.int .i64 (N:Nat),cptr,av,rv',.int .i64 (i:Nat)] h) Q:=by
 intro q
 induction q with
 |zero=>
  intro i fu rv' Ln ex h hq hf hl gl st;obtain⟨fu,rfl⟩: ∃q,fu=q+1:=⟨fu-1,by omega⟩;rw[lp_succ];have dc:decide (((i:Nat):Int)<=((N:Nat):Int))=false:=decide_eq_false (by omega);have hi:i=N+1:=by omega
  subst hi;simp only[F12_3,ucons_cons,F12_2,xLe_i,dc,vb_some,bite_f];obtain⟨S',le',st',hA⟩:=Gl.settleV st gl;refine hK h S' rv' Ln le' st' hl hA ?_;rcases gl.h with⟨h,_⟩|⟨b,o,cap,all,rfl,_⟩
  ·omega
  ·exact⟨_,_,_,_,rfl⟩
 |succ q ih=>
  intro i fu rv' Ln ex h hq hf hl gl st;obtain⟨fu,rfl⟩: ∃q,fu=q+1:=⟨fu-1,by omega⟩;rw[lp_succ];have dc:decide (((i:Nat):Int)<=((N:Nat):Int))=true:=decide_eq_true (by omega);have hw:IntKind.i64.wrap (((N:Nat):Int)+((1:Nat):Int))=((N+1:Nat):Int):=by
   rw[wrap_in (by omega) (by omega)];omega
  simp only[F12_3,ucons_cons,F12_2,xLe_i,dc,vb_some,bite_t,F12_0,vN_eq,xAdd_i,hw];refine Ret.lmk st zi47 (by omega) (by omega) (by omega) (by omega) fun h1 b st1=>?_;rw[zrows1,Int.toNat_natCast]at st1;rw[Int.toNat_natCast, <-bv_rep]at*;have st2:=st1.perm (List.perm_middle.symm);have hsz:(2*(i+1)+512)*24<=281474976710656:=by omega
  refine Ret.gapp st2 gl bs71 ai71 rfl rfl hsz fun h3 v' ex' st3 g3=>?_;simp only[vN_eq,xAdd_i,vb_some,show(((1:Nat):Int))=1 from rfl,wrap1 (i:=i) (by omega)];have e:Ln.map (lfv (N+1))++[lfv (N+1) b]=(Ln++[b]).map (lfv (N+1)):=by simp
  rw[e]at g3;refine ih (i+1) fu v' (Ln++[b]) ex' h3 (by omega) (by omega) (by simp[hl]) g3 ?_;rw[List.replicate_succ',lrows_snoc (by simp[hl]),List.append_assoc];exact st3.perm (List.Perm.append_left _ List.perm_middle.symm)
structure Bld(S:Vw)(N a:Nat)(W:List Value)(L:List Nat):Prop where
 w:W.length=a
 l:L.length=a*N
 h: ∀x w,W[x]?=some w->SlC S 1 w N (((L.drop (x*N)).take N).map (lfv N))
theorem Bld.mono{S S':Vw}{N a:Nat}{W:List Value}{L:List Nat}(hs:Vw.le S S')(b:Bld S N a W L):Bld S' N a W L:=⟨b.w,b.l,fun x w hx=>(b.h x w hx).mono hs⟩
theorem Bld.snoc{S:Vw}{N a:Nat}{W:List Value}{L Ln:List Nat}{w:Value}(b:Bld S N a W L)(hl:Ln.length=N)(hw:SlC S 1 w N (Ln.map (lfv N))):Bld S N (a+1) (W++[w]) (L++Ln):=by
 refine⟨by simp[b.w],by rw[List.length_append,b.l,hl,Nat.add_mul,Nat.one_mul],fun x w' hx=>?_⟩
 by_cases e:x<a
 ·rw[List.getElem?_append_left (by rw[b.w];exact e)]at hx;have hle:x*N+N<=L.length:=by
   have:=Nat.mul_le_mul_right N (show x+1<=a from e);rw[Nat.add_mul,Nat.one_mul]at this;rw[b.l];exact this
  have h:=b.h x w' hx;rw[List.drop_append_of_le_length (by omega),List.take_append_of_le_length (by rw[List.length_drop];omega)];exact h
 ·have hx':=(List.getElem?_eq_some_iff.1 hx).1;rw[List.length_append,List.length_singleton,b.w]at hx';have e:x=a:=by omega
  subst e;rw[List.getElem?_append_right (by rw[b.w];exact Nat.le_refl _),b.w,Nat.sub_self]at hx;simp at hx;subst hx;have:(L++Ln).drop (x*N)=Ln:=by rw[<-b.l];simp
  rw[this, <-hl,List.take_length,hl];exact hw
set_option maxRecDepth 100000 in
theorem loop12a(hn:9223372036854775808<=n)(nb:0<=g.names/\g.names<=40)(kl:ks.length<=2000)
  (hK: ∀h S' ev W L ex,VwN h0 S S'->Gl 1 ev W.length W ex->Bld S' (ks.length+1) g.names.toNat W L->Sl h0 h S' m (ex++((cp,.row .own 1 (gcs g rv fv cv kv++[kw,ev]))::(lrows L (List.replicate L.length (List.replicate (ks.length+1) false))++((gp,.row .own 1 (gcs g rv fv cv kv))::rest))))->Ret (lp n (F12_18 n cl) [pt gp,.int .i64 (ks.length:Nat),pt cp,tt] h) Q):
  ∀(q a fu:Nat)(S1:Vw)(ev:Value)(W:List Value)(L:List Nat)(ex:Rws)(h:PH),g.names.toNat=a+q->q<fu->VwN h0 S S1->Gl 1 ev W.length W ex->Bld S1 (ks.length+1) a W L->Sl h0 h S1 m (ex++((cp,.row .own 1 (gcs g rv fv cv kv++[kw,ev]))::(lrows L (List.replicate L.length (List.replicate (ks.length+1) false))++((gp,.row .own 1 (gcs g rv fv cv kv))::rest))))->
   Ret (lp fu (F12_20 n cl) [pt gp,.int .i64 (ks.length:Nat),pt cp,.int .i64 (a:Nat)] h) Q:=by
 intro q
 induction q with
 |zero=>
  intro a fu S1 ev W L ex h hq hf le1 gl bl st;obtain⟨fu,rfl⟩: ∃q,fu=q+1:=⟨fu-1,by omega⟩;rw[lp_succ];have dc:decide (((a:Nat):Int)<g.names)=false:=decide_eq_false (by omega);have l0:xLd (.pointer (some ⟨gp,0,none⟩)) h=some (.int .i64 g.names):=st.ld (b:=gp) (e:=1) (md:=.own) (cs:=gcs g rv fv cv kv) (by simp) rfl;have ha:a=g.names.toNat:=by omega
  subst ha;simp only[F12_20,ucons_cons,F12_19,xFld_p,Nat.zero_add,l0,vb_some,xLt_i,dc,bite_f];exact hK h S1 ev W L ex le1 gl bl st
 |succ q ih=>
  intro a fu S1 ev W L ex h hq hf le1 gl bl st;obtain⟨fu,rfl⟩: ∃q,fu=q+1:=⟨fu-1,by omega⟩;rw[lp_succ];have dc:decide (((a:Nat):Int)<g.names)=true:=decide_eq_true (by omega);have l0:xLd (.pointer (some ⟨gp,0,none⟩)) h=some (.int .i64 g.names):=st.ld (b:=gp) (e:=1) (md:=.own) (cs:=gcs g rv fv cv kv) (by simp) rfl;simp only[F12_20,ucons_cons,F12_19,xFld_p,Nat.zero_add,l0,vb_some,xLt_i,dc,bite_t];refine loop12i (S:=S1) hn kl (fun h2 S2 rw2 Ln le2 st2 hl2 hC2 hsl=>?_) (ks.length+1) 0 n nils [] [] h (by omega) (by omega) rfl Gl.nil (by rw[List.nil_append];exact st);obtain⟨b2,o2,k2,c2,rfl⟩:=hsl;have e8:(gcs g rv fv cv kv++[kw,ev])[8]?=some ev:=rfl;have l8:xLd (.pointer (some ⟨cp,8,none⟩)) h2=some ev:=st2.ld (b:=cp) (e:=1) (md:=.own) (cs:=gcs g rv fv cv kv++[kw,ev]) (by simp) e8;unfold F12_1;simp only[xNil_p,vb_some,xFld_p,Nat.zero_add,l8];have hWl:W.length<=40:=by rw[bl.w];omega
  have hsz:(2*(W.length+1)+512)*24<=281474976710656:=by omega
  have st3:=st2.perm (rows':=ex++(lrows Ln (List.replicate (ks.length+1) (List.replicate (ks.length+1) false))++((cp,.row .own 1 (gcs g rv fv cv kv++[kw,ev]))::(lrows L (List.replicate L.length (List.replicate (ks.length+1) false))++((gp,.row .own 1 (gcs g rv fv cv kv))::rest))))) (perm_a _ _ _);refine Ret.gapp st3 gl bs68 ai68 rfl rfl hsz fun h4 ev' ex' st4 g4=>?_;have st5:=st4.perm ((List.perm_middle.append_left ex').trans List.perm_middle);refine Ret.lst1 st5 0 rfl rfl (by simp) (by exact g4.one) fun h6 st6=>?_;have st6:Sl h0 h6 S2 m ((cp,.row .own 1 (gcs g rv fv cv kv++[kw,ev']))::(ex'++(lrows Ln (List.replicate (ks.length+1) (List.replicate (ks.length+1) false))++(lrows L (List.replicate L.length (List.replicate (ks.length+1) false))++((gp,.row .own 1 (gcs g rv fv cv kv))::rest))))):=st6;have hrep:lrows (L++Ln) (List.replicate (L++Ln).length (List.replicate (ks.length+1) false))=lrows L (List.replicate L.length (List.replicate (ks.length+1) false))++lrows Ln (List.replicate (ks.length+1) (List.replicate (ks.length+1) false)):=by
   rw[<-lrows_app (by simp),List.length_append,hl2,List.replicate_append_replicate]
  simp only[vN_eq,xAdd_i,vb_some,show(((1:Nat):Int))=1 from rfl,wrap1 (i:=a) (by omega)];have hlen:W.length+1=(W++[Value.slice (some ⟨b2,o2,none⟩) k2 c2]).length:=by simp
  rw[hlen]at g4;refine ih (a+1) fu S2 ev' (W++[.slice (some ⟨b2,o2,none⟩) k2 c2]) (L++Ln) ex' h6 (by omega) (by omega) (le1.trans le2) g4 ((bl.mono le2.1).snoc hl2 hC2) ?_;rw[hrep];refine st6.perm (List.perm_middle.symm.trans (List.Perm.append_left ex' (List.Perm.cons _ (perm_b _ _ _))))
end
def cntT:List (List Bool)->Nat
 | []=>0
 |r::T=>r.count true+cntT T
theorem cntT_set: ∀(T:List (List Bool))(x:Nat)(r r':List Bool),T[x]?=some r->cntT (T.set x r')+r.count true=cntT T+r'.count true
 | [],x,r,r',h=>by simp at h
 |t::T,0,r,r',h=>by simp at h;subst h;simp only[List.set_cons_zero,cntT];omega
 |t::T,x+1,r,r',h=>by
  have:=cntT_set T x r r' (by simpa using h);simp only[List.set_cons_succ,cntT];omega
theorem cntT_le{N:Nat}: ∀(T:List (List Bool)),(∀r∈T,r.length=N)->cntT T<=T.length*N
 | [],_=>Nat.zero_le _
 |t::T,h=>by
  have h1:=cntT_le T fun r hr=>h r (.tail _ hr);have h2:=h t (.head _);have h3:t.count true<=t.length:=List.count_le_length;simp only[cntT,List.length_cons,Nat.add_mul,Nat.one_mul];omega
theorem count_le: ∀{r r':List Bool},r.length=r'.length->(∀y:Nat,r[y]?=some true->r'[y]?=some true)->r.count true<=r'.count true
 | [],r',_,_=>by simp
 |a::r,[],h,_=>by simp at h
 |a::r,b::r',h,hs=>by
  have h1:=count_le (r:=r) (r':=r') (by simpa using h) fun y hy=>by simpa using hs (y+1) (by simpa using hy)
  have h0:=hs 0;cases a<;>cases b<;>simp_all<;>omega
theorem count_lt: ∀{r r':List Bool}(_:r.length=r'.length)(_: ∀y:Nat,r[y]?=some true->r'[y]?=some true)(x:Nat),r[x]?=some false->r'[x]?=some true->r.count true<r'.count true
 | [],r',_,_,x,h,_=>by simp at h
 |a::r,[],h,_,_,_,_=>by simp at h
 |a::r,b::r',h,hs,0,h1,h2=>by
  have h3:=count_le (r:=r) (r':=r') (by simpa using h) fun y hy=>by simpa using hs (y+1) (by simpa using hy)
  simp at h1 h2;subst h1;subst h2;simp;omega
 |a::r,b::r',h,hs,x+1,h1,h2=>by
  have h3:=count_lt (r:=r) (r':=r') (by simpa using h) (fun y hy=>by simpa using hs (y+1) (by simpa using hy)) x (by simpa using h1) (by simpa using h2);have h0:=hs 0;cases a<;>cases b<;>simp_all<;>omega
def Snd3(g:Gr)(ks:List Int)(T:List (List Bool)):Prop:= ∀a i j,ent3 (ks.length+1) T a i j->DvR g ks [(a:Int)] i j
def Clo3(g:Gr)(ks:List Int)(T:List (List Bool))(r i:Nat):Prop:= ∀rl,g.rules[r]?=some rl-> ∀j,Rw ks (ks.length+1) T rl.right i j->ent3 (ks.length+1) T rl.left.toNat i j
theorem Stp.dv{g:Gr}{ks:List Int}{T:List (List Bool)}(sd:Snd3 g ks T){s:Int}{i m:Nat}(h:Stp ks (ks.length+1) T s i m):DvR g ks [s] i m:=by
 rcases h with⟨h1,h2,rfl⟩|⟨h1,h2⟩
 ·exact .kind h1 h2 rfl .nil
 ·have:=sd _ _ _ h2
  rwa [Int.toNat_of_nonneg h1]at this
theorem Rw.dv{g:Gr}{ks:List Int}{T:List (List Bool)}(sd:Snd3 g ks T): ∀{l:List Int}{i j:Nat},Rw ks (ks.length+1) T l i j->DvR g ks l i j
 | [],i,j,h=>by have h:i=j:=h;subst h;exact .nil
 |s::l,i,j,⟨m,h1,h2⟩=>(h1.dv sd).app (Rw.dv sd h2)
theorem DvR.rw{g:Gr}(hg:GOk g){ks:List Int}{T:List (List Bool)}(cl: ∀r i,i<=ks.length->Clo3 g ks T r i){l:List Int}{i j:Nat}(h:DvR g ks l i j):i<=ks.length->Rw ks (ks.length+1) T l i j:=by
 induction h with
 |nil=>intro _;rfl
 |kind h1 h2 h3 h4 ih=>
  intro hi;exact⟨_,.inl ⟨h1,by rw[h2,h3],rfl⟩,ih (List.getElem?_eq_some_iff.1 h2).1⟩
 | @name r l i m j h1 h2 h3 h4 ih1 ih2=>
  intro hi;obtain⟨q,hq⟩:=List.getElem?_of_mem h1;exact⟨m,.inr ⟨h2,cl q i hi r hq m (ih1 hi)⟩,ih2 (h3.into hi)⟩
structure ChT(g:Gr)(ks:List Int)(T:List (List Bool)):Prop where
 tb:Tb g.names.toNat (ks.length+1) T
 tells: ∀a i j:Nat,i<=ks.length->(ent3 (ks.length+1) T a i j↔DvR g ks [(a:Int)] i j)
theorem ChT.of{g:Gr}(hg:GOk g){ks:List Int}{T:List (List Bool)}(t:Tb g.names.toNat (ks.length+1) T)(sd:Snd3 g ks T)(cl: ∀r i,i<=ks.length->Clo3 g ks T r i):ChT g ks T:=by
 refine⟨t,fun a i j hi=>⟨sd a i j,fun h=>?_⟩⟩;obtain⟨m,h1,h2⟩:=h.rw hg cl hi;have h2:m=j:=h2;subst h2;rcases h1 with⟨h,_⟩|⟨_,h⟩
 ·omega
 ·rwa [Int.toNat_natCast]at h
theorem ent3_set{A N:Nat}{T:List (List Bool)}(t:Tb A N T){a i:Nat}(ha:a<A)(hi:i<N){r':List Bool}{b k j:Nat}:ent3 N (T.set (a*N+i) r') b k j↔(k<N/\((b=a/\k=i/\r'[j]?=some true)\/(¬(b=a/\k=i)/\ent3 N T b k j))):=by
 have hlt:=idx_lt ha hi;rw[<-t.len]at hlt;unfold ent3;constructor
 ·rintro⟨h1,r,h2,h3⟩;refine⟨h1,?_⟩
  by_cases e:b=a/\k=i
  ·obtain⟨rfl,rfl⟩:=e;rw[List.getElem?_set_self hlt]at h2;cases h2;exact .inl ⟨rfl,rfl,h3⟩
  ·refine .inr ⟨e,h1,r,?_,h3⟩;rw[List.getElem?_set_ne (fun e2=>e (by obtain⟨p,q⟩:=idx_inj hi h1 e2;exact⟨p.symm,q.symm⟩))]at h2;exact h2
 ·rintro⟨h1,⟨rfl,rfl,h3⟩|⟨e,_,r,h2,h3⟩⟩
  ·exact⟨h1,r',List.getElem?_set_self hlt,h3⟩
  ·exact⟨h1,r,by rw[List.getElem?_set_ne (fun e2=>e (by obtain⟨p,q⟩:=idx_inj hi h1 e2;exact⟨p.symm,q.symm⟩))];exact h2,h3⟩
theorem Tb.set{A N:Nat}{T:List (List Bool)}(t:Tb A N T){a i:Nat}(ha:a<A)(hi:i<N){r':List Bool}(hl:r'.length=N)(hu: ∀j:Nat,r'[j]?=some true->i<=j):Tb A N (T.set (a*N+i) r'):=by
 refine⟨by rw[List.length_set];exact t.len,fun r hr=>?_,fun b k j h=>?_⟩
 ·rcases List.mem_or_eq_of_mem_set hr with h|rfl
  ·exact t.row r h
  ·exact hl
 ·rcases((ent3_set t ha hi).1 h).2 with⟨_,e,hh⟩|⟨_,hh⟩
  ·rw[e];exact hu j hh
  ·exact t.up _ _ _ hh
section
variable {Q:Value->PH->Prop}{n:Nat}{cl:CL}{h h0:PH}{S:Vw}{m:OM}{rows rest:Rws}{cp gp bt:Nat}{g:Gr}{rv fv cv kv kw ew qv kvs:Value}{ks l:List Int}{L:List Nat}{T:List (List Bool)}
theorem loop12j{to r0:List Bool}{x b i:Nat}(kl:ks.length<=2000)(hb:L[x]?=some b)(hx:T[x]?=some r0)(hr0:r0.length=ks.length+1)(hto:to.length=ks.length+1)(hup: ∀j:Nat,to[j]?=some true->i<=j){gv' cv' rr ii:Value}{Ki Ko:Kt}{mv0:Bool}(hlt:lrows L T++rest=lrows L T++rest)
  (hK: ∀h r' mv,Sl h0 h S m ((bt,.row .own 1 (bv to))::(lrows L (T.set x r')++rest))->r'.length=ks.length+1->(∀j:Nat,r'[j]?=some true↔(r0[j]?=some true\/to[j]?=some true))->(mv=false->mv0=false/\r'=r0)->(mv=true->mv0=true\/ ∃y:Nat,r0[y]?=some false/\r'[y]?=some true)->(mv0=true->mv=true)->Ret (F12_8 n cl ii Ko gv' (.int .i64 (ks.length:Nat)) cv' (.bool mv) rr h) Q):
  ∀(q j fu:Nat)(r':List Bool)(mv:Bool)(h:PH),ks.length+1=j+q->q<fu->i<=j->Sl h0 h S m ((bt,.row .own 1 (bv to))::(lrows L (T.set x r')++rest))->r'.length=ks.length+1->(∀y:Nat,r'[y]?=some true↔(r0[y]?=some true\/(y<j/\to[y]?=some true)))->(mv=false->mv0=false/\r'=r0)->(mv=true->mv0=true\/ ∃y:Nat,r0[y]?=some false/\r'[y]?=some true)->(mv0=true->mv=true)->
   Ret (lp fu (F12_10 n cl Ko) [gv',.int .i64 (ks.length:Nat),cv',.bool mv,rr,ii,lfv (ks.length+1) bt,lfv (ks.length+1) b,.int .i64 (j:Nat)] h) Q:=by
 have hxl:=(List.getElem?_eq_some_iff.1 hx).1;intro q
 induction q with
 |zero=>
  intro j fu r' mv h hq hf hij st hl hN m1 m2 m3;obtain⟨fu,rfl⟩: ∃q,fu=q+1:=⟨fu-1,by omega⟩;rw[lp_succ];have dc:decide (((j:Nat):Int)<=((ks.length:Nat):Int))=false:=decide_eq_false (by omega);simp only[F12_10,ucons_cons,F12_9,xLe_i,dc,vb_some,bite_f];refine hK h r' mv st hl (fun y=>?_) m1 m2 m3;rw[hN];constructor
  ·rintro(h|⟨_,h⟩)
   ·exact .inl h
   ·exact .inr h
  ·rintro(h|h)
   ·exact .inl h
   ·exact .inr ⟨by have:=(List.getElem?_eq_some_iff.1 h).1;omega,h⟩
 |succ q ih=>
  intro j fu r' mv h hq hf hij st hl hN m1 m2 m3;obtain⟨fu,rfl⟩: ∃q,fu=q+1:=⟨fu-1,by omega⟩;rw[lp_succ];have dc:decide (((j:Nat):Int)<=((ks.length:Nat):Int))=true:=decide_eq_true (by omega);have hz:=List.getElem?_eq_getElem (l:=to) (i:=j) (by omega);have hz':=List.getElem?_eq_getElem (l:=r') (i:=j) (by omega);have i1:xIdxS 1 (lfv (ks.length+1) bt) (.int .i64 (j:Nat))=some (.pointer (some ⟨bt,j,none⟩)):=lfv_at (by omega);have i2:xIdxS 1 (lfv (ks.length+1) b) (.int .i64 (j:Nat))=some (.pointer (some ⟨b,j,none⟩)):=lfv_at (by omega);have l1:xLd (.pointer (some ⟨bt,j,none⟩)) h=some (.bool to[j]):=st.ld (.head _) (bv_get hz);have hget:(lrows L (T.set x r'))[x]?=some (b,.row .own 1 (bv r')):=lrows_get hb (List.getElem?_set_self hxl);have hmem:(b,AObj.row .own 1 (bv r'))∈(bt,AObj.row .own 1 (bv to))::(lrows L (T.set x r')++rest):=.tail _ (List.mem_append_left _ (List.mem_of_getElem? hget));have l2:xLd (.pointer (some ⟨b,j,none⟩)) h=some (.bool r'[j]):=st.ld hmem (bv_get hz');simp only[F12_10,ucons_cons,F12_9,xLe_i,dc,vb_some,bite_t,jn_eq,F12_7,i1,l1];have hnext: ∀(h':PH)(r2:List Bool)(mv':Bool),Sl h0 h' S m ((bt,.row .own 1 (bv to))::(lrows L (T.set x r2)++rest))->r2.length=ks.length+1->(∀y:Nat,r2[y]?=some true↔(r0[y]?=some true\/(y<j+1/\to[y]?=some true)))->(mv'=false->mv0=false/\r2=r0)->(mv'=true->mv0=true\/ ∃y:Nat,r0[y]?=some false/\r2[y]?=some true)->(mv0=true->mv'=true)->
    Ret (F12_6 n cl (lp fu (F12_10 n cl Ko)) [gv',.int .i64 (ks.length:Nat),cv',.bool mv',rr,ii,lfv (ks.length+1) bt,lfv (ks.length+1) b,.int .i64 (j:Nat)] h') Q:=by
   intro h' r2 mv' st' hl' hN' a1 a2 a3;simp only[F12_6,ucons_cons,F12_4,vN_eq,xAdd_i,vb_some,show(((1:Nat):Int))=1 from rfl,wrap1 (i:=j) (by omega)];exact ih (j+1) fu r2 mv' h' (by omega) (by omega) (by omega) st' hl' hN' a1 a2 a3
  have hskip:to[j]=false\/r'[j]=true-> ∀y:Nat,r'[y]?=some true↔(r0[y]?=some true\/(y<j+1/\to[y]?=some true)):=by
   intro hor y;rw[hN]
   by_cases e:y=j
   ·subst e;constructor
    ·rintro(h|h)
     ·exact .inl h
     ·exact absurd h.1 (Nat.lt_irrefl _)
    ·rintro(h|h)
     ·exact .inl h
     ·rcases hor with h1|h1
      ·rw[hz,h1]at h;cases h.2
      ·rw[h1]at hz';exact(hN y).1 hz'
   ·constructor
    ·rintro(h|h)
     ·exact .inl h
     ·exact .inr ⟨by omega,h.2⟩
    ·rintro(h|h)
     ·exact .inl h
     ·exact .inr ⟨by omega,h.2⟩
  cases hb1:to[j]with
  |false=>
   have t0: ∀o:Option Value,gd (isB true (.bool false)) o=some undef:=fun o=>rfl;simp only[t0,vb_some,xPick_f,ff_eq,bite_f];exact hnext h r' mv st hl (hskip (.inl hb1)) m1 m2 m3
  |true=>
   have t1: ∀o:Option Value,gd (isB true (.bool true)) o=o:=fun o=>rfl;simp only[t1,vb_some,i2,l2,xNot_b,xPick_t];cases hb2:r'[j]with
   |true=>
    simp only[Bool.not_true,bite_f];exact hnext h r' mv st hl (hskip (.inr hb2)) m1 m2 m3
   |false=>
    simp only[Bool.not_false,bite_t,F12_5,i2,vb_some,tt_eq];refine Ret.lst1 st (x+1) (b:=b) (e:=1) (md:=.own) (cs:=bv r') ?_ rfl (by simp[bv];omega) rfl fun h' st'=>?_
    ·rw[List.getElem?_cons_succ,List.getElem?_append_left (List.getElem?_eq_some_iff.1 hget).1];exact hget
    ·have ev:(bv r').set j (.bool true)=bv (r'.set j true):=by simp[bv]
     rw[ev,List.set_cons_succ,List.set_append_left _ _ (List.getElem?_eq_some_iff.1 hget).1,lrows_set hb,List.set_set]at st';have hN2: ∀y:Nat,(r'.set j true)[y]?=some true↔(r0[y]?=some true\/(y<j+1/\to[y]?=some true)):=by
      intro y;rw[set_true' (by omega),hN]
      by_cases e:y=j
      ·subst e;rw[hz,hb1];simp
      ·constructor
       ·rintro(h|⟨_,h|h⟩)
        ·exact absurd h.1 e
        ·exact .inl h
        ·exact .inr ⟨by omega,h.2⟩
       ·rintro(h|h)
        ·exact .inr ⟨e,.inl h⟩
        ·exact .inr ⟨e,.inr ⟨by omega,h.2⟩⟩
     refine hnext h' (r'.set j true) true st' (by simp[hl]) hN2 (fun h=>by cases h) (fun _=>.inr ⟨j,?_,?_⟩) fun _=>rfl
     ·have hj0:=List.getElem?_eq_getElem (l:=r0) (i:=j) (by omega);cases hq0:r0[j]with
      |false=>rw[hj0,hq0]
      |true=>
       have:=(hN j).2 (.inl (by rw[hj0,hq0]));rw[hz',hb2]at this;cases this
     ·exact(hN2 j).2 (.inr ⟨by omega,by rw[hz,hb1]⟩)
structure Md(g:Gr)(ks:List Int)(T0 T:List (List Bool))(mv:Bool):Prop where
 tb:Tb g.names.toNat (ks.length+1) T
 sd:Snd3 g ks T
 same:mv=false->T=T0
 more:mv=true->cntT T0<cntT T
 ge:cntT T0<=cntT T
theorem set_same{T:List (List Bool)}{x:Nat}{r:List Bool}(h:T[x]?=some r):T.set x r=T:=by
 apply List.ext_getElem?
 intro y
 by_cases e:x=y
 ·subst e;rw[List.getElem?_set_self (List.getElem?_eq_some_iff.1 h).1,h]
 ·rw[List.getElem?_set_ne e]
theorem Md.step{T0 T:List (List Bool)}{mv0 mv:Bool}{r i:Nat}{rl:Rl}{r0 r' to:List Bool}(hg:GOk g)(md:Md g ks T0 T mv0)(hr:g.rules[r]?=some rl)(hi:i<=ks.length)
  (h0:T[rl.left.toNat*(ks.length+1)+i]?=some r0) (hto: ∀j:Nat,to[j]?=some true↔Rw ks (ks.length+1) T rl.right i j) (hl:r'.length=ks.length+1) (hN: ∀j:Nat,r'[j]?=some true↔(r0[j]?=some true\/to[j]?=some true)) (m1:mv=false->mv0=false/\r'=r0) (m2:mv=true->mv0=true\/ ∃y:Nat,r0[y]?=some false/\r'[y]?=some true) (m3:mv0=true->mv=true):
  Md g ks T0 (T.set (rl.left.toNat*(ks.length+1)+i) r') mv/\(mv=false->T.set (rl.left.toNat*(ks.length+1)+i) r'=T/\Clo3 g ks T r i):=by
 have hm:=List.mem_of_getElem? hr;have hln:=isName_iff.1 (hg.left rl hm);have ha:rl.left.toNat<g.names.toNat:=by omega
 have hi':i<ks.length+1:=by omega
 have e0: ∀j:Nat,r0[j]?=some true->ent3 (ks.length+1) T rl.left.toNat i j:=fun j hj=>⟨hi',r0,h0,hj⟩;have hcnt:=cntT_set T _ r0 r' h0;have hle:r0.count true<=r'.count true:=count_le (by rw[hl];exact md.tb.row _ (List.mem_of_getElem? h0)) fun y hy=>(hN y).2 (.inl hy);have hge:=md.ge;refine⟨⟨md.tb.set ha hi' hl fun j hj=>?_,fun b k j h=>?_,fun e=>?_,fun e=>?_,by omega⟩,fun e=>?_⟩
 ·rcases(hN j).1 hj with h|h
  ·exact md.tb.up _ _ _ (e0 j h)
  ·exact Rw.le md.tb ((hto j).1 h)
 ·rcases((ent3_set md.tb ha hi').1 h).2 with⟨e1,e2,hh⟩|⟨_,hh⟩
  ·rw[e1,e2,Int.toNat_of_nonneg hln.1];rcases(hN j).1 hh with h|h
   ·have:=md.sd _ _ _ (e0 j h)
    rwa [Int.toNat_of_nonneg hln.1]at this
   ·exact .name hm hln.1 (((hto j).1 h).dv md.sd) .nil
  ·exact md.sd _ _ _ hh
 ·obtain⟨h1,h2⟩:=m1 e;rw[h2,set_same h0];exact md.same h1
 ·rcases m2 e with h|⟨y,h1,h2⟩
  ·have:=md.more h;omega
  ·have:=count_lt (by rw[hl];exact md.tb.row _ (List.mem_of_getElem? h0)) (fun y hy=>(hN y).2 (.inl hy)) y h1 h2;omega
 ·obtain⟨h1,h2⟩:=m1 e;refine⟨by rw[h2,set_same h0],fun rl' hr' j hj=>?_⟩;rw[hr]at hr';cases hr';refine e0 j ?_;rw[<-h2];exact(hN j).2 (.inr ((hto j).2 hj))
theorem loop12p(hn:9223372036854775808<=n)(hg:GOk g)(kl:ks.length<=2000)(gv:GrV S g rv fv cv kv)(c:ChV S cp g rv fv cv kv kw ew ks L)(hgp:(gp,AObj.row .own 1 (gcs g rv fv cv kv))∈rest){r:Nat}{rl:Rl}(hr:g.rules[r]?=some rl){T0:List (List Bool)}{Ko:Kt}{mv1:Bool}
  (hK: ∀h T mv,Md g ks T0 T mv->(mv1=true->mv=true)->(mv=false-> ∀i,i<=ks.length->Clo3 g ks T r i)->Sl h0 h S m (lrows L T++rest)->Ret (Ko [pt gp,.int .i64 (ks.length:Nat),pt cp,.bool mv,.int .i64 ((r+1:Nat):Int)] h) Q):
  ∀(q fu:Nat)(T:List (List Bool))(mv:Bool)(h:PH),q<=ks.length+1->q<fu->Md g ks T0 T mv->(mv1=true->mv=true)->(mv=false-> ∀i,q<=i->i<=ks.length->Clo3 g ks T r i)->Sl h0 h S m (lrows L T++rest)->
   Ret (lp fu (F12_14 n cl Ko) [pt gp,.int .i64 (ks.length:Nat),pt cp,.bool mv,.int .i64 (r:Nat),.int .i64 ((q:Int)-1)] h) Q:=by
 have hrlt:=(List.getElem?_eq_some_iff.1 hr).1;have hrl:=hg.rl;have hnm:=hg.nm;have hkn:=hg.kn;have hm:=List.mem_of_getElem? hr;have hln:=isName_iff.1 (hg.left rl hm);have h8:=hg.r8 rl hm;intro q
 induction q with
 |zero=>
  intro fu T mv h hq hf md mm cl3 st;obtain⟨fu,rfl⟩: ∃q,fu=q+1:=⟨fu-1,by omega⟩;rw[lp_succ];have dc:decide (((0:Nat):Int)<=((0:Nat):Int)-1)=false:=by decide
  simp only[F12_14,ucons_cons,F12_13,vN_eq,xGe_i,dc,vb_some,bite_f,F12_12,xAdd_i,show(((1:Nat):Int))=1 from rfl,wrap1 (i:=r) (by omega)];exact hK h T mv md mm (fun e i hi=>cl3 e i (Nat.zero_le _) hi) st
 |succ q ih=>
  intro fu T mv h hq hf md mm cl3 st;obtain⟨fu,rfl⟩: ∃q,fu=q+1:=⟨fu-1,by omega⟩;rw[lp_succ];have ei:(((q+1:Nat):Int)-1)=((q:Nat):Int):=by omega
  have dc:decide (((0:Nat):Int)<=((q:Nat):Int))=true:=decide_eq_true (by omega);have hgp':(gp,AObj.row .own 1 (gcs g rv fv cv kv))∈lrows L T++rest:=List.mem_append_right _ hgp;have l3:xLd (.pointer (some ⟨gp,3,none⟩)) h=some rv:=st.ld hgp' rfl;obtain⟨b1,o1,c1,wv,e1,e2,e3,e4,e5⟩:=gv.rule hr;obtain⟨q0,q1,_⟩:=cells3 e3;have lw:xLd (.pointer (some ⟨b1,o1+1,none⟩)) h=some wv:=st.ldS e2 q1;simp only[F12_14,ucons_cons,F12_13,vN_eq,ei,xGe_i,dc,vb_some,bite_t,F12_11,xFld_p,Nat.zero_add,l3,e1,lw];obtain⟨stS,leS⟩:=Sl.settleAll st;have okh:=st.ok;have lf:=LfV_all st;refine Ret.lfcall st (c29 (h:=h) hn (fun b cs e=>stS.leS b cs e) (c.mono leS) lf md.tb kl (e5.mono leS) (by omega) (hg.right rl hm) hnm.2 hkn.2 (i0:=q) (by omega)) fun v h2 ex hv st2=>?_;obtain⟨bt,to,rfl,rfl,hto1,hto2⟩:=hv;have st2:Sl h0 h2 S m ((bt,.row .own 1 (bv to))::(lrows L T++rest)):=st2;have l3':xLd (.pointer (some ⟨gp,3,none⟩)) h2=some rv:=st2.ld (.tail _ hgp') rfl;have l0':xLd (.pointer (some ⟨b1,o1,none⟩)) h2=some (.int .i64 rl.left):=st2.ldS e2 q0;have e8:(gcs g rv fv cv kv++[kw,ew])[8]?=some ew:=rfl;have l8:xLd (.pointer (some ⟨cp,8,none⟩)) h2=some ew:=st2.ldS c.cell e8;have ha:rl.left.toNat<g.names.toNat:=by omega
  have hi':q<ks.length+1:=by omega
  obtain⟨b,hb⟩: ∃b,L[rl.left.toNat*(ks.length+1)+q]?=some b:=⟨_,List.getElem?_eq_getElem (by rw[c.ends.len];exact idx_lt ha hi')⟩;obtain⟨r0,hr0,hr0l⟩:=md.tb.at ha hi';obtain⟨d1,p1,f1,w,d2,p2,f2,u1,u2,u3,v1,v2,v3⟩:=c.ends.two ha hi' hb;rw[Int.toNat_of_nonneg hln.1]at u1;have lA:xLd (.pointer (some ⟨d1,p1,none⟩)) h2=some w:=st2.ldS u2 u3;have lB:xLd (.pointer (some ⟨d2,p2,none⟩)) h2=some (lfv (ks.length+1) b):=st2.ldS v2 v3;simp only[xNil_p,vb_some,xFld_p,Nat.zero_add,Nat.add_zero,l8,l3',e1,l0',u1,lA,v1,lB];refine loop12j (T:=T) (r0:=r0) (mv0:=mv) kl hb hr0 hr0l hto1 (i:=q) (fun j hj=>Rw.le md.tb ((hto2 j).1 hj)) (Ki:=Ko) rfl (fun h3 r' mv' st3 hl3 hN3 m1 m2 m3=>?_) (ks.length+1-q) q n r0 mv h2 (by omega) (by omega) (Nat.le_refl _) (by rw[set_same hr0];exact st2) hr0l (fun y=>⟨fun h=>.inl h,fun h=>h.elim id fun⟨h1,h2⟩=>by have:=Rw.le md.tb ((hto2 y).1 h2);omega⟩) (fun e=>⟨e,rfl⟩) (fun e=>.inl e) (fun e=>e);obtain⟨md',hcl⟩:=md.step hg hr (by omega) hr0 hto2 hl3 hN3 m1 m2 m3;have hw:IntKind.i64.wrap (((q:Nat):Int)-((1:Nat):Int))=(q:Int)-1:=by
   rw[wrap_in (by omega) (by omega)];rfl
  unfold F12_8;simp only[vN_eq,xSub_i,hw,vb_some];refine ih fu _ mv' h3 (by omega) (by omega) md' (fun e=>m3 (mm e)) (fun e i hi hin=>?_) (st3.drop (List.sublist_cons_self _ _));obtain⟨eT,hc⟩:=hcl e;rw[eT]
  by_cases e2:i=q
  ·subst e2;exact hc
  ·have hmv:mv=false:=(m1 e).1;exact cl3 hmv i (by omega) hin
theorem loop12r(hn:9223372036854775808<=n)(hg:GOk g)(kl:ks.length<=2000)(gv:GrV S g rv fv cv kv)(c:ChV S cp g rv fv cv kv kw ew ks L)(hgp:(gp,AObj.row .own 1 (gcs g rv fv cv kv))∈rest){T0:List (List Bool)}{Ko:Kt}
  (hK: ∀h T mv,Md g ks T0 T mv->(mv=false-> ∀r i,i<=ks.length->Clo3 g ks T r i)->Sl h0 h S m (lrows L T++rest)->Ret (Ko [pt gp,.int .i64 (ks.length:Nat),pt cp,.bool mv] h) Q):
  ∀(q r fu:Nat)(T:List (List Bool))(mv:Bool)(h:PH),g.rules.length=r+q->q<fu->Md g ks T0 T mv->(mv=false-> ∀r',r'<r-> ∀i,i<=ks.length->Clo3 g ks T r' i)->Sl h0 h S m (lrows L T++rest)->
   Ret (lp fu (F12_16 n cl Ko) [pt gp,.int .i64 (ks.length:Nat),pt cp,.bool mv,.int .i64 (r:Nat)] h) Q:=by
 have hrl:=hg.rl;intro q
 induction q with
 |zero=>
  intro r fu T mv h hq hf md cl3 st;obtain⟨fu,rfl⟩: ∃q,fu=q+1:=⟨fu-1,by omega⟩;rw[lp_succ];have hgp':(gp,AObj.row .own 1 (gcs g rv fv cv kv))∈lrows L T++rest:=List.mem_append_right _ hgp;have l3:xLd (.pointer (some ⟨gp,3,none⟩)) h=some rv:=st.ld hgp' rfl;have dc:decide (((r:Nat):Int)<((g.rules.length:Nat):Int))=false:=decide_eq_false (by omega);simp only[F12_16,ucons_cons,F12_15,xFld_p,Nat.zero_add,l3,gv.rules.lenV,vb_some,xLt_i,dc,bite_f];refine hK h T mv md (fun e r' i hi=>?_) st
  by_cases hlt:r'<r
  ·exact cl3 e r' hlt i hi
  ·intro rl hr;have:=(List.getElem?_eq_some_iff.1 hr).1;omega
 |succ q ih=>
  intro r fu T mv h hq hf md cl3 st;obtain⟨fu,rfl⟩: ∃q,fu=q+1:=⟨fu-1,by omega⟩;rw[lp_succ];have hgp':(gp,AObj.row .own 1 (gcs g rv fv cv kv))∈lrows L T++rest:=List.mem_append_right _ hgp;have l3:xLd (.pointer (some ⟨gp,3,none⟩)) h=some rv:=st.ld hgp' rfl;have dc:decide (((r:Nat):Int)<((g.rules.length:Nat):Int))=true:=decide_eq_true (by omega);simp only[F12_16,ucons_cons,F12_15,xFld_p,Nat.zero_add,l3,gv.rules.lenV,vb_some,xLt_i,dc,bite_t];have ei:((ks.length:Nat):Int)=(((ks.length+1:Nat):Int)-1):=by omega
  have hr:=List.getElem?_eq_getElem (l:=g.rules) (i:=r) (by omega);have key:=loop12p (Q:=Q) (T0:=T0) (Ko:=lp fu (F12_16 n cl Ko)) (m:=m) (h0:=h0) (cl:=cl) (L:=L) hn hg kl gv c hgp hr (mv1:=mv) (fun h2 T2 mv2 md2 mm hcl st2=>?_) (ks.length+1) n T mv h (Nat.le_refl _) (by omega) md id (fun _ i h1 h2=>by omega) st
  ·rw[<-ei]at key;exact key
  ·refine ih (r+1) fu T2 mv2 h2 (by omega) (by omega) md2 (fun e r' hr' i hi=>?_) st2
   by_cases e2:r'=r
   ·subst e2;exact hcl e i hi
   ·have hmv:mv=false:=by
     cases hq:mv with
     |false=>rfl
     |true=>rw[mm hq]at e;cases e
    rw[md2.same e, <-md.same hmv];exact cl3 hmv r' (by omega) i hi
theorem loop12w(hn:9223372036854775808<=n)(hg:GOk g)(kl:ks.length<=2000)(gv:GrV S g rv fv cv kv)(c:ChV S cp g rv fv cv kv kw ew ks L)(hgp:(gp,AObj.row .own 1 (gcs g rv fv cv kv))∈rest)
  (hK: ∀h T,ChT g ks T->Sl h0 h S m (lrows L T++rest)->Q (.tuple ⟨[pt cp,.int .i64 0]⟩) h):
  ∀(K fu:Nat)(T:List (List Bool))(h:PH),g.names.toNat*(ks.length+1)*(ks.length+1)-cntT T<=K->K+1<fu->Tb g.names.toNat (ks.length+1) T->Snd3 g ks T->Sl h0 h S m (lrows L T++rest)->
   Ret (lp fu (F12_18 n cl) [pt gp,.int .i64 (ks.length:Nat),pt cp,.bool true] h) Q:=by
 have hrl:=hg.rl;have fin: ∀(fu:Nat)(T:List (List Bool))(h:PH),0<fu->ChT g ks T->Sl h0 h S m (lrows L T++rest)->Ret (lp fu (F12_18 n cl) [pt gp,.int .i64 (ks.length:Nat),pt cp,.bool false] h) Q:=by
  intro fu T h hf ct st;obtain⟨fu,rfl⟩: ∃q,fu=q+1:=⟨fu-1,by omega⟩;rw[lp_succ];simp only[F12_18,ucons_cons,F12_17,bite_f,vN_eq];exact Ret.of (hK h T ct st)
 intro K
 induction K with
 |zero=>
  intro fu T h hb hf tb sd st;obtain⟨fu,rfl⟩: ∃q,fu=q+1:=⟨fu-1,by omega⟩;rw[lp_succ];simp only[F12_18,ucons_cons,F12_17,bite_t,ff_eq];refine loop12r (T0:=T) hn hg kl gv c hgp (fun h2 T2 mv md hcl st2=>?_) g.rules.length 0 n T false h (by omega) (by omega) ⟨tb,sd,fun _=>rfl,fun e=>(by cases e),Nat.le_refl _⟩ (fun _ r' hr'=>absurd hr' (Nat.not_lt_zero _)) st;cases mv with
  |false=>exact fin fu T2 h2 (by omega) (ChT.of hg md.tb md.sd (hcl rfl)) st2
  |true=>
   have h1:=md.more rfl;have h2':=cntT_le T2 md.tb.row;rw[md.tb.len]at h2';omega
 |succ K ih=>
  intro fu T h hb hf tb sd st;obtain⟨fu,rfl⟩: ∃q,fu=q+1:=⟨fu-1,by omega⟩;rw[lp_succ];simp only[F12_18,ucons_cons,F12_17,bite_t,ff_eq];refine loop12r (T0:=T) hn hg kl gv c hgp (fun h2 T2 mv md hcl st2=>?_) g.rules.length 0 n T false h (by omega) (by omega) ⟨tb,sd,fun _=>rfl,fun e=>(by cases e),Nat.le_refl _⟩ (fun _ r' hr'=>absurd hr' (Nat.not_lt_zero _)) st;cases mv with
  |false=>exact fin fu T2 h2 (by omega) (ChT.of hg md.tb md.sd (hcl rfl)) st2
  |true=>
   have h1:=md.more rfl;exact ih fu T2 h2 (by omega) (by omega) md.tb md.sd st2
end
section
variable {Q:Value->PH->Prop}{n:Nat}{cl ih:CL}{h h0:PH}{S:Vw}{m:OM}{rows rest:Rws}{cp gp bt:Nat}{g:Gr}{rv fv cv kv kw ew qv kvs:Value}{ks l:List Int}{L:List Nat}{T:List (List Bool)}
theorem Ret.acopy{K2:Value->PH->R}(st:Sl h0 h S m rows)(r:IntsV S kvs ks)(hl:ks.length<=1000000)
  (hk: ∀h' v' ex',Sl h0 h' S m (ex'++rows)->Gl 1 v' ks.length (zv ks) ex'->Ret (K2 v' h') Q):Ret (Go.Am.hb (xApp (appInfo Tryd.prog #[24,24]) nils kvs h) K2) Q:=by
 rw[ai24]
 by_cases e:ks=[]
 ·subst e;have ok:=st.ok;have e:xApp (some (1,8)) nils kvs h=some (nils,h):=by
   refine xApp_00 ?_;rcases r.emp rfl with rfl|⟨b,c,rfl⟩
   ·rfl
   ·show(match h.raw b with
     |some (.row _ _ cs)=>tkA (Nat.mul 0 1) (cs.drop 0) [] fun l=>match Nat.ble (Nat.add 0 (Nat.mul 0 1)) cs.length with
      |true=>some (0,l)
      |false=>none
     |_=>match Nat.beq 0 0 with
      |true=>some (0,[])
      |false=>none)=some (0,[])
    cases hq:h.raw b with
    |none=>rfl
    |some ob=>cases ob<;>rfl
  rw[e];exact hk h nils [] st Gl.nil
 ·obtain⟨b,o,cp,cs,rfl,h1,h2,h3⟩:=r.rd.slc e;have hp:=st.sm.ptailS (b:=b) (o:=o) (n:=ks.length) (sz:=1) (c:=cp) h1 (by omega);rw[Nat.mul_one,h3]at hp;have hpos:0<ks.length:=List.length_pos_iff.2 e;refine Ret.lapp (ex:=[]) (k:=0) st Gl.nil hp (by rw[zv_len,Nat.mul_one]) hpos (oneCells_zv ks) (by omega) fun h' v' ex' st' g'=>?_;rw[List.nil_append,Nat.zero_add]at g';exact hk h' v' ex' st' g'
theorem VwN.all{r1:Rws}(st:Sl h0 h S m (r1++rows)):VwN h0 S (vall S (over r1 OM.emp)):=by
 refine⟨(Sl.settleAll st).2,fun b cs hb=>?_⟩;unfold vall at hb
 split at hb
 ·rename_i e;rcases over_cases e with h|⟨h,_⟩
  ·exact .inr (st.sm.own b _ (st.mem (List.mem_append_left _ h))).2
  ·cases h
 ·exact .inl hb
theorem Tb.zero{A N K:Nat}(h:K=A*N):Tb A N (List.replicate K (List.replicate N false)):=by
 refine⟨by simp[h],fun r hr=>?_,fun a i j he=>?_⟩
 ·rw[List.mem_replicate]at hr;rw[hr.2];simp
 ·obtain⟨_,r,h1,h2⟩:=he;have:=List.mem_of_getElem? h1;rw[List.mem_replicate]at this;rw[this.2]at h2;exact absurd h2 rep_false
theorem Snd3.zero{K:Nat}:Snd3 g ks (List.replicate K (List.replicate (ks.length+1) false)):=by
 rintro a i j ⟨_,r,h1,h2⟩;have:=List.mem_of_getElem? h1;rw[List.mem_replicate]at this;rw[this.2]at h2;exact absurd h2 rep_false
structure Cht(V:Vw)(cp:Nat)(g:Gr)(rv fv cv kv:Value)(ks:List Int):Prop where
 h: ∃kw ew L T,ChV V cp g rv fv cv kv kw ew ks L/\LfV V L T/\ChT g ks T
theorem Cht.mono{V W:Vw}(hs:Vw.le V W)(c:Cht V cp g rv fv cv kv ks):Cht W cp g rv fv cv kv ks:=by
 obtain⟨kw,ew,L,T,h1,h2,h3⟩:=c.h;exact⟨kw,ew,L,T,h1.mono hs,h2.mono hs,h3⟩
theorem c12(hn:9223372036854775808<=n)(hG:GIn g)(st:Sl h0 h S m rows)(gv:GrV S g rv fv cv kv)(hv:veq (.agg ⟨gcs g rv fv cv kv⟩) (.agg ⟨gcs g rv fv cv kv⟩)=true)(rk:IntsV S kvs ks)(kl:ks.length<=2000):
  Ret (F12 n cl (.agg ⟨gcs g rv fv cv kv⟩) kvs h) fun v h'=> ∃x,ChkQ g x/\((x.2≠0/\v= .tuple ⟨[.pointer none,.int .i64 x.2]⟩/\Sl h0 h' S m rows)\/
   (x.2=0/\ ∃S' cp,VwN h0 S S'/\Sl h0 h' S' m rows/\Cht S' cp g rv fv cv kv ks/\v= .tuple ⟨[pt cp,.int .i64 0]⟩)):=by
 unfold F12;refine Ret.lbox st fun h1 gp st1=>?_;have st1:Sl h0 h1 S m ((gp,.row .own 1 (gcs g rv fv cv kv))::rows):=st1;have la:xLdA 7 (.pointer (some ⟨gp,0,none⟩)) h1=some (.agg ⟨gcs g rv fv cv kv⟩):=st1.ldA (.head _) rfl (by simp);have okh:=st1.ok;obtain⟨x,q,e⟩:=c7 (h:=h1) (n:=n) (cl:=cl) hn (gv.rd (h:=h1) (fun b cs e=>st1.leS b cs e)) hG;simp only[la,vb_some,e,xExt_t',List.getElem?_cons_zero,List.getElem?_cons_succ,vN_eq,show(((0:Nat):Int))=0 from rfl,xNe_i]
 by_cases hx:x.2=0
 ·have hg:=gok_of (q.zero hx);have hnm:=hg.nm;have dl:decide (((2000:Nat):Int)<((ks.length:Nat):Int))=false:=decide_eq_false (by omega);simp only[decide_eq_true hx,Bool.not_true,bite_f,F12_22,rk.rd.lenV,vb_some,vN_eq,xGt_i,dl,F12_21,la];refine Ret.acopy st1 rk (by omega) fun h2 v2 ex2 st2 g2=>?_;have la2:xLdA 7 (.pointer (some ⟨gp,0,none⟩)) h2=some (.agg ⟨gcs g rv fv cv kv⟩):=st2.ldA (b:=gp) (e:=1) (md:=.own) (cs:=gcs g rv fv cv kv) (by simp) rfl (by simp);obtain⟨S2,le2,st3,hA⟩:=Gl.settleV st2 g2;have hab:abuild Tryd.prog 70 [(0,.agg ⟨gcs g rv fv cv kv⟩),(1,v2)]=some (.agg ⟨gcs g rv fv cv kv++[v2,nils]⟩):=by
   rcases g2.h with⟨_,_,rfl,_⟩|⟨b,o,cap,all,rfl,_⟩
   ·exact ab70n
   ·exact ab70
  simp only[la2,lchk_t hv,hab,vb_some];refine Ret.lbox st3 fun h4 cp st4=>?_;have st4:Sl h0 h4 S2 m ([]++((cp,.row .own 1 (gcs g rv fv cv kv++[v2,nils]))::(lrows [] (List.replicate ([]:List Nat).length (List.replicate (ks.length+1) false))++((gp,.row .own 1 (gcs g rv fv cv kv))::rows)))):=st4;refine loop12a (S:=S2) (ks:=ks) hn (by omega) kl (fun h5 S5 ev W L ex le5 g5 b5 st5=>?_) g.names.toNat 0 n S2 nils [] [] [] h4 (by omega) (by omega) VwN.refl Gl.nil ⟨rfl,by simp,fun x w hx=>by simp at hx⟩ st4;obtain⟨S6,le6,st6,hE⟩:=Gl.settleV st5 g5;have hnc:=(st6.sm.own cp _ (st6.mem (.head _))).2;obtain⟨st7,hS7⟩:=st6.settle (i:=0) rfl;have le7:=VwN.put (h0:=h0) hS7 hnc (cs:=gcs g rv fv cv kv++[v2,ev]);have st7:Sl h0 h5 (S6.put cp (gcs g rv fv cv kv++[v2,ev])) m (lrows L (List.replicate L.length (List.replicate (ks.length+1) false))++((gp,.row .own 1 (gcs g rv fv cv kv))::rows)):=st7;have leA:VwN h0 S (S6.put cp (gcs g rv fv cv kv++[v2,ev])):=((le2.trans le5).trans le6).trans le7;rw[b5.w]at hE;have hcv:ChV (S6.put cp (gcs g rv fv cv kv++[v2,ev])) cp g rv fv cv kv v2 ev ks L:=⟨Vw.put_self,hA.rdI.mono (le5.trans (le6.trans le7)).1,⟨W,b5.w,hE.mono le7.1,fun x w hw=>(b5.h x w hw).mono (le6.trans le7).1⟩,b5.l⟩;have hB:g.names.toNat*(ks.length+1)*(ks.length+1)<=40*2001*2001:=Nat.mul_le_mul (Nat.mul_le_mul (by omega) (by omega)) (by omega);refine loop12w hn hg kl (gv.mono leA.1) hcv (.head _) (fun h8 T8 ct8 st8=>?_) _ n _ h5 (Nat.sub_le _ _) (by omega) (Tb.zero b5.l) Snd3.zero st7;have st9:=(Sl.settleAll st8).1;have le9:=VwN.all st8;exact⟨x,q,.inr ⟨hx,_,cp,leA.trans le9,st9.drop (List.sublist_cons_self _ _),⟨v2,ev,L,T8,hcv.mono le9.1,LfV_all st8,ct8⟩,rfl⟩⟩
 ·simp only[decide_eq_false hx,Bool.not_false,bite_t];exact Ret.of ⟨x,q,.inl ⟨hx,rfl,st1.drop (List.sublist_cons_self _ _)⟩⟩
theorem c14[OkH h](hS:Vw.le S h.cells)(c:Cht S cp g rv fv cv kv ks){a i j:Int}:
  ∃b:Bool,pcall (F14 n cl (pt cp) (.int .i64 a) (.int .i64 i) (.int .i64 j) h.fzn)=some (.bool b)/\(b=true↔(0<=a/\a<g.names/\0<=i/\i<=j/\j<=ks.length/\DvR g ks [a] i.toNat j.toNat)):=by
 obtain⟨kw,ew,L,T,c1,lf,ct⟩:=c.h;have st:Sl h.fzn h.fzn S OM.emp []:=Sl.start h.fzn (fun b cs e=>hS b cs e);have e0:(gcs g rv fv cv kv++[kw,ew])[0]?=some (.int .i64 g.names):=rfl;have e7:(gcs g rv fv cv kv++[kw,ew])[7]?=some kw:=rfl;have e8:(gcs g rv fv cv kv++[kw,ew])[8]?=some ew:=rfl;have l0:xLd (.pointer (some ⟨cp,0,none⟩)) h.fzn=some (.int .i64 g.names):=st.ldS c1.cell e0;have l7:xLd (.pointer (some ⟨cp,7,none⟩)) h.fzn=some kw:=st.ldS c1.cell e7;have l8:xLd (.pointer (some ⟨cp,8,none⟩)) h.fzn=some ew:=st.ldS c1.cell e8;have t0: ∀o:Option Value,gd (isB true (.bool false)) o=some undef:=fun o=>rfl;have t1: ∀o:Option Value,gd (isB true (.bool true)) o=o:=fun o=>rfl;have key:Ret (F14 n cl (pt cp) (.int .i64 a) (.int .i64 i) (.int .i64 j) h.fzn) fun v _=> ∃b:Bool,v= .bool b/\(b=true↔(0<=a/\a<g.names/\0<=i/\i<=j/\j<=ks.length/\DvR g ks [a] i.toNat j.toNat)):=by
  unfold F14;simp only[xNil_p,vb_some,xFld_p,Nat.zero_add,l7,c1.kinds.lenV,vN_eq,show(((0:Nat):Int))=0 from rfl,xGe_i];have no: ¬(0<=a/\a<g.names/\0<=i/\i<=j/\j<=ks.length/\DvR g ks [a] i.toNat j.toNat)->Ret (some (Value.bool false,h.fzn)) fun v _=> ∃b:Bool,v= .bool b/\(b=true↔(0<=a/\a<g.names/\0<=i/\i<=j/\j<=ks.length/\DvR g ks [a] i.toNat j.toNat)):=fun hno=>Ret.of ⟨false,rfl,⟨fun h=>(by cases h),fun h=>absurd h hno⟩⟩
  by_cases h1:0<=a
  ·simp only[decide_eq_true h1,t1,vb_some,xNil_p,xFld_p,Nat.zero_add,l0,xLt_i,xPick_t]
   by_cases h2:a<g.names
   ·simp only[decide_eq_true h2,t1,vb_some,xGe_i,xPick_t]
    by_cases h3:0<=i
    ·simp only[decide_eq_true h3,t1,vb_some,xLe_i,xPick_t]
     by_cases h4:i<=j
     ·simp only[decide_eq_true h4,t1,vb_some,xLe_i,xPick_t]
      by_cases h5:j<=ks.length
      ·obtain⟨a',rfl⟩: ∃q:Nat,a=q:=⟨a.toNat,by omega⟩;obtain⟨i',rfl⟩: ∃q:Nat,i=q:=⟨i.toNat,by omega⟩;obtain⟨j',rfl⟩: ∃q:Nat,j=q:=⟨j.toNat,by omega⟩;have ha:a'<g.names.toNat:=by omega
       have hi:i'<ks.length+1:=by omega
       obtain⟨b,hb⟩: ∃b,L[a'*(ks.length+1)+i']?=some b:=⟨_,List.getElem?_eq_getElem (by rw[c1.ends.len];exact idx_lt ha hi)⟩;obtain⟨r,hr,hrl⟩:=ct.tb.at ha hi;obtain⟨d1,p1,f1,w,d2,p2,f2,u1,u2,u3,v1,v2,v3⟩:=c1.ends.two ha hi hb;have hx:=List.getElem?_eq_getElem (l:=r) (i:=j') (by omega);have lA:xLd (.pointer (some ⟨d1,p1,none⟩)) h.fzn=some w:=st.ldS u2 u3;have lB:xLd (.pointer (some ⟨d2,p2,none⟩)) h.fzn=some (lfv (ks.length+1) b):=st.ldS v2 v3;have i2:xIdxS 1 (lfv (ks.length+1) b) (.int .i64 (j':Nat))=some (.pointer (some ⟨b,j',none⟩)):=lfv_at (by omega);have lC:xLd (.pointer (some ⟨b,j',none⟩)) h.fzn=some (.bool r[j']):=st.ldS (lf _ _ _ hb hr) (bv_get hx);simp only[decide_eq_true h5,t1,vb_some,xNil_p,xFld_p,Nat.zero_add,l8,u1,lA,v1,lB,i2,lC,xPick_t];refine Ret.of ⟨_,rfl,?_⟩;have:=ct.tells a' i' j' (by omega);rw[Int.toNat_natCast,Int.toNat_natCast, <-this];constructor
       ·intro e;exact⟨h1,h2,h3,h4,h5,hi,r,hr,by rw[hx,e]⟩
       ·rintro⟨_,_,_,_,_,_,r',q1,q2⟩;rw[hr]at q1;cases q1;rw[hx]at q2;simpa using q2
      ·simp only[decide_eq_false h5,t0,vb_some,xPick_f,ff_eq];exact no fun h=>h5 h.2.2.2.2.1
     ·simp only[decide_eq_false h4,t0,vb_some,xPick_f,ff_eq];exact no fun h=>h4 h.2.2.2.1
    ·simp only[decide_eq_false h3,t0,vb_some,xPick_f,ff_eq];exact no fun h=>h3 h.2.2.1
   ·simp only[decide_eq_false h2,t0,vb_some,xPick_f,ff_eq];exact no fun h=>h2 h.2.1
  ·simp only[decide_eq_false h1,t0,vb_some,xPick_f,ff_eq];exact no fun h=>h1 h.1
 obtain⟨v,h',e,b,rfl,hb⟩:=key;exact⟨b,by rw[e];rfl,hb⟩
end
end Go.Am
