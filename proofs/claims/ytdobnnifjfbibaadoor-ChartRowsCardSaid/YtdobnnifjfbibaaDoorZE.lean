import Derived.Test.YtdobnnifjfbibaaDoorZD
set_option linter.unusedSimpArgs false
set_option linter.unusedVariables false
namespace Go.Am
open Go Go.RowKit Go.Proofs Go.ChangeShapes Go.WideShapes
inductive Flds(P:Program):Nat->List (TypeId×Nat)->{α:Type}->Rdr α->(α->Prop)->Prop
 |one {o:Nat} {t:TypeId} {α:Type} {R:Rdr α} {G:α->Prop}:Opens P t R G->P.cellsOf t=R.sz->Flds P o [(t,o)] R G
 |cons {o:Nat} {t:TypeId} {L:List (TypeId×Nat)} {α β:Type} {R:Rdr α} {S:Rdr β} {G:α->Prop} {G':β->Prop}:Opens P t R G->P.cellsOf t=R.sz->Flds P (o+R.sz) L S G'->Flds P o ((t,o)::L) (R.pr S) fun x=>G x.1/\G' x.2
section
variable {P:Program}
end
def r3:Rdr (Int×Int×Int):=⟨3,fun _ x es=>int3E x es,fun _ h=>h,fun h=>by rw[h];rfl,fun h=>by rw[h];rfl⟩
def rRule:Rdr Rl:=((rI .i64).pr ((rI .i64).sl.pr (rI .i64))).of fun r=>(r.left,(r.right,r.dyn))
def rGram:Rdr Gr:=((rI .i64).pr ((rI .i64).pr ((rI .i64).pr (rRule.sl.pr (r3.sl.pr ((rI .i64).sl.pr (rI .i64).sl)))))).of fun g=>(g.names,(g.kinds,(g.start,(g.rules,(g.forbid,(g.rclass,g.kclass))))))
theorem rGram_rd{h:PH}{g:Gr}{es:List Value}(hE:rGram.E h.cells g es): ∃rv fv cv kv,RdG h (.agg ⟨es⟩) g rv fv cv kv:=by
 obtain⟨e1,_,rfl,h1,e2,_,rfl,h2,e3,_,rfl,h3,e4,_,rfl,⟨rv,h4,r4,_⟩,e5,_,rfl,⟨fv,h5,r5,_⟩,e6,e7,rfl,⟨cv,h6,r6,_⟩,⟨kv,h7,r7,_⟩⟩:=hE;have h1:e1=[.int .i64 g.names]:=h1;have h2:e2=[.int .i64 g.kinds]:=h2;have h3:e3=[.int .i64 g.start]:=h3;subst h1 h2 h3 h4 h5 h6 h7;refine⟨rv,fv,cv,kv,rfl,?_,r5.toS,r6.toS,r7.toS⟩;have h:=r4.toS;refine RdS.mono (fun _ _ s=>s) (fun r _ es hE=>?_) h;obtain⟨a1,_,rfl,b1,a2,a3,rfl,⟨rv,b2,r2,_⟩,b3⟩:=hE;have b1:a1=[.int .i64 r.left]:=b1;have b3:a3=[.int .i64 r.dyn]:=b3;subst b1 b2 b3;exact⟨rv,rfl,r2.toS⟩
end Go.Am
namespace Go.Am
open Go Go.RowKit Go.Proofs
abbrev pt(b:Nat):Value:=.pointer (some ⟨b,0,none⟩)
def zv(l:List Int):List Value:=l.map fun z=>.int .i64 z
theorem zv_get{l:List Int}{i:Nat}{z:Int}(h:l[i]?=some z):(zv l)[i]?=some (.int .i64 z):=by simp[zv,h]
structure GrV(V:Vw)(g:Gr)(rv fv cv kv:Value):Prop where
 rules:RdV rRule V rv g.rules
 forbid:RdV r3 V fv g.forbid
 rclass:RdV (rI .i64) V cv g.rclass
 kclass:RdV (rI .i64) V kv g.kclass
 er:g.rules=[]->Emp rv
 ef:g.forbid=[]->Emp fv
 ec:g.rclass=[]->Emp cv
 ek:g.kclass=[]->Emp kv
theorem GrV.mono{V W:Vw}{g:Gr}{rv fv cv kv:Value}(hs:Vw.le V W)(h:GrV V g rv fv cv kv):GrV W g rv fv cv kv:=⟨h.rules.mono hs,h.forbid.mono hs,h.rclass.mono hs,h.kclass.mono hs,h.er,h.ef,h.ec,h.ek⟩
theorem GrV.E{V:Vw}{g:Gr}{rv fv cv kv:Value}(h:GrV V g rv fv cv kv):rGram.E V g (gcs g rv fv cv kv):=
 ⟨[_],_,rfl,rfl,[_],_,rfl,rfl,[_],_,rfl,rfl,[_],_,rfl,⟨rv,rfl,h.rules,h.er⟩,[_],_,rfl,⟨fv,rfl,h.forbid,h.ef⟩,[_],[_],rfl,⟨cv,rfl,h.rclass,h.ec⟩,⟨kv,rfl,h.kclass,h.ek⟩⟩
theorem GrV.rd{V:Vw}{h:PH}{g:Gr}{rv fv cv kv:Value}(r:GrV V g rv fv cv kv)(hS:Vw.le V h.cells):RdG h (.agg ⟨gcs g rv fv cv kv⟩) g rv fv cv kv:=by
 obtain⟨a,b,c,d,hr⟩:=rGram_rd (r.mono hS).E;have:=hr.v;simp only[Value.agg.injEq,Array.mk.injEq,List.cons.injEq]at this;obtain⟨_,_,_,rfl,rfl,rfl,rfl,_⟩:=this;exact hr
theorem RdV.lenV{α:Type}{R:Rdr α}{V:Vw}{v:Value}{l:List α}(r:RdV R V v l):xLenS v=some (.int .i64 (l.length:Nat)):=by
 rcases r with⟨rfl,a,c,rfl⟩|⟨b,o,c,cs,rfl,_⟩<;>simp
theorem RdV.atI{V:Vw}{v:Value}{l:List Int}(r:RdV (rI .i64) V v l){i:Nat}{z:Int}(hi:l[i]?=some z): ∃b o cs,xIdxS 1 v (.int .i64 (i:Nat))=some (.pointer (some ⟨b,o,none⟩))/\V b=some cs/\cs[o]?=some (.int .i64 z):=by
 have hlt:=(List.getElem?_eq_some_iff.1 hi).1;rcases r with⟨rfl,_⟩|⟨b,o,c,cs,rfl,h1,h2⟩
 ·simp at hi
 ·obtain⟨q1,q2⟩:=h2 i z hi;have q1:o+i*1+1<=cs.length:=q1;have q2:(cs.drop (o+i*1)).take 1=[.int .i64 z]:=q2;refine⟨b,o+i,cs,by rw[xIdxS_at (by omega) (by omega)];simp,h1,?_⟩;have:=congrArg (fun l=>l[0]?) q2;simp only[List.getElem?_take,List.getElem?_drop]at this;simpa using this
theorem GrV.rule{V:Vw}{g:Gr}{rv fv cv kv:Value}(h:GrV V g rv fv cv kv){i:Nat}{r:Rl}(hi:g.rules[i]?=some r): ∃b o cs wv,xIdxS 3 rv (.int .i64 (i:Nat))=some (.pointer (some ⟨b,o,none⟩))/\V b=some cs/\(cs.drop o).take 3=[.int .i64 r.left,wv,.int .i64 r.dyn]/\o+3<=cs.length/\RdV (rI .i64) V wv r.right:=by
 have hlt:=(List.getElem?_eq_some_iff.1 hi).1;rcases h.rules with⟨h0,_⟩|⟨b,o,c,cs,rfl,h1,h2⟩
 ·rw[h0]at hi;simp at hi
 ·obtain⟨q1,a1,_,q2,b1,a2,a3,rfl,⟨wv,b2,r2,_⟩,b3⟩:=h2 i r hi;have q1:o+i*3+3<=cs.length:=q1;have b1:a1=[.int .i64 r.left]:=b1;have b3:a3=[.int .i64 r.dyn]:=b3;subst b1 b2 b3;refine⟨b,o+i*3,cs,wv,?_,h1,q2,q1,r2⟩;rw[xIdxS_at (by omega) (by omega)];simp
theorem cells3{cs:List Value}{o:Nat}{a b c:Value}(h:(cs.drop o).take 3=[a,b,c]):cs[o]?=some a/\cs[o+1]?=some b/\cs[o+2]?=some c:=by
 have k: ∀j,j<3->cs[o+j]?=[a,b,c][j]?:=fun j hj=>by
  rw[<-h,List.getElem?_take,if_pos hj,List.getElem?_drop]
 exact⟨k 0 (by omega),k 1 (by omega),k 2 (by omega)⟩
section
variable {n:Nat}{cl:CL}{h h0:PH}{S:Vw}{m:OM}{rows:Rws}
end
structure GOk(g:Gr):Prop where
 start:isName g.names g.start=true
 left: ∀r∈g.rules,isName g.names r.left=true
 right: ∀r∈g.rules, ∀s∈r.right,isSym g.names g.kinds s=true
 r8: ∀r∈g.rules,r.right.length<=8
 rl:g.rules.length<=60
 nm:1<=g.names/\g.names<=40
 kn:0<=g.kinds/\g.kinds<=40
section
variable {g:Gr}{ks:List Int}
theorem inj_le: ∀(n k:Nat)(f:Nat->Nat),(∀i,i<k->f i<n)->(∀i j,i<k->j<k->f i=f j->i=j)->k<=n
 |0,k,f,h1,_=>by
  by_cases e:k=0
  ·omega
  ·have:=h1 0 (by omega);omega
 |n+1,k,f,h1,h2=>by
  by_cases hk:k=0
  ·omega
  by_cases hex: ∃i,i<k/\f i=n
  ·obtain⟨i0,hi0,e0⟩:=hex;have:=inj_le n (k-1) (fun i=>if i<i0 then f i else f (i+1)) (fun i hi=>by
    show(if i<i0 then f i else f (i+1))<n
    split
    ·have a:=h1 i (by omega);have b:f i≠n:=fun e=>by have:=h2 i i0 (by omega) hi0 (by rw[e,e0]);omega
     omega
    ·have a:=h1 (i+1) (by omega);have b:f (i+1)≠n:=fun e=>by have:=h2 (i+1) i0 (by omega) hi0 (by rw[e,e0]);omega
     omega) (fun i j hi hj he=>by
    have he:(if i<i0 then f i else f (i+1))=(if j<i0 then f j else f (j+1)):=he
    split at he<;>split at he
    ·exact h2 i j (by omega) (by omega) he
    ·have:=h2 i (j+1) (by omega) (by omega) he;omega
    ·have:=h2 (i+1) j (by omega) (by omega) he;omega
    ·have:=h2 (i+1) (j+1) (by omega) (by omega) he;omega)
   omega
  ·have:=inj_le n k f (fun i hi=>by
    have a:=h1 i hi;have b:f i≠n:=fun e=>hex ⟨i,hi,e⟩;omega) h2
   omega
end
def VwN(h0:PH)(S S':Vw):Prop:=Vw.le S S'/\ ∀b cs,S' b=some cs->S b=some cs\/h0.n<=b
theorem VwN.refl{h0:PH}{S:Vw}:VwN h0 S S:=⟨Vw.le.refl _,fun _ _ h=>.inl h⟩
theorem VwN.trans{h0:PH}{S T U:Vw}(a:VwN h0 S T)(b:VwN h0 T U):VwN h0 S U:=⟨a.1.trans b.1,fun x cs h=>by
 rcases b.2 x cs h with h|h
 ·exact a.2 x cs h
 ·exact .inr h⟩
theorem VwN.put{h0:PH}{S:Vw}{b:Nat}{cs:List Value}(h:S b=none)(hb:h0.n<=b):VwN h0 S (S.put b cs):=⟨Vw.le_put h,fun x ys hx=>by
 unfold Vw.put at hx
 split at hx
 ·rename_i e;rw[e];exact .inr hb
 ·exact .inl hx⟩
theorem Gl.settleV{h0 h:PH}{S:Vw}{m:OM}{rows ex:Rws}{sz k:Nat}{v:Value}{cells:List Value}(s:Sl h0 h S m (ex++rows))(g:Gl sz v k cells ex): ∃S',VwN h0 S S'/\Sl h0 h S' m rows/\SlC S' sz v k cells:=by
 rcases g.h with⟨rfl,rfl,rfl,rfl⟩|⟨b,o,cap,all,rfl,rfl,rfl,h2,_⟩
 ·exact⟨S,VwN.refl,s,.inl ⟨rfl,rfl,rfl⟩⟩
 ·have hn:=(s.sm.own b _ (s.mem (.head _))).2;obtain⟨s1,hS⟩:=s.settle (i:=0) rfl;exact⟨_,VwN.put hS hn,s1,.inr ⟨b,o,cap,all,rfl,Vw.put_self,h2,rfl⟩⟩
section
variable {Q:Value->PH->Prop}{h h0:PH}{S:Vw}{m:OM}{rows:Rws}{K2:Value->PH->R}
end
theorem gok_of{g:Gr}(h:goodB g=true):GOk g:=by
 obtain⟨a1,a2,a3,a4,a5,a6,a7⟩:=goodB_whole h;exact⟨a7,fun r hr=>(goodB_rule h hr).1,fun r hr=>(goodB_rule h hr).2.1,fun r hr=>(goodB_rule h hr).2.2,a5,⟨a1,a2⟩,⟨a3,a4⟩⟩
theorem ChkQ.zero{g:Gr}{x:Int×Int}(q:ChkQ g x)(h:x.2=0):goodB g=true:=by
 cases q with
 |bad hb=>
  unfold goodB at hb;simp only[h]at hb;simp at hb
 |good ha _ _ _=>exact ha
section
variable {Q:Value->PH->Prop}{n:Nat}{cl ih:CL}{h h0:PH}{S:Vw}{m:OM}{rows rest rows1:Rws}{bp:Nat}{g:Gr}{rv fv cv kv nv kvs:Value}{ks:List Int}
end
theorem hb_id{X:R}:Go.Am.hb X (fun v h=>some (v,h))=X:=by
 cases X with
 |none=>rfl
 |some p=>rfl
section
variable {h h0:PH}{S:Vw}{m:OM}{rows ex:Rws}
def Anc(N:Nat)(v:Value):Prop:=v=nils\/ ∃b o n c,v= .slice (some ⟨b,o,none⟩) n c/\N<=b
def Asc(l:List Int):Prop:=l.Pairwise (· < ·)
end
theorem SlC.rdI{V:Vw}{v:Value}{l:List Int}(r:SlC V 1 v l.length (zv l)):RdV (rI .i64) V v l:=by
 rcases r with⟨h1,_,rfl⟩|⟨b,o,c,cs,rfl,h1,h2,h3⟩
 ·exact .inl ⟨List.length_eq_zero_iff.1 h1,none,0,rfl⟩
 ·refine .inr ⟨b,o,c,cs,rfl,h1,fun i z hz=>?_⟩;have hlt:=(List.getElem?_eq_some_iff.1 hz).1;have hg:=zv_get hz;rw[h3,Nat.mul_one,List.getElem?_take,if_pos hlt,List.getElem?_drop]at hg;obtain⟨q1,q2⟩:=List.getElem?_eq_some_iff.1 hg;refine⟨by show o+i*1+1<=_;omega,?_⟩
  show(cs.drop (o+i*1)).take 1=[.int .i64 z]
  rw[Nat.mul_one,List.drop_eq_getElem_cons q1,List.take_succ_cons,List.take_zero];exact congrArg (fun x=>[x]) q2
def trues(B:List Bool)(i:Nat):List Int:=((List.range i).filter fun j=>B.getD j false).map Int.ofNat
section
variable {Q:Value->PH->Prop}{n:Nat}{cl ih:CL}{h h0:PH}{S:Vw}{m:OM}{rows rest rows1 ex exP exL:Rws}{g:Gr}{rv fv cv kv kvs lv nv nlv pv:Value}{ks:List Int}{c:Nat}
end
end Go.Am
namespace Go.Am
open Go Go.RowKit Go.Proofs Go.ChangeShapes Go.WideShapes
structure IntsV(V:Vw)(v:Value)(l:List Int):Prop where
 rd:RdV (rI .i64) V v l
 emp:l=[]->v=nils\/ ∃b c,v= .slice (some ⟨b,0,none⟩) 0 c
 cap:l.length<=1000000-> ∀a k c,v= .slice a k c->CapOk k c
theorem PH.abs_list{h:PH}{l:List AObj}(hn:h.n=l.length)(hz:h.fz=0)(hr: ∀b,h.raw b=l[b]?):h.abs=l:=by
 apply List.ext_getElem?
 intro i
 show((List.range h.n).map fun i=>frz (Nat.blt i h.fz) ((h.br.get i).getD .dead))[i]?=l[i]?
 rw[List.getElem?_map]
 by_cases hi:i<h.n
 ·have hl:l[i]?=some l[i]:=List.getElem?_eq_getElem (by omega);have hb:Nat.blt i h.fz=false:=by rw[hz];rfl
  have hg:h.br.get i=some l[i]:=by rw[<-PH.raw_lt hi,hr,hl]
  rw[List.getElem?_range hi,hl];simp only[Option.map_some,hb,hg,Option.getD_some,frz]
 ·rw[List.getElem?_eq_none (by simp;omega),List.getElem?_eq_none (by omega)];rfl
end Go.Am
namespace Go.Am
open Go Go.RowKit Go.Proofs
section
variable {Q:Value->PH->Prop}{n:Nat}{cl ih:CL}{h h0:PH}{S:Vw}{m:OM}{rows rest rows1 ex exP exL:Rws}{g:Gr}{rv fv cv kv kvs lv nv nlv pv:Value}{ks:List Int}{c:Nat}
end
end Go.Am
namespace Go.Am
open Go Go.RowKit Go.Proofs Go.ChangeShapes Go.WideShapes
end Go.Am
namespace Go.Am
open Go Go.RowKit Go.Proofs
section
variable {Q:Value->PH->Prop}{n:Nat}{cl ih:CL}{h h0:PH}{S:Vw}{m:OM}{rows rest rows1 ex exP exL:Rws}{g:Gr}{rv fv cv kv kvs lv nv nlv pv:Value}{ks:List Int}{c:Nat}
end
inductive DvR(g:Gr)(ks:List Int):List Int->Nat->Nat->Prop
 |nil {i:Nat}:DvR g ks [] i i
 |kind {s k:Int} {l:List Int} {i j:Nat}:s<0->ks[i]?=some k->k= -1-s->DvR g ks l (i+1) j->DvR g ks (s::l) i j
 |name {r:Rl} {l:List Int} {i m j:Nat}:r∈g.rules->0<=r.left->DvR g ks r.right i m->DvR g ks l m j->DvR g ks (r.left::l) i j
section
variable {g:Gr}{ks:List Int}{k:Int}
theorem DvR.le{l:List Int}{i j:Nat}(h:DvR g ks l i j):i<=j:=by
 induction h with
 |nil=>exact Nat.le_refl _
 |kind _ _ _ _ ih=>omega
 |name _ _ _ _ ih1 ih2=>omega
theorem DvR.app{l l':List Int}{i m j:Nat}(h:DvR g ks l i m)(h':DvR g ks l' m j):DvR g ks (l++l') i j:=by
 induction h with
 |nil=>exact h'
 |kind a b c _ ih=>exact .kind a b c (ih h')
 |name a b c _ _ ih2=>exact .name a b c (ih2 h')
theorem DvR.into{l:List Int}{i j:Nat}(h:DvR g ks l i j)(hi:i<=ks.length):j<=ks.length:=by
 induction h with
 |nil=>exact hi
 |kind _ h2 _ _ ih=>exact ih (List.getElem?_eq_some_iff.1 h2).1
 |name _ _ _ _ ih1 ih2=>exact ih2 (ih1 hi)
theorem take_snoc'{l:List Int}{a:Nat}{s:Int}(h:l[a]?=some s):l.take (a+1)=l.take a++[s]:=by
 rw[List.take_add_one,h];rfl
end
abbrev lfv(N:Nat)(b:Nat):Value:=.slice (some ⟨b,0,none⟩) N N
def ent3(N:Nat)(T:List (List Bool))(a i j:Nat):Prop:=i<N/\ ∃r,T[a*N+i]?=some r/\r[j]?=some true
structure Tb(A N:Nat)(T:List (List Bool)):Prop where
 len:T.length=A*N
 row: ∀r∈T,r.length=N
 up: ∀a i j,ent3 N T a i j->i<=j
def Stp(ks:List Int)(N:Nat)(T:List (List Bool))(s:Int)(i m:Nat):Prop:=(s<0/\ks[i]?=some (-1-s)/\m=i+1)\/(0<=s/\ent3 N T s.toNat i m)
def Rw(ks:List Int)(N:Nat)(T:List (List Bool)):List Int->Nat->Nat->Prop
 | [],i,j=>i=j
 |s::l,i,j=> ∃m,Stp ks N T s i m/\Rw ks N T l m j
theorem SlC.at1{V:Vw}{v:Value}{k i:Nat}{cells:List Value}{x:Value}(r:SlC V 1 v k cells)(hi:cells[i]?=some x): ∃b o cs,xIdxS 1 v (.int .i64 (i:Nat))=some (.pointer (some ⟨b,o,none⟩))/\V b=some cs/\cs[o]?=some x:=by
 rcases r with⟨_,rfl,_⟩|⟨b,o,c,cs,rfl,h1,h2,rfl⟩
 ·simp at hi
 ·rw[List.getElem?_take]at hi
  split at hi
  ·rw[List.getElem?_drop]at hi;exact⟨b,o+i,cs,by rw[xIdxS_at (by omega) (by omega)];simp,h1,hi⟩
  ·cases hi
structure EnV(V:Vw)(N:Nat)(v:Value)(A:Nat)(L:List Nat):Prop where
 h: ∃W:List Value,W.length=A/\SlC V 1 v A W/\ ∀a w,W[a]?=some w->SlC V 1 w N (((L.drop (a*N)).take N).map (lfv N))
 len:L.length=A*N
def LfV(V:Vw)(L:List Nat)(T:List (List Bool)):Prop:= ∀(x:Nat) b r,L[x]?=some b->T[x]?=some r->V b=some (bv r)
structure ChV(V:Vw)(cp:Nat)(g:Gr)(rv fv cv kv kw ew:Value)(ks:List Int)(L:List Nat):Prop where
 cell:V cp=some (gcs g rv fv cv kv++[kw,ew])
 kinds:RdV (rI .i64) V kw ks
 ends:EnV V (ks.length+1) ew g.names.toNat L
section
variable {Q:Value->PH->Prop}{n:Nat}{cl:CL}{h h0:PH}{S:Vw}{m:OM}{rows rest:Rws}{cp bn bo:Nat}{g:Gr}{rv fv cv kv kw ew qv:Value}{ks l:List Int}{L:List Nat}{T:List (List Bool)}
end
def lrows(L:List Nat)(T:List (List Bool)):Rws:=List.zipWith (fun b r=>(b,AObj.row .own 1 (bv r))) L T
theorem perm_a{α:Type}(A E X:List α):(A++(E++X)).Perm (E++(A++X)):=by
 rw[<-List.append_assoc, <-List.append_assoc];exact List.perm_append_comm.append_right _
theorem perm_b{α:Type}(A E X:List α):(A++(E++X)).Perm ((E++A)++X):=by
 rw[<-List.append_assoc];exact List.perm_append_comm.append_right _
section
variable {Q:Value->PH->Prop}{n:Nat}{cl:CL}{h h0:PH}{S:Vw}{m:OM}{rows rest:Rws}{cp gp:Nat}{g:Gr}{rv fv cv kv kw ew qv kvs:Value}{ks l:List Int}{L:List Nat}{T:List (List Bool)}
structure Bld(S:Vw)(N a:Nat)(W:List Value)(L:List Nat):Prop where
 w:W.length=a
 l:L.length=a*N
 h: ∀x w,W[x]?=some w->SlC S 1 w N (((L.drop (x*N)).take N).map (lfv N))
end
def cntT:List (List Bool)->Nat
 | []=>0
 |r::T=>r.count true+cntT T
def Snd3(g:Gr)(ks:List Int)(T:List (List Bool)):Prop:= ∀a i j,ent3 (ks.length+1) T a i j->DvR g ks [(a:Int)] i j
def Clo3(g:Gr)(ks:List Int)(T:List (List Bool))(r i:Nat):Prop:= ∀rl,g.rules[r]?=some rl-> ∀j,Rw ks (ks.length+1) T rl.right i j->ent3 (ks.length+1) T rl.left.toNat i j
structure ChT(g:Gr)(ks:List Int)(T:List (List Bool)):Prop where
 tb:Tb g.names.toNat (ks.length+1) T
 tells: ∀a i j:Nat,i<=ks.length->(ent3 (ks.length+1) T a i j↔DvR g ks [(a:Int)] i j)
section
variable {Q:Value->PH->Prop}{n:Nat}{cl:CL}{h h0:PH}{S:Vw}{m:OM}{rows rest:Rws}{cp gp bt:Nat}{g:Gr}{rv fv cv kv kw ew qv kvs:Value}{ks l:List Int}{L:List Nat}{T:List (List Bool)}
structure Md(g:Gr)(ks:List Int)(T0 T:List (List Bool))(mv:Bool):Prop where
 tb:Tb g.names.toNat (ks.length+1) T
 sd:Snd3 g ks T
 same:mv=false->T=T0
 more:mv=true->cntT T0<cntT T
 ge:cntT T0<=cntT T
end
section
variable {Q:Value->PH->Prop}{n:Nat}{cl ih:CL}{h h0:PH}{S:Vw}{m:OM}{rows rest:Rws}{cp gp bt:Nat}{g:Gr}{rv fv cv kv kw ew qv kvs:Value}{ks l:List Int}{L:List Nat}{T:List (List Bool)}
theorem VwN.all{r1:Rws}(st:Sl h0 h S m (r1++rows)):VwN h0 S (vall S (over r1 OM.emp)):=by
 refine⟨(Sl.settleAll st).2,fun b cs hb=>?_⟩;unfold vall at hb
 split at hb
 ·rename_i e;rcases over_cases e with h|⟨h,_⟩
  ·exact .inr (st.sm.own b _ (st.mem (List.mem_append_left _ h))).2
  ·cases h
 ·exact .inl hb
structure Cht(V:Vw)(cp:Nat)(g:Gr)(rv fv cv kv:Value)(ks:List Int):Prop where
 h: ∃kw ew L T,ChV V cp g rv fv cv kv kw ew ks L/\LfV V L T/\ChT g ks T
end
end Go.Am
