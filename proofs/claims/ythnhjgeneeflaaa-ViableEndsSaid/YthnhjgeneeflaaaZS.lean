import Derived.Test.YthnhjgeneeflaaaZE
import Derived.Test.YthnhjgeneeflaaaZW
import Derived.Test.YthnhjgeneeflaaaZF
set_option linter.unusedSimpArgs false
set_option linter.unusedVariables false
namespace Go.Am
open Go Go.RowKit Go.Proofs Go.ChangeShapes Go.WideShapes
inductive Flds(P:Program):Nat->List (TypeId×Nat)->{α:Type}->Rdr α->(α->Prop)->Prop
 |one {o:Nat} {t:TypeId} {α:Type} {R:Rdr α} {G:α->Prop}:Opens P t R G->P.cellsOf t=R.sz->Flds P o [(t,o)] R G
 |cons {o:Nat} {t:TypeId} {L:List (TypeId×Nat)} {α β:Type} {R:Rdr α} {S:Rdr β} {G:α->Prop} {G':β->Prop}:Opens P t R G->P.cellsOf t=R.sz->Flds P (o+R.sz) L S G'->Flds P o ((t,o)::L) (R.pr S) fun x=>G x.1/\G' x.2
section
variable {P:Program}
theorem Flds.open{α:Type}{R:Rdr α}{G:α->Prop}{o:Nat}{L:List (TypeId×Nat)}(f:Flds P o L R G): ∀{H:Type}{enc:TypeId×Value->H}{w:World}{ρ:RMap}{l:Heap}{n:Nat}{cs:List Value},Im w ρ l->o+R.sz<=cs.length->
  (∀p∈L, ∃y,DataW.trod enc P w 0 (fun _=>true) true n p.1 ((cs.drop p.2).take (P.cellsOf p.1))=some y)->
  ∃(ρ':RMap) (ext:Heap) (es:List Value) (x:α),Im w ρ' (l++ext)/\ρ.le ρ'/\VRs ρ' es ((cs.drop o).take R.sz)/\R.E (vl (l++ext)) x es/\G x:=by
 induction f with
 |one op hc=>
  intro H enc w ρ l n cs m hl hf;obtain⟨y,hy⟩:=hf _ (.head _);rw[hc]at hy;exact op m (by simp;omega) hy
 | @cons o t L α β R S G G' op hc f ih=>
  intro H enc w ρ l n cs m hl hf;have hl:o+(R.sz+S.sz)<=cs.length:=hl;obtain⟨y,hy⟩:=hf _ (.head _);rw[hc]at hy;obtain⟨ρ1,ext1,es1,x1,m1,le1,v1,E1,G1⟩:=op m (by simp;omega) hy;obtain⟨ρ2,ext2,es2,x2,m2,le2,v2,E2,G2⟩:=ih m1 (by omega) fun p hp=>hf p (.tail _ hp);refine⟨ρ2,ext1++ext2,es1++es2,(x1,x2),by rw[<-List.append_assoc];exact m2,RMap.le_trans le1 le2,?_,⟨es1,es2,rfl,by rw[<-List.append_assoc];exact R.mono (vl_app _ _) E1,by rw[<-List.append_assoc];exact E2⟩,G1,G2⟩;have e:(cs.drop o).take (R.pr S).sz=(cs.drop o).take R.sz++(cs.drop (o+R.sz)).take S.sz:=by
   show(cs.drop o).take (R.sz+S.sz)=_
   rw[List.take_add,List.drop_drop]
  rw[e];exact(v1.mono le2).append v2
theorem opens_struct{α:Type}{R:Rdr α}{G:α->Prop}{T:TypeId}{fs:Array Field}(hu:P.underlying T=some (.struct fs))(f:Flds P 0 (fs.toList.map fun f=>(f.type,f.offset)) R G):Opens P T R G:=by
 intro H enc w ρ l fuel cs y m hl ht;obtain⟨xs,n,_,_,_,hxl,hf⟩:=DataW.trod_struct hu ht;obtain⟨ρ',ext,es,x,h1,h2,h3,h4,h5⟩:=f.open (enc:=enc) (n:=n) (cs:=cs) m (by omega) fun p hp=>by
  rw[List.mem_map]at hp;obtain⟨g,hg,rfl⟩:=hp;obtain⟨i,hi⟩:=List.getElem?_of_mem hg;have hlt:=(List.getElem?_eq_some_iff.1 hi).1;rw[Array.length_toList]at hlt;have h0:=hf i g (by rw[<-Array.getElem?_toList];exact hi);rw[List.getElem?_eq_getElem (by omega)]at h0;exact⟨_,h0⟩
 rw[List.drop_zero, <-hl,List.take_length]at h3;exact⟨ρ',ext,es,x,h1,h2,h3,h4,h5⟩
end
def r3:Rdr (Int×Int×Int):=⟨3,fun _ x es=>int3E x es,fun _ h=>h,fun h=>by rw[h];rfl,fun h=>by rw[h];rfl⟩
def rRule:Rdr Rl:=((rI .i64).pr ((rI .i64).sl.pr (rI .i64))).of fun r=>(r.left,(r.right,r.dyn))
def rGram:Rdr Gr:=((rI .i64).pr ((rI .i64).pr ((rI .i64).pr (rRule.sl.pr (r3.sl.pr ((rI .i64).sl.pr (rI .i64).sl)))))).of fun g=>(g.names,(g.kinds,(g.start,(g.rules,(g.forbid,(g.rclass,g.kclass))))))
theorem oi:Opens Try.prog 3 (rI .i64) inR:=opens_i64 Try.underlying3
theorem oI24:Opens Try.prog 24 (rI .i64).sl (GLen inR):=opens_slice Try.underlying24 (by kernel_rfl) (by decide) oi
theorem cI3:Try.prog.cellsOf 3=1:=by kernel_rfl
theorem cI24:Try.prog.cellsOf 24=1:=by kernel_rfl
theorem Opens.of{P:Program}{T:TypeId}{α β:Type}{R:Rdr α}{G:α->Prop}{G':β->Prop}(f:β->α)(g:α->β)(hfg: ∀x,f (g x)=x)(h:Opens P T R G)(hG: ∀x,G x->G' (g x)):Opens P T (R.of f) G':=by
 intro H enc w ρ l fuel cs y m hl ht;obtain⟨ρ',ext,es,x,h1,h2,h3,h4,h5⟩:=h m hl ht;exact⟨ρ',ext,es,g x,h1,h2,h3,by show R.E _ (f (g x)) es;rw[hfg];exact h4,hG x h5⟩
theorem oRule:Opens Try.prog 40 rRule fun r=>inR r.left/\(GLen inR r.right)/\inR r.dyn:=
 Opens.of (fun r:Rl=>(r.left,(r.right,r.dyn))) (fun x=>⟨x.1,x.2.1,x.2.2⟩) (fun _=>rfl) (opens_struct Try.underlying40 (Flds.cons oi cI3 (Flds.cons oI24 cI24 (Flds.one oi cI3)))) fun x h=>h
theorem o85:Opens Try.prog 85 r3 fun x=>inR x.1/\inR x.2.1/\inR x.2.2:=by
 intro H enc w ρ l fuel cs y m hl ht;obtain⟨xs,n,_,_,_,hxl,hf⟩:=DataW.trod_array Try.underlying85 ht;rw[cI3]at hf;have hl:cs.length=3:=hl
 match cs,hl with
 | [a,b,c],_=>
  have k: ∀(i:Nat),i<3-> ∀v,[a,b,c][i]?=some v-> ∃z,v= .int .i64 z/\inR z:=by
   intro i hi v hv;have h0:=hf i hi;have e:([a,b,c].drop (i*1)).take 1=[v]:=by
    match i,hi with
    |0,_=>simpa using hv
    |1,_=>simpa using hv
    |2,_=>simpa using hv
   rw[e,List.getElem?_eq_getElem (by omega)]at h0;obtain⟨z,e,hz⟩:=DataW.trod_int Try.underlying3 h0;simp at e;exact⟨z,e,wf64 hz.2⟩
  obtain⟨z0,rfl,g0⟩:=k 0 (by decide) a rfl;obtain⟨z1,rfl,g1⟩:=k 1 (by decide) b rfl;obtain⟨z2,rfl,g2⟩:=k 2 (by decide) c rfl;exact⟨ρ,[],_,(z0,z1,z2),by rw[List.append_nil];exact m,RMap.le_refl _,.cons (.int _ _) (.cons (.int _ _) (.cons (.int _ _) .nil)),rfl,g0,g1,g2⟩
theorem o22:Opens Try.prog 22 rRule.sl (GLen fun r=>inR r.left/\(GLen inR r.right)/\inR r.dyn):=opens_slice Try.underlying22 (by kernel_rfl) (by decide) oRule
theorem o23:Opens Try.prog 23 r3.sl (GLen fun x=>inR x.1/\inR x.2.1/\inR x.2.2):=opens_slice Try.underlying23 (by kernel_rfl) (by decide) o85
theorem cI22:Try.prog.cellsOf 22=1:=by kernel_rfl
theorem cI23:Try.prog.cellsOf 23=1:=by kernel_rfl
theorem oGram:Opens Try.prog 26 rGram GIn:=
 Opens.of (fun g:Gr=>(g.names,(g.kinds,(g.start,(g.rules,(g.forbid,(g.rclass,g.kclass))))))) (fun x=>⟨x.1,x.2.1,x.2.2.1,x.2.2.2.1,x.2.2.2.2.1,x.2.2.2.2.2.1,x.2.2.2.2.2.2⟩) (fun _=>rfl)
  (opens_struct Try.underlying26 (Flds.cons oi cI3 (Flds.cons oi cI3 (Flds.cons oi cI3 (Flds.cons o22 cI22 (Flds.cons o23 cI23 (Flds.cons oI24 cI24 (Flds.one oI24 cI24))))))))
  fun x ⟨h1,h2,h3,h4,h5,h6,h7⟩=>⟨h1,h2,h3,h4.1,h5.1,h6.1,h7.1,fun r hr=>(h4.2 r hr).1,fun r hr=>(h4.2 r hr).2.2,fun r hr=>(h4.2 r hr).2.1.2,fun r hr=>(h4.2 r hr).2.1.1,fun f hf=>h5.2 f hf⟩
theorem rGram_rd{h:PH}{g:Gr}{es:List Value}(hE:rGram.E h.cells g es): ∃rv fv cv kv,RdG h (.agg ⟨es⟩) g rv fv cv kv:=by
 obtain⟨e1,_,rfl,h1,e2,_,rfl,h2,e3,_,rfl,h3,e4,_,rfl,⟨rv,h4,r4⟩,e5,_,rfl,⟨fv,h5,r5⟩,e6,e7,rfl,⟨cv,h6,r6⟩,⟨kv,h7,r7⟩⟩:=hE;have h1:e1=[.int .i64 g.names]:=h1;have h2:e2=[.int .i64 g.kinds]:=h2;have h3:e3=[.int .i64 g.start]:=h3;subst h1 h2 h3 h4 h5 h6 h7;refine⟨rv,fv,cv,kv,rfl,?_,r5.toS,r6.toS,r7.toS⟩;have h:=r4.toS;refine RdS.mono (fun _ _ s=>s) (fun r _ es hE=>?_) h;obtain⟨a1,_,rfl,b1,a2,a3,rfl,⟨rv,b2,r2⟩,b3⟩:=hE;have b1:a1=[.int .i64 r.left]:=b1;have b3:a3=[.int .i64 r.dyn]:=b3;subst b1 b2 b3;exact⟨rv,rfl,r2.toS⟩
theorem VR.veq1{ρ:RMap}{x y:Value}(h:VR ρ x y)(hx:(∃k z,x= .int k z)\/ ∃a n c,x= .slice a n c):Go.Am.veq1 x x=true:=by
 have hk: ∀k,kb k k=true:=fun k=>by cases k<;>rfl
 have hi: ∀z,ieq z z=true:=fun z=>by rw[ieq_eq];simp
 rcases hx with⟨k,z,rfl⟩|⟨a,n,c,rfl⟩
 ·show(match kb k k with|true=>ieq z z|false=>false)=true
  rw[hk];exact hi z
 ·cases h<;>(unfold Go.Am.veq1;simp only[Nat.beq_refl];first|rfl|(unfold aeq;simp only[Nat.beq_refl]))
end Go.Am
namespace Go.Am
open Go Go.RowKit Go.Proofs
def fz(f:Nat->Int)(N:Nat):List Value:=(List.range N).map fun i=>.int .i64 (f i)
theorem fz_len{f:Nat->Int}{N:Nat}:(fz f N).length=N:=by simp[fz]
theorem fz_get{f:Nat->Int}{N i:Nat}(h:i<N):(fz f N)[i]?=some (.int .i64 (f i)):=by
 unfold fz;rw[List.getElem?_map,List.getElem?_range h];rfl
def fup(f:Nat->Int)(i:Nat)(x:Int):Nat->Int:=fun k=>if k=i then x else f k
def swp(f:Nat->Int)(i j:Nat):Nat->Int:=fun k=>if k=i then f j else if k=j then f i else f k
theorem fz_set{f:Nat->Int}{N i:Nat}{x:Int}:(fz f N).set i (.int .i64 x)=fz (fup f i x) N:=by
 apply List.ext_getElem?
 intro k;rw[List.getElem?_set]
 by_cases hk:k<N
 ·by_cases e:i=k
  ·subst e;rw[if_pos rfl,if_pos (by rw[fz_len];exact hk),fz_get hk];simp[fup]
  ·rw[if_neg e,fz_get hk,fz_get hk];simp[fup,Ne.symm e]
 ·have h1:(fz f N)[k]?=none:=List.getElem?_eq_none (by rw[fz_len];omega);have h2:(fz (fup f i x) N)[k]?=none:=List.getElem?_eq_none (by rw[fz_len];omega);rw[h1,h2]
  split
  ·split
   ·rename_i q;rw[fz_len]at q;omega
   ·rfl
  ·rfl
theorem fup_swp{f:Nat->Int}{i j:Nat}:fup (fup f i (f j)) j (f i)=swp f i j:=by
 funext k
 unfold fup swp
 by_cases h1:k=j
 ·subst h1
  by_cases h2:k=i
  ·subst h2;simp
  ·simp[h2]
 ·simp[h1]
inductive Sw(a b:Nat):(Nat->Int)->(Nat->Int)->Prop where
 |refl {f}:Sw a b f f
 |step {f g:Nat->Int} {i j:Nat} (h:Sw a b f g) (hi:a<=i/\i<b) (hj:a<=j/\j<b):Sw a b f (swp g i j)
theorem Sw.trans{a b:Nat}{f g k:Nat->Int}(h1:Sw a b f g)(h2:Sw a b g k):Sw a b f k:=by
 induction h2 with
 |refl=>exact h1
 |step _ hi hj ih=>exact .step ih hi hj
theorem Sw.one{a b:Nat}{f:Nat->Int}{i j:Nat}(hi:a<=i/\i<b)(hj:a<=j/\j<b):Sw a b f (swp f i j):=.step .refl hi hj
theorem Sw.out{a b:Nat}{f g:Nat->Int}(h:Sw a b f g){k:Nat}(hk:k<a\/b<=k):g k=f k:=by
 induction h with
 |refl=>rfl
 | @step g i j _ hi hj ih=>
  show(if k=i then g j else if k=j then g i else g k)=_
  rw[if_neg (by omega),if_neg (by omega)];exact ih
theorem Sw.from{a b:Nat}{f g:Nat->Int}(h:Sw a b f g){k:Nat}(hk:a<=k/\k<b): ∃j,(a<=j/\j<b)/\g k=f j:=by
 induction h generalizing k with
 |refl=>exact⟨k,hk,rfl⟩
 | @step g i j _ hi hj ih=>
  show∃j',(a<=j'/\j'<b)/\(if k=i then g j else if k=j then g i else g k)=f j'
  split
  ·exact ih hj
  ·split
   ·exact ih hi
   ·exact ih hk
theorem Sw.to{a b:Nat}{f g:Nat->Int}(h:Sw a b f g){k:Nat}(hk:a<=k/\k<b): ∃j,(a<=j/\j<b)/\f k=g j:=by
 induction h with
 |refl=>exact⟨k,hk,rfl⟩
 | @step g i j _ hi hj ih=>
  obtain⟨q,hq,e⟩:=ih
  by_cases h1:q=i
  ·refine⟨j,hj,?_⟩;rw[e,h1]
   show _=(if j=i then g j else if j=j then g i else g j)
   by_cases hji:j=i
   ·rw[if_pos hji,hji]
   ·rw[if_neg hji,if_pos rfl]
  ·by_cases h2:q=j
   ·refine⟨i,hi,?_⟩;rw[e,h2]
    show _=(if i=i then g j else _)
    rw[if_pos rfl]
   ·refine⟨q,hq,?_⟩;rw[e]
    show _=(if q=i then g j else if q=j then g i else g q)
    rw[if_neg h1,if_neg h2]
theorem Sw.wide{a b a' b':Nat}{f g:Nat->Int}(h:Sw a b f g)(h1:a'<=a)(h2:b<=b'):Sw a' b' f g:=by
 induction h with
 |refl=>exact .refl
 |step _ hi hj ih=>exact .step ih (by omega) (by omega)
def Srt(a b:Nat)(f:Nat->Int):Prop:= ∀i j,a<=i->i<j->j<b->f i<=f j
def SM(b:Nat)(md:Mode)(pre post:List Value)(N:Nat)(f:Nat->Int):OM:=OM.emp.upd b (.row md 1 (pre++(fz f N++post)))
section
variable {Q:Value->PH->Prop}{n:Nat}{cl:CL}{h h0:PH}{S:Vw}{rows:Rws}{b N c:Nat}{md:Mode}{pre post:List Value}{f:Nat->Int}{K2:Value->PH->R}
abbrev sv(b:Nat)(pre:List Value)(N c:Nat):Value:=.slice (some ⟨b,pre.length,none⟩) N c
theorem sIdx{i:Nat}(h:i<N):xIdxS 1 (sv b pre N c) (.int .i64 (i:Nat))=some (.pointer (some ⟨b,pre.length+i,none⟩)):=by
 have:=xIdxS_at (sz:=1) (b:=b) (o:=pre.length) (n:=N) (c:=c) (k:=.i64) (i:=(i:Int)) (by omega) (by omega);simpa using this
theorem sGet{i:Nat}(h:i<N):(pre++(fz f N++post))[pre.length+i]?=some (.int .i64 (f i)):=by
 rw[List.getElem?_append_right (by omega),Nat.add_sub_cancel_left,List.getElem?_append_left (by rw[fz_len];exact h),fz_get h]
theorem Sl.sld(st:Sl h0 h S (SM b md pre post N f) rows){i:Nat}(hi:i<N):xLd (.pointer (some ⟨b,pre.length+i,none⟩)) h=some (.int .i64 (f i)):=
 st.ldB OM.upd_self (sGet hi)
theorem Ret.sst(st:Sl h0 h S (SM b md pre post N f) rows)(hm:mro md=false){i:Nat}(hi:i<N){x:Int}(hk: ∀h',Sl h0 h' S (SM b md pre post N (fup f i x)) rows->Ret (K2 undef h') Q):
  Ret (Go.Am.hb (xSt1 (.pointer (some ⟨b,pre.length+i,none⟩)) (.int .i64 x) h) K2) Q:=by
 refine Ret.lst1B st OM.upd_self hm (by simp[fz_len];omega) rfl fun h' st'=>?_;rw[SM,OM.upd_upd]at st';have e:(pre++(fz f N++post)).set (pre.length+i) (.int .i64 x)=pre++(fz (fup f i x) N++post):=by
  rw[List.set_append_right _ _ (by omega),Nat.add_sub_cancel_left,List.set_append_left _ _ (by rw[fz_len];exact hi),fz_set]
 rw[e]at st';exact hk h' st'
theorem c80{x:Int}{h:PH}:pcall (F80 n cl (.int .i64 x) h)=some (.bool false):=by
 have:F80 n cl (.int .i64 x) h=some (.bool false,h):=by unfold F80;simp
 rw[this];rfl
theorem c62{x y:Int}{h:PH}:pcall (F62 n cl (.int .i64 x) (.int .i64 y) h)=some (.bool (decide (x<y))):=by
 have:F62 n cl (.int .i64 x) (.int .i64 y) h=some (.bool (decide (x<y)),h):=by
  unfold F62;simp[c80,gd_some']
 rw[this];rfl
end
section
variable {Q:Value->PH->Prop}{n:Nat}{cl:CL}{h h0:PH}{S:Vw}{rows:Rws}{b N c:Nat}{md:Mode}{pre post:List Value}{f:Nat->Int}{K2:Value->PH->R}
def SR(S:Vw)(h0:PH)(rows:Rws)(b:Nat)(md:Mode)(pre post:List Value)(N a e:Nat)(f:Nat->Int)(P:(Nat->Int)->Value->Prop)(v:Value)(h':PH):Prop:=
 ∃g,Sw a e f g/\Sl h0 h' S (SM b md pre post N g) rows/\P g v
theorem wrapN{x:Nat}(h:x<4611686018427387904):IntKind.i64.wrap (((x:Nat):Int)+((1:Nat):Int))=((x+1:Nat):Int):=by rw[wrap_in (by omega) (by omega)];omega
theorem wrapS{x y:Nat}(h:y<=x)(hx:x<4611686018427387904):IntKind.i64.wrap (((x:Nat):Int)-((y:Nat):Int))=((x-y:Nat):Int):=by rw[wrap_in (by omega) (by omega)];omega
theorem loop56i(hm:mro md=false){a e i:Nat}{K:Kt}(he:e<=N)(hN:N<1000000000)(hi:i<e)(hS:Srt a i f)
  (hk: ∀h' g,Sw a e f g->Srt a (i+1) g->Sl h0 h' S (SM b md pre post N g) rows->Ret (K [sv b pre N c,.int .i64 (a:Nat),.int .i64 (e:Nat),.int .i64 ((i+1:Nat):Int)] h') Q):
  ∀(k q j:Nat)(h:PH)(g:Nat->Int),j-a<=k->k<q->a<=j->j<=i->Sw a e f g->(∀x y,a<=x->x<y->y<=i->x≠j->y≠j->g x<=g y)->(∀y,j<y->y<=i->g j<=g y)->Sl h0 h S (SM b md pre post N g) rows->
  Ret (lp q (F56_3 n cl K) [sv b pre N c,.int .i64 (a:Nat),.int .i64 (e:Nat),.int .i64 (i:Nat),.int .i64 (j:Nat)] h) Q:=by
 intro k
 induction k with
 |zero=>
  intro q j h g h1 h2 h3 h4 hs hA hB st;obtain⟨q,rfl⟩: ∃r,q=r+1:=⟨q-1,by omega⟩;rw[lp_succ];have d:decide (((a:Nat):Int)<((j:Nat):Int))=false:=by simp;omega
  have done:Srt a (i+1) g:=by
   intro x y q1 q2 q3
   by_cases hx:x=j
   ·subst hx;exact hB y q2 (by omega)
   ·exact hA x y q1 q2 (by omega) hx (by omega)
  have fin:=hk h g hs done st;simp only[F56_3,F56_2,ucons_cons,xGt_i,d,vb_some];have w:IntKind.i64.wrap ((i:Int)+1)=(i:Int)+1:=by rw[wrap_in (by omega) (by omega)]
  simpa[gd_some',F56_1,w]using fin
 |succ k ih=>
  intro q j h g h1 h2 h3 h4 hs hA hB st;obtain⟨q,rfl⟩: ∃r,q=r+1:=⟨q-1,by omega⟩;rw[lp_succ];generalize hL:lp q (F56_3 n cl K)=LL
  by_cases hja:a<j
  ·have d:decide (((a:Nat):Int)<((j:Nat):Int))=true:=by simp;omega
   have w1:=wrapS (x:=j) (y:=1) (by omega) (by omega);have i1:=sIdx (b:=b) (pre:=pre) (N:=N) (c:=c) (i:=j) (by omega);have i2:=sIdx (b:=b) (pre:=pre) (N:=N) (c:=c) (i:=j-1) (by omega);have l1:=st.sld (i:=j) (by omega);have l2:=st.sld (i:=j-1) (by omega);simp only[F56_3,F56_2,ucons_cons,xGt_i,d,vb_some,isB_t,gd_true,vN_eq,xSub_i,w1,i1,i2,l1,l2,c62,xPick_t]
   by_cases hlt:g j<g (j-1)
   ·have d2:decide (g j<g (j-1))=true:=by simp[hlt]
    simp only[d2,bite_t,F56_0,vN_eq,xSub_i,w1,vb_some,i1,i2,l1,l2];refine Ret.sst st hm (i:=j) (by omega) fun h2' st2=>?_;refine Ret.sst st2 hm (i:=j-1) (by omega) fun h3' st3=>?_;have e1:fup (fup g j (g (j-1))) (j-1) (g j)=swp g j (j-1):=fup_swp;rw[e1]at st3;rw[<-hL];have sj:swp g j (j-1) j=g (j-1):=by simp[swp]
    have sj1:swp g j (j-1) (j-1)=g j:=by
     show(if j-1=j then _ else if j-1=j-1 then g j else _)=_
     rw[if_neg (by omega),if_pos rfl]
    have so: ∀x,x≠j->x≠j-1->swp g j (j-1) x=g x:=fun x q1 q2=>by simp[swp,q1,q2]
    refine ih q (j-1) h3' (swp g j (j-1)) (by omega) (by omega) (by omega) (by omega) (hs.trans (.one (by omega) (by omega))) ?_ ?_ st3
    ·intro x y q1 q2 q3 q4 q5
     by_cases hx:x=j
     ·subst hx;rw[sj,so y (by omega) q5];exact hA (x-1) y (by omega) (by omega) q3 (by omega) (by omega)
     ·by_cases hy:y=j
      ·subst hy;rw[sj,so x hx q4];exact hA x (y-1) q1 (by omega) (by omega) hx (by omega)
      ·rw[so x hx q4,so y hy q5];exact hA x y q1 q2 q3 hx hy
    ·intro y q1 q2;rw[sj1]
     by_cases hy:y=j
     ·subst hy;rw[sj];omega
     ·rw[so y hy (by omega)];exact hB y (by omega) q2
   ·have d2:decide (g j<g (j-1))=false:=by simp;omega
    have done:Srt a (i+1) g:=by
     intro x y q1 q2 q3
     by_cases hx:x=j
     ·subst hx;exact hB y q2 (by omega)
     ·by_cases hy:y=j
      ·subst hy
       by_cases hx1:x=y-1
       ·subst hx1;omega
       ·have:=hA x (y-1) q1 (by omega) (by omega) hx (by omega);omega
      ·exact hA x y q1 q2 (by omega) hx hy
    simp only[d2,bite_f,F56_1,vN_eq,xAdd_i,wrapN (show i<4611686018427387904 by omega),vb_some];exact hk h g hs done st
  ·rw[<-hL];have:=ih (q+1) j h g (by omega) (by omega) h3 h4 hs hA hB st;rw[lp_succ]at this;exact this
theorem loop56(hm:mro md=false){a e:Nat}(he:e<=N)(hN:N<1000000000)(hn:4611686018427387904<=n):
  ∀(k q i:Nat)(h:PH)(g:Nat->Int),e-i<=k->k<q->a<=i->(i<=e\/e<=a)->Sw a e f g->Srt a i g->Sl h0 h S (SM b md pre post N g) rows->
  Ret (lp q (F56_5 n cl) [sv b pre N c,.int .i64 (a:Nat),.int .i64 (e:Nat),.int .i64 (i:Nat)] h) (SR S h0 rows b md pre post N a e f fun g _=>Srt a e g):=by
 intro k
 induction k with
 |zero=>
  intro q i h g h1 h2 h3 h4 hs hS st;obtain⟨q,rfl⟩: ∃r,q=r+1:=⟨q-1,by omega⟩;rw[lp_succ];have d:decide (((i:Nat):Int)<((e:Nat):Int))=false:=by simp;omega
  simp only[F56_5,F56_4,ucons_cons,xLt_i,d,vb_some,bite_f];exact Ret.of ⟨g,hs,st,fun x y q1 q2 q3=>hS x y q1 q2 (by omega)⟩
 |succ k ih=>
  intro q i h g h1 h2 h3 h4 hs hS st
  by_cases hi:i<e
  ·obtain⟨q,rfl⟩: ∃r,q=r+1:=⟨q-1,by omega⟩;rw[lp_succ];generalize hL:lp q (F56_5 n cl)=LL;have d:decide (((i:Nat):Int)<((e:Nat):Int))=true:=by simp;omega
   simp only[F56_5,F56_4,ucons_cons,xLt_i,d,vb_some,bite_t];refine loop56i hm he hN hi hS (fun h' g' hs' hS' st'=>?_) i n i h g (by omega) (by omega) h3 (Nat.le_refl _) .refl (fun x y q1 q2 q3 q4 q5=>hS x y q1 q2 (by omega)) (fun y q1 q2=>by omega) st;rw[<-hL];exact ih q (i+1) h' g' (by omega) (by omega) (by omega) (by omega) (hs.trans hs') hS' st'
  ·exact ih q i h g (by omega) (by omega) h3 h4 hs hS st
theorem c56(hm:mro md=false){a e:Nat}(he:e<=N)(hN:N<1000000000)(hn:4611686018427387904<=n)(hae:a<=e)(st:Sl h0 h S (SM b md pre post N f) rows):
  Ret (F56 n cl (sv b pre N c) (.int .i64 (a:Nat)) (.int .i64 (e:Nat)) h) (SR S h0 rows b md pre post N a e f fun g _=>Srt a e g):=by
 unfold F56;simp only[vN_eq,xAdd_i,wrapN (show a<4611686018427387904 by omega),vb_some];exact loop56 hm he hN hn e n (a+1) h f (by omega) (by omega) (by omega) (by omega) .refl (fun x y q1 q2 q3=>by omega) st
end
def HeapAt(F:Nat->Int)(hi k:Nat):Prop:= ∀c,(c=2*k+1\/c=2*k+2)->c<hi->F c<=F k
theorem heap_max{F:Nat->Int}{hi:Nat}(h: ∀k,HeapAt F hi k): ∀k,k<hi->F k<=F 0:=by
 intro k
 induction k using Nat.strongRecOn with
 |ind k ih=>
  intro hk
  by_cases h0:k=0
  ·subst h0;exact Int.le_refl _
  ·have h1:=h ((k-1) / 2) k (by omega) hk;have h2:=ih ((k-1) / 2) (by omega) (by omega);omega
structure HeapX(F:Nat->Int)(lo hi r:Nat):Prop where
 at': ∀k,lo<=k->k≠r->HeapAt F hi k
 up: ∀p,lo<=p->(r=2*p+1\/r=2*p+2)-> ∀c,(c=2*r+1\/c=2*r+2)->c<hi->F c<=F p
theorem heapX_step{F:Nat->Int}{lo hi r c:Nat}(h:HeapX F lo hi r)(hlo:lo<=r)(hc:c=2*r+1\/c=2*r+2)(hch:c<hi)(hlt:F r<F c)(hbig: ∀d,(d=2*r+1\/d=2*r+2)->d<hi->F d<=F c):HeapX (swp F r c) lo hi c:=by
 have vr:swp F r c r=F c:=by simp[swp]
 have vc:swp F r c c=F r:=by
  show(if c=r then F c else if c=c then F r else F c)=_
  rw[if_neg (by omega),if_pos rfl]
 have vo: ∀x,x≠r->x≠c->swp F r c x=F x:=fun x q1 q2=>by simp[swp,q1,q2]
 constructor
 ·intro k hk hkc d hd hdh
  by_cases hkr:k=r
  ·subst hkr;rw[vr]
   by_cases hdc:d=c
   ·rw[hdc,vc];omega
   ·rw[vo d (by omega) hdc];exact hbig d hd hdh
  ·rw[vo k hkr hkc]
   by_cases hdr:d=r
   ·subst hdr;rw[vr];exact h.up k hk (by omega) c hc hch
   ·by_cases hdc:d=c
    ·omega
    ·rw[vo d hdr hdc];exact h.at' k hk hkr d hd hdh
 ·intro p hp hpc d hd hdh;have hpr:p=r:=by omega
  subst hpr;rw[vr,vo d (by omega) (by omega)];exact h.at' c (by omega) (by omega) d hd hdh
theorem heapX_done{F:Nat->Int}{lo hi r:Nat}(h:HeapX F lo hi r)(hr:HeapAt F hi r): ∀k,lo<=k->HeapAt F hi k:=by
 intro k hk
 by_cases e:k=r
 ·subst e;exact hr
 ·exact h.at' k hk e
theorem swp_rel{f:Nat->Int}{a i j:Nat}:(fun k=>swp f (a+i) (a+j) (a+k))=swp (fun k=>f (a+k)) i j:=by
 funext k
 unfold swp
 by_cases h1:k=i
 ·subst h1;simp
 ·by_cases h2:k=j
  ·subst h2;have: ¬ a+k=a+i:=by omega
   simp[this,h1]
  ·have q1: ¬ a+k=a+i:=by omega
   have q2: ¬ a+k=a+j:=by omega
   simp[h1,h2,q1,q2]
section
variable {Q:Value->PH->Prop}{n:Nat}{cl:CL}{h h0:PH}{S:Vw}{rows:Rws}{b N c:Nat}{md:Mode}{pre post:List Value}{f:Nat->Int}{K2:Value->PH->R}
theorem wrapA{x y:Nat}(h:x+y<4611686018427387904):IntKind.i64.wrap (((x:Nat):Int)+((y:Nat):Int))=((x+y:Nat):Int):=by rw[wrap_in (by omega) (by omega)];omega
theorem wrapM{x:Nat}(h:x<1000000000000):IntKind.i64.wrap (((2:Nat):Int)*((x:Nat):Int))=((2*x:Nat):Int):=by rw[wrap_in (by omega) (by omega)];omega
theorem loop75(hm:mro md=false){a hi lo:Nat}(he:a+hi<=N)(hN:N<1000000000)(hn:4611686018427387904<=n){f0:Nat->Int}:
  ∀(k q r:Nat)(h:PH)(g:Nat->Int),hi-r<=k->k<q->lo<=r->r<1000000000->Sw a (a+hi) f0 g->HeapX (fun k=>g (a+k)) lo hi r->Sl h0 h S (SM b md pre post N g) rows->
  Ret (lp q (F75_6 n cl) [sv b pre N c,.int .i64 (hi:Nat),.int .i64 (a:Nat),.int .i64 (r:Nat)] h) (SR S h0 rows b md pre post N a (a+hi) f0 fun g _=> ∀k,lo<=k->HeapAt (fun k=>g (a+k)) hi k):=by
 have stop: ∀(r:Nat)(h:PH)(g:Nat->Int),r<1000000000->hi<=2*r+1->Sw a (a+hi) f0 g->HeapX (fun k=>g (a+k)) lo hi r->Sl h0 h S (SM b md pre post N g) rows-> ∀LL:Kt,
   Ret (F75_6 n cl LL [sv b pre N c,.int .i64 (hi:Nat),.int .i64 (a:Nat),.int .i64 (r:Nat)] h) (SR S h0 rows b md pre post N a (a+hi) f0 fun g _=> ∀k,lo<=k->HeapAt (fun k=>g (a+k)) hi k):=by
  intro r h g hr hc hs hX st LL;have d:decide (((hi:Nat):Int)<=((2*r+1:Nat):Int))=true:=by simp;omega
  simp only[F75_6,F75_5,ucons_cons,vN_eq,xMul_i,wrapM (show r<1000000000000 by omega),vb_some,xAdd_i,wrapN (show 2*r<4611686018427387904 by omega),xGe_i,d,bite_t];exact Ret.of ⟨g,hs,st,heapX_done hX fun c' hc' hlt=>by omega⟩
 intro k
 induction k with
 |zero=>
  intro q r h g h1 h2 h3 hr hs hX st;obtain⟨q,rfl⟩: ∃r,q=r+1:=⟨q-1,by omega⟩;rw[lp_succ];exact stop r h g hr (by omega) hs hX st _
 |succ k ih=>
  intro q r h g h1 h2 h3 hr hs hX st;obtain⟨q,rfl⟩: ∃r,q=r+1:=⟨q-1,by omega⟩;rw[lp_succ]
  by_cases hc:hi<=2*r+1
  ·exact stop r h g hr hc hs hX st _
  generalize hL:lp q (F75_6 n cl)=LL;have d:decide (((hi:Nat):Int)<=((2*r+1:Nat):Int))=false:=by simp;omega
  have go: ∀c',(c'=2*r+1\/c'=2*r+2)->c'<hi->(∀d',(d'=2*r+1\/d'=2*r+2)->d'<hi->g (a+d')<=g (a+c'))->
    Ret (F75_3 n cl LL [sv b pre N c,.int .i64 (hi:Nat),.int .i64 (a:Nat),.int .i64 (r:Nat),.int .i64 (c':Nat)] h) (SR S h0 rows b md pre post N a (a+hi) f0 fun g _=> ∀k,lo<=k->HeapAt (fun k=>g (a+k)) hi k):=by
   intro c' hc1 hc2 hc3;have i1:=sIdx (b:=b) (pre:=pre) (N:=N) (c:=c) (i:=a+r) (by omega);have i2:=sIdx (b:=b) (pre:=pre) (N:=N) (c:=c) (i:=a+c') (by omega);have l1:=st.sld (i:=a+r) (by omega);have l2:=st.sld (i:=a+c') (by omega);have w1:=wrapA (x:=a) (y:=r) (by omega);have w2:=wrapA (x:=a) (y:=c') (by omega);simp only[F75_3,ucons_cons,F75_1,xAdd_i,w1,w2,vb_some,i1,i2,l1,l2,c62,xNot_b]
   by_cases hlt:g (a+r)<g (a+c')
   ·have d2:(!decide (g (a+r)<g (a+c')))=false:=by simp[hlt]
    simp only[d2,bite_f,F75_0,xAdd_i,w1,w2,vb_some,i1,i2,l1,l2];refine Ret.sst st hm (i:=a+r) (by omega) fun h2' st2=>?_;refine Ret.sst st2 hm (i:=a+c') (by omega) fun h3' st3=>?_;have e1:fup (fup g (a+r) (g (a+c'))) (a+c') (g (a+r))=swp g (a+r) (a+c'):=fup_swp;rw[e1]at st3;rw[<-hL];refine ih q c' h3' _ (by omega) (by omega) (by omega) (by omega) (hs.trans (.one (by omega) (by omega))) ?_ st3;rw[swp_rel];exact heapX_step hX h3 hc1 hc2 hlt hc3
   ·have d2:(!decide (g (a+r)<g (a+c')))=true:=by simp;omega
    simp only[d2,bite_t];refine Ret.of ⟨g,hs,st,heapX_done hX fun d' hd' hlt'=>?_⟩;have:=hc3 d' hd' hlt'
    show g (a+d')<=g (a+r)
    omega
  simp only[F75_6,F75_5,ucons_cons,vN_eq,xMul_i,wrapM (show r<1000000000000 by omega),vb_some,xAdd_i,wrapN (show 2*r<4611686018427387904 by omega),xGe_i,d,bite_f,jn_eq,F75_4,wrapN (show 2*r+1<4611686018427387904 by omega),xLt_i]
  by_cases h2c:2*r+1+1<hi
  ·have d2:decide (((2*r+1+1:Nat):Int)<((hi:Nat):Int))=true:=by simp;omega
   have i1:=sIdx (b:=b) (pre:=pre) (N:=N) (c:=c) (i:=a+(2*r+1)) (by omega);have i2:=sIdx (b:=b) (pre:=pre) (N:=N) (c:=c) (i:=a+(2*r+1)+1) (by omega);have l1:=st.sld (i:=a+(2*r+1)) (by omega);have l2:=st.sld (i:=a+(2*r+1)+1) (by omega);have w1:=wrapA (x:=a) (y:=2*r+1) (by omega);have w2:=wrapN (x:=a+(2*r+1)) (by omega);simp only[d2,isB_t,gd_true,vb_some,xAdd_i,w1,w2,i1,i2,l1,l2,c62,xPick_t]
   by_cases hlt:g (a+(2*r+1))<g (a+(2*r+1)+1)
   ·have d3:decide (g (a+(2*r+1))<g (a+(2*r+1)+1))=true:=by simp[hlt]
    simp only[d3,bite_t,F75_2,vN_eq,xAdd_i,wrapN (show 2*r+1<4611686018427387904 by omega),vb_some];refine go (2*r+1+1) (.inr rfl) h2c fun d' hd' hlt'=>?_;rcases hd' with rfl|rfl
    ·have e:a+(2*r+1+1)=a+(2*r+1)+1:=by omega
     rw[e];omega
    ·exact Int.le_refl _
   ·have d3:decide (g (a+(2*r+1))<g (a+(2*r+1)+1))=false:=by simp;omega
    simp only[d3,bite_f];refine go (2*r+1) (.inl rfl) (by omega) fun d' hd' hlt'=>?_;rcases hd' with rfl|rfl
    ·exact Int.le_refl _
    ·have e:a+(2*r+2)=a+(2*r+1)+1:=by omega
     rw[e];omega
  ·have d2:decide (((2*r+1+1:Nat):Int)<((hi:Nat):Int))=false:=by simp;omega
   have:=go (2*r+1) (.inl rfl) (by omega) fun d' hd' hlt'=>by
    rcases hd' with rfl|rfl
    ·exact Int.le_refl _
    ·omega
   simp only[d2,isB_t,gd_false,vb_some,xPick_f,bite_f];exact this
theorem c75(hm:mro md=false){a hi lo:Nat}(he:a+hi<=N)(hN:N<1000000000)(hn:4611686018427387904<=n)(hlo:lo<1000000000)(hX: ∀k,lo<k->HeapAt (fun k=>f (a+k)) hi k)(st:Sl h0 h S (SM b md pre post N f) rows):
  Ret (F75 n cl (sv b pre N c) (.int .i64 (lo:Nat)) (.int .i64 (hi:Nat)) (.int .i64 (a:Nat)) h) (SR S h0 rows b md pre post N a (a+hi) f fun g _=> ∀k,lo<=k->HeapAt (fun k=>g (a+k)) hi k):=by
 unfold F75;refine loop75 hm he hN hn hi n lo h f (by omega) (by omega) (Nat.le_refl _) hlo .refl ⟨fun k hk hne=>hX k (by omega),fun p hp hpr=>by omega⟩ st
end
theorem xQuo_n{x y:Nat}(hy:0<y)(hx:x<4611686018427387904):xQuo (.int .i64 (x:Nat)) (.int .i64 (y:Nat))=some (.int .i64 ((x / y:Nat):Int)):=by
 have h1:kb .i64 .i64=true:=rfl;have h2:ieq ((y:Nat):Int) 0=false:=by rw[ieq_eq];simp;omega
 have h3:Int.tdiv ((x:Nat):Int) ((y:Nat):Int)=((x / y:Nat):Int):=by simp[Int.tdiv]
 have h4:x / y<=x:=Nat.div_le_self _ _;simp only[xQuo,h1,h2,mkI_eq,wr_eq,h3];generalize x / y=z at h4;rw[wrap_in (by omega) (by omega)]
section
variable {Q:Value->PH->Prop}{n:Nat}{cl:CL}{h h0:PH}{S:Vw}{rows:Rws}{b N c:Nat}{md:Mode}{pre post:List Value}{f:Nat->Int}{K2:Value->PH->R}
theorem loop57b(hm:mro md=false){a hi:Nat}(he:a+hi<=N)(hN:N<1000000000)(hn:4611686018427387904<=n){f0:Nat->Int}:
  ∀(j q:Nat)(h:PH)(g:Nat->Int),j<q->j<=hi->Sw a (a+hi) f0 g->(∀k,HeapAt (fun k=>g (a+k)) j k)->(∀x y,j<=x->x<y->y<hi->g (a+x)<=g (a+y))->(∀x y,x<j->j<=y->y<hi->g (a+x)<=g (a+y))->Sl h0 h S (SM b md pre post N g) rows->
  Ret (lp q (F57_3 n cl) [sv b pre N c,.int .i64 (a:Nat),.int .i64 ((0:Nat):Int),.int .i64 (((j:Nat):Int)-1)] h) (SR S h0 rows b md pre post N a (a+hi) f0 fun g _=>Srt a (a+hi) g):=by
 intro j
 induction j with
 |zero=>
  intro q h g h2 h3 hs hH hS hC st;obtain⟨q,rfl⟩: ∃r,q=r+1:=⟨q-1,by omega⟩;rw[lp_succ];have d:decide (((0:Nat):Int)<=(((0:Nat):Int)-1))=false:=by decide
  simp only[F57_3,F57_2,ucons_cons,vN_eq,xGe_i,d,vb_some,bite_f];refine Ret.of ⟨g,hs,st,fun x y q1 q2 q3=>?_⟩;have:=hS (x-a) (y-a) (by omega) (by omega) (by omega);have e1:a+(x-a)=x:=by omega
  have e2:a+(y-a)=y:=by omega
  rw[e1,e2]at this;exact this
 |succ j ih=>
  intro q h g h2 h3 hs hH hS hC st;obtain⟨q,rfl⟩: ∃r,q=r+1:=⟨q-1,by omega⟩;rw[lp_succ];generalize hL:lp q (F57_3 n cl)=LL;have e0:(((j+1:Nat):Int)-1)=((j:Nat):Int):=by omega
  rw[e0];have d:decide (((0:Nat):Int)<=((j:Nat):Int))=true:=by simp
  have i1:=sIdx (b:=b) (pre:=pre) (N:=N) (c:=c) (i:=a+j) (by omega);have i2:=sIdx (b:=b) (pre:=pre) (N:=N) (c:=c) (i:=a) (by omega);have l1:=st.sld (i:=a+j) (by omega);have l2:=st.sld (i:=a) (by omega);have w1:=wrapA (x:=a) (y:=j) (by omega);simp only[F57_3,F57_2,ucons_cons,vN_eq,xGe_i,d,vb_some,bite_t,F57_1,xAdd_i,w1,i1,i2,l1,l2];refine Ret.sst st hm (i:=a) (by omega) fun h2' st2=>?_;refine Ret.sst st2 hm (i:=a+j) (by omega) fun h3' st3=>?_;have e1:fup (fup g a (g (a+j))) (a+j) (g a)=swp g a (a+j):=fup_swp;rw[e1]at st3;have va:swp g a (a+j) (a+j)=g a:=by
   show(if a+j=a then g (a+j)else if a+j=a+j then g a else _)=_
   by_cases hj:a+j=a
   ·rw[if_pos hj,hj]
   ·rw[if_neg hj,if_pos rfl]
  have v0:swp g a (a+j) a=g (a+j):=by simp[swp]
  have vo: ∀x,x≠a->x≠a+j->swp g a (a+j) x=g x:=fun x q1 q2=>by simp[swp,q1,q2]
  have hmx:=heap_max hH;have hlow: ∀x,x<j->swp g a (a+j) (a+x)<=g a:=by
   intro x hx;have hmx': ∀k,k<j+1->g (a+k)<=g a:=hmx
   by_cases h0:x=0
   ·subst h0;rw[Nat.add_zero,v0];exact hmx' j (by omega)
   ·rw[vo _ (by omega) (by omega)];exact hmx' x (by omega)
  refine Ret.hb (c75 hm (a:=a) (hi:=j) (lo:=0) (by omega) hN hn (by omega) (fun k hk c' hc' hlt=>?_) st3) fun v h4 ⟨g4,hs4,st4,hH4⟩=>?_
  ·show swp g a (a+j) (a+c')<=swp g a (a+j) (a+k)
   rw[vo _ (by omega) (by omega),vo _ (by omega) (by omega)];exact hH k c' hc' (by omega)
  ·have w2:IntKind.i64.wrap (((j:Nat):Int)-((1:Nat):Int))=((j:Nat):Int)-1:=by rw[wrap_in (by omega) (by omega)];omega
   simp only[xSub_i,w2,vb_some];rw[<-hL];have out: ∀x,j<=x->g4 (a+x)=swp g a (a+j) (a+x):=fun x hx=>hs4.out (by omega);have outj:g4 (a+j)=g a:=by rw[out j (Nat.le_refl _),va]
   have outg: ∀x,j<x->g4 (a+x)=g (a+x):=fun x hx=>by rw[out x (by omega),vo _ (by omega) (by omega)]
   have low: ∀x,x<j->g4 (a+x)<=g a:=by
    intro x hx;obtain⟨y,hy,e⟩:=hs4.from (k:=a+x) (by omega);rw[e];have:=hlow (y-a) (by omega);have e2:a+(y-a)=y:=by omega
    rw[e2]at this;exact this
   refine ih q h4 g4 (by omega) (by omega) ((hs.trans (.one (by omega) (by omega))).trans (hs4.wide (Nat.le_refl _) (by omega))) (fun k=>hH4 k (Nat.zero_le _)) ?_ ?_ st4
   ·intro x y q1 q2 q3;rw[outg y (by omega)]
    by_cases hx:x=j
    ·subst hx;rw[outj];have:=hC 0 y (by omega) (by omega) q3;rw[Nat.add_zero]at this;exact this
    ·rw[outg x (by omega)];exact hS x y (by omega) q2 q3
   ·intro x y q1 q2 q3;have h1:=low x q1
    by_cases hy:y=j
    ·subst hy;rw[outj];exact h1
    ·rw[outg y (by omega)];have:=hC 0 y (by omega) (by omega) q3;rw[Nat.add_zero]at this;omega
theorem loop57a(hm:mro md=false){a hi:Nat}(he:a+hi<=N)(hN:N<1000000000)(hn:4611686018427387904<=n)(h1:0<hi){f0:Nat->Int}:
  ∀(j q:Nat)(h:PH)(g:Nat->Int),j<q->j<=hi->Sw a (a+hi) f0 g->(∀k,j<=k->HeapAt (fun k=>g (a+k)) hi k)->Sl h0 h S (SM b md pre post N g) rows->
  Ret (lp q (F57_6 n cl) [sv b pre N c,.int .i64 (a:Nat),.int .i64 ((0:Nat):Int),.int .i64 (hi:Nat),.int .i64 (((j:Nat):Int)-1)] h) (SR S h0 rows b md pre post N a (a+hi) f0 fun g _=>Srt a (a+hi) g):=by
 intro j
 induction j with
 |zero=>
  intro q h g h2 h3 hs hH st;obtain⟨q,rfl⟩: ∃r,q=r+1:=⟨q-1,by omega⟩;rw[lp_succ];have d:decide (((0:Nat):Int)<=(((0:Nat):Int)-1))=false:=by decide
  have w2:IntKind.i64.wrap (((hi:Nat):Int)-((1:Nat):Int))=((hi:Nat):Int)-1:=by rw[wrap_in (by omega) (by omega)];omega
  simp only[F57_6,F57_5,ucons_cons,vN_eq,xGe_i,d,vb_some,bite_f,F57_4,xSub_i,w2];exact loop57b hm he hN hn hi n h g (by omega) (Nat.le_refl _) hs (fun k=>hH k (Nat.zero_le _)) (fun x y q1 q2 q3=>by omega) (fun x y q1 q2 q3=>by omega) st
 |succ j ih=>
  intro q h g h2 h3 hs hH st;obtain⟨q,rfl⟩: ∃r,q=r+1:=⟨q-1,by omega⟩;rw[lp_succ];generalize hL:lp q (F57_6 n cl)=LL;have e0:(((j+1:Nat):Int)-1)=((j:Nat):Int):=by omega
  rw[e0];have d:decide (((0:Nat):Int)<=((j:Nat):Int))=true:=by simp
  simp only[F57_6,F57_5,ucons_cons,vN_eq,xGe_i,d,vb_some,bite_t,F57_0];refine Ret.hb (c75 hm (a:=a) (hi:=hi) (lo:=j) he hN hn (by omega) (fun k hk=>hH k (by omega)) st) fun v h4 ⟨g4,hs4,st4,hH4⟩=>?_;have w2:IntKind.i64.wrap (((j:Nat):Int)-((1:Nat):Int))=((j:Nat):Int)-1:=by rw[wrap_in (by omega) (by omega)];omega
  simp only[xSub_i,w2,vb_some];rw[<-hL];exact ih q h4 g4 (by omega) (by omega) (hs.trans hs4) hH4 st4
theorem c57(hm:mro md=false){a e:Nat}(he:e<=N)(hN:N<1000000000)(hn:4611686018427387904<=n)(hae:a<e)(st:Sl h0 h S (SM b md pre post N f) rows):
  Ret (F57 n cl (sv b pre N c) (.int .i64 (a:Nat)) (.int .i64 (e:Nat)) h) (SR S h0 rows b md pre post N a e f fun g _=>Srt a e g):=by
 obtain⟨hi,rfl⟩: ∃hi,e=a+hi:=⟨e-a,by omega⟩;unfold F57;have w1:IntKind.i64.wrap (((a+hi:Nat):Int)-((a:Nat):Int))=((hi:Nat):Int):=by rw[wrap_in (by omega) (by omega)];omega
 have w2:=wrapS (x:=hi) (y:=1) (by omega) (by omega);have q1:=xQuo_n (x:=hi-1) (y:=2) (by decide) (by omega);simp only[vN_eq,xSub_i,w1,w2,vb_some,q1];have e0:(((hi-1) / 2:Nat):Int)=(((hi-1) / 2+1:Nat):Int)-1:=by omega
 rw[e0];refine loop57a hm he hN hn (by omega) ((hi-1) / 2+1) n h f (by omega) (by omega) .refl (fun k hk c' hc' hlt=>by omega) st
end
structure Pinv(g:Nat->Int)(a e i j:Nat):Prop where
 lo:a+1<=i
 ij:i<=j+1
 je:j<e
 l: ∀k,a<k->k<i->g k<g a
 r: ∀k,j<k->k<e->g a<=g k
theorem Pinv.swap{g:Nat->Int}{a e i j:Nat}(h:Pinv g a e i j)(hij:i<=j)(h1: ¬ g i<g a)(h2:g j<g a):i<j/\Pinv (swp g i j) a e (i+1) (j-1):=by
 have hlt:i<j:=by
  rcases Nat.lt_or_ge i j with q|q
  ·exact q
  ·have:i=j:=by omega
   subst this;exact absurd h2 h1
 have:=h.lo;have:=h.je;have vi:swp g i j i=g j:=by simp[swp]
 have vj:swp g i j j=g i:=by
  show(if j=i then g j else if j=j then g i else g j)=_
  rw[if_neg (by omega),if_pos rfl]
 have vo: ∀x,x≠i->x≠j->swp g i j x=g x:=fun x q1 q2=>by simp[swp,q1,q2]
 refine⟨hlt,⟨by omega,by omega,by omega,fun k q1 q2=>?_,fun k q1 q2=>?_⟩⟩
 ·rw[vo a (by omega) (by omega)]
  by_cases hk:k=i
  ·subst hk;rw[vi];exact h2
  ·rw[vo k hk (by omega)];exact h.l k q1 (by omega)
 ·rw[vo a (by omega) (by omega)]
  by_cases hk:k=j
  ·subst hk;rw[vj];omega
  ·rw[vo k (by omega) hk];exact h.r k (by omega) q2
def Parted(a e:Nat)(g:Nat->Int)(mid:Nat):Prop:=a<=mid/\mid<e/\(∀k,a<=k->k<mid->g k<=g mid)/\(∀k,mid<k->k<e->g mid<=g k)
theorem Pinv.done{g:Nat->Int}{a e i j:Nat}(h:Pinv g a e i j)(hij:j<i):a<=j/\Parted a e (swp g j a) j:=by
 have:=h.lo;have:=h.ij;have:=h.je;have vj:swp g j a j=g a:=by simp[swp]
 have va:swp g j a a=g j:=by
  show(if a=j then g a else if a=a then g j else g a)=_
  by_cases q:a=j
  ·rw[if_pos q,q]
  ·rw[if_neg q,if_pos rfl]
 have vo: ∀x,x≠j->x≠a->swp g j a x=g x:=fun x q1 q2=>by simp[swp,q1,q2]
 refine⟨by omega,by omega,by omega,fun k q1 q2=>?_,fun k q1 q2=>?_⟩
 ·rw[vj]
  by_cases hk:k=a
  ·subst hk;rw[va];have:=h.l j (by omega) (by omega);omega
  ·rw[vo k (by omega) hk];have:=h.l k (by omega) (by omega);omega
 ·rw[vj,vo k (by omega) (by omega)];exact h.r k q1 q2
section
variable {Q:Value->PH->Prop}{n:Nat}{cl:CL}{h h0:PH}{S:Vw}{rows:Rws}{b N c:Nat}{md:Mode}{pre post:List Value}{f g:Nat->Int}{K2:Value->PH->R}
theorem stepA{a e i j:Nat}(he:e<=N)(hN:N<1000000000)(hP:Pinv g a e i j)(st:Sl h0 h S (SM b md pre post N g) rows)(hij:i<=j)(hlt:g i<g a):Pinv g a e (i+1) j:=
 ⟨by have:=hP.lo;omega,by omega,hP.je,fun k q1 q2=>by
  by_cases hk:k=i
  ·subst hk;exact hlt
  ·exact hP.l k q1 (by omega),hP.r⟩
theorem stepB{a e i j:Nat}(hP:Pinv g a e i j)(hij:i<=j)(hge: ¬ g j<g a):Pinv g a e i (j-1):=
 ⟨hP.lo,by have:=hP.lo;omega,by have:=hP.je;omega,hP.l,fun k q1 q2=>by
  by_cases hk:k=j
  ·subst hk;omega
  ·exact hP.r k (by omega) q2⟩
theorem loop64A(hn:4611686018427387904<=n){a e j i0:Nat}(he:e<=N)(hN:N<1000000000)(st:Sl h0 h S (SM b md pre post N g) rows)
  (hk: ∀i',i0<=i'->Pinv g a e i' j->(i'<=j-> ¬ g i'<g a)->Ret (lp n (F64_16 n cl) [sv b pre N c,.int .i64 (a:Nat),.int .i64 (i':Nat),.int .i64 (j:Nat)] h) Q):
  ∀(k q i:Nat),j+1-i<=k->k<q->i0<=i->Pinv g a e i j->Ret (lp q (F64_18 n cl) [sv b pre N c,.int .i64 (a:Nat),.int .i64 (i:Nat),.int .i64 (j:Nat)] h) Q:=by
 have stop: ∀i,i0<=i->Pinv g a e i j-> ¬ i<=j-> ∀LL:Kt,Ret (F64_18 n cl LL [sv b pre N c,.int .i64 (a:Nat),.int .i64 (i:Nat),.int .i64 (j:Nat)] h) Q:=by
  intro i h0i hP hij LL;have d:decide (((i:Nat):Int)<=((j:Nat):Int))=false:=by simp;omega
  have:=hk i h0i hP (fun q=>absurd q hij);simp only[F64_18,F64_17,ucons_cons,xLe_i,d,vb_some];simpa[gd_some']using this
 intro k
 induction k with
 |zero=>
  intro q i h1 h2 h0i hP;obtain⟨q,rfl⟩: ∃r,q=r+1:=⟨q-1,by omega⟩;rw[lp_succ];exact stop i h0i hP (by omega) _
 |succ k ih=>
  intro q i h1 h2 h0i hP;obtain⟨q,rfl⟩: ∃r,q=r+1:=⟨q-1,by omega⟩;rw[lp_succ]
  by_cases hij:i<=j
  ·generalize hL:lp q (F64_18 n cl)=LL;have hje:=hP.je;have hlo:=hP.lo;have d:decide (((i:Nat):Int)<=((j:Nat):Int))=true:=by simp;omega
   have i1:=sIdx (b:=b) (pre:=pre) (N:=N) (c:=c) (i:=i) (by omega);have i2:=sIdx (b:=b) (pre:=pre) (N:=N) (c:=c) (i:=a) (by omega);have l1:=st.sld (i:=i) (by omega);have l2:=st.sld (i:=a) (by omega);simp only[F64_18,F64_17,ucons_cons,xLe_i,d,vb_some,isB_t,gd_true,i1,i2,l1,l2,c62,xPick_t]
   by_cases hlt:g i<g a
   ·have d2:decide (g i<g a)=true:=by simp[hlt]
    simp only[d2,bite_t,F64_0,vN_eq,xAdd_i,wrapN (show i<4611686018427387904 by omega),vb_some];rw[<-hL];exact ih q (i+1) (by omega) (by omega) (by omega) (stepA he hN hP st hij hlt)
   ·have d2:decide (g i<g a)=false:=by simp;omega
    simp only[d2,bite_f];exact hk i h0i hP (fun _=>hlt)
  ·exact stop i h0i hP hij _
theorem loop64B(hn:4611686018427387904<=n){a e i j0:Nat}(he:e<=N)(hN:N<1000000000)(st:Sl h0 h S (SM b md pre post N g) rows)
  (hk: ∀j',j'<=j0->Pinv g a e i j'->(i<=j'->g j'<g a)->Ret (F64_14 n cl (.int .i64 (i:Nat)) (.int .i64 (j':Nat)) (sv b pre N c) (.int .i64 (a:Nat)) h) Q):
  ∀(k q j:Nat),j+1-i<=k->k<q->j<=j0->Pinv g a e i j->Ret (lp q (F64_16 n cl) [sv b pre N c,.int .i64 (a:Nat),.int .i64 (i:Nat),.int .i64 (j:Nat)] h) Q:=by
 have stop: ∀j,j<=j0->Pinv g a e i j-> ¬ i<=j-> ∀LL:Kt,Ret (F64_16 n cl LL [sv b pre N c,.int .i64 (a:Nat),.int .i64 (i:Nat),.int .i64 (j:Nat)] h) Q:=by
  intro j h0i hP hij LL;have d:decide (((i:Nat):Int)<=((j:Nat):Int))=false:=by simp;omega
  have:=hk j h0i hP (fun q=>absurd q hij);simp only[F64_16,F64_15,ucons_cons,xLe_i,d,vb_some];simpa[gd_some']using this
 intro k
 induction k with
 |zero=>
  intro q j h1 h2 h0i hP;obtain⟨q,rfl⟩: ∃r,q=r+1:=⟨q-1,by omega⟩;rw[lp_succ];exact stop j h0i hP (by omega) _
 |succ k ih=>
  intro q j h1 h2 h0i hP;obtain⟨q,rfl⟩: ∃r,q=r+1:=⟨q-1,by omega⟩;rw[lp_succ]
  by_cases hij:i<=j
  ·generalize hL:lp q (F64_16 n cl)=LL;have hje:=hP.je;have hlo:=hP.lo;have d:decide (((i:Nat):Int)<=((j:Nat):Int))=true:=by simp;omega
   have i1:=sIdx (b:=b) (pre:=pre) (N:=N) (c:=c) (i:=j) (by omega);have i2:=sIdx (b:=b) (pre:=pre) (N:=N) (c:=c) (i:=a) (by omega);have l1:=st.sld (i:=j) (by omega);have l2:=st.sld (i:=a) (by omega);simp only[F64_16,F64_15,ucons_cons,xLe_i,d,vb_some,isB_t,gd_true,i1,i2,l1,l2,c62,xPick_t,xNot_b]
   by_cases hlt:g j<g a
   ·have d2:(!decide (g j<g a))=false:=by simp[hlt]
    simp only[d2,bite_f];exact hk j h0i hP (fun _=>hlt)
   ·have d2:(!decide (g j<g a))=true:=by simp;omega
    simp only[d2,bite_t,F64_1,vN_eq,xSub_i,wrapS (x:=j) (y:=1) (by omega) (by omega),vb_some];rw[<-hL];exact ih q (j-1) (by omega) (by omega) (by omega) (stepB hP hij hlt)
  ·exact stop j h0i hP hij _
theorem loop64C(hn:4611686018427387904<=n){a e j i0:Nat}(he:e<=N)(hN:N<1000000000){K:Kt}(st:Sl h0 h S (SM b md pre post N g) rows)
  (hk: ∀i',i0<=i'->Pinv g a e i' j->(i'<=j-> ¬ g i'<g a)->Ret (lp n (F64_9 n cl K) [sv b pre N c,.int .i64 (a:Nat),.int .i64 (i':Nat),.int .i64 (j:Nat)] h) Q):
  ∀(k q i:Nat),j+1-i<=k->k<q->i0<=i->Pinv g a e i j->Ret (lp q (F64_11 n cl K) [sv b pre N c,.int .i64 (a:Nat),.int .i64 (i:Nat),.int .i64 (j:Nat)] h) Q:=by
 have stop: ∀i,i0<=i->Pinv g a e i j-> ¬ i<=j-> ∀LL:Kt,Ret (F64_11 n cl K LL [sv b pre N c,.int .i64 (a:Nat),.int .i64 (i:Nat),.int .i64 (j:Nat)] h) Q:=by
  intro i h0i hP hij LL;have d:decide (((i:Nat):Int)<=((j:Nat):Int))=false:=by simp;omega
  have:=hk i h0i hP (fun q=>absurd q hij);simp only[F64_11,F64_10,ucons_cons,xLe_i,d,vb_some];simpa[gd_some']using this
 intro k
 induction k with
 |zero=>
  intro q i h1 h2 h0i hP;obtain⟨q,rfl⟩: ∃r,q=r+1:=⟨q-1,by omega⟩;rw[lp_succ];exact stop i h0i hP (by omega) _
 |succ k ih=>
  intro q i h1 h2 h0i hP;obtain⟨q,rfl⟩: ∃r,q=r+1:=⟨q-1,by omega⟩;rw[lp_succ]
  by_cases hij:i<=j
  ·generalize hL:lp q (F64_11 n cl K)=LL;have hje:=hP.je;have hlo:=hP.lo;have d:decide (((i:Nat):Int)<=((j:Nat):Int))=true:=by simp;omega
   have i1:=sIdx (b:=b) (pre:=pre) (N:=N) (c:=c) (i:=i) (by omega);have i2:=sIdx (b:=b) (pre:=pre) (N:=N) (c:=c) (i:=a) (by omega);have l1:=st.sld (i:=i) (by omega);have l2:=st.sld (i:=a) (by omega);simp only[F64_11,F64_10,ucons_cons,xLe_i,d,vb_some,isB_t,gd_true,i1,i2,l1,l2,c62,xPick_t]
   by_cases hlt:g i<g a
   ·have d2:decide (g i<g a)=true:=by simp[hlt]
    simp only[d2,bite_t,F64_3,vN_eq,xAdd_i,wrapN (show i<4611686018427387904 by omega),vb_some];rw[<-hL];exact ih q (i+1) (by omega) (by omega) (by omega) (stepA he hN hP st hij hlt)
   ·have d2:decide (g i<g a)=false:=by simp;omega
    simp only[d2,bite_f];exact hk i h0i hP (fun _=>hlt)
  ·exact stop i h0i hP hij _
theorem loop64D(hn:4611686018427387904<=n){a e i j0:Nat}(he:e<=N)(hN:N<1000000000){K:Kt}(st:Sl h0 h S (SM b md pre post N g) rows)
  (hk: ∀j',j'<=j0->Pinv g a e i j'->(i<=j'->g j'<g a)->Ret (F64_7 n cl (.int .i64 (i:Nat)) (.int .i64 (j':Nat)) (sv b pre N c) (.int .i64 (a:Nat)) K h) Q):
  ∀(k q j:Nat),j+1-i<=k->k<q->j<=j0->Pinv g a e i j->Ret (lp q (F64_9 n cl K) [sv b pre N c,.int .i64 (a:Nat),.int .i64 (i:Nat),.int .i64 (j:Nat)] h) Q:=by
 have stop: ∀j,j<=j0->Pinv g a e i j-> ¬ i<=j-> ∀LL:Kt,Ret (F64_9 n cl K LL [sv b pre N c,.int .i64 (a:Nat),.int .i64 (i:Nat),.int .i64 (j:Nat)] h) Q:=by
  intro j h0i hP hij LL;have d:decide (((i:Nat):Int)<=((j:Nat):Int))=false:=by simp;omega
  have:=hk j h0i hP (fun q=>absurd q hij);simp only[F64_9,F64_8,ucons_cons,xLe_i,d,vb_some];simpa[gd_some']using this
 intro k
 induction k with
 |zero=>
  intro q j h1 h2 h0i hP;obtain⟨q,rfl⟩: ∃r,q=r+1:=⟨q-1,by omega⟩;rw[lp_succ];exact stop j h0i hP (by omega) _
 |succ k ih=>
  intro q j h1 h2 h0i hP;obtain⟨q,rfl⟩: ∃r,q=r+1:=⟨q-1,by omega⟩;rw[lp_succ]
  by_cases hij:i<=j
  ·generalize hL:lp q (F64_9 n cl K)=LL;have hje:=hP.je;have hlo:=hP.lo;have d:decide (((i:Nat):Int)<=((j:Nat):Int))=true:=by simp;omega
   have i1:=sIdx (b:=b) (pre:=pre) (N:=N) (c:=c) (i:=j) (by omega);have i2:=sIdx (b:=b) (pre:=pre) (N:=N) (c:=c) (i:=a) (by omega);have l1:=st.sld (i:=j) (by omega);have l2:=st.sld (i:=a) (by omega);simp only[F64_9,F64_8,ucons_cons,xLe_i,d,vb_some,isB_t,gd_true,i1,i2,l1,l2,c62,xPick_t,xNot_b]
   by_cases hlt:g j<g a
   ·have d2:(!decide (g j<g a))=false:=by simp[hlt]
    simp only[d2,bite_f];exact hk j h0i hP (fun _=>hlt)
   ·have d2:(!decide (g j<g a))=true:=by simp;omega
    simp only[d2,bite_t,F64_4,vN_eq,xSub_i,wrapS (x:=j) (y:=1) (by omega) (by omega),vb_some];rw[<-hL];exact ih q (j-1) (by omega) (by omega) (by omega) (stepB hP hij hlt)
  ·exact stop j h0i hP hij _
theorem Ret.swap2(hm:mro md=false){i j:Nat}(hi:i<N)(hj:j<N)(st:Sl h0 h S (SM b md pre post N g) rows){K:PH->R}(hk: ∀h',Sl h0 h' S (SM b md pre post N (swp g i j)) rows->Ret (K h') Q):
  Ret (Go.Am.vb (xIdxS 1 (sv b pre N c) (.int .i64 (j:Nat))) fun v1=>Go.Am.vb (xIdxS 1 (sv b pre N c) (.int .i64 (i:Nat))) fun v2=>Go.Am.vb (xLd v1 h) fun v3=>Go.Am.vb (xLd v2 h) fun v4=>
   Go.Am.vb (xIdxS 1 (sv b pre N c) (.int .i64 (i:Nat))) fun v5=>Go.Am.hb (xSt1 v5 v3 h) fun _ h=>Go.Am.vb (xIdxS 1 (sv b pre N c) (.int .i64 (j:Nat))) fun v6=>Go.Am.hb (xSt1 v6 v4 h) fun _ h=>K h) Q:=by
 have i1:=sIdx (b:=b) (pre:=pre) (N:=N) (c:=c) (i:=i) hi;have i2:=sIdx (b:=b) (pre:=pre) (N:=N) (c:=c) (i:=j) hj;have l1:=st.sld (i:=i) hi;have l2:=st.sld (i:=j) hj;simp only[i1,i2,l1,l2,vb_some];refine Ret.sst st hm (i:=i) hi fun h2' st2=>?_;refine Ret.sst st2 hm (i:=j) hj fun h3' st3=>?_;have e1:fup (fup g i (g j)) j (g i)=swp g i j:=fup_swp;rw[e1]at st3;exact hk h3' st3
end
section
variable {Q:Value->PH->Prop}{n:Nat}{cl:CL}{h h0:PH}{S:Vw}{rows:Rws}{b N c:Nat}{md:Mode}{pre post:List Value}{f g:Nat->Int}{K2:Value->PH->R}
def PartP(a e:Nat)(g:Nat->Int)(v:Value):Prop:= ∃(mid:Nat) (bb:Bool),v= .tuple ⟨[.int .i64 (mid:Nat),.bool bb]⟩/\Parted a e g mid
theorem loop64O(hm:mro md=false)(hn:4611686018427387904<=n){a e:Nat}(he:e<=N)(hN:N<1000000000){f0:Nat->Int}:
  ∀(k q i j:Nat)(h:PH)(g:Nat->Int),j+1-i<=k->k<q->Sw a e f0 g->Pinv g a e i j->Sl h0 h S (SM b md pre post N g) rows->
  Ret (lp q (F64_12 n cl) [sv b pre N c,.int .i64 (a:Nat),.int .i64 (i:Nat),.int .i64 (j:Nat)] h) (SR S h0 rows b md pre post N a e f0 (PartP a e)):=by
 intro k
 induction k using Nat.strongRecOn with
 |ind k ih=>
  intro q i j h g h1 h2 hs hP st;obtain⟨q,rfl⟩: ∃r,q=r+1:=⟨q-1,by omega⟩;rw[lp_succ];generalize hL:lp q (F64_12 n cl)=LL;have hje:=hP.je;have hlo:=hP.lo;simp only[F64_12,ucons_cons];refine loop64C (i0:=i) hn he hN st (fun i1 hi0 hP1 hs1=>?_) (j+1) n i (by omega) (by omega) (Nat.le_refl _) hP;refine loop64D (j0:=j) hn he hN st (fun j1 hj0 hP2 hs2=>?_) (j+1) n j (by omega) (by omega) (Nat.le_refl _) hP1;have hje2:=hP2.je;have hlo2:=hP2.lo;have hij2:=hP2.ij
  by_cases hji:j1<i1
  ·have d:decide (((j1:Nat):Int)<((i1:Nat):Int))=true:=by simp;omega
   obtain⟨q1,q2⟩:=hP2.done hji;simp only[F64_7,xGt_i,d,vb_some,bite_t,F64_5];refine Ret.swap2 hm (i:=j1) (j:=a) (by omega) (by omega) st fun h3 st3=>?_;exact Ret.of ⟨_,hs.trans (.one (by omega) (by omega)),st3,j1,false,rfl,q2⟩
  ·have d:decide (((j1:Nat):Int)<((i1:Nat):Int))=false:=by simp;omega
   have hj:g j1<g a:=hs2 (by omega);have hi1:i1<=j1:=by omega
   have hi: ¬ g i1<g a:=hs1 (by omega);obtain⟨hlt,hP3⟩:=hP2.swap hi1 hi hj;simp only[F64_7,xGt_i,d,vb_some,bite_f,F64_6];refine Ret.swap2 hm (i:=i1) (j:=j1) (by omega) (by omega) st fun h3 st3=>?_;simp only[vN_eq,xAdd_i,wrapN (show i1<4611686018427387904 by omega),xSub_i,wrapS (x:=j1) (y:=1) (by omega) (by omega),vb_some];rw[<-hL];exact ih (k-1) (by omega) q (i1+1) (j1-1) h3 _ (by omega) (by omega) (hs.trans (.one (by omega) (by omega))) hP3 st3
theorem c64(hm:mro md=false)(hn:4611686018427387904<=n){a e p:Nat}(he:e<=N)(hN:N<1000000000)(hap:a<=p)(hpe:p<e)(st:Sl h0 h S (SM b md pre post N f) rows):
  Ret (F64 n cl (sv b pre N c) (.int .i64 (a:Nat)) (.int .i64 (e:Nat)) (.int .i64 (p:Nat)) h) (SR S h0 rows b md pre post N a e f (PartP a e)):=by
 unfold F64;refine Ret.swap2 hm (i:=a) (j:=p) (by omega) (by omega) st fun h1 st1=>?_;simp only[vN_eq,xAdd_i,wrapN (show a<4611686018427387904 by omega),xSub_i,wrapS (x:=e) (y:=1) (by omega) (by omega),vb_some];have hs:Sw a e f (swp f a p):=.one (by omega) (by omega);generalize swp f a p=g at st1 hs;have hP:Pinv g a e (a+1) (e-1):=⟨Nat.le_refl _,by omega,by omega,fun k q1 q2=>by omega,fun k q1 q2=>by omega⟩;refine loop64A (i0:=a+1) hn he hN st1 (fun i1 hi0 hP1 hs1=>?_) e n (a+1) (by omega) (by omega) (Nat.le_refl _) hP;refine loop64B (j0:=e-1) hn he hN st1 (fun j1 hj0 hP2 hs2=>?_) e n (e-1) (by omega) (by omega) (Nat.le_refl _) hP1;have hje2:=hP2.je;have hlo2:=hP2.lo;have hij2:=hP2.ij
 by_cases hji:j1<i1
 ·have d:decide (((j1:Nat):Int)<((i1:Nat):Int))=true:=by simp;omega
  obtain⟨q1,q2⟩:=hP2.done hji;simp only[F64_14,xGt_i,d,vb_some,bite_t,F64_2];refine Ret.swap2 hm (i:=j1) (j:=a) (by omega) (by omega) st1 fun h3 st3=>?_;exact Ret.of ⟨_,hs.trans (.one (by omega) (by omega)),st3,j1,true,rfl,q2⟩
 ·have d:decide (((j1:Nat):Int)<((i1:Nat):Int))=false:=by simp;omega
  obtain⟨hlt,hP3⟩:=hP2.swap (by omega) (hs1 (by omega)) (hs2 (by omega));simp only[F64_14,xGt_i,d,vb_some,bite_f,F64_13];refine Ret.swap2 hm (i:=i1) (j:=j1) (by omega) (by omega) st1 fun h3 st3=>?_;simp only[vN_eq,xAdd_i,wrapN (show i1<4611686018427387904 by omega),xSub_i,wrapS (x:=j1) (y:=1) (by omega) (by omega),vb_some];exact loop64O hm hn he hN e n (i1+1) (j1-1) h3 _ (by omega) (by omega) (hs.trans (.one (by omega) (by omega))) hP3 st3
theorem c60(hm:mro md=false){a e:Nat}(he:e<=N)(hN:N<1000000000)(hn:4611686018427387904<=n)(hae:a<e)(st:Sl h0 h S (SM b md pre post N f) rows):
  Ret (F60 n cl (sv b pre N c) (.int .i64 (a:Nat)) (.int .i64 (e:Nat)) h) (SR S h0 rows b md pre post N a e f fun _ _=>True):=by
 have key: ∀(k q i j:Nat)(h:PH)(g:Nat->Int),j-i<=k->k<q->a<=i->j<e->i<=j+1->Sw a e f g->Sl h0 h S (SM b md pre post N g) rows->
   Ret (lp q (F60_2 n cl) [sv b pre N c,.int .i64 (i:Nat),.int .i64 (j:Nat)] h) (SR S h0 rows b md pre post N a e f fun _ _=>True):=by
  intro k
  induction k using Nat.strongRecOn with
  |ind k ih=>
   intro q i j h g h1 h2 h3 h4 h5 hs st;obtain⟨q,rfl⟩: ∃r,q=r+1:=⟨q-1,by omega⟩;rw[lp_succ];generalize hL:lp q (F60_2 n cl)=LL
   by_cases hij:i<j
   ·have d:decide (((i:Nat):Int)<((j:Nat):Int))=true:=by simp;omega
    simp only[F60_2,F60_1,ucons_cons,xLt_i,d,vb_some,bite_t,F60_0];refine Ret.swap2 hm (i:=i) (j:=j) (by omega) (by omega) st fun h3' st3=>?_;simp only[vN_eq,xAdd_i,wrapN (show i<4611686018427387904 by omega),xSub_i,wrapS (x:=j) (y:=1) (by omega) (by omega),vb_some];rw[<-hL];exact ih (k-1) (by omega) q (i+1) (j-1) h3' _ (by omega) (by omega) (by omega) (by omega) (by omega) (hs.trans (.one (by omega) (by omega))) st3
   ·have d:decide (((i:Nat):Int)<((j:Nat):Int))=false:=by simp;omega
    simp only[F60_2,F60_1,ucons_cons,xLt_i,d,vb_some,bite_f];exact Ret.of ⟨g,hs,st,trivial⟩
 unfold F60;simp only[vN_eq,xSub_i,wrapS (x:=e) (y:=1) (by omega) (by omega),vb_some];exact key e n a (e-1) h f (by omega) (by omega) (Nat.le_refl _) (by omega) (by omega) .refl st
end
structure Pine(g:Nat->Int)(a e i j:Nat):Prop where
 lo:a+1<=i
 ij:i<=j+1
 je:j<e
 l: ∀k,a<k->k<i->g k<=g a
 r: ∀k,j<k->k<e->g a<g k
theorem Pine.swap{g:Nat->Int}{a e i j:Nat}(h:Pine g a e i j)(hij:i<=j)(h1:g a<g i)(h2: ¬ g a<g j):i<j/\Pine (swp g i j) a e (i+1) (j-1):=by
 have hlt:i<j:=by
  rcases Nat.lt_or_ge i j with q|q
  ·exact q
  ·have:i=j:=by omega
   subst this;exact absurd h1 h2
 have:=h.lo;have:=h.je;have vi:swp g i j i=g j:=by simp[swp]
 have vj:swp g i j j=g i:=by
  show(if j=i then g j else if j=j then g i else g j)=_
  rw[if_neg (by omega),if_pos rfl]
 have vo: ∀x,x≠i->x≠j->swp g i j x=g x:=fun x q1 q2=>by simp[swp,q1,q2]
 refine⟨hlt,⟨by omega,by omega,by omega,fun k q1 q2=>?_,fun k q1 q2=>?_⟩⟩
 ·rw[vo a (by omega) (by omega)]
  by_cases hk:k=i
  ·subst hk;rw[vi];omega
  ·rw[vo k hk (by omega)];exact h.l k q1 (by omega)
 ·rw[vo a (by omega) (by omega)]
  by_cases hk:k=j
  ·subst hk;rw[vj];omega
  ·rw[vo k (by omega) hk];exact h.r k (by omega) q2
def EqP(a e:Nat)(pv:Int)(g:Nat->Int)(v:Value):Prop:= ∃mid:Nat,v= .int .i64 (mid:Nat)/\g a=pv/\a<mid/\mid<=e/\(∀k,a<=k->k<mid->g k<=g a)/\(∀k,mid<=k->k<e->g a<g k)
section
variable {Q:Value->PH->Prop}{n:Nat}{cl:CL}{h h0:PH}{S:Vw}{rows:Rws}{b N c:Nat}{md:Mode}{pre post:List Value}{f g:Nat->Int}{K2:Value->PH->R}
theorem loop63A(hn:4611686018427387904<=n){a e j i0:Nat}(he:e<=N)(hN:N<1000000000){K:Kt}(st:Sl h0 h S (SM b md pre post N g) rows)
  (hk: ∀i',i0<=i'->Pine g a e i' j->(i'<=j->g a<g i')->Ret (lp n (F63_5 n cl K) [sv b pre N c,.int .i64 (a:Nat),.int .i64 (i':Nat),.int .i64 (j:Nat)] h) Q):
  ∀(k q i:Nat),j+1-i<=k->k<q->i0<=i->Pine g a e i j->Ret (lp q (F63_7 n cl K) [sv b pre N c,.int .i64 (a:Nat),.int .i64 (i:Nat),.int .i64 (j:Nat)] h) Q:=by
 have stop: ∀i,i0<=i->Pine g a e i j-> ¬ i<=j-> ∀LL:Kt,Ret (F63_7 n cl K LL [sv b pre N c,.int .i64 (a:Nat),.int .i64 (i:Nat),.int .i64 (j:Nat)] h) Q:=by
  intro i h0i hP hij LL;have d:decide (((i:Nat):Int)<=((j:Nat):Int))=false:=by simp;omega
  have:=hk i h0i hP (fun q=>absurd q hij);simp only[F63_7,F63_6,ucons_cons,xLe_i,d,vb_some];simpa[gd_some']using this
 intro k
 induction k with
 |zero=>
  intro q i h1 h2 h0i hP;obtain⟨q,rfl⟩: ∃r,q=r+1:=⟨q-1,by omega⟩;rw[lp_succ];exact stop i h0i hP (by omega) _
 |succ k ih=>
  intro q i h1 h2 h0i hP;obtain⟨q,rfl⟩: ∃r,q=r+1:=⟨q-1,by omega⟩;rw[lp_succ]
  by_cases hij:i<=j
  ·generalize hL:lp q (F63_7 n cl K)=LL;have hje:=hP.je;have hlo:=hP.lo;have d:decide (((i:Nat):Int)<=((j:Nat):Int))=true:=by simp;omega
   have i1:=sIdx (b:=b) (pre:=pre) (N:=N) (c:=c) (i:=i) (by omega);have i2:=sIdx (b:=b) (pre:=pre) (N:=N) (c:=c) (i:=a) (by omega);have l1:=st.sld (i:=i) (by omega);have l2:=st.sld (i:=a) (by omega);simp only[F63_7,F63_6,ucons_cons,xLe_i,d,vb_some,isB_t,gd_true,i1,i2,l1,l2,c62,xPick_t,xNot_b]
   by_cases hlt:g a<g i
   ·have d2:(!decide (g a<g i))=false:=by simp[hlt]
    simp only[d2,bite_f];exact hk i h0i hP (fun _=>hlt)
   ·have d2:(!decide (g a<g i))=true:=by simp;omega
    simp only[d2,bite_t,F63_0,vN_eq,xAdd_i,wrapN (show i<4611686018427387904 by omega),vb_some];rw[<-hL];refine ih q (i+1) (by omega) (by omega) (by omega) ⟨by omega,by omega,hje,fun k q1 q2=>?_,hP.r⟩
    by_cases hk':k=i
    ·subst hk';omega
    ·exact hP.l k q1 (by omega)
  ·exact stop i h0i hP hij _
theorem loop63B(hn:4611686018427387904<=n){a e i j0:Nat}(he:e<=N)(hN:N<1000000000){K:Kt}(st:Sl h0 h S (SM b md pre post N g) rows)
  (hk: ∀j',j'<=j0->Pine g a e i j'->(i<=j'-> ¬ g a<g j')->Ret (F63_3 n cl (.int .i64 (i:Nat)) (.int .i64 (j':Nat)) (sv b pre N c) K (.int .i64 (a:Nat)) h) Q):
  ∀(k q j:Nat),j+1-i<=k->k<q->j<=j0->Pine g a e i j->Ret (lp q (F63_5 n cl K) [sv b pre N c,.int .i64 (a:Nat),.int .i64 (i:Nat),.int .i64 (j:Nat)] h) Q:=by
 have stop: ∀j,j<=j0->Pine g a e i j-> ¬ i<=j-> ∀LL:Kt,Ret (F63_5 n cl K LL [sv b pre N c,.int .i64 (a:Nat),.int .i64 (i:Nat),.int .i64 (j:Nat)] h) Q:=by
  intro j h0i hP hij LL;have d:decide (((i:Nat):Int)<=((j:Nat):Int))=false:=by simp;omega
  have:=hk j h0i hP (fun q=>absurd q hij);simp only[F63_5,F63_4,ucons_cons,xLe_i,d,vb_some];simpa[gd_some']using this
 intro k
 induction k with
 |zero=>
  intro q j h1 h2 h0i hP;obtain⟨q,rfl⟩: ∃r,q=r+1:=⟨q-1,by omega⟩;rw[lp_succ];exact stop j h0i hP (by omega) _
 |succ k ih=>
  intro q j h1 h2 h0i hP;obtain⟨q,rfl⟩: ∃r,q=r+1:=⟨q-1,by omega⟩;rw[lp_succ]
  by_cases hij:i<=j
  ·generalize hL:lp q (F63_5 n cl K)=LL;have hje:=hP.je;have hlo:=hP.lo;have d:decide (((i:Nat):Int)<=((j:Nat):Int))=true:=by simp;omega
   have i1:=sIdx (b:=b) (pre:=pre) (N:=N) (c:=c) (i:=j) (by omega);have i2:=sIdx (b:=b) (pre:=pre) (N:=N) (c:=c) (i:=a) (by omega);have l1:=st.sld (i:=j) (by omega);have l2:=st.sld (i:=a) (by omega);simp only[F63_5,F63_4,ucons_cons,xLe_i,d,vb_some,isB_t,gd_true,i1,i2,l1,l2,c62,xPick_t]
   by_cases hlt:g a<g j
   ·have d2:decide (g a<g j)=true:=by simp[hlt]
    simp only[d2,bite_t,F63_1,vN_eq,xSub_i,wrapS (x:=j) (y:=1) (by omega) (by omega),vb_some];rw[<-hL];refine ih q (j-1) (by omega) (by omega) (by omega) ⟨hlo,by omega,by omega,hP.l,fun k q1 q2=>?_⟩
    by_cases hk':k=j
    ·subst hk';exact hlt
    ·exact hP.r k (by omega) q2
   ·have d2:decide (g a<g j)=false:=by simp;omega
    simp only[d2,bite_f];exact hk j h0i hP (fun _=>hlt)
  ·exact stop j h0i hP hij _
theorem loop63O(hm:mro md=false)(hn:4611686018427387904<=n){a e:Nat}(he:e<=N)(hN:N<1000000000){f0:Nat->Int}{pv:Int}:
  ∀(k q i j:Nat)(h:PH)(g:Nat->Int),j+1-i<=k->k<q->Sw a e f0 g->Pine g a e i j->g a=pv->Sl h0 h S (SM b md pre post N g) rows->
  Ret (lp q (F63_8 n cl) [sv b pre N c,.int .i64 (a:Nat),.int .i64 (i:Nat),.int .i64 (j:Nat)] h) (SR S h0 rows b md pre post N a e f0 (EqP a e pv)):=by
 intro k
 induction k using Nat.strongRecOn with
 |ind k ih=>
  intro q i j h g h1 h2 hs hP hpv st;obtain⟨q,rfl⟩: ∃r,q=r+1:=⟨q-1,by omega⟩;rw[lp_succ];generalize hL:lp q (F63_8 n cl)=LL;have hje:=hP.je;have hlo:=hP.lo;simp only[F63_8,ucons_cons];refine loop63A (i0:=i) hn he hN st (fun i1 hi0 hP1 hs1=>?_) (j+1) n i (by omega) (by omega) (Nat.le_refl _) hP;refine loop63B (j0:=j) hn he hN st (fun j1 hj0 hP2 hs2=>?_) (j+1) n j (by omega) (by omega) (Nat.le_refl _) hP1;have hje2:=hP2.je;have hlo2:=hP2.lo;have hij2:=hP2.ij
  by_cases hji:j1<i1
  ·have d:decide (((j1:Nat):Int)<((i1:Nat):Int))=true:=by simp;omega
   simp only[F63_3,xGt_i,d,vb_some,bite_t];refine Ret.of ⟨g,hs,st,i1,rfl,hpv,by omega,by omega,fun k q1 q2=>?_,fun k q1 q2=>hP2.r k (by omega) q2⟩
   by_cases hk:k=a
   ·subst hk;exact Int.le_refl _
   ·exact hP2.l k (by omega) q2
  ·have d:decide (((j1:Nat):Int)<((i1:Nat):Int))=false:=by simp;omega
   obtain⟨hlt,hP3⟩:=hP2.swap (by omega) (hs1 (by omega)) (hs2 (by omega));simp only[F63_3,xGt_i,d,vb_some,bite_f,F63_2];refine Ret.swap2 hm (i:=i1) (j:=j1) (by omega) (by omega) st fun h3 st3=>?_;simp only[vN_eq,xAdd_i,wrapN (show i1<4611686018427387904 by omega),xSub_i,wrapS (x:=j1) (y:=1) (by omega) (by omega),vb_some];rw[<-hL];exact ih (k-1) (by omega) q (i1+1) (j1-1) h3 _ (by omega) (by omega) (hs.trans (.one (by omega) (by omega))) hP3 (by rw[<-hpv];show(if a=i1 then _ else if a=j1 then _ else g a)=_;rw[if_neg (by omega),if_neg (by omega)]) st3
theorem c63(hm:mro md=false)(hn:4611686018427387904<=n){a e p:Nat}(he:e<=N)(hN:N<1000000000)(hap:a<=p)(hpe:p<e)(st:Sl h0 h S (SM b md pre post N f) rows):
  Ret (F63 n cl (sv b pre N c) (.int .i64 (a:Nat)) (.int .i64 (e:Nat)) (.int .i64 (p:Nat)) h) (SR S h0 rows b md pre post N a e f (EqP a e (f p))):=by
 unfold F63;refine Ret.swap2 hm (i:=a) (j:=p) (by omega) (by omega) st fun h1 st1=>?_;simp only[vN_eq,xAdd_i,wrapN (show a<4611686018427387904 by omega),xSub_i,wrapS (x:=e) (y:=1) (by omega) (by omega),vb_some];exact loop63O hm hn he hN e n (a+1) (e-1) h1 _ (by omega) (by omega) (.one (by omega) (by omega)) ⟨Nat.le_refl _,by omega,by omega,fun k q1 q2=>by omega,fun k q1 q2=>by omega⟩ (by simp[swp]) st1
end
theorem zc3:zcells Try.prog 3=some [.int .i64 0]:=by kernel_rfl
section
variable {Q:Value->PH->Prop}{n:Nat}{cl:CL}{h h0:PH}{S:Vw}{rows:Rws}{b N c:Nat}{md:Mode}{pre post:List Value}{f g:Nat->Int}{K2:Value->PH->R}
theorem c87{x y s w:Nat}(hx:x<N)(hy:y<N)(hw:w<1000)(st:Sl h0 h S (SM b md pre post N f) ((s,.row .own 1 [.int .i64 (w:Nat)])::rows)):
  Ret (F87 n cl (sv b pre N c) (.int .i64 (x:Nat)) (.int .i64 (y:Nat)) (.pointer (some ⟨s,0,none⟩)) h) fun v h'=> ∃x' y' w':Nat,((x'=x/\y'=y)\/(x'=y/\y'=x))/\w'<=w+1/\v= .tuple ⟨[.int .i64 (x':Nat),.int .i64 (y':Nat)]⟩/\Sl h0 h' S (SM b md pre post N f) ((s,.row .own 1 [.int .i64 (w':Nat)])::rows):=by
 have i1:=sIdx (b:=b) (pre:=pre) (N:=N) (c:=c) (i:=x) hx;have i2:=sIdx (b:=b) (pre:=pre) (N:=N) (c:=c) (i:=y) hy;have l1:=st.sld (i:=x) hx;have l2:=st.sld (i:=y) hy;unfold F87;simp only[i1,i2,l1,l2,c62,vb_some];cases decide (f y<f x)with
 |true=>
  have l3:xLd (.pointer (some ⟨s,0,none⟩)) h=some (.int .i64 (w:Nat)):=st.ld (.head _) rfl;simp only[bite_t,F87_0,xNil_p,l3,vN_eq,xAdd_i,wrapN (show w<4611686018427387904 by omega),vb_some];refine Ret.lst1 st 0 rfl rfl (by simp) rfl fun h2 st2=>?_;exact Ret.of ⟨y,x,w+1,.inr ⟨rfl,rfl⟩,by omega,rfl,st2⟩
 |false=>
  simp only[bite_f];exact Ret.of ⟨x,y,w,.inl ⟨rfl,rfl⟩,by omega,rfl,st⟩
theorem c79{x y z s w:Nat}(hx:x<N)(hy:y<N)(hz:z<N)(hw:w<900)(st:Sl h0 h S (SM b md pre post N f) ((s,.row .own 1 [.int .i64 (w:Nat)])::rows)):
  Ret (F79 n cl (sv b pre N c) (.int .i64 (x:Nat)) (.int .i64 (y:Nat)) (.int .i64 (z:Nat)) (.pointer (some ⟨s,0,none⟩)) h) fun v h'=> ∃p w':Nat,(p=x\/p=y\/p=z)/\w'<=w+3/\v= .int .i64 (p:Nat)/\Sl h0 h' S (SM b md pre post N f) ((s,.row .own 1 [.int .i64 (w':Nat)])::rows):=by
 unfold F79;refine Ret.hb (c87 hx hy (by omega) st) fun v1 h1 ⟨x1,y1,w1,e1,e2,hv1,st1⟩=>?_;subst hv1;simp only[xExt_t',List.getElem?_cons_zero,List.getElem?_cons_succ,vb_some];refine Ret.hb (c87 (by omega) hz (by omega) st1) fun v2 h2 ⟨x2,y2,w2,e3,e4,hv2,st2⟩=>?_;subst hv2;simp only[xExt_t',List.getElem?_cons_zero,List.getElem?_cons_succ,vb_some];refine Ret.hb (c87 (by omega) (by omega) (by omega) st2) fun v3 h3 ⟨x3,y3,w3,e5,e6,hv3,st3⟩=>?_;subst hv3;simp only[xExt_t',List.getElem?_cons_zero,List.getElem?_cons_succ,vb_some];exact Ret.of ⟨y3,w3,by omega,by omega,rfl,st3⟩
theorem c78{x s w:Nat}(h1:1<=x)(hx:x+1<N)(hN:N<1000000000)(hw:w<900)(st:Sl h0 h S (SM b md pre post N f) ((s,.row .own 1 [.int .i64 (w:Nat)])::rows)):
  Ret (F78 n cl (sv b pre N c) (.int .i64 (x:Nat)) (.pointer (some ⟨s,0,none⟩)) h) fun v h'=> ∃p w':Nat,x-1<=p/\p<=x+1/\w'<=w+3/\v= .int .i64 (p:Nat)/\Sl h0 h' S (SM b md pre post N f) ((s,.row .own 1 [.int .i64 (w':Nat)])::rows):=by
 unfold F78;simp only[vN_eq,xSub_i,wrapS (x:=x) (y:=1) h1 (by omega),xAdd_i,wrapN (show x<4611686018427387904 by omega),vb_some];refine Ret.hb (c79 (by omega) (by omega) (by omega) hw st) fun v h2 ⟨p,w',e1,e2,hv,st2⟩=>?_;subst hv;exact Ret.of ⟨p,w',by omega,by omega,e2,rfl,st2⟩
def ChP(a e:Nat)(v:Value):Prop:= ∃p t:Nat,v= .tuple ⟨[.int .i64 (p:Nat),.int .i64 (t:Nat)]⟩/\a<=p/\p<e
theorem c59{a e:Nat}(he:e<=N)(hN:N<1000000000)(hae:a+12<e)(st:Sl h0 h S (SM b md pre post N f) rows):
  Ret (F59 n cl (sv b pre N c) (.int .i64 (a:Nat)) (.int .i64 (e:Nat)) h) fun v h'=>ChP a e v/\Sl h0 h' S (SM b md pre post N f) rows:=by
 obtain⟨l,rfl⟩: ∃l,e=a+l:=⟨e-a,by omega⟩;unfold F59;have w1:IntKind.i64.wrap (((a+l:Nat):Int)-((a:Nat):Int))=((l:Nat):Int):=by rw[wrap_in (by omega) (by omega)];omega
 have q1:=xQuo_n (x:=l) (y:=4) (by decide) (by omega);have hq:l / 4<=l:=Nat.div_le_self _ _;have hq4:3<=l / 4/\4*(l / 4)<=l:=by omega
 generalize l / 4=d at q1 hq hq4;have m1:IntKind.i64.wrap (((d:Nat):Int)*((1:Nat):Int))=((d:Nat):Int):=by rw[wrap_in (by omega) (by omega)];omega
 have m2:IntKind.i64.wrap (((d:Nat):Int)*((2:Nat):Int))=((2*d:Nat):Int):=by rw[wrap_in (by omega) (by omega)];omega
 have m3:IntKind.i64.wrap (((d:Nat):Int)*((3:Nat):Int))=((3*d:Nat):Int):=by rw[wrap_in (by omega) (by omega)];omega
 simp only[vN_eq,xSub_i,w1,vb_some];refine Ret.lalloc st zc3 fun h1 s st1=>?_;have st1:Sl h0 h1 S (SM b md pre post N f) ((s,.row .own 1 [.int .i64 ((0:Nat):Int)])::rows):=st1;simp only[q1,vb_some,xMul_i,m1,m2,m3,xAdd_i,wrapA (x:=a) (y:=d) (by omega),wrapA (x:=a) (y:=2*d) (by omega),wrapA (x:=a) (y:=3*d) (by omega),jn_eq];have d8:decide (((8:Nat):Int)<=((l:Nat):Int))=true:=by simp;omega
 have fin: ∀(p w:Nat)(h:PH),a<=p->p<a+l->Sl h0 h S (SM b md pre post N f) ((s,.row .own 1 [.int .i64 (w:Nat)])::rows)->
   Ret ((fun y12 h=>ucons y12 fun v14 y15=>ucons y15 fun v16 y17=>F59_1 n cl v14 v16 h) [.pointer (some ⟨s,0,none⟩),.int .i64 (p:Nat)] h) fun v h'=>ChP a (a+l) v/\Sl h0 h' S (SM b md pre post N f) rows:=by
  intro p w h p1 p2 st;have l3:xLd (.pointer (some ⟨s,0,none⟩)) h=some (.int .i64 (w:Nat)):=st.ld (.head _) rfl;have st':=st.drop (rows':=rows) (List.sublist_cons_self _ _);simp only[ucons_cons,F59_1,l3,vb_some,vN_eq,xEq_i];cases decide (((w:Nat):Int)=((0:Nat):Int))with
  |true=>simp only[bite_t];exact Ret.of ⟨⟨p,1,rfl,p1,p2⟩,st'⟩
  |false=>
   simp only[bite_f,F59_0,vN_eq,xEq_i,vb_some];cases decide (((w:Nat):Int)=((12:Nat):Int))with
   |true=>simp only[bite_t];exact Ret.of ⟨⟨p,2,rfl,p1,p2⟩,st'⟩
   |false=>simp only[bite_f];exact Ret.of ⟨⟨p,0,rfl,p1,p2⟩,st'⟩
 have mid: ∀(x y z w:Nat)(h:PH),w<800->(a<=x/\x<a+l)->(a<=y/\y<a+l)->(a<=z/\z<a+l)->Sl h0 h S (SM b md pre post N f) ((s,.row .own 1 [.int .i64 (w:Nat)])::rows)->
   Ret (F59_4 n cl (fun y12 h=>ucons y12 fun v14 y15=>ucons y15 fun v16 y17=>F59_1 n cl v14 v16 h) [sv b pre N c,.pointer (some ⟨s,0,none⟩),.int .i64 (x:Nat),.int .i64 (y:Nat),.int .i64 (z:Nat)] h) fun v h'=>ChP a (a+l) v/\Sl h0 h' S (SM b md pre post N f) rows:=by
  intro x y z w h hw hx hy hz st;simp only[F59_4,ucons_cons,F59_2];refine Ret.hb (c79 (by omega) (by omega) (by omega) (by omega) st) fun v h2 ⟨p,w',e1,e2,hv,st2⟩=>?_;subst hv;exact fin p w' h2 (by omega) (by omega) st2
 simp only[F59_6,vN_eq,xGe_i,d8,vb_some,bite_t,jn_eq,F59_5]
 by_cases h50:50<=l
 ·have d50:decide (((50:Nat):Int)<=((l:Nat):Int))=true:=by simp;omega
  simp only[d50,bite_t,F59_3];refine Ret.hb (c78 (by omega) (by omega) hN (by omega) st1) fun v h2 ⟨p,w',e1,e2,e3,hv,st2⟩=>?_;subst hv;refine Ret.hb (c78 (by omega) (by omega) hN (by omega) st2) fun v h3 ⟨p2,w2,e4,e5,e6,hv,st3⟩=>?_;subst hv;refine Ret.hb (c78 (by omega) (by omega) hN (by omega) st3) fun v h4 ⟨p3,w3,e7,e8,e9,hv,st4⟩=>?_;subst hv;exact mid p p2 p3 w3 h4 (by omega) (by omega) (by omega) (by omega) st4
 ·have d50:decide (((50:Nat):Int)<=((l:Nat):Int))=false:=by simp;omega
  simp only[d50,bite_f];exact mid (a+d) (a+2*d) (a+3*d) 0 h1 (by omega) (by omega) (by omega) (by omega) st1
end
theorem xBit_ex{k:IntKind}{f:Nat->Nat->Nat}{x y:Int}:xBit f (.int k x) (.int k y)=some (.int k (k.wrap (f (bitN k x) (bitN k y):Nat))):=by
 have:kb k k=true:=by cases k<;>rfl
 simp only[xBit,this,mkI_eq,wr_eq];rfl
theorem xShl_ex{k k':IntKind}{x:Int}{s:Nat}(h:s<=k.bits):xShl (.int k x) (.int k' (s:Nat))=some (.int k (k.wrap (Int.mul x (.ofNat (Nat.pow 2 s))))):=by
 show(match Nat.ble s k.bits with|true=>mkI k (wr k (Int.mul x (.ofNat (Nat.pow 2 s))))|false=>none)=_
 rw[ble_t' h,mkI_eq,wr_eq]
theorem xShr_ex{k k':IntKind}{x s:Nat}(h:s<=k.bits):xShr (.int k (x:Nat)) (.int k' (s:Nat))=some (Value.int k ((x / 2 ^ s:Nat):Int)):=by
 show(match Nat.ble s k.bits with|true=>(match shN (.ofNat x) s with|some q=>some (Value.int k q)|none=>none)|false=>none)=_
 rw[ble_t' h]
 show(match seqN (Nat.shiftRight x s) fun q=>some (Int.ofNat q)with|some q=>some (Value.int k q)|none=>none)=_
 rw[seqN_eq]
 show some (Value.int k (Int.ofNat (x>>>s)))=_
 rw[Nat.shiftRight_eq_div_pow];rfl
theorem wr8{x:Nat}(h:x<256):IntKind.u8.wrap (x:Int)=(x:Nat):=by
 simp[IntKind.wrap,IntKind.signed,IntKind.bits];omega
theorem wr64u{x:Nat}(h:x<18446744073709551616):IntKind.u64.wrap (x:Int)=(x:Nat):=by
 simp[IntKind.wrap,IntKind.signed,IntKind.bits];omega
theorem xConvI_i'{k k':IntKind}{x:Int}:xConvI k (.int k' x)=some (.int k (k.wrap x)):=by simp only[xConvI,mkI_eq,wr_eq]
def lenTab:ByteArray:= {data:= #[0,1,2,2,3,3,3,3,4,4,4,4,4,4,4,4,5,5,5,5,5,5,5,5,5,5,5,5,5,5,5,5,6,6,6,6,6,6,6,6,6,6,6,6,6,6,6,6,6,6,6,6,6,6,6,6,6,6,6,6,6,6,6,6,7,7,7,7,7,7,7,7,7,7,7,7,7,7,7,7,7,7,7,7,7,7,7,7,7,7,7,7,7,7,7,7,7,7,7,7,7,7,7,7,7,7,7,7,7,7,7,7,7,7,7,7,7,7,7,7,7,7,7,7,7,7,7,7,8,8,8,8,8,8,8,8,8,8,8,8,8,8,8,8,8,8,8,8,8,8,8,8,8,8,8,8,8,8,8,8,8,8,8,8,8,8,8,8,8,8,8,8,8,8,8,8,8,8,8,8,8,8,8,8,8,8,8,8,8,8,8,8,8,8,8,8,8,8,8,8,8,8,8,8,8,8,8,8,8,8,8,8,8,8,8,8,8,8,8,8,8,8,8,8,8,8,8,8,8,8,8,8,8,8,8,8,8,8,8,8,8,8,8,8,8,8,8,8,8,8,8,8,8,8,8,8]}
def BL(x L:Nat):Prop:=(x=0/\L=0)\/(0<L/\2 ^ (L-1)<=x/\x<2 ^ L)
instance(x L:Nat):Decidable (BL x L):=by unfold BL;exact inferInstance
theorem lenTab_ok: ∀v:Fin 256, ∃c:UInt8,lenTab[v.1]?=some c/\BL v.1 c.toNat/\c.toNat<=8:=by
 have key: ∀v:Fin 256,(match lenTab[v.1]? with|some c=>decide (BL v.1 c.toNat/\c.toNat<=8)|none=>false)=true:=by decide+kernel
 intro v;have:=key v
 split at this
 ·rename_i c hc;exact⟨c,hc,of_decide_eq_true this⟩
 ·cases this
theorem lenTab_ai{v:Nat}(h:v<256): ∃c:Nat,aindex Try.prog 9 (.string lenTab) (.int .u8 (v:Nat))=some (.int .u8 (c:Nat))/\BL v c/\c<=8:=by
 obtain⟨c,h1,h2,h3⟩:=lenTab_ok ⟨v,h⟩;refine⟨c.toNat,?_,h2,h3⟩;unfold aindex;rw[Try.underlying9];have h1:lenTab[v]?=some c:=h1;simp[h1]
theorem BL.mul{x L k:Nat}(h:BL (x / 2 ^ k) L)(hx:2 ^ k<=x):BL x (k+L):=by
 have hpos:0<2 ^ k:=Nat.two_pow_pos k;have h1:1<=x / 2 ^ k:=(Nat.one_le_div_iff hpos).2 hx;rcases h with⟨h2,_⟩|⟨h2,h3,h4⟩
 ·omega
 ·refine .inr ⟨by omega,?_,?_⟩
  ·have e:k+L-1=k+(L-1):=by omega
   rw[e,Nat.pow_add,Nat.mul_comm];exact(Nat.le_div_iff_mul_le hpos).1 h3
  ·rw[Nat.pow_add,Nat.mul_comm];exact(Nat.div_lt_iff_lt_mul hpos).1 h4
section
variable {Q:Value->PH->Prop}{n:Nat}{cl:CL}{h h0:PH}{S:Vw}{rows:Rws}{b N c:Nat}{md:Mode}{pre post:List Value}{f g:Nat->Int}{K2:Value->PH->R}
theorem f66_0{x w:Nat}(hx:x<256)(hw:w<1000): ∃L,BL x L/\L<=8/\F66_0 n cl (.int .u64 (x:Nat)) (.int .i64 (w:Nat)) h=some (.int .i64 ((w+L:Nat):Int),h):=by
 obtain⟨L,h1,h2,h3⟩:=lenTab_ai hx;refine⟨L,h2,h3,?_⟩;have e: ∀v w:Value,F66_0 n cl v w h=(vb (xConvI .u8 v) fun v19=>vb (aindex Try.prog 9 (.string lenTab) v19) fun v20=>vb (xConvI .i64 v20) fun v21=>vb (xAri Int.add w v21) fun v22=>some (v22,h)):=fun _ _=>rfl;rw[e];have w2:IntKind.i64.wrap ((L:Nat):Int)=((L:Nat):Int):=wrap_in (by omega) (by omega);have w8:=wr8 hx;simp only[xConvI_i',w8,vb_some,h1,w2,xAdd_i,wrapA (x:=w) (y:=L) (by omega)]
theorem f66{x:Nat}(hx:x<4294967296): ∃L,BL x L/\L<=32/\F66 n cl (.int .u64 (x:Nat)) h=some (.int .i64 ((L:Nat):Int),h):=by
 have s3: ∀{x w:Nat},x<65536->w<100-> ∃L,BL x L/\L<=16/\F66_3 n cl (.int .u64 (x:Nat)) (.int .i64 (w:Nat)) h=some (.int .i64 ((w+L:Nat):Int),h):=by
  intro x w hx hw
  by_cases hc:256<=x
  ·have d:decide ((Int.ofNat 256)<=((x:Nat):Int))=true:=by simp;omega
   have e1:xShr (.int .u64 (x:Nat)) (.int .u64 (.ofNat 8))=some (.int .u64 ((x / 2 ^ 8:Nat):Int)):=xShr_ex (k:=.u64) (k':=.u64) (x:=x) (s:=8) (by decide);obtain⟨L,h1,h2,h3⟩:=f66_0 (n:=n) (cl:=cl) (h:=h) (x:=x / 2 ^ 8) (w:=w+8) (by omega) (by omega);refine⟨8+L,h1.mul hc,by omega,?_⟩;simp only[F66_3,jn_eq,F66_2,xGe_i,d,vb_some,bite_t,F66_1,e1,vN_eq,xAdd_i,wrapA (x:=w) (y:=8) (by omega),ucons_cons,h3];rw[Nat.add_assoc]
  ·have d:decide ((Int.ofNat 256)<=((x:Nat):Int))=false:=by simp;omega
   obtain⟨L,h1,h2,h3⟩:=f66_0 (n:=n) (cl:=cl) (h:=h) (x:=x) (w:=w) (by omega) (by omega);refine⟨L,h1,by omega,?_⟩;simp only[F66_3,jn_eq,F66_2,xGe_i,d,vb_some,bite_f,ucons_cons,h3]
 have s6: ∀{x:Nat},x<4294967296-> ∃L,BL x L/\L<=32/\F66_6 n cl (.int .u64 (x:Nat)) (.int .i64 ((0:Nat):Int)) h=some (.int .i64 ((L:Nat):Int),h):=by
  intro x hx
  by_cases hc:65536<=x
  ·have d:decide ((Int.ofNat 65536)<=((x:Nat):Int))=true:=by simp;omega
   have e1:xShr (.int .u64 (x:Nat)) (.int .u64 (.ofNat 16))=some (.int .u64 ((x / 2 ^ 16:Nat):Int)):=xShr_ex (k:=.u64) (k':=.u64) (x:=x) (s:=16) (by decide);obtain⟨L,h1,h2,h3⟩:=s3 (x:=x / 2 ^ 16) (w:=0+16) (by omega) (by omega);refine⟨16+L,h1.mul hc,by omega,?_⟩;simp only[F66_6,jn_eq,F66_5,xGe_i,d,vb_some,bite_t,F66_4,e1,vN_eq,xAdd_i,wrapA (x:=0) (y:=16) (by omega),ucons_cons,h3]
  ·have d:decide ((Int.ofNat 65536)<=((x:Nat):Int))=false:=by simp;omega
   obtain⟨L,h1,h2,h3⟩:=s3 (x:=x) (w:=0) (by omega) (by omega);refine⟨L,h1,by omega,?_⟩;simp only[F66_6,jn_eq,F66_5,xGe_i,d,vb_some,bite_f,ucons_cons,h3];rw[Nat.zero_add]
 obtain⟨L,h1,h2,h3⟩:=s6 hx;refine⟨L,h1,h2,?_⟩;have d:decide ((Int.ofNat 4294967296)<=((x:Nat):Int))=false:=by simp;omega
 unfold F66;simp only[jn_eq,F66_8,xGe_i,d,vb_some,bite_f,vN_eq,ucons_cons,h3]
theorem c40{x:Nat}(hx:x<4294967296): ∃L,BL x L/\L<=32/\pcall (F40 n cl (.int .u64 (x:Nat)) h)=some (.int .i64 ((L:Nat):Int)):=by
 obtain⟨L,h1,h2,h3⟩:=f66 (n:=n) (cl:=cl) (h:=h.fzn) hx;refine⟨L,h1,h2,?_⟩;have hp:pcall (F66 n cl (.int .u64 (x:Nat)) h.fzn)=some (.int .i64 ((L:Nat):Int)):=by rw[h3];rfl
 unfold F40;have e:(ff:Value)= .bool false:=rfl;simp only[e,bite_f,F40_1,hp,vb_some]
 rfl
theorem c76{x:Nat}(h1:0<x)(hx:x<4294967296): ∃M:Nat,0<M/\M<=2*x/\pcall (F76 n cl (.int .i64 (x:Nat)) h)=some (.int .u64 ((M:Nat):Int)):=by
 obtain⟨L,h2,h3,h4⟩:=c40 (n:=n) (cl:=cl) (h:=h.fzn) hx;have hL:0<L/\2 ^ (L-1)<=x:=by
  rcases h2 with⟨q,_⟩|⟨q1,q2,_⟩
  ·omega
  ·exact⟨q1,q2⟩
 have h2L:2 ^ L=2*2 ^ (L-1):=by
  obtain⟨k,rfl⟩: ∃k,L=k+1:=⟨L-1,by omega⟩;rw[Nat.pow_succ,Nat.add_sub_cancel,Nat.mul_comm]
 refine⟨2 ^ L,Nat.two_pow_pos L,by omega,?_⟩;unfold F76;have e2:=xShl_ex (k:=.u64) (k':=.i64) (x:=.ofNat 1) (s:=L) (by show L<=64;omega);have e3:Int.mul (.ofNat 1) (.ofNat (Nat.pow 2 L))=((2 ^ L:Nat):Int):=by
  show(1:Int)*((2 ^ L:Nat):Int)=_
  rw[Int.one_mul]
 rw[e3,wr64u (by omega)]at e2;simp only[xConvI_i',wr64u (show x<18446744073709551616 by omega),vb_some,h4,e2]
 rfl
theorem xShr_any{k k':IntKind}{x:Int}{s:Nat}(h:s<=k.bits): ∃q:Int,xShr (.int k x) (.int k' (.ofNat s))=some (.int k q):=by
 have h1:Nat.ble s k.bits=true:=ble_t' h;cases x with
 |ofNat m=>
  refine⟨.ofNat (m>>>s),?_⟩
  show(match Nat.ble s k.bits with|true=>(match shN (.ofNat m) s with|some q=>some (Value.int k q)|none=>none)|false=>none)=_
  rw[h1]
  show(match seqN (Nat.shiftRight m s) fun q=>some (Int.ofNat q)with|some q=>some (Value.int k q)|none=>none)=_
  rw[seqN_eq];rfl
 |negSucc m=>
  refine⟨.negSucc (m>>>s),?_⟩
  show(match Nat.ble s k.bits with|true=>(match shN (.negSucc m) s with|some q=>some (Value.int k q)|none=>none)|false=>none)=_
  rw[h1]
  show(match seqN (Nat.shiftRight m s) fun q=>some (Int.negSucc q)with|some q=>some (Value.int k q)|none=>none)=_
  rw[seqN_eq];rfl
end
theorem zc110: ∃x:Int,zcells Try.prog 110=some [.int .u64 x]:=⟨0,by kernel_rfl⟩
theorem land_le{x y:Nat}:Nat.land x y<=y:=Nat.and_le_right
section
variable {Q:Value->PH->Prop}{n:Nat}{cl:CL}{h h0:PH}{S:Vw}{m:OM}{rows:Rws}{b N c:Nat}{md:Mode}{pre post:List Value}{f g:Nat->Int}{K2:Value->PH->R}
theorem c77{s:Nat}{x:Int}(st:Sl h0 h S m ((s,.row .own 1 [.int .u64 x])::rows)):Ret (F77 n cl (.pointer (some ⟨s,0,none⟩)) h) fun v h'=> ∃y:Int,v= .int .u64 y/\Sl h0 h' S m ((s,.row .own 1 [.int .u64 y])::rows):=by
 have l1:xLd (.pointer (some ⟨s,0,none⟩)) h=some (.int .u64 x):=st.ld (.head _) rfl;have e1:xShl (.int .u64 x) (.int .u64 (.ofNat 13))=some (.int .u64 (IntKind.u64.wrap (Int.mul x (.ofNat (Nat.pow 2 13))))):=xShl_ex (k:=.u64) (k':=.u64) (x:=x) (s:=13) (by decide);unfold F77;simp only[xNil_p,l1,vb_some,e1,xBit_ex];generalize IntKind.u64.wrap _=y1;refine Ret.lst1 st 0 rfl rfl (by simp) rfl fun h2 st2=>?_;have st2:Sl h0 h2 S m ((s,.row .own 1 [.int .u64 y1])::rows):=st2;have l2:xLd (.pointer (some ⟨s,0,none⟩)) h2=some (.int .u64 y1):=st2.ld (.head _) rfl;obtain⟨q,e2⟩:=xShr_any (k:=.u64) (k':=.u64) (x:=y1) (s:=7) (by decide);simp only[l2,vb_some,e2,xBit_ex];generalize IntKind.u64.wrap _=y2;refine Ret.lst1 st2 0 rfl rfl (by simp) rfl fun h3 st3=>?_;have st3:Sl h0 h3 S m ((s,.row .own 1 [.int .u64 y2])::rows):=st3;have l3:xLd (.pointer (some ⟨s,0,none⟩)) h3=some (.int .u64 y2):=st3.ld (.head _) rfl;have e3:xShl (.int .u64 y2) (.int .u64 (.ofNat 17))=some (.int .u64 (IntKind.u64.wrap (Int.mul y2 (.ofNat (Nat.pow 2 17))))):=xShl_ex (k:=.u64) (k':=.u64) (x:=y2) (s:=17) (by decide);simp only[l3,vb_some,e3,xBit_ex];generalize IntKind.u64.wrap _=y3;refine Ret.lst1 st3 0 rfl rfl (by simp) rfl fun h4 st4=>?_;have st4:Sl h0 h4 S m ((s,.row .own 1 [.int .u64 y3])::rows):=st4;have l4:xLd (.pointer (some ⟨s,0,none⟩)) h4=some (.int .u64 y3):=st4.ld (.head _) rfl;simp only[l4,vb_some];exact Ret.of ⟨y3,rfl,st4⟩
theorem loop58(hm:mro md=false){a l s M:Nat}(he:a+l<=N)(hN:N<1000000000)(hM:0<M/\M<=2*l)(hl:8<=l){f0:Nat->Int}{d:Nat}(hd:l / 4=d):
  ∀(k q i:Nat)(h:PH)(g:Nat->Int)(x:Int),a+2*d+2-i<=k->k<q->a<=i->i<=a+2*d+2->Sw a (a+l) f0 g->Sl h0 h S (SM b md pre post N g) ((s,.row .own 1 [.int .u64 x])::rows)->
  Ret (lp q (F58_6 n cl) [sv b pre N c,.int .i64 (a:Nat),.int .i64 (l:Nat),.pointer (some ⟨s,0,none⟩),.int .u64 (M:Nat),.int .i64 (i:Nat)] h) (SR S h0 rows b md pre post N a (a+l) f0 fun _ _=>True):=by
 have hd4:4*d<=l:=by omega
 have q1:=xQuo_n (x:=l) (y:=4) (by decide) (by omega);rw[hd]at q1;have m2:IntKind.i64.wrap (((d:Nat):Int)*((2:Nat):Int))=((2*d:Nat):Int):=by rw[wrap_in (by omega) (by omega)];omega
 have w1:=wrapA (x:=a) (y:=2*d) (by omega);have w2:=wrapN (x:=a+2*d) (by omega);intro k
 induction k with
 |zero=>
  intro q i h g x h1 h2 h3 h4 hs st;obtain⟨q,rfl⟩: ∃r,q=r+1:=⟨q-1,by omega⟩;rw[lp_succ];have dd:decide (((i:Nat):Int)<=((a+2*d+1:Nat):Int))=false:=by simp;omega
  simp only[F58_6,F58_5,ucons_cons,vN_eq,q1,vb_some,xMul_i,m2,xAdd_i,w1,w2,xLe_i,dd,bite_f];exact Ret.of ⟨g,hs,st.drop (List.sublist_cons_self _ _),trivial⟩
 |succ k ih=>
  intro q i h g x h1 h2 h3 h4 hs st
  by_cases hi:i<=a+2*d+1
  ·obtain⟨q,rfl⟩: ∃r,q=r+1:=⟨q-1,by omega⟩;rw[lp_succ];generalize hL:lp q (F58_6 n cl)=LL;have dd:decide (((i:Nat):Int)<=((a+2*d+1:Nat):Int))=true:=by simp;omega
   simp only[F58_6,F58_5,ucons_cons,vN_eq,q1,vb_some,xMul_i,m2,xAdd_i,w1,w2,xLe_i,dd,bite_t,F58_4];refine Ret.hb (c77 st) fun v h2' ⟨y,hv,st2⟩=>?_;subst hv;have e1:IntKind.u64.wrap (((M:Nat):Int)-Int.ofNat 1)=((M-1:Nat):Int):=by
    have:((M:Nat):Int)-Int.ofNat 1=((M-1:Nat):Int):=by simp;omega
    rw[this,wr64u (by omega)]
   have e2:bitN .u64 ((M-1:Nat):Int)=M-1:=by
    rw[bitN_eq]
    show(BitVec.ofInt 64 ((M-1:Nat):Int)).toNat=M-1
    rw[BitVec.toNat_ofInt];omega
   have hz:Nat.land (bitN .u64 y) (M-1)<=M-1:=land_le;simp only[xSub_i,e1,vb_some,xBit_ex,e2];generalize Nat.land (bitN .u64 y) (M-1)=z at hz;have w64:=wr64u (x:=z) (by omega);have wi:IntKind.i64.wrap ((z:Nat):Int)=((z:Nat):Int):=wrap_in (by omega) (by omega);simp only[w64,xConvI_i',wi,vb_some,jn_eq];have go: ∀o:Nat,o<l->Ret (F58_2 n cl LL [sv b pre N c,.int .i64 (a:Nat),.int .i64 (l:Nat),.pointer (some ⟨s,0,none⟩),.int .u64 (M:Nat),.int .i64 (i:Nat),.int .i64 (o:Nat)] h2') (SR S h0 rows b md pre post N a (a+l) f0 fun _ _=>True):=by
    intro o ho;simp only[F58_2,ucons_cons,F58_0,xAdd_i,wrapA (x:=a) (y:=o) (by omega),vb_some];refine Ret.swap2 hm (i:=i) (j:=a+o) (by omega) (by omega) st2 fun h3' st3=>?_;simp only[vN_eq,xAdd_i,wrapN (show i<4611686018427387904 by omega),vb_some];rw[<-hL];exact ih q (i+1) h3' _ y (by omega) (by omega) (by omega) (by omega) (hs.trans (.one (by omega) (by omega))) st3
   simp only[F58_3,xGe_i,vb_some]
   by_cases hzl:l<=z
   ·have d3:decide (((l:Nat):Int)<=((z:Nat):Int))=true:=by simp;omega
    simp only[d3,bite_t,F58_1,xSub_i,wrapS (x:=z) (y:=l) hzl (by omega),vb_some];exact go (z-l) (by omega)
   ·have d3:decide (((l:Nat):Int)<=((z:Nat):Int))=false:=by simp;omega
    simp only[d3,bite_f];exact go z (by omega)
  ·exact ih q i h g x (by omega) (by omega) h3 h4 hs st
theorem c58(hm:mro md=false)(hn:4611686018427387904<=n){a e:Nat}(he:e<=N)(hN:N<1000000000)(hae:a+8<=e)(st:Sl h0 h S (SM b md pre post N f) rows):
  Ret (F58 n cl (sv b pre N c) (.int .i64 (a:Nat)) (.int .i64 (e:Nat)) h) (SR S h0 rows b md pre post N a e f fun _ _=>True):=by
 obtain⟨l,rfl⟩: ∃l,e=a+l:=⟨e-a,by omega⟩;unfold F58;have w1:IntKind.i64.wrap (((a+l:Nat):Int)-((a:Nat):Int))=((l:Nat):Int):=by rw[wrap_in (by omega) (by omega)];omega
 have d8:decide (((8:Nat):Int)<=((l:Nat):Int))=true:=by simp;omega
 simp only[vN_eq,xSub_i,w1,vb_some,xGe_i,d8,bite_t,F58_7,xConvI_i'];obtain⟨x0,hz⟩:=zc110;refine Ret.lalloc st hz fun h1 s st1=>?_;refine Ret.lst1 st1 0 rfl rfl (by simp) rfl fun h2 st2=>?_;have st2:Sl h0 h2 S (SM b md pre post N f) ((s,.row .own 1 [.int .u64 (IntKind.u64.wrap ((l:Nat):Int))])::rows):=st2;obtain⟨M,hM1,hM2,hp⟩:=c76 (n:=n) (cl:=cl) (h:=h2.fzn) (x:=l) (by omega) (by omega);have q1:=xQuo_n (x:=l) (y:=4) (by decide) (by omega);have hq4:2<=l / 4/\4*(l / 4)<=l:=by omega
 have hd:l / 4=l / 4:=rfl;have hlo:=loop58 (n:=n) (cl:=cl) (h0:=h0) (S:=S) (b:=b) (c:=c) (pre:=pre) (post:=post) (rows:=rows) (s:=s) hm he hN ⟨hM1,hM2⟩ (by omega) hd (f0:=f) (l+10) n (a+2*(l / 4)-1) h2 f _ (by omega) (by omega) (by omega) (by omega) .refl st2;generalize l / 4=d at q1 hq4 hlo;have m2:IntKind.i64.wrap (((d:Nat):Int)*((2:Nat):Int))=((2*d:Nat):Int):=by rw[wrap_in (by omega) (by omega)];omega
 simp only[hp,vb_some,q1,xMul_i,m2,xAdd_i,wrapA (x:=a) (y:=2*d) (by omega),xSub_i,wrapS (x:=a+2*d) (y:=1) (by omega) (by omega)];exact hlo
end
def Low(a e:Nat)(f:Nat->Int):Prop:= ∀k,0<a->a<=k->k<e->f (a-1)<=f k
theorem Low.sw{a e:Nat}{f g:Nat->Int}(h:Low a e f)(s:Sw a e f g):Low a e g:=by
 intro k h0 h1 h2;obtain⟨j,hj,e1⟩:=s.from ⟨h1,h2⟩;rw[e1,s.out (by omega)];exact h j h0 hj.1 hj.2
section
variable {Q:Value->PH->Prop}{n:Nat}{cl:CL}{h h0:PH}{S:Vw}{m:OM}{rows:Rws}{b N c:Nat}{md:Mode}{pre post:List Value}{f g:Nat->Int}{K2:Value->PH->R}
theorem loop61L(hm:mro md=false){a e i:Nat}{K:Kt}{cv:Value}(he:e<=N)(hN:N<1000000000)(hi:i<e)(hia:a<i){f0:Nat->Int}(hL0:Low a e f0)
  (hk: ∀h' g,Sw a e f0 g->Srt a i g->Sl h0 h' S (SM b md pre post N g) rows->Ret (K [sv b pre N c,.int .i64 (a:Nat),.int .i64 (e:Nat),.int .i64 (i:Nat),cv] h') Q):
  ∀(k q j:Nat)(h:PH)(g:Nat->Int),j-a<=k->k<q->a<=j->j<i->Sw a e f0 g->(∀x y,a<=x->x<y->y<i->x≠j->y≠j->g x<=g y)->(∀y,j<y->y<i->g j<=g y)->Sl h0 h S (SM b md pre post N g) rows->
  Ret (lp q (F61_11 n cl K) [sv b pre N c,.int .i64 (a:Nat),.int .i64 (e:Nat),.int .i64 (i:Nat),cv,.int .i64 (j:Nat)] h) Q:=by
 intro k
 induction k using Nat.strongRecOn with
 |ind k ih=>
  intro q j h g h1 h2 h3 h4 hs hA hB st;obtain⟨q,rfl⟩: ∃r,q=r+1:=⟨q-1,by omega⟩;rw[lp_succ];generalize hL:lp q (F61_11 n cl K)=LL
  by_cases hj1:1<=j
  ·have d:decide (((1:Nat):Int)<=((j:Nat):Int))=true:=by simp;omega
   have w1:=wrapS (x:=j) (y:=1) hj1 (by omega);have i1:=sIdx (b:=b) (pre:=pre) (N:=N) (c:=c) (i:=j) (by omega);have i2:=sIdx (b:=b) (pre:=pre) (N:=N) (c:=c) (i:=j-1) (by omega);have l1:=st.sld (i:=j) (by omega);have l2:=st.sld (i:=j-1) (by omega);simp only[F61_11,F61_10,ucons_cons,vN_eq,xGe_i,d,vb_some,bite_t,F61_9,xSub_i,w1,i1,i2,l1,l2,c62,xNot_b]
   by_cases hlt:g j<g (j-1)
   ·have d2:(!decide (g j<g (j-1)))=false:=by simp[hlt]
    have hja:a<j:=by
     rcases Nat.lt_or_ge a j with q|q
     ·exact q
     ·have:j=a:=by omega
      subst this;have:=(hL0.sw hs) j (by omega) (Nat.le_refl _) (by omega);omega
    simp only[d2,bite_f,F61_8,vN_eq,xSub_i,w1,vb_some];refine Ret.swap2 hm (i:=j) (j:=j-1) (by omega) (by omega) st fun h3' st3=>?_;rw[<-hL];have sj:swp g j (j-1) j=g (j-1):=by simp[swp]
    have sj1:swp g j (j-1) (j-1)=g j:=by
     show(if j-1=j then _ else if j-1=j-1 then g j else _)=_
     rw[if_neg (by omega),if_pos rfl]
    have so: ∀x,x≠j->x≠j-1->swp g j (j-1) x=g x:=fun x q1 q2=>by simp[swp,q1,q2]
    refine ih (k-1) (by omega) q (j-1) h3' (swp g j (j-1)) (by omega) (by omega) (by omega) (by omega) (hs.trans (.one (by omega) (by omega))) ?_ ?_ st3
    ·intro x y q1 q2 q3 q4 q5
     by_cases hx:x=j
     ·subst hx;rw[sj,so y (by omega) q5];exact hA (x-1) y (by omega) (by omega) q3 (by omega) (by omega)
     ·by_cases hy:y=j
      ·subst hy;rw[sj,so x hx q4];exact hA x (y-1) q1 (by omega) (by omega) hx (by omega)
      ·rw[so x hx q4,so y hy q5];exact hA x y q1 q2 q3 hx hy
    ·intro y q1 q2;rw[sj1]
     by_cases hy:y=j
     ·subst hy;rw[sj];omega
     ·rw[so y hy (by omega)];exact hB y (by omega) q2
   ·have d2:(!decide (g j<g (j-1)))=true:=by simp;omega
    have done:Srt a i g:=by
     intro x y q1 q2 q3
     by_cases hx:x=j
     ·subst hx;exact hB y q2 (by omega)
     ·by_cases hy:y=j
      ·subst hy
       by_cases hx1:x=y-1
       ·subst hx1;omega
       ·have:=hA x (y-1) q1 (by omega) (by omega) hx (by omega);omega
      ·exact hA x y q1 q2 (by omega) hx hy
    simp only[d2,bite_t];exact hk h g hs done st
  ·have d:decide (((1:Nat):Int)<=((j:Nat):Int))=false:=by simp;omega
   have done:Srt a i g:=by
    intro x y q1 q2 q3
    by_cases hx:x=j
    ·subst hx;exact hB y q2 (by omega)
    ·exact hA x y q1 q2 (by omega) hx (by omega)
   simp only[F61_11,F61_10,ucons_cons,vN_eq,xGe_i,d,vb_some,bite_f];exact hk h g hs done st
theorem loop61R(hm:mro md=false){a e i:Nat}{K:Kt}{cv:Value}(he:e<=N)(hN:N<1000000000){f0:Nat->Int}
  (hk: ∀h' g,Sw i e f0 g->Sl h0 h' S (SM b md pre post N g) rows->Ret (K [sv b pre N c,.int .i64 (a:Nat),.int .i64 (e:Nat),.int .i64 (i:Nat),cv] h') Q):
  ∀(k q j:Nat)(h:PH)(g:Nat->Int),e-j<=k->k<q->i<j->Sw i e f0 g->Sl h0 h S (SM b md pre post N g) rows->
  Ret (lp q (F61_5 n cl K) [sv b pre N c,.int .i64 (a:Nat),.int .i64 (e:Nat),.int .i64 (i:Nat),cv,.int .i64 (j:Nat)] h) Q:=by
 intro k
 induction k using Nat.strongRecOn with
 |ind k ih=>
  intro q j h g h1 h2 h3 hs st;obtain⟨q,rfl⟩: ∃r,q=r+1:=⟨q-1,by omega⟩;rw[lp_succ];generalize hL:lp q (F61_5 n cl K)=LL
  by_cases hj1:j<e
  ·have d:decide (((j:Nat):Int)<((e:Nat):Int))=true:=by simp;omega
   have w1:=wrapS (x:=j) (y:=1) (by omega) (by omega);have i1:=sIdx (b:=b) (pre:=pre) (N:=N) (c:=c) (i:=j) (by omega);have i2:=sIdx (b:=b) (pre:=pre) (N:=N) (c:=c) (i:=j-1) (by omega);have l1:=st.sld (i:=j) (by omega);have l2:=st.sld (i:=j-1) (by omega);simp only[F61_5,F61_4,ucons_cons,vN_eq,xLt_i,d,vb_some,bite_t,F61_3,xSub_i,w1,i1,i2,l1,l2,c62,xNot_b];cases hq:(!decide (g j<g (j-1)))with
   |true=>simp only[bite_t];exact hk h g hs st
   |false=>
    simp only[bite_f,F61_2,vN_eq,xSub_i,w1,vb_some];refine Ret.swap2 hm (i:=j) (j:=j-1) (by omega) (by omega) st fun h3' st3=>?_;simp only[xAdd_i,wrapN (show j<4611686018427387904 by omega),vb_some];rw[<-hL];exact ih (k-1) (by omega) q (j+1) h3' _ (by omega) (by omega) (by omega) (hs.trans (.one (by omega) (by omega))) st3
  ·have d:decide (((j:Nat):Int)<((e:Nat):Int))=false:=by simp;omega
   simp only[F61_5,F61_4,ucons_cons,vN_eq,xLt_i,d,vb_some,bite_f];exact hk h g hs st
def PaP(a e:Nat)(g:Nat->Int)(v:Value):Prop:= ∃bb:Bool,v= .bool bb/\(bb=true->Srt a e g)
theorem loop61S(hm:mro md=false)(hn:4611686018427387904<=n){a e:Nat}{K:Kt}{cv:Value}(he:e<=N)(hN:N<1000000000){f0:Nat->Int}(hL0:Low a e f0)
  (hk: ∀h' g i,a<i->i<e->Sw a e f0 g->Srt a i g->Sl h0 h' S (SM b md pre post N g) rows->Ret (K [sv b pre N c,.int .i64 (a:Nat),.int .i64 (e:Nat),.int .i64 (i:Nat),cv] h') (SR S h0 rows b md pre post N a e f0 (PaP a e))):
  ∀(k q i:Nat)(h:PH)(g:Nat->Int),e-i<=k->k<q->a<i->i<=e->Sw a e f0 g->Srt a i g->Sl h0 h S (SM b md pre post N g) rows->
  Ret (lp q (F61_19 n cl K) [sv b pre N c,.int .i64 (a:Nat),.int .i64 (e:Nat),.int .i64 (i:Nat),cv] h) (SR S h0 rows b md pre post N a e f0 (PaP a e)):=by
 intro k
 induction k using Nat.strongRecOn with
 |ind k ih=>
  intro q i h g h1 h2 h3 h4 hs hS st;obtain⟨q,rfl⟩: ∃r,q=r+1:=⟨q-1,by omega⟩;rw[lp_succ];generalize hL:lp q (F61_19 n cl K)=LL
  by_cases hie:i<e
  ·have d:decide (((i:Nat):Int)<((e:Nat):Int))=true:=by simp;omega
   have w1:=wrapS (x:=i) (y:=1) (by omega) (by omega);have i1:=sIdx (b:=b) (pre:=pre) (N:=N) (c:=c) (i:=i) (by omega);have i2:=sIdx (b:=b) (pre:=pre) (N:=N) (c:=c) (i:=i-1) (by omega);have l1:=st.sld (i:=i) (by omega);have l2:=st.sld (i:=i-1) (by omega);simp only[F61_19,F61_18,ucons_cons,vN_eq,xLt_i,d,vb_some,isB_t,gd_true,xSub_i,w1,i1,i2,l1,l2,c62,xNot_b,xPick_t]
   by_cases hlt:g i<g (i-1)
   ·have d2:(!decide (g i<g (i-1)))=false:=by simp[hlt]
    have d3:decide (((i:Nat):Int)=((e:Nat):Int))=false:=by simp;omega
    have wl:IntKind.i64.wrap (((e:Nat):Int)-((a:Nat):Int))=((e-a:Nat):Int):=wrapS (by omega) (by omega);simp only[d2,bite_f,F61_17,xEq_i,d3,vb_some,F61_16,xSub_i,wl,vN_eq,xLt_i]
    by_cases h50:e-a<50
    ·have d4:decide (((e-a:Nat):Int)<((50:Nat):Int))=true:=by simp;omega
     simp only[d4,bite_t];exact Ret.of ⟨g,hs,st,false,rfl,fun q=>by cases q⟩
    ·have d4:decide (((e-a:Nat):Int)<((50:Nat):Int))=false:=by simp;omega
     simp only[d4,bite_f,F61_15,vN_eq,xSub_i,w1,vb_some];refine Ret.swap2 hm (i:=i) (j:=i-1) (by omega) (by omega) st fun h3' st3=>?_;have hs3:Sw a e f0 (swp g i (i-1)):=hs.trans (.one (by omega) (by omega));have so: ∀x,x<i-1->swp g i (i-1) x=g x:=fun x q1=>by
      have q2: ¬ x=i:=by omega
      have q3: ¬ x=i-1:=by omega
      simp[swp,q2,q3]
     have right: ∀h' g,Sw a e f0 g->Srt a i g->Sl h0 h' S (SM b md pre post N g) rows->Ret (F61_13 n cl K [sv b pre N c,.int .i64 (a:Nat),.int .i64 (e:Nat),.int .i64 (i:Nat),cv] h') (SR S h0 rows b md pre post N a e f0 (PaP a e)):=by
      intro h' g' hs' hS' st';have wr:IntKind.i64.wrap (((e:Nat):Int)-((i:Nat):Int))=((e-i:Nat):Int):=wrapS (by omega) (by omega);simp only[F61_13,ucons_cons,F61_7,xSub_i,wr,vN_eq,xGe_i,vb_some];cases hq:decide (((2:Nat):Int)<=((e-i:Nat):Int))with
      |false=>simp only[bite_f];exact hk h' g' i h3 hie hs' hS' st'
      |true=>
       simp only[bite_t,F61_6,vN_eq,xAdd_i,wrapN (show i<4611686018427387904 by omega),vb_some];refine loop61R hm he hN (f0:=g') (fun h'' g'' hs'' st''=>hk h'' g'' i h3 hie (hs'.trans (hs''.wide (by omega) (Nat.le_refl _))) (fun x y q1 q2 q3=>?_) st'') e n (i+1) h' g' (by omega) (by omega) (by omega) .refl st';rw[hs''.out (by omega),hs''.out (by omega)];exact hS' x y q1 q2 q3
     have wl2:IntKind.i64.wrap (((i:Nat):Int)-((a:Nat):Int))=((i-a:Nat):Int):=wrapS (by omega) (by omega);simp only[jn_eq,F61_14,xSub_i,wl2,vN_eq,xGe_i,vb_some]
     by_cases h2c:2<=i-a
     ·have d5:decide (((2:Nat):Int)<=((i-a:Nat):Int))=true:=by simp;omega
      simp only[d5,bite_t,F61_12,vN_eq,xSub_i,w1,vb_some];refine loop61L hm he hN hie h3 hL0 right i n (i-1) h3' _ (by omega) (by omega) (by omega) (by omega) hs3 (fun x y q1 q2 q3 q4 q5=>?_) (fun y q1 q2=>by omega) st3;rw[so x (by omega),so y (by omega)];exact hS x y q1 q2 (by omega)
     ·have d5:decide (((2:Nat):Int)<=((i-a:Nat):Int))=false:=by simp;omega
      simp only[d5,bite_f];exact right h3' _ hs3 (fun x y q1 q2 q3=>by omega) st3
   ·have d2:(!decide (g i<g (i-1)))=true:=by simp;omega
    simp only[d2,bite_t,F61_1,vN_eq,xAdd_i,wrapN (show i<4611686018427387904 by omega),vb_some];rw[<-hL];refine ih (k-1) (by omega) q (i+1) h g (by omega) (by omega) (by omega) (by omega) hs (fun x y q1 q2 q3=>?_) st
    by_cases hy:y=i
    ·subst hy
     by_cases hx:x=y-1
     ·subst hx;omega
     ·have:=hS x (y-1) q1 (by omega) (by omega);omega
    ·exact hS x y q1 q2 (by omega)
  ·have hie':i=e:=by omega
   subst hie';have d:decide (((i:Nat):Int)<((i:Nat):Int))=false:=by simp
   have d3:decide (((i:Nat):Int)=((i:Nat):Int))=true:=by simp
   have fin:Ret (F61_17 n cl (.int .i64 (i:Nat)) (.int .i64 (i:Nat)) (.int .i64 (a:Nat)) (sv b pre N c) K cv h) (SR S h0 rows b md pre post N a i f0 (PaP a i)):=by
    simp only[F61_17,xEq_i,d3,vb_some,bite_t];exact Ret.of ⟨g,hs,st,true,rfl,fun _=>hS⟩
   simp only[F61_19,F61_18,ucons_cons,xLt_i,d,vb_some];simpa[gd_some']using fin
theorem c61(hm:mro md=false)(hn:4611686018427387904<=n){a e:Nat}(he:e<=N)(hN:N<1000000000)(hae:a<e)(hL0:Low a e f)(st:Sl h0 h S (SM b md pre post N f) rows):
  Ret (F61 n cl (sv b pre N c) (.int .i64 (a:Nat)) (.int .i64 (e:Nat)) h) (SR S h0 rows b md pre post N a e f (PaP a e)):=by
 have key: ∀(k q i t:Nat)(h:PH)(g:Nat->Int),5-t<=k->k<q->t<=5->a<i->i<=e->Sw a e f g->Srt a i g->Sl h0 h S (SM b md pre post N g) rows->
   Ret (lp q (F61_22 n cl) [sv b pre N c,.int .i64 (a:Nat),.int .i64 (e:Nat),.int .i64 (i:Nat),.int .i64 (t:Nat)] h) (SR S h0 rows b md pre post N a e f (PaP a e)):=by
  intro k
  induction k using Nat.strongRecOn with
  |ind k ih=>
   intro q i t h g h1 h2 h3 h4 h5 hs hS st;obtain⟨q,rfl⟩: ∃r,q=r+1:=⟨q-1,by omega⟩;rw[lp_succ];generalize hL:lp q (F61_22 n cl)=LL
   by_cases ht:t<5
   ·have d:decide (((t:Nat):Int)<((5:Nat):Int))=true:=by simp;omega
    simp only[F61_22,F61_21,ucons_cons,vN_eq,xLt_i,d,vb_some,bite_t,jn_eq];refine loop61S hm hn he hN hL0 (fun h' g' i' q1 q2 q3 q4 q5=>?_) e n i h g (by omega) (by omega) h4 h5 hs hS st;simp only[F61_20,ucons_cons,F61_0,vN_eq,xAdd_i,wrapN (show t<4611686018427387904 by omega),vb_some];rw[<-hL];exact ih (k-1) (by omega) q i' (t+1) h' g' (by omega) (by omega) (by omega) q1 (by omega) q3 q4 q5
   ·have d:decide (((t:Nat):Int)<((5:Nat):Int))=false:=by simp;omega
    simp only[F61_22,F61_21,ucons_cons,vN_eq,xLt_i,d,vb_some,bite_f];exact Ret.of ⟨g,hs,st,false,rfl,fun q=>by cases q⟩
 unfold F61;simp only[vN_eq,xAdd_i,wrapN (show a<4611686018427387904 by omega),vb_some];exact key 5 n (a+1) 0 h f (by omega) (by omega) (by omega) (by omega) (by omega) .refl (fun x y q1 q2 q3=>by omega) st
end
def Out(A E a e:Nat)(g:Nat->Int):Prop:= ∀x y,A<=x->x<y->y<E->(x<a\/e<=y)->g x<=g y
theorem Out.sw{A E a e:Nat}{g g':Nat->Int}(h:Out A E a e g)(s:Sw a e g g')(h1:A<=a)(h2:e<=E):Out A E a e g':=by
 intro x y q1 q2 q3 q4
 by_cases hx:a<=x/\x<e
 ·have hy:e<=y:=by omega
  obtain⟨j,hj,e1⟩:=s.from hx;rw[e1,s.out (.inr hy)];exact h j y (by omega) (by omega) q3 (.inr hy)
 ·rw[s.out (k:=x) (by omega)]
  by_cases hy:a<=y/\y<e
  ·obtain⟨j,hj,e1⟩:=s.from hy;rw[e1];exact h x j q1 (by omega) (by omega) (.inl (by omega))
  ·rw[s.out (k:=y) (by omega)];exact h x y q1 q2 q3 q4
theorem Out.done{A E a e:Nat}{g:Nat->Int}(h:Out A E a e g)(hs:Srt a e g):Srt A E g:=by
 intro x y q1 q2 q3
 by_cases hc:x<a\/e<=y
 ·exact h x y q1 q2 q3 hc
 ·exact hs x y (by omega) q2 (by omega)
theorem Out.low{A E a e:Nat}{g:Nat->Int}(h:Out A E a e g)(hl:Low A E g)(h1:A<=a)(h2:e<=E):Low a e g:=by
 intro k h0 q1 q2
 by_cases hA:a=A
 ·subst hA;exact hl k h0 q1 (by omega)
 ·exact h (a-1) k (by omega) (by omega) (by omega) (.inl (by omega))
theorem Out.eq{A E a e mid:Nat}{g:Nat->Int}(h:Out A E a e g)(h1:A<=a)(h2:e<=E)(hm:a<mid/\mid<=e)(hl: ∀k,a<=k->k<mid->g k<=g a)(hr: ∀k,mid<=k->k<e->g a<g k)(hmin: ∀k,a<=k->k<e->g a<=g k):Out A E mid e g:=by
 intro x y q1 q2 q3 q4
 by_cases hx:a<=x/\x<mid
 ·by_cases hy:y<e
  ·have:=hl x hx.1 hx.2;have:=hmin y (by omega) hy;omega
  ·exact h x y q1 q2 q3 (.inr (by omega))
 ·exact h x y q1 q2 q3 (by omega)
theorem Out.left{A E a e mid:Nat}{g:Nat->Int}(h:Out A E a e g)(hp:Parted a e g mid)(hs:Srt a mid g):Out A E (mid+1) e g:=by
 obtain⟨p1,p2,p3,p4⟩:=hp;intro x y q1 q2 q3 q4
 by_cases hx:a<=x/\x<=mid
 ·by_cases hy:y<e
  ·by_cases hxm:x=mid
   ·subst hxm;exact p4 y q2 hy
   ·have h1:=p3 x hx.1 (by omega)
    by_cases hy2:y<mid
    ·exact hs x y hx.1 q2 hy2
    ·by_cases hy3:y=mid
     ·subst hy3;exact h1
     ·have:=p4 y (by omega) hy;omega
  ·exact h x y q1 q2 q3 (.inr (by omega))
 ·exact h x y q1 q2 q3 (by omega)
theorem Out.right{A E a e mid:Nat}{g:Nat->Int}(h:Out A E a e g)(hp:Parted a e g mid)(hs:Srt (mid+1) e g):Out A E a mid g:=by
 obtain⟨p1,p2,p3,p4⟩:=hp;intro x y q1 q2 q3 q4
 by_cases hy:mid<=y/\y<e
 ·by_cases hx:a<=x
  ·by_cases hym:y=mid
   ·subst hym;exact p3 x hx q2
   ·have h1:=p4 y (by omega) hy.2
    by_cases hx2:mid<x
    ·exact hs x y (by omega) q2 hy.2
    ·by_cases hx3:x=mid
     ·subst hx3;exact h1
     ·have:=p3 x hx (by omega);omega
  ·exact h x y q1 q2 q3 (.inl (by omega))
 ·exact h x y q1 q2 q3 (by omega)
theorem Parted.swL{a e mid:Nat}{g g':Nat->Int}(h:Parted a e g mid)(s:Sw a mid g g'):Parted a e g' mid:=by
 obtain⟨p1,p2,p3,p4⟩:=h;refine⟨p1,p2,fun k q1 q2=>?_,fun k q1 q2=>?_⟩
 ·obtain⟨j,hj,e1⟩:=s.from ⟨q1,q2⟩;rw[e1,s.out (k:=mid) (.inr (Nat.le_refl _))];exact p3 j hj.1 hj.2
 ·rw[s.out (k:=mid) (.inr (Nat.le_refl _)),s.out (k:=k) (by omega)];exact p4 k q1 q2
theorem Parted.swR{a e mid:Nat}{g g':Nat->Int}(h:Parted a e g mid)(s:Sw (mid+1) e g g'):Parted a e g' mid:=by
 obtain⟨p1,p2,p3,p4⟩:=h;refine⟨p1,p2,fun k q1 q2=>?_,fun k q1 q2=>?_⟩
 ·rw[s.out (k:=mid) (by omega),s.out (k:=k) (by omega)];exact p3 k q1 q2
 ·obtain⟨j,hj,e1⟩:=s.from (k:=k) ⟨by omega,q2⟩;rw[e1,s.out (k:=mid) (by omega)];exact p4 j (by omega) hj.2
section
variable {Q:Value->PH->Prop}{n:Nat}{cl:CL}{h h0:PH}{S:Vw}{m:OM}{rows:Rws}{b N c:Nat}{md:Mode}{pre post:List Value}{f g:Nat->Int}{K2:Value->PH->R}
def Ih104(cl:CL)(S:Vw)(h0:PH)(rows:Rws)(b:Nat)(md:Mode)(pre post:List Value)(N c L:Nat):Prop:=
 ∀(h:PH)(f:Nat->Int)(a e t:Nat),a<=e->e<=N->e-a<L->t<1000->Low a e f->Sl h0 h S (SM b md pre post N f) rows->Ret (cl 39 [sv b pre N c,.int .i64 (a:Nat),.int .i64 (e:Nat),.int .i64 (t:Nat)] h) (SR S h0 rows b md pre post N a e f fun g _=>Srt a e g)
theorem loop39(hm:mro md=false)(hn:4611686018427387904<=n)(hN:N<1000000000){A E L:Nat}(hE:E<=N)(hL:E-A<=L)(ih0:12<L->Ih104 cl S h0 rows b md pre post N c L){f0:Nat->Int}(hlow:Low A E f0):
  ∀(k q a e t:Nat)(b1 b2:Bool)(h:PH)(g:Nat->Int),e-a<=k->k<q->A<=a->a<=e->e<=E->t<1000->Sw A E f0 g->Out A E a e g->Sl h0 h S (SM b md pre post N g) rows->
  Ret (lp q (F39_19 n cl) [sv b pre N c,.int .i64 (a:Nat),.int .i64 (e:Nat),.int .i64 (t:Nat),.bool b1,.bool b2] h) (SR S h0 rows b md pre post N A E f0 fun g _=>Srt A E g):=by
 intro k
 induction k using Nat.strongRecOn with
 |ind k ih=>
  intro q a e t b1 b2 h g h1 h2 h3 h4 h5 ht hs hO st;obtain⟨q,rfl⟩: ∃r,q=r+1:=⟨q-1,by omega⟩;rw[lp_succ];generalize hLL:lp q (F39_19 n cl)=LL;have hln:Low a e g:=hO.low (hlow.sw hs) h3 h5;have wl:IntKind.i64.wrap (((e:Nat):Int)-((a:Nat):Int))=((e-a:Nat):Int):=wrapS h4 (by omega);have fin: ∀(g':Nat->Int)(h':PH)(v:Value),Sw a e g g'->Srt a e g'->Sl h0 h' S (SM b md pre post N g') rows->SR S h0 rows b md pre post N A E f0 (fun g _=>Srt A E g) v h':=fun g' h' v q1 q2 q3=>
   ⟨g',hs.trans (q1.wide h3 h5),q3,(hO.sw q1 h3 h5).done q2⟩
  simp only[F39_19,ucons_cons,F39_18,xSub_i,wl,vN_eq,xLe_i,vb_some]
  by_cases h12:e-a<=12
  ·have d:decide (((e-a:Nat):Int)<=((12:Nat):Int))=true:=by simp;omega
   simp only[d,bite_t,F39_0];refine Ret.hb (c56 hm (by omega) hN hn h4 st) fun v h' ⟨g',q1,q2,q3⟩=>?_;exact Ret.of (fin g' h' _ q1 q3 q2)
  have d:decide (((e-a:Nat):Int)<=((12:Nat):Int))=false:=by simp;omega
  have ih0:=ih0 (by omega);simp only[d,bite_f,F39_17,vN_eq,xEq_i,vb_some]
  by_cases ht0:t=0
  ·have d2:decide (((t:Nat):Int)=((0:Nat):Int))=true:=by simp[ht0]
   simp only[d2,bite_t,F39_1];refine Ret.hb (c57 hm (by omega) hN hn (by omega) st) fun v h' ⟨g',q1,q2,q3⟩=>?_;exact Ret.of (fin g' h' _ q1 q3 q2)
  have d2:decide (((t:Nat):Int)=((0:Nat):Int))=false:=by simp;omega
  simp only[d2,bite_f,jn_eq];have last: ∀(p t':Nat)(x1 x2:Value)(h':PH)(g':Nat->Int),a<=p->p<e->t'<1000->Sw a e g g'->Sl h0 h' S (SM b md pre post N g') rows->(∃y1 y2:Bool,x1= .bool y1/\x2= .bool y2)->
    Ret (F39_8 n cl LL [sv b pre N c,.int .i64 (a:Nat),.int .i64 (e:Nat),.int .i64 (t':Nat),x1,x2,.int .i64 ((e-a:Nat):Int),.int .i64 (p:Nat)] h') (SR S h0 rows b md pre post N A E f0 fun g _=>Srt A E g):=by
   intro p t' x1 x2 h' g' hp1 hp2 ht' hs' st' hx;obtain⟨y1,y2,rfl,rfl⟩:=hx;have hO':=hO.sw hs' h3 h5;have hsA:Sw A E f0 g':=hs.trans (hs'.wide h3 h5);have hln':=hln.sw hs';have part:Ret (F39_5 n cl (sv b pre N c) (.int .i64 (a:Nat)) (.int .i64 (e:Nat)) (.int .i64 (p:Nat)) (.int .i64 ((e-a:Nat):Int)) (.int .i64 (t':Nat)) LL h') (SR S h0 rows b md pre post N A E f0 fun g _=>Srt A E g):=by
    simp only[F39_5];refine Ret.hb (c64 hm hn (by omega) hN hp1 hp2 st') fun v h2' ⟨g2,s2,st2,mid,bb,hv,hP⟩=>?_;subst hv;have hO2:=hO'.sw s2 h3 h5;have hsA2:Sw A E f0 g2:=hsA.trans (s2.wide h3 h5);have hln2:=hln'.sw s2;obtain⟨m1,m2,m3,m4⟩:=hP;have w1:IntKind.i64.wrap (((mid:Nat):Int)-((a:Nat):Int))=((mid-a:Nat):Int):=wrapS m1 (by omega);have w2:IntKind.i64.wrap (((e:Nat):Int)-((mid:Nat):Int))=((e-mid:Nat):Int):=wrapS (by omega) (by omega);have q8:=xQuo_n (x:=e-a) (y:=8) (by decide) (by omega);simp only[xExt_t',List.getElem?_cons_zero,List.getElem?_cons_succ,vb_some,xSub_i,w1,w2,vN_eq,q8,xLt_i];cases decide (((mid-a:Nat):Int)<((e-mid:Nat):Int))with
    |true=>
     simp only[bite_t,F39_3,xGe_i,vb_some];refine Ret.hb (ih0 _ _ _ _ _ m1 (by omega) (by omega) ht' (fun k z1 z2 z3=>hln2 k z1 z2 (by omega)) st2) fun v h3' ⟨g3,s3,st3,hS3⟩=>?_;simp only[vN_eq,xAdd_i,wrapN (show mid<4611686018427387904 by omega),vb_some];rw[<-hLL];refine ih (k-1) (by omega) q (mid+1) e t' _ _ h3' g3 (by omega) (by omega) (by omega) (by omega) h5 ht' (hsA2.trans (s3.wide h3 (by omega))) ?_ st3;exact(hO2.sw (s3.wide (Nat.le_refl _) (by omega)) h3 h5).left (Parted.swL ⟨m1,m2,m3,m4⟩ s3) hS3
    |false=>
     simp only[bite_f,F39_4,xGe_i,vb_some,vN_eq,xAdd_i,wrapN (show mid<4611686018427387904 by omega)];refine Ret.hb (ih0 _ _ (mid+1) e _ (by omega) (by omega) (by omega) ht' (fun k z1 z2 z3=>?_) st2) fun v h3' ⟨g3,s3,st3,hS3⟩=>?_
     ·exact m4 k (by omega) z3
     rw[<-hLL];refine ih (k-1) (by omega) q a mid t' _ _ h3' g3 (by omega) (by omega) h3 m1 (by omega) ht' (hsA2.trans (s3.wide (by omega) h5)) ?_ st3;exact(hO2.sw (s3.wide (by omega) (Nat.le_refl _)) h3 h5).right (Parted.swR ⟨m1,m2,m3,m4⟩ s3) hS3
   simp only[F39_8,ucons_cons,F39_6,vN_eq,xGt_i,vb_some]
   by_cases ha0:0<a
   ·have d3:decide (((0:Nat):Int)<((a:Nat):Int))=true:=by simp;omega
    have w1:=wrapS (x:=a) (y:=1) (by omega) (by omega);have i1:=sIdx (b:=b) (pre:=pre) (N:=N) (c:=c) (i:=a-1) (by omega);have i2:=sIdx (b:=b) (pre:=pre) (N:=N) (c:=c) (i:=p) (by omega);have l1:=st'.sld (i:=a-1) (by omega);have l2:=st'.sld (i:=p) (by omega);simp only[d3,isB_t,gd_true,vb_some,xSub_i,w1,i1,i2,l1,l2,c62,xNot_b,xPick_t]
    by_cases hlt:g' (a-1)<g' p
    ·have d4:(!decide (g' (a-1)<g' p))=false:=by simp[hlt]
     simp only[d4,bite_f];exact part
    ·have d4:(!decide (g' (a-1)<g' p))=true:=by simp;omega
     simp only[d4,bite_t,F39_2];refine Ret.hb (c63 hm hn (by omega) hN hp1 hp2 st') fun v h2' ⟨g2,s2,st2,mid,hv,hpv,m1,m2,m3,m4⟩=>?_;subst hv;have hO2:=hO'.sw s2 h3 h5;have hsA2:Sw A E f0 g2:=hsA.trans (s2.wide h3 h5);have hln2:=hln'.sw s2;rw[<-hLL];refine ih (k-1) (by omega) q mid e t' _ _ h2' g2 (by omega) (by omega) (by omega) m2 h5 ht' hsA2 (hO2.eq h3 h5 ⟨m1,m2⟩ m3 m4 fun k z1 z2=>?_) st2;have:=hln2 k ha0 z1 z2;rw[s2.out (by omega)]at this;rw[hpv];omega
   ·have d3:decide (((0:Nat):Int)<((a:Nat):Int))=false:=by simp;omega
    simp only[d3];simpa[gd_some']using part
  have chosen: ∀(p hint t':Nat)(y1 y2:Bool)(h':PH)(g':Nat->Int),a<=p->p<e->t'<1000->Sw a e g g'->Sl h0 h' S (SM b md pre post N g') rows->
    Ret (F39_11 n cl LL [sv b pre N c,.int .i64 (a:Nat),.int .i64 (e:Nat),.int .i64 (t':Nat),.bool y1,.bool y2,.int .i64 ((e-a:Nat):Int),.int .i64 (p:Nat),.int .i64 (hint:Nat)] h') (SR S h0 rows b md pre post N A E f0 fun g _=>Srt A E g):=by
   intro p hint t' y1 y2 h' g' hp1 hp2 ht' hs' st';have skip:=last p t' (.bool y1) (.bool y2) h' g' hp1 hp2 ht' hs' st' ⟨y1,y2,rfl,rfl⟩;have yes:Ret (F39_7 n cl (sv b pre N c) (.int .i64 (a:Nat)) (.int .i64 (e:Nat)) (F39_8 n cl LL) (.int .i64 (t':Nat)) (.bool y1) (.bool y2) (.int .i64 ((e-a:Nat):Int)) (.int .i64 (p:Nat)) h') (SR S h0 rows b md pre post N A E f0 fun g _=>Srt A E g):=by
    simp only[F39_7];refine Ret.hb (c61 hm hn (by omega) hN (by omega) (hln.sw hs') st') fun v h2' ⟨g2,s2,st2,bb,hv,hbb⟩=>?_;subst hv;cases bb with
    |true=>simp only[bite_t];exact Ret.of (fin g2 h2' _ (hs'.trans s2) (hbb rfl) st2)
    |false=>simp only[bite_f];exact last p t' _ _ h2' g2 hp1 hp2 ht' (hs'.trans s2) st2 ⟨y1,y2,rfl,rfl⟩
   simp only[F39_11,ucons_cons,jn_eq,F39_9];cases y1 with
   |false=>simpa[gd_some']using skip
   |true=>
    cases y2 with
    |false=>simpa[gd_some']using skip
    |true=>
     simp only[isB_t,gd_true,vb_some,xPick_t,vN_eq,xEq_i];cases decide (((hint:Nat):Int)=((1:Nat):Int))with
     |true=>simp only[bite_t];exact yes
     |false=>simp only[bite_f];exact skip
  have main: ∀(t':Nat)(h':PH)(g':Nat->Int),t'<1000->Sw a e g g'->Sl h0 h' S (SM b md pre post N g') rows->
    Ret (F39_15 n cl LL [sv b pre N c,.int .i64 (a:Nat),.int .i64 (e:Nat),.int .i64 (t':Nat),.bool b1,.bool b2,.int .i64 ((e-a:Nat):Int)] h') (SR S h0 rows b md pre post N A E f0 fun g _=>Srt A E g):=by
   intro t' h' g' ht' hs' st';simp only[F39_15,ucons_cons,F39_13];refine Ret.hb (c59 (by omega) hN (by omega) st') fun v h2' ⟨⟨p,hint,hv,p1,p2⟩,st2⟩=>?_;subst hv;simp only[xExt_t',List.getElem?_cons_zero,List.getElem?_cons_succ,vb_some,jn_eq,F39_12,vN_eq,xEq_i];cases decide (((hint:Nat):Int)=((2:Nat):Int))with
   |false=>simp only[bite_f];exact chosen p hint t' b1 b2 h2' g' p1 p2 ht' hs' st2
   |true=>
    simp only[bite_t,F39_10];refine Ret.hb (c60 hm (by omega) hN hn (by omega) st2) fun v h3' ⟨g3,s3,st3,_⟩=>?_;have w1:IntKind.i64.wrap (((e:Nat):Int)-((1:Nat):Int))=((e-1:Nat):Int):=wrapS (by omega) (by omega);have w2:IntKind.i64.wrap (((p:Nat):Int)-((a:Nat):Int))=((p-a:Nat):Int):=wrapS p1 (by omega);have w3:IntKind.i64.wrap (((e-1:Nat):Int)-((p-a:Nat):Int))=((e-1-(p-a):Nat):Int):=wrapS (by omega) (by omega);simp only[vN_eq,xSub_i,w1,w2,w3,vb_some];exact chosen (e-1-(p-a)) 1 t' b1 b2 h3' g3 (by omega) (by omega) ht' (hs'.trans s3) st3
  simp only[F39_16,xNot_b,vb_some];cases b1 with
  |true=>simp only[Bool.not_true,bite_f];exact main t h g ht .refl st
  |false=>
   simp only[Bool.not_false,bite_t,F39_14];refine Ret.hb (c58 hm hn (by omega) hN (by omega) st) fun v h' ⟨g',s',st',_⟩=>?_;simp only[vN_eq,xSub_i,wrapS (x:=t) (y:=1) (by omega) (by omega),vb_some];exact main (t-1) h' g' (by omega) s' st'
set_option maxRecDepth 100000 in
theorem CLV39{d:Nat}{u v w x:Value}{h:PH}:CLV n (d+1) 39 [u,v,w,x] h=F39 n (CLV n d) u v w x h:=rfl
theorem c39(hm:mro md=false)(hn:4611686018427387904<=n)(hN:N<1000000000): ∀(D:Nat){h:PH}{f:Nat->Int}{a e t:Nat},a<=e->e<=N->e-a<=D->t<1000->Low a e f->Sl h0 h S (SM b md pre post N f) rows->
  Ret (F39 n (CLV n D) (sv b pre N c) (.int .i64 (a:Nat)) (.int .i64 (e:Nat)) (.int .i64 (t:Nat)) h) (SR S h0 rows b md pre post N a e f fun g _=>Srt a e g):=by
 intro D
 induction D with
 |zero=>
  intro h f a e t h1 h2 h3 ht hl st;unfold F39;exact loop39 hm hn hN h2 h3 (fun q=>absurd q (by decide)) hl N n a e t true true h f (by omega) (by omega) (Nat.le_refl _) h1 (Nat.le_refl _) ht .refl (fun x y q1 q2 q3 q4=>by omega) st
 |succ D ihD=>
  intro h f a e t h1 h2 h3 ht hl st;unfold F39;refine loop39 hm hn hN h2 h3 (fun _=>?_) hl N n a e t true true h f (by omega) (by omega) (Nat.le_refl _) h1 (Nat.le_refl _) ht .refl (fun x y q1 q2 q3 q4=>by omega) st;intro h f a e t q1 q2 q3 q4 q5 q6;rw[CLV39];exact ihD q1 q2 (by omega) q4 q5 q6
end
section
variable {Q:Value->PH->Prop}{n:Nat}{cl:CL}{h h0:PH}{S:Vw}{m:OM}{rows:Rws}{b N c:Nat}{md:Mode}{pre post:List Value}{f g:Nat->Int}{K2:Value->PH->R}
theorem c21(hm:mro md=false)(hn:4611686018427387904<=n)(hN:N<1000000000){D:Nat}(hD:N<=D)(h104: ∀u v w x h,cl 39 [u,v,w,x] h=CLV n (D+1) 39 [u,v,w,x] h)(st:Sl h0 h S (SM b md pre post N f) rows):
  Ret (F21 n cl (sv b pre N c) h) fun v h'=> ∃g,Sw 0 N f g/\Srt 0 N g/\Sl h0 h' S (SM b md pre post N g) rows:=by
 unfold F21;have hl:xLenS (sv b pre N c)=some (.int .i64 (N:Nat)):=by simp[sv]
 obtain⟨L,h1,h2,hp⟩:=c40 (n:=n) (cl:=cl) (h:=h.fzn) (x:=N) (by omega);simp only[hl,vb_some,xConvI_i',wr64u (show N<18446744073709551616 by omega),hp,vN_eq,h104,CLV39];refine Ret.hb (c39 hm hn hN D (a:=0) (e:=N) (by omega) (Nat.le_refl _) (by omega) (by omega) (fun k z1 z2 z3=>by omega) st) fun v h' ⟨g,q1,q2,q3⟩=>?_;exact Ret.of ⟨g,q1,q3,q2⟩
end
theorem zi24s:zinfo Try.prog 24=some (1,8,[.int .i64 0]):=by kernel_rfl
theorem u24: ∃inf,Try.prog.underlying 24=some (.slice 3)/\Try.prog.info? 3=some inf/\inf.size=1:=by
 have e2:(Try.prog.info? 3).map (·.size)=some 1:=by kernel_rfl
 rw[Option.map_eq_some_iff]at e2;obtain⟨inf,h1,h2⟩:=e2;exact⟨inf,by kernel_rfl,h1,h2⟩
theorem zrows_1(k:Nat):zrows [.int .i64 0] k=List.replicate k (.int .i64 0):=by
 induction k with
 |zero=>rfl
 |succ k ih=>rw[zrows,ih,List.replicate_succ];rfl
theorem fz_take{f:Nat->Int}{N k:Nat}(h:k<=N):(fz f N).take k=fz f k:=by
 unfold fz;rw[<-List.map_take,List.take_range,Nat.min_eq_left h]
theorem fz_cut{f:Nat->Int}{pre post zs:List Value}{N k:Nat}(h:k<=N)(hz:zs.length=N-k):setsL (pre++(fz f N++post)) (pre.length+k) zs=pre++(fz f k++(zs++post)):=by
 rw[setsL_at (by simp[fz_len];omega)];have e1:(pre++(fz f N++post)).take (pre.length+k)=pre++fz f k:=by
  rw[List.take_length_add_append,List.take_append_of_le_length (by rw[fz_len];exact h),fz_take h]
 have e2:(pre++(fz f N++post)).drop (pre.length+k+zs.length)=post:=by
  have:pre.length+k+zs.length=(pre++fz f N).length:=by simp[fz_len];omega
  rw[this, <-List.append_assoc,List.drop_left]
 rw[e1,e2];simp
section
variable {Q:Value->PH->Prop}{n:Nat}{cl:CL}{h h0:PH}{S:Vw}{m:OM}{rows:Rws}{b N c:Nat}{md:Mode}{pre post:List Value}{f g:Nat->Int}{K2:Value->PH->R}
theorem Ret.sclear(st:Sl h0 h S (SM b md pre post N f) rows)(hm:mro md=false){k cc:Nat}(hk1:k<N)(hk: ∀h' post',post'.length=N-k+post.length->Sl h0 h' S (SM b md pre post' k f) rows->Ret (K2 (.tuple ⟨[]⟩) h') Q):
  Ret (Go.Am.hb (xClear (zinfo Try.prog 24) (.slice (some ⟨b,pre.length+k,none⟩) (N-k) cc) h) K2) Q:=by
 have hb:over rows (SM b md pre post N f) b=some (.row md 1 (pre++(fz f N++post))):=st.base OM.upd_self;have hcut:=fz_cut (f:=f) (pre:=pre) (post:=post) (N:=N) (k:=k) (zs:=zrows [.int .i64 0] (N-k)) (by omega) (by rw[zrows_length];simp);obtain⟨h',hp,s',hn⟩:=st.sm.set hb (.row md 1 (setsL (pre++(fz f N++post)) (pre.length+k) (zrows [.int .i64 0] (N-k))));have hb':Nat.beq (N-k) 0=false:=by
  cases hq:Nat.beq (N-k) 0 with
  |false=>rfl
  |true=>have:=Nat.eq_of_beq_eq_true hq;omega
 have hone:oneCells (zrows [.int .i64 0] (N-k))=true:=by
  rw[zrows_1];unfold oneCells;exact List.all_eq_true.2 fun x hx=>by rw[(List.mem_replicate.1 hx).2];rfl
 have hz:Nat.blt 0 1=true:=rfl;have e:xClear (zinfo Try.prog 24) (.slice (some ⟨b,pre.length+k,none⟩) (N-k) cc) h=some (.tuple ⟨[]⟩,h'):=by
  rw[zi24s];simp only[xClear,hb',hz,hone,st.sm.get hb,hm];rw[stsK_eq (by rw[zrows_length];simp[fz_len];omega)];simp only[hp]
 rw[e];have s2:=st.putB OM.upd_self s';rw[hcut,SM,OM.upd_upd]at s2;exact hk h' _ (by rw[List.length_append,zrows_length];simp) s2
def Once(N:Nat)(f:Nat->Int)(K:Nat)(g:Nat->Int):Prop:=(∀i j,i<j->j<K->g i<g j)/\(∀i,i<N-> ∃j,j<K/\g j=f i)/\(∀j,j<K-> ∃i,i<N/\g j=f i)
def CompV(S:Vw)(h0:PH)(rows:Rws)(b:Nat)(md:Mode)(pre:List Value)(N c:Nat)(f:Nat->Int)(v:Value)(h':PH):Prop:=
 ∃K g post',K<=N/\Once N f K g/\v=sv b pre K c/\Sl h0 h' S (SM b md pre post' K g) rows
theorem loop22(hm:mro md=false)(hc:CapOk N c)(hN:N<1000000000)(hS:Srt 0 N f){k0:Nat}(hk0:0<k0)(hk0N:k0<N):
  ∀(k q i kk:Nat)(h:PH)(g:Nat->Int),N-(k0+i)<=k->k<q->1<=i->k0+i<=N->0<kk->kk+1<=k0+i->Once (k0+i) f kk g->(∀j,kk<=j->g j=f j)->g (kk-1)=f (k0+i-1)->Sl h0 h S (SM b md pre post N g) rows->
  Ret (lp q (F22_6 n cl) [sv b pre N c,.int .i64 (kk:Nat),.slice (some ⟨b,pre.length+k0,none⟩) (N-k0) (c-k0),.int .i64 (i:Nat)] h) (CompV S h0 rows b md pre N c f):=by
 obtain⟨inf,hu,hi',hsz⟩:=u24;intro k
 induction k with
 |zero=>
  intro q i kk h g h1 h2 h3 h4 h5 h6 hO hg hl st;obtain⟨q,rfl⟩: ∃r,q=r+1:=⟨q-1,by omega⟩;rw[lp_succ];have hi:k0+i=N:=by omega
  have d:decide (((i:Nat):Int)<((N-k0:Nat):Int))=false:=by simp;omega
  have hlen:xLenS (.slice (some ⟨b,pre.length+k0,none⟩) (N-k0) (c-k0))=some (.int .i64 ((N-k0:Nat):Int)):=by simp
  have hcN:=hc.1;have e1:=acut_at (P:=Try.prog) (T:=24) (e:=3) (b:=b) (o:=pre.length) (n:=N) (c:=c) (l:=kk) (r:=N) (lo:=some (.int .i64 (kk:Nat))) (hi:=none) hu hi' hc rfl (bd_i (by omega) (by omega)) (by omega) (Nat.le_refl _);rw[if_neg (by omega),hsz,Nat.mul_one]at e1;have e2:=acut_at (P:=Try.prog) (T:=24) (e:=3) (b:=b) (o:=pre.length) (n:=N) (c:=c) (l:=0) (r:=kk) (lo:=none) (hi:=some (.int .i64 (kk:Nat))) hu hi' hc (bd_i (by omega) (by omega)) rfl (by omega) (by omega);rw[if_neg (by omega),Nat.zero_mul,Nat.add_zero,Nat.sub_zero,Nat.sub_zero]at e2;simp only[F22_6,F22_5,ucons_cons,hlen,xLt_i,d,vb_some,bite_f,F22_4,e1];refine Ret.sclear st hm (by omega) fun h' post' _ st'=>?_;have e2':acut Try.prog 24 (sv b pre N c) none (some (.int .i64 (kk:Nat))) none=some (sv b pre kk c):=e2;simp only[e2',vb_some];rw[hi]at hO;exact Ret.of ⟨kk,g,post',by omega,hO,rfl,st'⟩
 |succ k ih=>
  intro q i kk h g h1 h2 h3 h4 h5 h6 hO hg hl st
  by_cases hi:k0+i<N
  ·obtain⟨q,rfl⟩: ∃r,q=r+1:=⟨q-1,by omega⟩;rw[lp_succ];generalize hL:lp q (F22_6 n cl)=LL;have d:decide (((i:Nat):Int)<((N-k0:Nat):Int))=true:=by simp;omega
   have hlen:xLenS (.slice (some ⟨b,pre.length+k0,none⟩) (N-k0) (c-k0))=some (.int .i64 ((N-k0:Nat):Int)):=by simp
   have w1:=wrapS (x:=i) (y:=1) h3 (by omega);have ix: ∀j,k0+j<N->xIdxS 1 (.slice (some ⟨b,pre.length+k0,none⟩) (N-k0) (c-k0)) (.int .i64 (j:Nat))=some (.pointer (some ⟨b,pre.length+(k0+j),none⟩)):=by
    intro j hj;have:=xIdxS_at (sz:=1) (b:=b) (o:=pre.length+k0) (n:=N-k0) (c:=c-k0) (k:=.i64) (i:=(j:Int)) (by omega) (by omega);simpa[Nat.add_assoc]using this
   have i1:=ix i hi;have i2:=ix (i-1) (by omega);have l1:=st.sld (i:=k0+i) hi;have l2:=st.sld (i:=k0+(i-1)) (by omega);rw[hg _ (by omega)]at l1 l2;have e3:k0+(i-1)=k0+i-1:=by omega
   rw[e3]at l2 i2;obtain⟨o1,o2,o3⟩:=hO;have hle:=hS (k0+i-1) (k0+i) (by omega) (by omega) hi;simp only[F22_6,F22_5,ucons_cons,hlen,xLt_i,d,vb_some,bite_t,jn_eq,F22_3,i1,vN_eq,xSub_i,w1,i2,l1,l2,xNe_i]
   by_cases heq:f (k0+i)=f (k0+i-1)
   ·have d2:(!decide (f (k0+i)=f (k0+i-1)))=false:=by simp[heq]
    simp only[d2,bite_f,F22_2,ucons_cons,F22_0,vN_eq,xAdd_i,wrapN (show i<4611686018427387904 by omega),vb_some];rw[<-hL];refine ih q (i+1) kk h g (by omega) (by omega) (by omega) (by omega) h5 (by omega) ⟨o1,fun j hj=>?_,fun j hj=>?_⟩ hg (by rw[hl, <-heq];rfl) st
    ·by_cases hj':j=k0+i
     ·subst hj';exact⟨kk-1,by omega,by rw[hl,heq]⟩
     ·exact o2 j (by omega)
    ·obtain⟨x,hx,e⟩:=o3 j hj;exact⟨x,by omega,e⟩
   ·have d2:(!decide (f (k0+i)=f (k0+i-1)))=true:=by simp[heq]
    have i3:=sIdx (b:=b) (pre:=pre) (N:=N) (c:=c) (i:=kk) (by omega);simp only[d2,bite_t,F22_1,i1,l1,i3,vb_some];refine Ret.sst st hm (i:=kk) (by omega) fun h2' st2=>?_;simp only[vN_eq,xAdd_i,wrapN (show kk<4611686018427387904 by omega),wrapN (show i<4611686018427387904 by omega),vb_some,F22_2,ucons_cons,F22_0];rw[<-hL];have vk:fup g kk (f (k0+i)) kk=f (k0+i):=by simp[fup]
    have vo: ∀x,x≠kk->fup g kk (f (k0+i)) x=g x:=fun x hx=>by simp[fup,hx]
    refine ih q (i+1) (kk+1) h2' _ (by omega) (by omega) (by omega) (by omega) (by omega) (by omega) ⟨fun x y q1 q2=>?_,fun j hj=>?_,fun j hj=>?_⟩ (fun j hj=>by rw[vo j (by omega)];exact hg j (by omega)) (by rw[Nat.add_sub_cancel,vk];rfl) st2
    ·rw[vo x (by omega)]
     by_cases hy:y=kk
     ·subst hy;rw[vk];have h7:g x<=g (y-1):=by
       by_cases hx:x=y-1
       ·subst hx;exact Int.le_refl _
       ·have:=o1 x (y-1) (by omega) (by omega);omega
      omega
     ·rw[vo y hy];exact o1 x y q1 (by omega)
    ·by_cases hj':j=k0+i
     ·subst hj';exact⟨kk,by omega,vk⟩
     ·obtain⟨x,hx,e⟩:=o2 j (by omega);exact⟨x,by omega,by rw[vo x (by omega)];exact e⟩
    ·by_cases hj':j=kk
     ·subst hj';exact⟨k0+i,by omega,vk⟩
     ·obtain⟨x,hx,e⟩:=o3 j (by omega);exact⟨x,by omega,by rw[vo j hj'];exact e⟩
  ·exact ih q i kk h g (by omega) (by omega) h3 h4 h5 h6 hO hg hl st
end
section
variable {Q:Value->PH->Prop}{n:Nat}{cl:CL}{h h0:PH}{S:Vw}{m:OM}{rows:Rws}{b N c:Nat}{md:Mode}{pre post:List Value}{f g:Nat->Int}{K2:Value->PH->R}
theorem once_self{k:Nat}(hinc: ∀i j,i<j->j<k->f i<f j):Once k f k f:=⟨hinc,fun i hi=>⟨i,hi,rfl⟩,fun j hj=>⟨j,hj,rfl⟩⟩
theorem c22(hm:mro md=false)(hn:4611686018427387904<=n)(hc:CapOk N c)(hN:N<1000000000)(hS:Srt 0 N f)(st:Sl h0 h S (SM b md pre post N f) rows):
  Ret (F22 n cl (sv b pre N c) h) (CompV S h0 rows b md pre N c f):=by
 obtain⟨inf,hu,hi',hsz⟩:=u24;have hlen:xLenS (sv b pre N c)=some (.int .i64 (N:Nat)):=by simp[sv]
 unfold F22;simp only[hlen,vN_eq,xLt_i,vb_some]
 by_cases h2:N<2
 ·have d:decide (((N:Nat):Int)<((2:Nat):Int))=true:=by simp;omega
  simp only[d,bite_t];exact Ret.of ⟨N,f,post,Nat.le_refl _,once_self fun i j q1 q2=>by omega,rfl,st⟩
 have d:decide (((N:Nat):Int)<((2:Nat):Int))=false:=by simp;omega
 simp only[d,bite_f,F22_11];have hcN:=hc.1;have key: ∀(k q i:Nat)(h:PH),N-i<=k->k<q->1<=i->i<=N->(∀x y,x<y->y<i->f x<f y)->Sl h0 h S (SM b md pre post N f) rows->
   Ret (lp q (fun r4 y3 h=>ucons y3 fun v5 y6=>ucons y6 fun v7 y8=>F22_10 n cl v5 v7 r4 h) [sv b pre N c,.int .i64 (i:Nat)] h) (CompV S h0 rows b md pre N c f):=by
  intro k
  induction k with
  |zero=>
   intro q i h h1 h2 h3 h4 hI st;obtain⟨q,rfl⟩: ∃r,q=r+1:=⟨q-1,by omega⟩;rw[lp_succ];have d:decide (((i:Nat):Int)<((N:Nat):Int))=false:=by simp;omega
   simp only[ucons_cons,F22_10,hlen,xLt_i,d,vb_some,bite_f];exact Ret.of ⟨N,f,post,Nat.le_refl _,once_self fun x y q1 q2=>hI x y q1 (by omega),rfl,st⟩
  |succ k ih=>
   intro q i h h1 h2 h3 h4 hI st
   by_cases hi:i<N
   ·obtain⟨q,rfl⟩: ∃r,q=r+1:=⟨q-1,by omega⟩;rw[lp_succ];generalize hL:lp q (fun r4 y3 h=>ucons y3 fun v5 y6=>ucons y6 fun v7 y8=>F22_10 n cl v5 v7 r4 h)=LL;have d:decide (((i:Nat):Int)<((N:Nat):Int))=true:=by simp;omega
    have w1:=wrapS (x:=i) (y:=1) h3 (by omega);have i1:=sIdx (b:=b) (pre:=pre) (N:=N) (c:=c) (i:=i) hi;have i2:=sIdx (b:=b) (pre:=pre) (N:=N) (c:=c) (i:=i-1) (by omega);have l1:=st.sld (i:=i) hi;have l2:=st.sld (i:=i-1) (by omega);have hle:=hS (i-1) i (by omega) (by omega) hi;simp only[ucons_cons,F22_10,hlen,xLt_i,d,vb_some,bite_t,F22_9,i1,vN_eq,xSub_i,w1,i2,l1,l2,xEq_i]
    by_cases heq:f i=f (i-1)
    ·have d2:decide (f i=f (i-1))=true:=by simp[heq]
     have e1:=acut_at (P:=Try.prog) (T:=24) (e:=3) (b:=b) (o:=pre.length) (n:=N) (c:=c) (l:=i) (r:=N) (lo:=some (.int .i64 (i:Nat))) (hi:=none) hu hi' hc rfl (bd_i (by omega) (by omega)) (by omega) (Nat.le_refl _);rw[if_neg (by omega),hsz,Nat.mul_one]at e1;have e1':acut Try.prog 24 (sv b pre N c) (some (.int .i64 (i:Nat))) none none=some (.slice (some ⟨b,pre.length+i,none⟩) (N-i) (c-i)):=e1;simp only[d2,bite_t,F22_7,e1',vN_eq,vb_some];refine loop22 hm hc hN hS (k0:=i) (by omega) hi N n 1 i h f (by omega) (by omega) (by omega) (by omega) (by omega) (by omega) ⟨fun x y q1 q2=>hI x y q1 q2,fun x hx=>?_,fun x hx=>⟨x,by omega,rfl⟩⟩ (fun j hj=>rfl) (by rw[Nat.add_sub_cancel,heq]) st
     by_cases hxi:x=i
     ·subst hxi;exact⟨x-1,by omega,heq.symm⟩
     ·exact⟨x,by omega,rfl⟩
    ·have d2:decide (f i=f (i-1))=false:=by simp[heq]
     simp only[d2,bite_f,F22_8,vN_eq,xAdd_i,wrapN (show i<4611686018427387904 by omega),vb_some];rw[<-hL];refine ih q (i+1) h (by omega) (by omega) (by omega) (by omega) (fun x y q1 q2=>?_) st
     by_cases hy:y=i
     ·subst hy
      by_cases hx:x=y-1
      ·subst hx;omega
      ·have:=hI x (y-1) (by omega) (by omega);omega
     ·exact hI x y q1 (by omega)
   ·exact ih q i h (by omega) (by omega) h3 h4 hI st
 simp only[vN_eq];exact key N n 1 h (by omega) (by omega) (by omega) (by omega) (fun x y q1 q2=>by omega) st
end
end Go.Am
