import Derived.Test.YthnhjgeneeflaaaZS
import Derived.Test.YthnhjgeneeflaaaZW
import Derived.Test.YthnhjgeneeflaaaZE
set_option linter.unusedSimpArgs false
set_option linter.unusedVariables false
namespace Go.Am
open Go Go.RowKit Go.Proofs
abbrev pt(b:Nat):Value:=.pointer (some ⟨b,0,none⟩)
def zv(l:List Int):List Value:=l.map fun z=>.int .i64 z
theorem zv_get{l:List Int}{i:Nat}{z:Int}(h:l[i]?=some z):(zv l)[i]?=some (.int .i64 z):=by simp[zv,h]
theorem zv_len(l:List Int):(zv l).length=l.length:=by simp[zv]
structure GrV(V:Vw)(g:Gr)(rv fv cv kv:Value):Prop where
 rules:RdV rRule V rv g.rules
 forbid:RdV r3 V fv g.forbid
 rclass:RdV (rI .i64) V cv g.rclass
 kclass:RdV (rI .i64) V kv g.kclass
theorem GrV.mono{V W:Vw}{g:Gr}{rv fv cv kv:Value}(hs:Vw.le V W)(h:GrV V g rv fv cv kv):GrV W g rv fv cv kv:=⟨h.rules.mono hs,h.forbid.mono hs,h.rclass.mono hs,h.kclass.mono hs⟩
theorem GrV.E{V:Vw}{g:Gr}{rv fv cv kv:Value}(h:GrV V g rv fv cv kv):rGram.E V g (gcs g rv fv cv kv):=
 ⟨[_],_,rfl,rfl,[_],_,rfl,rfl,[_],_,rfl,rfl,[_],_,rfl,⟨rv,rfl,h.rules⟩,[_],_,rfl,⟨fv,rfl,h.forbid⟩,[_],[_],rfl,⟨cv,rfl,h.rclass⟩,⟨kv,rfl,h.kclass⟩⟩
theorem GrV.rd{V:Vw}{h:PH}{g:Gr}{rv fv cv kv:Value}(r:GrV V g rv fv cv kv)(hS:Vw.le V h.cells):RdG h (.agg ⟨gcs g rv fv cv kv⟩) g rv fv cv kv:=by
 obtain⟨a,b,c,d,hr⟩:=rGram_rd (r.mono hS).E;have:=hr.v;simp only[Value.agg.injEq,Array.mk.injEq,List.cons.injEq]at this;obtain⟨_,_,_,rfl,rfl,rfl,rfl,_⟩:=this;exact hr
theorem rGram_V{V:Vw}{g:Gr}{es:List Value}(hE:rGram.E V g es): ∃rv fv cv kv,es=gcs g rv fv cv kv/\GrV V g rv fv cv kv:=by
 obtain⟨e1,_,rfl,h1,e2,_,rfl,h2,e3,_,rfl,h3,e4,_,rfl,⟨rv,h4,r4⟩,e5,_,rfl,⟨fv,h5,r5⟩,e6,e7,rfl,⟨cv,h6,r6⟩,⟨kv,h7,r7⟩⟩:=hE;have h1:e1=[.int .i64 g.names]:=h1;have h2:e2=[.int .i64 g.kinds]:=h2;have h3:e3=[.int .i64 g.start]:=h3;subst h1 h2 h3 h4 h5 h6 h7;exact⟨rv,fv,cv,kv,rfl,r4,r5,r6,r7⟩
theorem RdV.lenV{α:Type}{R:Rdr α}{V:Vw}{v:Value}{l:List α}(r:RdV R V v l):xLenS v=some (.int .i64 (l.length:Nat)):=by
 rcases r with⟨rfl,a,c,rfl⟩|⟨b,o,c,cs,rfl,_⟩<;>simp
theorem RdV.atI{V:Vw}{v:Value}{l:List Int}(r:RdV (rI .i64) V v l){i:Nat}{z:Int}(hi:l[i]?=some z): ∃b o cs,xIdxS 1 v (.int .i64 (i:Nat))=some (.pointer (some ⟨b,o,none⟩))/\V b=some cs/\cs[o]?=some (.int .i64 z):=by
 have hlt:=(List.getElem?_eq_some_iff.1 hi).1;rcases r with⟨rfl,_⟩|⟨b,o,c,cs,rfl,h1,h2⟩
 ·simp at hi
 ·obtain⟨q1,q2⟩:=h2 i z hi;have q1:o+i*1+1<=cs.length:=q1;have q2:(cs.drop (o+i*1)).take 1=[.int .i64 z]:=q2;refine⟨b,o+i,cs,by rw[xIdxS_at (by omega) (by omega)];simp,h1,?_⟩;have:=congrArg (fun l=>l[0]?) q2;simp only[List.getElem?_take,List.getElem?_drop]at this;simpa using this
theorem GrV.rule{V:Vw}{g:Gr}{rv fv cv kv:Value}(h:GrV V g rv fv cv kv){i:Nat}{r:Rl}(hi:g.rules[i]?=some r): ∃b o cs wv,xIdxS 3 rv (.int .i64 (i:Nat))=some (.pointer (some ⟨b,o,none⟩))/\V b=some cs/\(cs.drop o).take 3=[.int .i64 r.left,wv,.int .i64 r.dyn]/\o+3<=cs.length/\RdV (rI .i64) V wv r.right:=by
 have hlt:=(List.getElem?_eq_some_iff.1 hi).1;rcases h.rules with⟨h0,_⟩|⟨b,o,c,cs,rfl,h1,h2⟩
 ·rw[h0]at hi;simp at hi
 ·obtain⟨q1,a1,_,q2,b1,a2,a3,rfl,⟨wv,b2,r2⟩,b3⟩:=h2 i r hi;have q1:o+i*3+3<=cs.length:=q1;have b1:a1=[.int .i64 r.left]:=b1;have b3:a3=[.int .i64 r.dyn]:=b3;subst b1 b2 b3;refine⟨b,o+i*3,cs,wv,?_,h1,q2,q1,r2⟩;rw[xIdxS_at (by omega) (by omega)];simp
theorem cells3{cs:List Value}{o:Nat}{a b c:Value}(h:(cs.drop o).take 3=[a,b,c]):cs[o]?=some a/\cs[o+1]?=some b/\cs[o+2]?=some c:=by
 have k: ∀j,j<3->cs[o+j]?=[a,b,c][j]?:=fun j hj=>by
  rw[<-h,List.getElem?_take,if_pos hj,List.getElem?_drop]
 exact⟨k 0 (by omega),k 1 (by omega),k 2 (by omega)⟩
abbrev It3:=Int×Nat×Nat
def itc(x:It3):List Value:=[.int .i64 x.1,.int .i64 (x.2.1:Nat),.int .i64 (x.2.2:Nat)]
def stepI(x:It3):It3:=(x.1,x.2.1+1,x.2.2)
def behI(g:Gr)(r:Int)(a:Nat):Option Int:=if r= -1 then(if a=0 then some g.start else none)else(g.rules[r.toNat]?).bind fun x=>x.right[a]?
structure OkI(g:Gr)(x:It3):Prop where
 h:(x.1= -1/\x.2.1<=1)\/ ∃r,0<=x.1/\g.rules[x.1.toNat]?=some r/\x.2.1<=r.right.length/\r.right.length<=8
theorem zc55:zcells Try.prog 55=some [.int .i64 0,.int .i64 0,.int .i64 0]:=by kernel_rfl
theorem bsI24{z:Int}:bsRow Try.prog 24 1 [(0,.int .i64 z)]=some (1,[.int .i64 z]):=by kernel_rfl
section
variable {n:Nat}{cl:CL}{h h0:PH}{S:Vw}{m:OM}{rows:Rws}
theorem c54[OkH h]{x:It3}(hx:x.2.1<1000000):pcall (F54 n cl (.agg ⟨itc x⟩) h)=some (.agg ⟨itc (stepI x)⟩):=by
 refine pcall_fr (h:=h) (S:=h.cells) ?_ rfl;unfold Fr F54;refine Ret.lbox (Sl.start h (Vw.le.refl _)) fun h1 b st1=>?_;have st1:Sl h h1 h.cells OM.emp [(b,.row .own 1 (itc x))]:=st1;refine Ret.lalloc st1 zc55 fun h2 c st2=>?_;have l1:xLd (.pointer (some ⟨b,0+1,none⟩)) h2=some (.int .i64 (x.2.1:Nat)):=st2.ld (.tail _ (.head _)) rfl;simp only[xFld_p,Nat.zero_add,vb_some,l1,vN_eq,xAdd_i,wrapN (show x.2.1<4611686018427387904 by omega)];refine Ret.lst1 st2 1 rfl rfl (by simp[itc]) rfl fun h3 st3=>?_;have st3:Sl h h3 h.cells OM.emp [(c,.row .own 1 [.int .i64 0,.int .i64 0,.int .i64 0]),(b,.row .own 1 (itc (stepI x)))]:=st3;have la:xLdA 3 (.pointer (some ⟨b,0,none⟩)) h3=some (.agg ⟨itc (stepI x)⟩):=st3.ldA (.tail _ (.head _)) rfl (by simp[itc]);simp only[la,vb_some];refine Ret.lstA st3 0 rfl rfl rfl (by simp) rfl fun h4 st4=>?_;rw[setsL_all (by rfl)]at st4;have st4:Sl h h4 h.cells OM.emp [(c,.row .own 1 (itc (stepI x))),(b,.row .own 1 (itc (stepI x)))]:=st4;have lb:xLdA 3 (.pointer (some ⟨c,0,none⟩)) h4=some (.agg ⟨itc (stepI x)⟩):=st4.ldA (.head _) rfl (by simp[itc]);simp only[lb,vb_some];exact Fr.ret st4 rfl
theorem c19[OkH h]{g:Gr}{rv fv cv kv:Value}(hS:Vw.le S h.cells)(r:GrV S g rv fv cv kv){x:It3}(hx:OkI g x):pcall (F19 n cl (.agg ⟨gcs g rv fv cv kv⟩) (.agg ⟨[.int .i64 x.1,.int .i64 (x.2.1:Nat)]⟩) h)=some (.tuple ⟨[.int .i64 ((behI g x.1 x.2.1).getD 0),.bool (behI g x.1 x.2.1).isSome]⟩):=by
 obtain⟨xr,xa,xf⟩:=x;refine pcall_fr (h:=h) (S:=S) ?_ rfl;unfold Fr F19;refine Ret.lbox (Sl.start h hS) fun h1 b st1=>?_;have st1:Sl h h1 S OM.emp [(b,.row .own 1 (gcs g rv fv cv kv))]:=st1;refine Ret.lbox st1 fun h2 c st2=>?_;have st2:Sl h h2 S OM.emp [(c,.row .own 1 [.int .i64 xr,.int .i64 (xa:Nat)]),(b,.row .own 1 (gcs g rv fv cv kv))]:=st2;have la:xLdA 7 (.pointer (some ⟨b,0,none⟩)) h2=some (.agg ⟨gcs g rv fv cv kv⟩):=st2.ldA (.tail _ (.head _)) rfl (by simp);have l0:xLd (.pointer (some ⟨c,0,none⟩)) h2=some (.int .i64 xr):=st2.ld (.head _) rfl;have okh:=st2.ok;have htt:tt= .bool true:=rfl;have hff:ff= .bool false:=rfl;simp only[la,vb_some,xFld_p,Nat.zero_add,l0];have hR: ∃l:List Int,l.length<=8/\behI g xr xa=l[xa]?/\Fr h2.fzn S (F38 n cl (.agg ⟨gcs g rv fv cv kv⟩) (.int .i64 xr) h2.fzn) fun v ex=>RdV (rI .i64) S v l\/ ∃q,v= .slice (some ⟨q,0,none⟩) 1 1/\ex=[(q,.row .own 1 (zv l))]/\l.length=1:=by
  rcases hx.h with⟨h1,h2'⟩|⟨r',h1,h2',h3,h4⟩
  ·have h1:xr= -1:=h1;subst h1;refine⟨[g.start],by simp,?_,?_⟩
   ·unfold behI;rw[if_pos rfl];cases xa<;>rfl
   ·unfold Fr F38;refine Ret.lbox (Sl.start h2.fzn (fun b cs e=>st2.leS b cs e)) fun h3 e st3=>?_;have st3:Sl h2.fzn h3 S OM.emp [(e,.row .own 1 (gcs g rv fv cv kv))]:=st3;have d1:xCmp ieq (.int .i64 (-1)) (vM 0)=some (.bool true):=rfl;have l2:xLd (.pointer (some ⟨e,2,none⟩)) h3=some (.int .i64 g.start):=st3.ld (.head _) rfl;simp only[d1,vb_some,bite_t,F38_0,xFld_p,Nat.zero_add,l2];refine Ret.lbs st3 bsI24 fun h4 q st4=>?_;exact Fr.ret (st4.drop (.cons_cons _ (List.nil_sublist _))) (.inr ⟨q,rfl,rfl,rfl⟩)
  ·have h1:0<=xr:=h1;have h2':g.rules[xr.toNat]?=some r':=h2';obtain⟨i,rfl⟩: ∃i:Nat,xr=i:=⟨xr.toNat,by omega⟩;rw[Int.toNat_natCast]at h2';refine⟨r'.right,h4,?_,?_⟩
   ·unfold behI;rw[if_neg (by omega),Int.toNat_natCast,h2'];rfl
   ·unfold Fr F38;refine Ret.lbox (Sl.start h2.fzn (fun b cs e=>st2.leS b cs e)) fun h3 e st3=>?_;have st3:Sl h2.fzn h3 S OM.emp [(e,.row .own 1 (gcs g rv fv cv kv))]:=st3;have d1:xCmp ieq (.int .i64 ((i:Nat):Int)) (vM 0)=some (.bool false):=by
     show some (Value.bool (decide (((i:Nat):Int)= -1)))=_
     have: ¬((i:Nat):Int)= -1:=by omega
     simp[this]
    have l3:xLd (.pointer (some ⟨e,3,none⟩)) h3=some rv:=st3.ld (.head _) rfl;obtain⟨q,o,cs,wv,e1,e2,e3,e4,e5⟩:=r.rule h2';have l4:xLd (.pointer (some ⟨q,o+1,none⟩)) h3=some wv:=st3.ldS e2 (cells3 e3).2.1;simp only[d1,vb_some,bite_f,F38_1,xFld_p,Nat.zero_add,l3,e1,l4];exact Fr.ret st3 (.inl e5)
 obtain⟨l,hl8,hbeh,hF⟩:=hR;refine Ret.lfcall st2 hF fun v h3 ex hv st3=>?_;have l1:xLd (.pointer (some ⟨c,1,none⟩)) h3=some (.int .i64 (xa:Nat)):=st3.ld (List.mem_append_right _ (.head _)) rfl;have hlen:xLenS v=some (.int .i64 (l.length:Nat)):=by
  rcases hv with hv|⟨q,rfl,_,hl1⟩
  ·exact hv.lenV
  ·rw[hl1];simp
 simp only[l1,vb_some,hlen,xGe_i]
 show Ret _ _
 by_cases hlt:xa<l.length
 ·have dc:decide (((l.length:Nat):Int)<=((xa:Nat):Int))=false:=decide_eq_false (by omega);have hz:=List.getElem?_eq_getElem hlt;generalize l[xa]=z at hz;have hrd: ∃p,xIdxS 1 v (.int .i64 (xa:Nat))=some p/\xLd p h3=some (.int .i64 z):=by
   rcases hv with hv|⟨q,rfl,rfl,hl1⟩
   ·obtain⟨b1,o1,cs1,e1,e2,e3⟩:=hv.atI hz;exact⟨_,e1,st3.ldS e2 e3⟩
   ·refine⟨.pointer (some ⟨q,xa,none⟩),?_,st3.ld (.head _) (zv_get hz)⟩;rw[xIdxS_at (by omega) (by omega)];simp
  obtain⟨p,e1,e2⟩:=hrd;simp only[dc,bite_f,F19_0,xFld_p,Nat.zero_add,l1,vb_some,e1,e2];refine Fr.ret st3 ?_
  show _=Value.tuple ⟨[.int .i64 ((behI g xr xa).getD 0),.bool (behI g xr xa).isSome]⟩
  rw[hbeh,hz];rfl
 ·have dc:decide (((l.length:Nat):Int)<=((xa:Nat):Int))=true:=decide_eq_true (by omega);simp only[dc,bite_t];refine Fr.ret st3 ?_
  show _=Value.tuple ⟨[.int .i64 ((behI g xr xa).getD 0),.bool (behI g xr xa).isSome]⟩
  rw[hbeh,List.getElem?_eq_none (by omega)];rfl
end
inductive EI(g:Gr)(ks:List Int):Nat->It3->Prop
 |start:EI g ks 0 (-1,0,0)
 |pred {j i:Nat} {x:It3} {s:Int} {r:Rl}:EI g ks j x->behI g x.1 x.2.1=some s->0<=s->g.rules[i]?=some r->r.left=s->EI g ks j ((i:Nat),0,j)
 |null {j:Nat} {x:It3} {s:Int}:EI g ks j x->behI g x.1 x.2.1=some s->0<=s->Nul g s->EI g ks j (stepI x)
 |comp {j i:Nat} {x y:It3} {r:Rl}:EI g ks j x->x.1=(i:Int)->g.rules[i]?=some r->x.2.1=r.right.length->x.2.2<j->EI g ks x.2.2 y->behI g y.1 y.2.1=some r.left->EI g ks j (stepI y)
 |shift {j:Nat} {x:It3} {s k:Int}:EI g ks j x->behI g x.1 x.2.1=some s->s<0->ks[j]?=some k->s= -1-k->EI g ks (j+1) (stepI x)
structure GOk(g:Gr):Prop where
 start:isName g.names g.start=true
 left: ∀r∈g.rules,isName g.names r.left=true
 right: ∀r∈g.rules, ∀s∈r.right,isSym g.names g.kinds s=true
 r8: ∀r∈g.rules,r.right.length<=8
 rl:g.rules.length<=60
 nm:1<=g.names/\g.names<=40
 kn:0<=g.kinds/\g.kinds<=40
section
variable {g:Gr}{ks:List Int}
theorem behI_top:behI g (-1) 0=some g.start:=rfl
theorem behI_top1{a:Nat}(h:0<a):behI g (-1) a=none:=by unfold behI;rw[if_pos rfl,if_neg (by omega)]
theorem behI_rule{i a:Nat}{r:Rl}(h:g.rules[i]?=some r):behI g (i:Nat) a=r.right[a]?:=by
 unfold behI;rw[if_neg (by omega),Int.toNat_natCast,h];rfl
theorem OkI.cases{x:It3}(h:OkI g x):(x.1= -1/\x.2.1<=1)\/ ∃(i:Nat) (r:Rl),x.1=(i:Int)/\g.rules[i]?=some r/\x.2.1<=r.right.length/\r.right.length<=8:=by
 rcases h.h with h|⟨r,h1,h2,h3,h4⟩
 ·exact .inl h
 ·exact .inr ⟨x.1.toNat,r,by omega,h2,h3,h4⟩
theorem OkI.rule{i a f:Nat}{r:Rl}(h:g.rules[i]?=some r)(ha:a<=r.right.length)(h8:r.right.length<=8):OkI g ((i:Nat),a,f):=⟨.inr ⟨r,by show(0:Int)<=(i:Nat);omega,by show g.rules[((i:Nat):Int).toNat]?=some r;rw[Int.toNat_natCast];exact h,ha,h8⟩⟩
theorem OkI.step{x:It3}{s:Int}(h:OkI g x)(hb:behI g x.1 x.2.1=some s):OkI g (stepI x):=by
 obtain⟨xr,xa,xf⟩:=x;rcases h.cases with⟨h1,h2⟩|⟨i,r,h1,h2,h3,h4⟩
 ·have h1:xr= -1:=h1;subst h1;have hb:behI g (-1) xa=some s:=hb;have:xa=0:=by
   by_cases e:xa=0
   ·exact e
   ·rw[behI_top1 (by omega)]at hb;cases hb
  subst this;exact⟨.inl ⟨rfl,Nat.le_refl _⟩⟩
 ·have h1:xr=(i:Int):=h1;subst h1;have hb:behI g ((i:Nat):Int) xa=some s:=hb;rw[behI_rule h2]at hb;have:=(List.getElem?_eq_some_iff.1 hb).1;exact OkI.rule h2 (by show xa+1<=_;omega) h4
theorem EI.ok(hg:GOk g){j:Nat}{x:It3}(h:EI g ks j x):OkI g x/\x.2.2<=j/\j<=ks.length:=by
 induction h with
 |start=>exact⟨⟨.inl ⟨rfl,by decide⟩⟩,Nat.le_refl _,Nat.zero_le _⟩
 |pred hx hb hs hr hl ih=>exact⟨OkI.rule hr (Nat.zero_le _) (hg.r8 _ (List.mem_of_getElem? hr)),Nat.le_refl _,ih.2.2⟩
 |null hx hb hs hn ih=>exact⟨ih.1.step hb,ih.2.1,ih.2.2⟩
 |comp hx h1 hr ha hf hy hb ih1 ih2=>exact⟨ih2.1.step hb,by show _<=_;have:=ih2.2.1;exact Nat.le_trans this (Nat.le_of_lt hf),ih1.2.2⟩
 |shift hx hb hs hk he ih=>exact⟨ih.1.step hb,by show _<=_;have:=ih.2.1;exact Nat.le_trans this (Nat.le_succ _),(List.getElem?_eq_some_iff.1 hk).1⟩
theorem EI.here(hg:GOk g){j:Nat}{x:It3}(h:EI g ks j x):x.2.2=j-> ∀(i:Nat) r,x.1=(i:Int)->g.rules[i]?=some r-> ∀a,a<x.2.1-> ∃s,r.right[a]?=some s/\0<=s/\Nul g s:=by
 induction h with
 |start=>intro _ i r h;omega
 |pred hx hb hs hr hl ih=>intro _ i r _ _ a ha;exact absurd ha (Nat.not_lt_zero _)
 | @null j x s hx hb hs hn ih=>
  intro hf i r h1 hr a ha;have h1:x.1=(i:Int):=h1;have ha:a<x.2.1+1:=ha
  by_cases e:a=x.2.1
  ·subst e;rw[h1,behI_rule hr]at hb;exact⟨s,hb,hs,hn⟩
  ·exact ih hf i r h1 hr a (by omega)
 | @comp j i x y r hx h1 hr ha hf hy hb ih1 ih2=>
  intro hj;have h2:=(EI.ok hg hy).2.1;have hj:y.2.2=j:=hj;omega
 | @shift j x s k hx hb hs hk he ih=>
  intro hj;have h2:=(EI.ok hg hx).2.1;have hj:x.2.2=j+1:=hj;omega
theorem EI.nul(hg:GOk g){j i:Nat}{x:It3}{r:Rl}(h:EI g ks j x)(hj:x.2.2=j)(h1:x.1=(i:Int))(hr:g.rules[i]?=some r)(ha:x.2.1=r.right.length):Nul g r.left:=by
 have hm:=List.mem_of_getElem? hr;have key: ∀s∈r.right,0<=s/\Nul g s:=fun s hs=>by
  obtain⟨a,ha'⟩:=List.getElem?_of_mem hs;obtain⟨s',e,h2,h3⟩:=h.here hg hj i r h1 hr a (by have:=(List.getElem?_eq_some_iff.1 ha').1;omega);rw[ha']at e;cases e;exact⟨h2,h3⟩
 refine Nul.mk hm (fun s hs=>?_) fun s hs=>(key s hs).2;have h2:=hg.right r hm s hs;have h3:=(key s hs).1;unfold isSym isKind at h2;simp only[Bool.or_eq_true,decide_eq_true_eq]at h2;rcases h2 with h2|h2
 ·omega
 ·exact h2
structure Clo(g:Gr)(P:Nat->List It3)(j:Nat)(L:List It3)(x:It3):Prop where
 pred: ∀s (i:Nat) r,behI g x.1 x.2.1=some s->0<=s->g.rules[i]?=some r->r.left=s->((i:Int),0,j)∈L
 null: ∀s,behI g x.1 x.2.1=some s->0<=s->Nul g s->stepI x∈L
 comp: ∀(i:Nat) r y,x.1=(i:Int)->g.rules[i]?=some r->x.2.1=r.right.length->x.2.2<j->y∈P x.2.2->behI g y.1 y.2.1=some r.left->stepI y∈L
def codeI(x:It3):Nat:=((x.1+1).toNat*16+x.2.1)*64+x.2.2
theorem codeI_inj{x y:It3}(hx:OkI g x)(hy:OkI g y)(fx:x.2.2<64)(fy:y.2.2<64)(h:codeI x=codeI y):x=y:=by
 obtain⟨xr,xa,xf⟩:=x;obtain⟨yr,ya,yf⟩:=y;have key: ∀z:It3,OkI g z->z.2.1<16/\ -1<=z.1:=fun z hz=>by
  rcases hz.cases with⟨h1,h2⟩|⟨i,r,h1,h2,h3,h4⟩
  ·exact⟨by omega,by omega⟩
  ·exact⟨by omega,by omega⟩
 obtain⟨a1,a2⟩:=key _ hx;obtain⟨b1,b2⟩:=key _ hy;unfold codeI at h;dsimp only at*;have e1:xf=yf:=by omega
 have e2:xa=ya:=by omega
 have e3:xr=yr:=by omega
 rw[e1,e2,e3]
theorem inj_le: ∀(n k:Nat)(f:Nat->Nat),(∀i,i<k->f i<n)->(∀i j,i<k->j<k->f i=f j->i=j)->k<=n
 |0,k,f,h1,_=>by
  by_cases e:k=0
  ·omega
  ·have:=h1 0 (by omega);omega
 |n+1,k,f,h1,h2=>by
  by_cases hk:k=0
  ·omega
  by_cases hex: ∃i,i<k/\f i=n
  ·obtain⟨i0,hi0,e0⟩:=hex;have:=inj_le n (k-1) (fun i=>if i<i0 then f i else f (i+1)) (fun i hi=>by
    show(if i<i0 then f i else f (i+1))<n
    split
    ·have a:=h1 i (by omega);have b:f i≠n:=fun e=>by have:=h2 i i0 (by omega) hi0 (by rw[e,e0]);omega
     omega
    ·have a:=h1 (i+1) (by omega);have b:f (i+1)≠n:=fun e=>by have:=h2 (i+1) i0 (by omega) hi0 (by rw[e,e0]);omega
     omega) (fun i j hi hj he=>by
    have he:(if i<i0 then f i else f (i+1))=(if j<i0 then f j else f (j+1)):=he
    split at he<;>split at he
    ·exact h2 i j (by omega) (by omega) he
    ·have:=h2 i (j+1) (by omega) (by omega) he;omega
    ·have:=h2 (i+1) j (by omega) (by omega) he;omega
    ·have:=h2 (i+1) (j+1) (by omega) (by omega) he;omega)
   omega
  ·have:=inj_le n k f (fun i hi=>by
    have a:=h1 i hi;have b:f i≠n:=fun e=>hex ⟨i,hi,e⟩;omega) h2
   omega
theorem items_few(hg:GOk g){L:List It3}(hnd:L.Nodup)(h: ∀x∈L,OkI g x/\x.2.2<64):L.length<=65536:=by
 refine inj_le 65536 L.length (fun i=>codeI (L.getD i (0,0,0))) (fun i hi=>?_) fun i j hi hj he=>?_
 ·have hx:=List.getElem?_eq_getElem hi;have hD:L.getD i (0,0,0)=L[i]:=by rw[List.getD_eq_getElem?_getD,hx];rfl
  obtain⟨h1,h2⟩:=h _ (List.mem_of_getElem? hx)
  show codeI (L.getD i (0,0,0))<65536
  rw[hD];generalize L[i]=x at h1 h2;have hrl:=hg.rl;rcases h1.cases with⟨h3,h4⟩|⟨q,r,h3,h4,h5,h6⟩
  ·unfold codeI;omega
  ·have:=(List.getElem?_eq_some_iff.1 h4).1;unfold codeI;omega
 ·have hi':=List.getElem?_eq_getElem hi;have hj':=List.getElem?_eq_getElem hj;have hDi:L.getD i (0,0,0)=L[i]:=by rw[List.getD_eq_getElem?_getD,hi'];rfl
  have hDj:L.getD j (0,0,0)=L[j]:=by rw[List.getD_eq_getElem?_getD,hj'];rfl
  have he:codeI (L.getD i (0,0,0))=codeI (L.getD j (0,0,0)):=he;rw[hDi,hDj]at he;obtain⟨h1,h2⟩:=h _ (List.mem_of_getElem? hi');obtain⟨h3,h4⟩:=h _ (List.mem_of_getElem? hj');have e:=codeI_inj h1 h3 h2 h4 he;have pw:=List.pairwise_iff_getElem.1 hnd;rcases Nat.lt_trichotomy i j with hlt|hlt|hlt
  ·exact absurd e (pw i j hi hj hlt)
  ·exact hlt
  ·exact absurd e.symm (pw j i hj hi hlt)
end
theorem part_str{P:Program}{T:TypeId}{fs:Array Field}{i:TypeInfo}(h:P.underlying T=some (.struct fs))(hi:P.info? T=some i){cs:Array Value}{o:Nat}:pureRun P (part T cs o)=some (.agg (cs.extract o (o+i.size))):=by
 unfold part isAgg;rw[pureRun_bind,pureRun_bind,pureRun_und h];simp only[Option.bind_some]
 show(pureRun P (pure true)).bind _=_
 rw[pureRun_pure];simp only[Option.bind_some,if_true,pureRun_bind,pureRun_size hi]
 rfl
structure Nest(P:Program)(T T0 T1:TypeId)(fs fs0:Array Field)(f0 f1:Field)(i0:TypeInfo):Prop where
 hu:P.underlying T=some (.struct fs)
 hfs:fs.toList=[f0,f1]
 n0:f0.name≠ "_"
 n1:f1.name≠ "_"
 t0:f0.type=T0
 t1:f1.type=T1
 o0:f0.offset=0
 o1:f1.offset=2
 st:P.stoodInHeld T=false
 hu0:P.underlying T0=some (.struct fs0)
 inf0:P.info? T0=some i0
 s0:i0.size=2
 st0:P.stoodInHeld T0=false
 fld0: ∀(j:Nat) f,fs0.toList[j]?=some f->f.name≠ "_" /\f.offset=j/\ ∃k,P.underlying f.type=some (.int k)
 l0:fs0.toList.length=2
 hk:P.underlying T1=some (.int .i64)
section
variable {P:Program}{T T0 T1:TypeId}{fs fs0:Array Field}{f0 f1:Field}{i0:TypeInfo}
theorem Nest.eq(n:Nest P T T0 T1 fs fs0 f0 f1 i0)(d:Nat){a b c a' b' c':Int}:pureRun P (Op.equalIn (d+3) T (.agg ⟨[.int .i64 a,.int .i64 b,.int .i64 c]⟩) (.agg ⟨[.int .i64 a',.int .i64 b',.int .i64 c']⟩))=some (decide (a=a'/\b=b'/\c=c')):=by
 rw[Op.equalIn,pureRun_bind,pureRun_und n.hu];simp only[Option.bind_some,pureRun_bind];rw[<-Array.forIn_toList];have hp:pureRun P program=some P:=rfl;rw[hp];simp only[Option.bind_some,n.st,Bool.false_eq_true,if_false,pureRun_bind];rw[n.hfs];have e0: ∀x y z:Int,pureRun P (part T0 ⟨[.int .i64 x,.int .i64 y,.int .i64 z]⟩ 0)=some (.agg ⟨[x,y].map (.int .i64)⟩):=fun x y z=>by
  rw[part_str n.hu0 n.inf0,n.s0];rfl
 have e1: ∀x y z:Int,pureRun P (part T1 ⟨[.int .i64 x,.int .i64 y,.int .i64 z]⟩ 2)=some (.int .i64 z):=fun x y z=>pureRun_part n.hk rfl;have q0:pureRun P (Op.equalIn (d+2) T0 (.agg ⟨[a,b].map (.int .i64)⟩) (.agg ⟨[a',b'].map (.int .i64)⟩))=some (decide ([a,b]=[a',b'])):=pureRun_eqStr n.hu0 n.st0 n.fld0 d n.l0.symm n.l0.symm;rw[List.forIn_cons,if_pos n.n0];simp only[n.t0,n.o0,pureRun_bind,e0,Option.bind_some,q0]
 by_cases h: [a,b]=[a',b']
 ·simp only[h,decide_true,Bool.not_true,Bool.false_eq_true,if_false,pureRun_pure,Option.bind_some];simp only[List.cons.injEq,and_true]at h;obtain⟨rfl,rfl⟩:=h;rw[List.forIn_cons,if_pos n.n1];simp only[n.t1,n.o1,pureRun_bind,e1,Option.bind_some,pureRun_eqI n.hk]
  by_cases h:c=c'
  ·subst h;simp[pureRun_pure]
  ·have hb:(c==c')=false:=by simp[h]
   simp[hb,h,pureRun_pure]
 ·have: ¬(a=a'/\b=b'/\c=c'):=fun⟨h1,h2,_⟩=>h (by rw[h1,h2]);simp[h,this,pureRun_pure]
theorem Nest.ck(n:Nest P T T0 T1 fs fs0 f0 f1 i0)(e:Bool)(d:Nat){a b c:Int}:pureRun P (Instr.checkKey e (d+3) T (.agg ⟨[.int .i64 a,.int .i64 b,.int .i64 c]⟩))=some ():=by
 have ki: ∀(d:Nat)(t:TypeId)(k:IntKind)(x:Int),P.underlying t=some (.int k)->pureRun P (Instr.checkKey e (d+1) t (.int .i64 x))=some ():=fun d t k x h=>by
  unfold Instr.checkKey;rw[pureRun_bind,pureRun_und h]
  rfl
 have e0: ∀x y z:Int,pureRun P (part T0 ⟨[.int .i64 x,.int .i64 y,.int .i64 z]⟩ 0)=some (.agg ⟨[x,y].map (.int .i64)⟩):=fun x y z=>by
  rw[part_str n.hu0 n.inf0,n.s0];rfl
 have e1: ∀x y z:Int,pureRun P (part T1 ⟨[.int .i64 x,.int .i64 y,.int .i64 z]⟩ 2)=some (.int .i64 z):=fun x y z=>pureRun_part n.hk rfl;have k0:pureRun P (Instr.checkKey e (d+2) T0 (.agg ⟨[a,b].map (.int .i64)⟩))=some ():=by
  unfold Instr.checkKey;rw[pureRun_bind,pureRun_und n.hu0];simp only[Option.bind_some];rw[<-Array.forIn_toList];obtain⟨g0,g1,hq⟩: ∃a b,fs0.toList=[a,b]:=by
   have hl:=n.l0;generalize fs0.toList=l at hl
   match l,hl with
   | [a,b],_=>exact⟨a,b,rfl⟩
  obtain⟨a1,a2,k1,a3⟩:=n.fld0 0 g0 (by rw[hq];rfl);obtain⟨b1,b2,k2,b3⟩:=n.fld0 1 g1 (by rw[hq];rfl);rw[hq,List.forIn_cons,if_pos a1];simp only[a2,pureRun_bind,part_ints a3 (show [a,b][0]?=some a from rfl),Option.bind_some,ki d g0.type k1 a a3,pureRun_pure];rw[List.forIn_cons,if_pos b1];simp only[b2,pureRun_bind,part_ints b3 (show [a,b][1]?=some b from rfl),Option.bind_some,ki d g1.type k2 b b3,pureRun_pure]
  rfl
 unfold Instr.checkKey;rw[pureRun_bind,pureRun_und n.hu];simp only[Option.bind_some];rw[<-Array.forIn_toList,n.hfs,List.forIn_cons,if_pos n.n0];simp only[n.t0,n.o0,pureRun_bind,e0,Option.bind_some,k0,pureRun_pure];rw[List.forIn_cons,if_pos n.n1];simp only[n.t1,n.o1,pureRun_bind,e1,Option.bind_some,ki (d+1) T1 .i64 c n.hk,pureRun_pure]
 rfl
end
noncomputable def fl55:List Field:=match Try.prog.underlying 55 with
 |some (.struct fs)=>fs.toList
 |_=>[]
theorem nest55: ∃fs fs0 f0 f1 i0,Nest Try.prog 55 53 3 fs fs0 f0 f1 i0:=by
 have e2:(Try.prog.info? 53).map (·.size)=some 2:=by kernel_rfl
 rw[Option.map_eq_some_iff]at e2;obtain⟨inf,h1,h2⟩:=e2;refine⟨_,_,_,_,inf,⟨Try.underlying55,rfl,by decide,by decide,rfl,rfl,rfl,rfl,by kernel_rfl,Try.underlying53,h1,h2,by kernel_rfl,fun j f hf=>?_,rfl,Try.underlying3⟩⟩
 match j,hf with
 |0,hf=>cases hf;exact⟨by decide,rfl,.i64,Try.underlying3⟩
 |1,hf=>cases hf;exact⟨by decide,rfl,.i64,Try.underlying3⟩
theorem itc_inj{x y:It3}:(x.1=y.1/\((x.2.1:Nat):Int)=(y.2.1:Nat)/\((x.2.2:Nat):Int)=(y.2.2:Nat))↔x=y:=by
 obtain⟨a,b,c⟩:=x;obtain⟨a',b',c'⟩:=y;constructor
 ·rintro⟨h1,h2,h3⟩;have h1:a=a':=h1;have h2:((b:Nat):Int)=(b':Nat):=h2;have h3:((c:Nat):Int)=(c':Nat):=h3;have:b=b':=by omega
  have:c=c':=by omega
  subst_vars;rfl
 ·intro e;rw[e];exact⟨rfl,rfl,rfl⟩
theorem eq55{x y:It3}:pureRun Try.prog (Op.equal 55 (.agg ⟨itc x⟩) (.agg ⟨itc y⟩))=some (decide (x=y)):=by
 obtain⟨fs,fs0,f0,f1,i0,n⟩:=nest55;have h:=n.eq 9997 (a:=x.1) (b:=(x.2.1:Nat)) (c:=(x.2.2:Nat)) (a':=y.1) (b':=(y.2.1:Nat)) (c':=(y.2.2:Nat));have e:decide (x.1=y.1/\((x.2.1:Nat):Int)=(y.2.1:Nat)/\((x.2.2:Nat):Int)=(y.2.2:Nat))=decide (x=y):=by
  rw[Bool.eq_iff_iff,decide_eq_true_eq,decide_eq_true_eq];exact itc_inj
 rw[e]at h;exact h
theorem ck55{e:Bool}{x:It3}:pureRun Try.prog (Instr.checkKey e 10000 55 (.agg ⟨itc x⟩))=some ():=by
 obtain⟨fs,fs0,f0,f1,i0,n⟩:=nest55;exact n.ck e 9997
def mT3(kv:List (It3×Nat)):List MapEntry:=kv.map fun p=>⟨.agg ⟨itc p.1⟩,.bool true,p.2⟩
theorem mT3_plain(kv:List (It3×Nat)):keysPlain (mT3 kv)=true:=by
 unfold keysPlain mT3;rw[List.all_map];exact List.all_eq_true.2 fun x _=>rfl
theorem ask_none{k:It3}: ∀{kv:List (It3×Nat)}{i:Nat},(∀p∈kv,p.1≠k)->findAskA Try.prog 55 (.agg ⟨itc k⟩) (mT3 kv) i=some none
 | [],i,_=>rfl
 |p::kv,i,h=>by
  show findAskA Try.prog 55 (.agg ⟨itc k⟩) (⟨.agg ⟨itc p.1⟩,.bool true,p.2⟩::mT3 kv) i=_
  have e:decide (k=p.1)=false:=decide_eq_false fun e=>h p (.head _) e.symm;rw[findAskA,eq55,e];exact ask_none fun q hq=>h q (.tail _ hq)
theorem ask_hit{k:It3}: ∀{kv:List (It3×Nat)}{i:Nat},(∃p∈kv,p.1=k)-> ∃j,findAskA Try.prog 55 (.agg ⟨itc k⟩) (mT3 kv) i=some (some (j,.bool true))
 | [],i,h=>by obtain⟨p,hp,_⟩:=h;cases hp
 |p::kv,i,h=>by
  show∃j,findAskA Try.prog 55 (.agg ⟨itc k⟩) (⟨.agg ⟨itc p.1⟩,.bool true,p.2⟩::mT3 kv) i=_
  rw[findAskA,eq55]
  by_cases e:k=p.1
  ·rw[decide_eq_true e];exact⟨i,rfl⟩
  ·rw[decide_eq_false e];obtain⟨q,hq,hqe⟩:=h;rcases List.mem_cons.1 hq with rfl|hq
   ·exact absurd hqe.symm e
   ·exact ask_hit ⟨q,hq,hqe⟩
set_option maxRecDepth 100000 in
theorem af55{k:It3}{kv:List (It3×Nat)}{r:Option (Nat×Value)}(h:findAskA Try.prog 55 (.agg ⟨itc k⟩) (mT3 kv) 0=some r):afindQ Try.prog 55 (.agg ⟨itc k⟩) (mT3 kv)=some r:=by
 rw[afindQ_eq];unfold afind;rw[Try.underlying55];dsimp only;cases kv with
 |nil=>exact h
 |cons p kv=>
  have e: ∀fs:Array Field,Instr.findNow (.struct fs) (.agg ⟨itc k⟩) (mT3 (p::kv)) 0=none:=fun fs=>rfl;rw[e];exact h
theorem in4: ∃i,Try.prog.info? 4=some i/\i.zero=some (.bool false):=by
 have e2:(Try.prog.info? 4).map (·.zero)=some (some (.bool false)):=by kernel_rfl
 rw[Option.map_eq_some_iff]at e2;obtain⟨inf,h1,h2⟩:=e2;exact⟨inf,h1,h2⟩
section
variable {Q:Value->PH->Prop}{n:Nat}{cl cl':CL}{h h0:PH}{S:Vw}{m:OM}{rows:Rws}{K2:Value->PH->R}
theorem phMap_at(s:Sl h0 h S m rows){b c:Nat}{es:List MapEntry}(hb:over rows m b=some (.map es c)):phMap (.map (some b)) h=some (b,es,c):=by
 have:=s.sm.get hb
 show(match h.get b with|some (.map es c)=>some (b,es,c)|_=>none)=_
 rw[this]
theorem lk55(s:Sl h0 h S m rows){b c:Nat}{kv:List (It3×Nat)}{k:It3}(hb:over rows m b=some (.map (mT3 kv) c)):xLkp Try.prog 55 4 false (.map (some b)) (.agg ⟨itc k⟩) h=some (.bool (decide (∃p∈kv,p.1=k))):=by
 obtain⟨i4,h1,h2⟩:=in4
 show(match phMap (.map (some b)) h with|some (_,es,_)=>lkE Try.prog 55 4 (.agg ⟨itc k⟩) false es|none=>none)=_
 rw[phMap_at s hb];dsimp only;unfold lkE;have hp:(plainV (Value.agg ⟨itc k⟩)&&keysPlain (mT3 kv))=true:=by rw[mT3_plain];rfl
 rw[if_pos hp,ck55];dsimp only
 by_cases e: ∃p∈kv,p.1=k
 ·obtain⟨j,hj⟩:=ask_hit (i:=0) e;rw[af55 hj,decide_eq_true e]
  rfl
 ·rw[af55 (ask_none fun p hp hq=>e ⟨p,hp,hq⟩),decide_eq_false e];dsimp only;rw[h1];dsimp only;rw[h2]
  rfl
theorem Ret.lmup55(s:Sl h0 h S m rows)(i:Nat){b c:Nat}{kv:List (It3×Nat)}{k:It3}(hi:rows[i]?=some (b,.map (mT3 kv) c))(hk: ∀p∈kv,p.1≠k)
  (hK: ∀h',Sl h0 h' S m (rows.set i (b,.map (mT3 (kv++[(k,c)])) (c+1)))->Ret (K2 undef h') Q):Ret (Go.Am.hb (xMUpd Try.prog 55 (.map (some b)) (.agg ⟨itc k⟩) tt h) K2) Q:=by
 obtain⟨h',hs,s',_⟩:=s.sm.set (s.idx hi) (.map (mT3 (kv++[(k,c)])) (c+1));have hp:(plainV (Value.agg ⟨itc k⟩)&&keysPlain (mT3 kv))=true:=by rw[mT3_plain];rfl
 have e:xMUpd Try.prog 55 (.map (some b)) (.agg ⟨itc k⟩) tt h=some (undef,h'):=by
  unfold xMUpd;rw[phMap_at s (s.idx hi)];dsimp only;rw[if_pos hp,ck55];dsimp only;rw[af55 (ask_none hk)];dsimp only;unfold pset;have em:mT3 kv++[⟨.agg ⟨itc k⟩,tt,c⟩]=mT3 (kv++[(k,c)]):=by simp[mT3,tt]
  rw[em,hs]
 rw[e];exact hK h' (s.put hi s')
theorem Ret.lmmk(s:Sl h0 h S m rows)(hK: ∀h' b,Sl h0 h' S m ((b,.map [] 0)::rows)->Ret (K2 (.map (some b)) h') Q):Ret (Go.Am.hb (xMMk h) K2) Q:=by
 obtain⟨h',hp,s',f,hn,_⟩:=s.sm.push (.map [] 0);have e:xMMk h=some (.map (some h.n),h'):=by unfold xMMk;rw[hp]
 rw[e];exact hK h' h.n (s.cons s' f)
end
theorem Gl.atc{sz k i:Nat}{v:Value}{cells:List Value}{ex:Rws}(g:Gl sz v k cells ex)(hi:i<k): ∃b o all,xIdxS sz v (.int .i64 (i:Nat))=some (.pointer (some ⟨b,o,none⟩))/\ex=[(b,.row .opn sz all)]/\(all.drop o).take sz=(cells.drop (i*sz)).take sz/\o+sz<=all.length:=by
 rcases g.h with⟨rfl,_⟩|⟨b,o,cap,all,rfl,rfl,rfl,h2,_⟩
 ·omega
 ·have hle:i*sz+sz<=k*sz:=by have:=Nat.mul_le_mul_right sz (show i+1<=k by omega);rw[Nat.add_mul,Nat.one_mul]at this;exact this
  refine⟨b,o+i*sz,all,by rw[xIdxS_at (by omega) (by omega)];simp,rfl,?_,by omega⟩;rw[List.drop_take,List.take_take,List.drop_drop,Nat.min_eq_left (by omega)]
theorem Gl.set1{k i:Nat}{v:Value}{cells:List Value}{ex:Rws}(g:Gl 1 v k cells ex)(hi:i<k): ∃b o all,xIdxS 1 v (.int .i64 (i:Nat))=some (.pointer (some ⟨b,o,none⟩))/\ex=[(b,.row .opn 1 all)]/\all[o]?=cells[i]?/\o<all.length/\ ∀w,Gl 1 v k (cells.set i w) [(b,.row .opn 1 (all.set o w))]:=by
 rcases g.h with⟨rfl,_⟩|⟨b,o,cap,all,rfl,rfl,rfl,h2,h3,h4,h5⟩
 ·omega
 ·refine⟨b,o+i,all,by rw[xIdxS_at (by omega) (by omega)];simp,rfl,?_,by omega,fun w=>⟨.inr ⟨b,o,cap,_,rfl,rfl,?_,by simp;omega,h3,h4,h5⟩⟩⟩
  ·rw[List.getElem?_take,if_pos (by omega),List.getElem?_drop]
  ·rw[List.drop_set,if_neg (by omega),Nat.add_sub_cancel_left,List.take_set]
structure VS(S:Vw)(bp:Nat)(g:Gr)(rv fv cv kv nv:Value)(past:List (List It3))(cur:List It3)(rows rest:Rws):Prop where
 h: ∃(bm c:Nat) (allv inv cu:Value) (cA cI:List Value) (exA exI exC:Rws) (es:List (It3×Nat)),
  rows=exC++(exA++(exI++((bm,AObj.map (mT3 es) c)::(bp,.row .own 1 (gcs g rv fv cv kv++[nv,allv,inv]))::rest)))/\
  Gl 1 allv (past.length+1) cA exA/\Gl 1 inv (past.length+1) cI exI/\cA[past.length]?=some cu/\Gl 3 cu cur.length (cur.flatMap itc) exC/\cI[past.length]?=some (.map (some bm))/\
  (∀(i:Nat) l,past[i]?=some l-> ∃v,cA[i]?=some v/\SlC S 3 v l.length (l.flatMap itc))/\ ∀x,(∃p∈es,p.1=x)↔x∈cur
def addI(l:List It3)(x:It3):List It3:=if x∈l then l else l++[x]
theorem addI_mem{l:List It3}{x y:It3}:y∈addI l x↔y∈l\/y=x:=by
 unfold addI
 split
 ·rename_i h;constructor
  ·exact .inl
  ·rintro(h'|rfl)<;>assumption
 ·simp
theorem addI_nd{l:List It3}{x:It3}(h:l.Nodup):(addI l x).Nodup:=by
 unfold addI
 split
 ·exact h
 ·rename_i hx;rw[List.nodup_append];refine⟨h,by simp,fun a ha b hb=>?_⟩;rw[List.mem_singleton]at hb;subst hb;intro e;subst e;exact hx ha
theorem addI_pre{l:List It3}{x:It3}: ∃e,addI l x=l++e:=by
 unfold addI
 split
 ·exact⟨[],by simp⟩
 ·exact⟨[x],rfl⟩
theorem itc_at{l:List It3}{i:Nat}{x:It3}(h:l[i]?=some x):((l.flatMap itc).drop (i*3)).take 3=itc x:=by
 induction l generalizing i with
 |nil=>simp at h
 |cons y l ih=>
  cases i with
  |zero=>simp at h;subst h;rfl
  |succ i=>
   rw[List.flatMap_cons,show(i+1)*3=(itc y).length+i*3 from by show _=3+i*3;omega,List.drop_length_add_append];exact ih (by simpa using h)
theorem bs46{x:It3}:bsRow Try.prog 46 1 [(0,.agg ⟨itc x⟩)]=some (3,itc x):=by kernel_rfl
theorem ai46:appInfo Try.prog #[46,46]=some (3,24):=by kernel_rfl
theorem bs48{v:Value}(hv:v=nils):bsRow Try.prog 48 1 [(0,v)]=some (1,[v]):=by subst hv;kernel_rfl
theorem ai48:appInfo Try.prog #[48,48]=some (1,24):=by kernel_rfl
theorem bs49{b:Nat}:bsRow Try.prog 49 1 [(0,.map (some b))]=some (1,[.map (some b)]):=by kernel_rfl
theorem ai49:appInfo Try.prog #[49,49]=some (1,8):=by kernel_rfl
theorem Ret.lst1M{Q:Value->PH->Prop}{h h0:PH}{S:Vw}{m:OM}{K2:Value->PH->R}{A R:Rws}{b o e:Nat}{md:Mode}{cs:List Value}{v:Value}(s:Sl h0 h S m (A++(b,.row md e cs)::R))(hm:mro md=false)(ho:o<cs.length)(hv:v.oneCell'=true)(hk: ∀h',Sl h0 h' S m (A++(b,.row md e (cs.set o v))::R)->Ret (K2 undef h') Q):
  Ret (Go.Am.hb (xSt1 (.pointer (some ⟨b,o,none⟩)) v h) K2) Q:=by
 have hi:(A++(b,AObj.row md e cs)::R)[A.length]?=some (b,.row md e cs):=by
  rw[List.getElem?_append_right (Nat.le_refl _),Nat.sub_self];rfl
 refine Ret.lst1 s A.length hi hm ho hv fun h' s'=>hk h' ?_;rw[List.set_append_right _ _ (Nat.le_refl _),Nat.sub_self,List.set_cons_zero]at s';exact s'
section
variable {Q:Value->PH->Prop}{n:Nat}{cl:CL}{h h0:PH}{S:Vw}{m:OM}{rows rest:Rws}{bp:Nat}{g:Gr}{rv fv cv kv nv:Value}{past:List (List It3)}{cur:List It3}
theorem c32(st:Sl h0 h S m rows)(vs:VS S bp g rv fv cv kv nv past cur rows rest)(hl:cur.length<=65536){x:It3}:
  Ret (F32 n cl (pt bp) (.int .i64 (past.length:Nat)) (.agg ⟨itc x⟩) h) fun v h'=>v= .tuple ⟨[]⟩/\ ∃rows',Sl h0 h' S m rows'/\VS S bp g rv fv cv kv nv past (addI cur x) rows' rest:=by
 obtain⟨bm,c,allv,inv,cu,cA,cI,exA,exI,exC,es,rfl,gA,gI,hcu,gC,hbm,hpast,hes⟩:=vs.h;unfold F32;refine Ret.lbox st fun h1 d st1=>?_;have st1:Sl h0 h1 S m ((d,.row .own 1 (itc x))::(exC++(exA++(exI++((bm,AObj.map (mT3 es) c)::(bp,.row .own 1 (gcs g rv fv cv kv++[nv,allv,inv]))::rest))))):=st1;have mP:(bp,AObj.row .own 1 (gcs g rv fv cv kv++[nv,allv,inv]))∈(d,AObj.row .own 1 (itc x))::(exC++(exA++(exI++((bm,AObj.map (mT3 es) c)::(bp,.row .own 1 (gcs g rv fv cv kv++[nv,allv,inv]))::rest)))):=by simp
 have mM:(bm,AObj.map (mT3 es) c)∈(d,AObj.row .own 1 (itc x))::(exC++(exA++(exI++((bm,AObj.map (mT3 es) c)::(bp,.row .own 1 (gcs g rv fv cv kv++[nv,allv,inv]))::rest)))):=by simp
 obtain⟨bi,oi,ai,e1,rfl,e2,e3,_⟩:=gI.set1 (i:=past.length) (by omega);rw[hbm]at e2;have l9:xLd (.pointer (some ⟨bp,0+9,none⟩)) h1=some inv:=st1.ld mP rfl;have mI:(bi,AObj.row .opn 1 ai)∈(d,AObj.row .own 1 (itc x))::(exC++(exA++([(bi,AObj.row .opn 1 ai)]++((bm,AObj.map (mT3 es) c)::(bp,.row .own 1 (gcs g rv fv cv kv++[nv,allv,inv]))::rest)))):=by simp
 have li:xLd (.pointer (some ⟨bi,oi,none⟩)) h1=some (.map (some bm)):=st1.ld mI e2;have lx:xLdA 3 (.pointer (some ⟨d,0,none⟩)) h1=some (.agg ⟨itc x⟩):=st1.ldA (.head _) rfl (by simp[itc]);simp only[xNil_p,xFld_p,vb_some,l9,e1,li,lx,lk55 st1 (st1.mem mM),xNot_b]
 by_cases hx:x∈cur
 ·have dx:decide (∃p∈es,p.1=x)=true:=decide_eq_true ((hes x).2 hx);simp only[dx,Bool.not_true,bite_f];refine Ret.of ⟨rfl,_,st1.drop (List.sublist_cons_self _ _),?_⟩;unfold addI;rw[if_pos hx];exact⟨bm,c,allv,inv,cu,cA,cI,exA,_,exC,es,rfl,gA,gI,hcu,gC,hbm,hpast,hes⟩
 ·have hnx: ∀p∈es,p.1≠x:=fun p hp e=>hx ((hes x).1 ⟨p,hp,e⟩);have dx:decide (∃p∈es,p.1=x)=false:=decide_eq_false fun h=>hx ((hes x).1 h);simp only[dx,Bool.not_false,bite_t,F32_0,xNil_p,xFld_p,vb_some,l9,e1,li,lx];have p1:((d,AObj.row .own 1 (itc x))::(exC++(exA++([(bi,AObj.row .opn 1 ai)]++((bm,AObj.map (mT3 es) c)::(bp,.row .own 1 (gcs g rv fv cv kv++[nv,allv,inv]))::rest))))).Perm ((bm,AObj.map (mT3 es) c)::((d,AObj.row .own 1 (itc x))::(exC++(exA++([(bi,AObj.row .opn 1 ai)]++((bp,.row .own 1 (gcs g rv fv cv kv++[nv,allv,inv]))::rest)))))):=by
   have: ∀(A B C D:Rws)(y z:Nat×AObj),((y::(A++(B++(C++(z::D))))):Rws).Perm (z::(y::(A++(B++(C++D))))):=fun A B C D y z=>by
    have:=(List.perm_middle (a:=z) (l₁:=y::(A++(B++C))) (l₂:=D));simpa[List.append_assoc]using this
   exact this _ _ _ _ _ _
  refine Ret.lmup55 (st1.perm p1) 0 rfl hnx fun h2 st2=>?_;have st2:Sl h0 h2 S m ((bm,AObj.map (mT3 (es++[(x,c)])) (c+1))::((d,AObj.row .own 1 (itc x))::(exC++(exA++([(bi,AObj.row .opn 1 ai)]++((bp,.row .own 1 (gcs g rv fv cv kv++[nv,allv,inv]))::rest)))))):=st2;have mP2:(bp,AObj.row .own 1 (gcs g rv fv cv kv++[nv,allv,inv]))∈(bm,AObj.map (mT3 (es++[(x,c)])) (c+1))::((d,AObj.row .own 1 (itc x))::(exC++(exA++([(bi,AObj.row .opn 1 ai)]++((bp,.row .own 1 (gcs g rv fv cv kv++[nv,allv,inv]))::rest))))):=by simp
  have l8:xLd (.pointer (some ⟨bp,0+8,none⟩)) h2=some allv:=st2.ld mP2 rfl;obtain⟨ba,oa,aa,f1,rfl,f2,f3,f4⟩:=gA.set1 (i:=past.length) (by omega);rw[hcu]at f2;have mA:(ba,AObj.row .opn 1 aa)∈(bm,AObj.map (mT3 (es++[(x,c)])) (c+1))::((d,AObj.row .own 1 (itc x))::(exC++([(ba,AObj.row .opn 1 aa)]++([(bi,AObj.row .opn 1 ai)]++((bp,.row .own 1 (gcs g rv fv cv kv++[nv,allv,inv]))::rest))))):=by simp
  have la:xLd (.pointer (some ⟨ba,oa,none⟩)) h2=some cu:=st2.ld mA f2;have lx2:xLdA 3 (.pointer (some ⟨d,0,none⟩)) h2=some (.agg ⟨itc x⟩):=st2.ldA (.tail _ (.head _)) rfl (by simp[itc]);simp only[xNil_p,xFld_p,vb_some,l8,f1,la,lx2];have p2:((bm,AObj.map (mT3 (es++[(x,c)])) (c+1))::((d,AObj.row .own 1 (itc x))::(exC++([(ba,AObj.row .opn 1 aa)]++([(bi,AObj.row .opn 1 ai)]++((bp,.row .own 1 (gcs g rv fv cv kv++[nv,allv,inv]))::rest)))))).Perm
    (exC++((bm,AObj.map (mT3 (es++[(x,c)])) (c+1))::(d,AObj.row .own 1 (itc x))::(ba,AObj.row .opn 1 aa)::(bi,AObj.row .opn 1 ai)::(bp,.row .own 1 (gcs g rv fv cv kv++[nv,allv,inv]))::rest)):=by
   refine List.Perm.trans ?_ List.perm_middle.symm;exact .cons _ List.perm_middle.symm
  refine Ret.gapp (st2.perm p2) gC bs46 ai46 rfl rfl (sz_le (c:=65536) (by omega) (by decide)) fun h3 cu' exC' st3 gC'=>?_;have mP3:(bp,AObj.row .own 1 (gcs g rv fv cv kv++[nv,allv,inv]))∈exC'++((bm,AObj.map (mT3 (es++[(x,c)])) (c+1))::(d,AObj.row .own 1 (itc x))::(ba,AObj.row .opn 1 aa)::(bi,AObj.row .opn 1 ai)::(bp,.row .own 1 (gcs g rv fv cv kv++[nv,allv,inv]))::rest):=by simp
  have l83:xLd (.pointer (some ⟨bp,0+8,none⟩)) h3=some allv:=st3.ld mP3 rfl;simp only[l83,lchk_t gA.veq,f1,vb_some];have st3:Sl h0 h3 S m ((exC'++[(bm,AObj.map (mT3 (es++[(x,c)])) (c+1)),(d,AObj.row .own 1 (itc x))])++(ba,AObj.row .opn 1 aa)::((bi,AObj.row .opn 1 ai)::(bp,.row .own 1 (gcs g rv fv cv kv++[nv,allv,inv]))::rest)):=by
   simpa[List.append_assoc]using st3
  refine Ret.lst1M st3 rfl f3 gC'.one fun h4 st4=>?_;refine Ret.of ⟨rfl,exC'++([(ba,AObj.row .opn 1 (aa.set oa cu'))]++([(bi,AObj.row .opn 1 ai)]++((bm,AObj.map (mT3 (es++[(x,c)])) (c+1))::(bp,.row .own 1 (gcs g rv fv cv kv++[nv,allv,inv]))::rest))),?_,?_⟩
  ·have p4:((exC'++[(bm,AObj.map (mT3 (es++[(x,c)])) (c+1)),(d,AObj.row .own 1 (itc x))])++(ba,AObj.row .opn 1 (aa.set oa cu'))::((bi,AObj.row .opn 1 ai)::(bp,.row .own 1 (gcs g rv fv cv kv++[nv,allv,inv]))::rest)).Perm
     ((d,AObj.row .own 1 (itc x))::(exC'++([(ba,AObj.row .opn 1 (aa.set oa cu'))]++([(bi,AObj.row .opn 1 ai)]++((bm,AObj.map (mT3 (es++[(x,c)])) (c+1))::(bp,.row .own 1 (gcs g rv fv cv kv++[nv,allv,inv]))::rest))))):=by
    rw[List.append_assoc];refine List.Perm.trans ?_ List.perm_middle;refine List.Perm.append_left _ ?_
    show List.Perm (_::_::_::_::_) (_::_::_::_::_)
    refine(List.Perm.swap _ _ _).trans (.cons _ ?_);refine(List.Perm.swap _ _ _).trans (.cons _ ?_);exact List.Perm.swap _ _ _
   exact(st4.perm p4).drop (List.sublist_cons_self _ _)
  ·have hadd:addI cur x=cur++[x]:=by unfold addI;rw[if_neg hx]
   rw[hadd];refine⟨bm,c+1,allv,inv,cu',cA.set past.length cu',cI,_,_,exC',es++[(x,c)],rfl,f4 cu',gI,?_,?_,hbm,fun i l hi=>?_,fun y=>?_⟩
   ·rw[List.getElem?_set_self];exact(List.getElem?_eq_some_iff.1 hcu).1
   ·rw[List.length_append,List.flatMap_append];simpa using gC'
   ·obtain⟨v,q1,q2⟩:=hpast i l hi;have:=(List.getElem?_eq_some_iff.1 hi).1;exact⟨v,by rw[List.getElem?_set_ne (by omega)];exact q1,q2⟩
   ·constructor
    ·rintro⟨p,hp,rfl⟩;rcases List.mem_append.1 hp with hp|hp
     ·exact List.mem_append_left _ ((hes _).1 ⟨p,hp,rfl⟩)
     ·rw[List.mem_singleton]at hp;subst hp;simp
    ·intro hy;rcases List.mem_append.1 hy with hy|hy
     ·obtain⟨p,hp,e⟩:=(hes y).2 hy;exact⟨p,List.mem_append_left _ hp,e⟩
     ·rw[List.mem_singleton]at hy;subst hy;exact⟨(y,c),by simp,rfl⟩
end
def VwN(h0:PH)(S S':Vw):Prop:=Vw.le S S'/\ ∀b cs,S' b=some cs->S b=some cs\/h0.n<=b
theorem VwN.refl{h0:PH}{S:Vw}:VwN h0 S S:=⟨Vw.le.refl _,fun _ _ h=>.inl h⟩
theorem VwN.trans{h0:PH}{S T U:Vw}(a:VwN h0 S T)(b:VwN h0 T U):VwN h0 S U:=⟨a.1.trans b.1,fun x cs h=>by
 rcases b.2 x cs h with h|h
 ·exact a.2 x cs h
 ·exact .inr h⟩
theorem VwN.put{h0:PH}{S:Vw}{b:Nat}{cs:List Value}(h:S b=none)(hb:h0.n<=b):VwN h0 S (S.put b cs):=⟨Vw.le_put h,fun x ys hx=>by
 unfold Vw.put at hx
 split at hx
 ·rename_i e;rw[e];exact .inr hb
 ·exact .inl hx⟩
theorem Gl.settleV{h0 h:PH}{S:Vw}{m:OM}{rows ex:Rws}{sz k:Nat}{v:Value}{cells:List Value}(s:Sl h0 h S m (ex++rows))(g:Gl sz v k cells ex): ∃S',VwN h0 S S'/\Sl h0 h S' m rows/\SlC S' sz v k cells:=by
 rcases g.h with⟨rfl,rfl,rfl,rfl⟩|⟨b,o,cap,all,rfl,rfl,rfl,h2,_⟩
 ·exact⟨S,VwN.refl,s,.inl ⟨rfl,rfl,rfl⟩⟩
 ·have hn:=(s.sm.own b _ (s.mem (.head _))).2;obtain⟨s1,hS⟩:=s.settle (i:=0) rfl;exact⟨_,VwN.put hS hn,s1,.inr ⟨b,o,cap,all,rfl,Vw.put_self,h2,rfl⟩⟩
section
variable {Q:Value->PH->Prop}{h h0:PH}{S:Vw}{m:OM}{rows:Rws}{K2:Value->PH->R}
theorem Ret.lfcallV(s:Sl h0 h S m rows){r:R}{P:Value->Vw->Prop}(hP: ∀v V W,Vw.le V W->P v V->P v W)(a:Ret r fun v h1=> ∃S',VwN h.fzn S S'/\Sl h.fzn h1 S' OM.emp []/\P v S')
  (hk: ∀v h' S2,VwN h0 S S2->Sl h0 h' S2 m rows->P v S2->Ret (K2 v h') Q):Ret (Go.Am.hb (Go.Am.fcall h r) K2) Q:=by
 obtain⟨v,h1,rfl,S',hw,s1,hp⟩:=a;have ok:=s.ok;have e:Go.Am.fcall h (some (v,h1))=some (v,h.back h1):=by
  show Bool.rec (motive:=fun _=>R) none (some (v,h.back h1)) (Nat.ble h.fz h.n)=_
  rw[Nat.ble_eq_true_of_le ok.fz]
 rw[e];have kp:=s1.sm.kp;have hle:h.n<=h1.n:=kp.le;have le0:=s.sm.kp.le;have hraw: ∀b,(h.back h1).raw b=h1.raw b:=fun b=>rfl;have hold: ∀b,b<h.n->h1.raw b=h.raw b:=fun b hb=>kp.raw b hb;refine hk v (h.back h1) (fun b=>if h.n<=b then S' b else S b) ?_ ⟨⟨⟨⟨by show h.fz<=h1.n;have:=ok.fz;omega,kp.ok.full⟩,by show h0.n<=h1.n;omega,s.sm.kp.fz,fun b hb=>?_,opK_of fun b hb=>?_⟩,s.sm.fz,fun b o hb=>?_,fun b cs hb=>?_⟩,s.nd,s.out⟩ (hP _ _ _ ?_ hp)
 ·refine⟨fun b cs hb=>?_,fun b cs hb=>?_⟩
  ·have hlt:=s.sm.ltS hb
   show(if h.n<=b then S' b else S b)=_
   rw[if_neg (by omega)];exact hb
  ·have hb:(if h.n<=b then S' b else S b)=some cs:=hb
   split at hb
   ·right;omega
   ·exact .inl hb
 ·rw[hraw,hold b (by omega)];exact s.sm.kp.raw b hb
 ·rw[hraw,hold b (by omega)];exact s.sm.kp.raw b hb
 ·have:=s.sm.own b o hb;exact⟨by rw[hraw,hold b (s.sm.lt hb)];exact this.1,this.2⟩
 ·have hb:(if h.n<=b then S' b else S b)=some cs:=hb
  split at hb
  ·rename_i hn;obtain⟨h2,h3⟩:=s1.sm.see b cs hb;refine⟨?_,?_⟩
   ·unfold PH.cells at h2 ⊢;rw[hraw];exact h2
   ·cases hq:over rows m b with
    |none=>rfl
    |some o=>have:=s.sm.lt hq;omega
  ·rename_i hn;obtain⟨h2,h3⟩:=s.sm.see b cs hb;refine⟨?_,h3⟩;unfold PH.cells at h2 ⊢;rw[hraw,hold b (by omega)];exact h2
 ·intro b cs hb
  show(if h.n<=b then S' b else S b)=_
  split
  ·exact hb
  ·rename_i hn;rcases hw.2 b cs hb with h|h
   ·exact h
   ·exact absurd h hn
end
structure VS0(S:Vw)(bp:Nat)(g:Gr)(rv fv cv kv nv:Value)(past:List (List It3))(rows rest:Rws):Prop where
 h: ∃(allv inv:Value) (cA cI:List Value) (exA exI:Rws),rows=exA++(exI++((bp,AObj.row .own 1 (gcs g rv fv cv kv++[nv,allv,inv]))::rest))/\
  Gl 1 allv past.length cA exA/\Gl 1 inv past.length cI exI/\ ∀(i:Nat) l,past[i]?=some l-> ∃v,cA[i]?=some v/\SlC S 3 v l.length (l.flatMap itc)
section
variable {Q:Value->PH->Prop}{n:Nat}{cl:CL}{h h0:PH}{S:Vw}{m:OM}{rows rest rows1:Rws}{bp:Nat}{g:Gr}{rv fv cv kv nv:Value}{past:List (List It3)}{cur:List It3}
theorem VS.end(st:Sl h0 h S m rows)(vs:VS S bp g rv fv cv kv nv past cur rows rest): ∃S' rows',VwN h0 S S'/\Sl h0 h S' m rows'/\VS0 S' bp g rv fv cv kv nv (past++[cur]) rows' rest:=by
 obtain⟨bm,c,allv,inv,cu,cA,cI,exA,exI,exC,es,rfl,gA,gI,hcu,gC,hbm,hpast,hes⟩:=vs.h;obtain⟨S',le,st2,hC⟩:=Gl.settleV st gC;refine⟨S',exA++(exI++((bp,AObj.row .own 1 (gcs g rv fv cv kv++[nv,allv,inv]))::rest)),le,st2.drop ?_,allv,inv,cA,cI,exA,exI,rfl,by rw[List.length_append];exact gA,by rw[List.length_append];exact gI,fun i l hi=>?_⟩
 ·exact List.Sublist.append_left (List.Sublist.append_left (List.sublist_cons_self _ _) _) _
 ·by_cases hlt:i<past.length
  ·rw[List.getElem?_append_left hlt]at hi;obtain⟨v,q1,q2⟩:=hpast i l hi;exact⟨v,q1,q2.mono le.1⟩
  ·rw[List.getElem?_append_right (by omega)]at hi;have h0:i-past.length=0:=by have:=(List.getElem?_eq_some_iff.1 hi).1;simp at this;omega
   rw[h0]at hi;simp at hi;subst hi;exact⟨cu,by rw[show i=past.length by omega];exact hcu,hC⟩
theorem c33(st:Sl h0 h S m rows)(vs:VS0 S bp g rv fv cv kv nv past rows rest)(hl:past.length<=1000):
  Ret (F33 n cl (pt bp) h) fun v h'=>v= .int .i64 (past.length:Nat)/\ ∃rows',Sl h0 h' S m rows'/\VS S bp g rv fv cv kv nv past [] rows' rest:=by
 obtain⟨allv,inv,cA,cI,exA,exI,rfl,gA,gI,hpast⟩:=vs.h;unfold F33;have mP:(bp,AObj.row .own 1 (gcs g rv fv cv kv++[nv,allv,inv]))∈exA++(exI++((bp,AObj.row .own 1 (gcs g rv fv cv kv++[nv,allv,inv]))::rest)):=by simp
 have l8:xLd (.pointer (some ⟨bp,0+8,none⟩)) h=some allv:=st.ld mP rfl;simp only[xNil_p,xFld_p,vb_some,l8];refine Ret.gapp st gA (bs48 rfl) ai48 rfl rfl (sz_le (c:=65536) (by omega) (by decide)) fun h1 allv' exA' st1 gA'=>?_;have st1:Sl h0 h1 S m ((exA'++exI)++(bp,AObj.row .own 1 (gcs g rv fv cv kv++[nv,allv,inv]))::rest):=by rw[List.append_assoc];exact st1
 refine Ret.lst1M st1 rfl (by simp) gA'.one fun h2 st2=>?_;have st2:Sl h0 h2 S m ((exA'++exI)++(bp,AObj.row .own 1 (gcs g rv fv cv kv++[nv,allv',inv]))::rest):=st2;have mP2:(bp,AObj.row .own 1 (gcs g rv fv cv kv++[nv,allv',inv]))∈(exA'++exI)++(bp,AObj.row .own 1 (gcs g rv fv cv kv++[nv,allv',inv]))::rest:=by simp
 have l9:xLd (.pointer (some ⟨bp,0+9,none⟩)) h2=some inv:=st2.ld mP2 rfl;simp only[xNil_p,xFld_p,vb_some,l9];refine Ret.lmmk st2 fun h3 bm st3=>?_;have p3:((bm,AObj.map [] 0)::((exA'++exI)++(bp,AObj.row .own 1 (gcs g rv fv cv kv++[nv,allv',inv]))::rest)).Perm (exI++((bm,AObj.map [] 0)::(exA'++(bp,AObj.row .own 1 (gcs g rv fv cv kv++[nv,allv',inv]))::rest))):=by
  refine List.Perm.trans (.cons _ ?_) List.perm_middle.symm;rw[<-List.append_assoc];exact List.Perm.append_right _ List.perm_append_comm
 refine Ret.gapp (st3.perm p3) gI bs49 ai49 rfl rfl (sz_le (c:=65536) (by omega) (by decide)) fun h4 inv' exI' st4 gI'=>?_;have st4:Sl h0 h4 S m ((exI'++((bm,AObj.map [] 0)::exA'))++(bp,AObj.row .own 1 (gcs g rv fv cv kv++[nv,allv',inv]))::rest):=by simpa[List.append_assoc]using st4
 refine Ret.lst1M st4 rfl (by simp) gI'.one fun h5 st5=>?_;have st5:Sl h0 h5 S m ((exI'++((bm,AObj.map [] 0)::exA'))++(bp,AObj.row .own 1 (gcs g rv fv cv kv++[nv,allv',inv']))::rest):=st5;have mP5:(bp,AObj.row .own 1 (gcs g rv fv cv kv++[nv,allv',inv']))∈(exI'++((bm,AObj.map [] 0)::exA'))++(bp,AObj.row .own 1 (gcs g rv fv cv kv++[nv,allv',inv']))::rest:=by simp
 have l85:xLd (.pointer (some ⟨bp,0+8,none⟩)) h5=some allv':=st5.ld mP5 rfl;have hw:IntKind.i64.wrap (((past.length+1:Nat):Int)-((1:Nat):Int))=((past.length:Nat):Int):=by rw[wrap_in (by omega) (by omega)];omega
 simp only[xNil_p,xFld_p,vb_some,l85,gA'.len,vN_eq,xSub_i,hw];refine Ret.of ⟨rfl,[]++(exA'++(exI'++((bm,AObj.map (mT3 []) 0)::(bp,.row .own 1 (gcs g rv fv cv kv++[nv,allv',inv']))::rest))),st5.perm ?_,bm,0,allv',inv',nils,cA++[nils],cI++[.map (some bm)],exA',exI',[],[],rfl,gA',gI',?_,Gl.nil,?_,fun i l hi=>?_,fun x=>by simp⟩
 ·have: ∀(A B C:Rws)(y:Nat×AObj),((A++(y::B))++C:Rws).Perm (B++(A++(y::C))):=fun A B C y=>by
   refine List.Perm.trans ?_ (List.Perm.append_left B List.perm_middle.symm);refine List.Perm.trans ?_ List.perm_middle.symm;refine List.Perm.trans (List.Perm.append_right C List.perm_middle) ?_;refine .cons _ ?_;rw[<-List.append_assoc];exact List.Perm.append_right _ List.perm_append_comm
  exact this _ _ _ _
 ·rw[List.getElem?_append_right (by rw[gA.length];omega),gA.length];simp
 ·rw[List.getElem?_append_right (by rw[gI.length];omega),gI.length];simp
 ·obtain⟨v,q1,q2⟩:=hpast i l hi;exact⟨v,by rw[List.getElem?_append_left (List.getElem?_eq_some_iff.1 q1).1];exact q1,q2⟩
theorem VS.pl(vs:VS S bp g rv fv cv kv nv past cur rows rest)(st:Sl h0 h S m rows1)(hsub: ∀p∈rows,p∈rows1){j:Nat}{l:List It3}(hj:(past++[cur])[j]?=some l):
  ∃allv p v,xLd (.pointer (some ⟨bp,8,none⟩)) h=some allv/\xIdxS 1 allv (.int .i64 (j:Nat))=some p/\xLd p h=some v/\xLenS v=some (.int .i64 (l.length:Nat))/\
   ∀(i:Nat) x,l[i]?=some x-> ∃q,xIdxS 3 v (.int .i64 (i:Nat))=some q/\xLdA 3 q h=some (.agg ⟨itc x⟩):=by
 obtain⟨bm,c,allv,inv,cu,cA,cI,exA,exI,exC,es,rfl,gA,gI,hcu,gC,hbm,hpast,hes⟩:=vs.h;have hjl:=(List.getElem?_eq_some_iff.1 hj).1;rw[List.length_append,List.length_singleton]at hjl;obtain⟨ba,oa,aa,f1,rfl,f2,f3,f4⟩:=gA.set1 (i:=j) hjl;have l8:xLd (.pointer (some ⟨bp,8,none⟩)) h=some allv:=st.ld (b:=bp) (e:=1) (md:=.own) (cs:=gcs g rv fv cv kv++[nv,allv,inv]) (hsub _ (by simp)) rfl
 by_cases hlt:j<past.length
 ·rw[List.getElem?_append_left hlt]at hj;obtain⟨v,q1,q2⟩:=hpast j l hj;have la:xLd (.pointer (some ⟨ba,oa,none⟩)) h=some v:=st.ld (b:=ba) (e:=1) (md:=.opn) (cs:=aa) (hsub _ (by simp)) (f2.trans q1);refine⟨allv,_,v,l8,f1,la,?_,fun i x hi=>?_⟩
  ·rcases q2 with⟨h1,_,rfl⟩|⟨b,o,c,cs,rfl,_⟩
   ·rw[h1];rfl
   ·simp
  ·have hil:=(List.getElem?_eq_some_iff.1 hi).1;rcases q2 with⟨h1,_⟩|⟨b,o,c,cs,rfl,h1,h2,h3⟩
   ·omega
   ·refine⟨.pointer (some ⟨b,o+i*3,none⟩),by rw[xIdxS_at (by omega) (by omega)];simp,st.ldSA h1 ?_ (by omega)⟩;have:=itc_at hi;rw[h3,List.drop_take,List.take_take,List.drop_drop,Nat.min_eq_left (by omega)]at this;exact this
 ·have e:j=past.length:=by omega
  subst e;rw[List.getElem?_append_right (Nat.le_refl _),Nat.sub_self]at hj;simp at hj;subst hj;rw[hcu]at f2;have la:xLd (.pointer (some ⟨ba,oa,none⟩)) h=some cu:=st.ld (b:=ba) (e:=1) (md:=.opn) (cs:=aa) (hsub _ (by simp)) f2;refine⟨allv,_,cu,l8,f1,la,gC.len,fun i x hi=>?_⟩;have hil:=(List.getElem?_eq_some_iff.1 hi).1;obtain⟨b,o,all,e1,rfl,e2,e3⟩:=gC.atc hil;rw[itc_at hi]at e2;exact⟨_,e1,st.ldA (b:=b) (e:=3) (md:=.opn) (cs:=all) (hsub _ (by simp)) e2 e3⟩
theorem VS.gr(vs:VS S bp g rv fv cv kv nv past cur rows rest)(st:Sl h0 h S m rows1)(hsub: ∀p∈rows,p∈rows1):xLdA 7 (.pointer (some ⟨bp,0,none⟩)) h=some (.agg ⟨gcs g rv fv cv kv⟩)/\xLd (.pointer (some ⟨bp,3,none⟩)) h=some rv/\xLd (.pointer (some ⟨bp,7,none⟩)) h=some nv/\xLd (.pointer (some ⟨bp,1,none⟩)) h=some (.int .i64 g.kinds):=by
 obtain⟨bm,c,allv,inv,cu,cA,cI,exA,exI,exC,es,rfl,gA,gI,hcu,gC,hbm,hpast,hes⟩:=vs.h;have hm:(bp,AObj.row .own 1 (gcs g rv fv cv kv++[nv,allv,inv]))∈rows1:=hsub _ (by simp);exact⟨st.ldA hm rfl (by simp),st.ld hm rfl,st.ld hm rfl,st.ld hm rfl⟩
end
structure Grw(g:Gr)(ks:List Int)(j:Nat)(cur0 cur:List It3):Prop where
 pre: ∃e,cur=cur0++e
 nd:cur.Nodup
 ei: ∀y∈cur,EI g ks j y
theorem Grw.add{g:Gr}{ks:List Int}{j:Nat}{c0 c:List It3}{x:It3}(w:Grw g ks j c0 c)(hx:EI g ks j x):Grw g ks j c0 (addI c x):=by
 obtain⟨e,he⟩:=w.pre;obtain⟨e',he'⟩:=addI_pre (l:=c) (x:=x);refine⟨⟨e++e',by rw[he',he,List.append_assoc]⟩,addI_nd w.nd,fun y hy=>?_⟩;rcases addI_mem.1 hy with h|rfl
 ·exact w.ei y h
 ·exact hx
theorem Grw.trans{g:Gr}{ks:List Int}{j:Nat}{c0 c1 c2:List It3}(w:Grw g ks j c0 c1)(w':Grw g ks j c1 c2):Grw g ks j c0 c2:=by
 obtain⟨e,he⟩:=w.pre;obtain⟨e',he'⟩:=w'.pre;exact⟨⟨e++e',by rw[he',he,List.append_assoc]⟩,w'.nd,w'.ei⟩
theorem Grw.sub{g:Gr}{ks:List Int}{j:Nat}{c0 c1:List It3}(w:Grw g ks j c0 c1){y:It3}(h:y∈c0):y∈c1:=by
 obtain⟨e,he⟩:=w.pre;rw[he];exact List.mem_append_left _ h
theorem addI_sub{l:List It3}{x y:It3}(h:y∈l):y∈addI l x:=addI_mem.2 (.inl h)
structure Pl(g:Gr)(ks:List Int)(past:List (List It3)):Prop where
 kl:ks.length<=40
 pl:past.length<=ks.length
 h: ∀(i:Nat) l,past[i]?=some l->l.Nodup/\ ∀y∈l,EI g ks i y
theorem few_EI{g:Gr}{ks:List Int}(hg:GOk g)(kl:ks.length<=40){j:Nat}{l:List It3}(hnd:l.Nodup)(h: ∀y∈l,EI g ks j y):l.length<=65536:=by
 refine items_few hg hnd fun x hx=>?_;obtain⟨a,b,c⟩:=EI.ok hg (h x hx);exact⟨a,by omega⟩
section
variable {Q:Value->PH->Prop}{n:Nat}{cl:CL}{h h0:PH}{S:Vw}{m:OM}{rows rest rows1:Rws}{bp:Nat}{g:Gr}{rv fv cv kv nv:Value}{past:List (List It3)}{cur:List It3}{ks:List Int}
theorem VS.push{e:Nat×AObj}(st:Sl h0 h S m (e::rows))(vs:VS S bp g rv fv cv kv nv past cur rows rest): ∃rows',Sl h0 h S m rows'/\VS S bp g rv fv cv kv nv past cur rows' (e::rest):=by
 obtain⟨bm,c,allv,inv,cu,cA,cI,exA,exI,exC,es,rfl,r⟩:=vs.h;refine⟨exC++(exA++(exI++((bm,AObj.map (mT3 es) c)::(bp,.row .own 1 (gcs g rv fv cv kv++[nv,allv,inv]))::(e::rest)))),st.perm ?_,bm,c,allv,inv,cu,cA,cI,exA,exI,exC,es,rfl,r⟩;have: ∀(A B C D:Rws)(y z:Nat×AObj),((e::(A++(B++(C++(y::z::D))))):Rws).Perm (A++(B++(C++(y::z::(e::D))))):=fun A B C D y z=>by
  have:=(List.perm_middle (a:=e) (l₁:=A++(B++(C++[y,z]))) (l₂:=D)).symm;simpa[List.append_assoc]using this
 exact this _ _ _ _ _ _
theorem VS.pop{e:Nat×AObj}(st:Sl h0 h S m rows)(vs:VS S bp g rv fv cv kv nv past cur rows (e::rest)): ∃rows',Sl h0 h S m rows'/\VS S bp g rv fv cv kv nv past cur rows' rest:=by
 obtain⟨bm,c,allv,inv,cu,cA,cI,exA,exI,exC,es,rfl,r⟩:=vs.h;refine⟨exC++(exA++(exI++((bm,AObj.map (mT3 es) c)::(bp,.row .own 1 (gcs g rv fv cv kv++[nv,allv,inv]))::rest))),st.drop ?_,bm,c,allv,inv,cu,cA,cI,exA,exI,exC,es,rfl,r⟩;refine List.Sublist.append_left (List.Sublist.append_left (List.Sublist.append_left ?_ _) _) _;exact .cons_cons _ (.cons_cons _ (List.sublist_cons_self _ _))
theorem VS.rst(vs:VS S bp g rv fv cv kv nv past cur rows rest): ∀p∈rest,p∈rows:=by
 obtain⟨bm,c,allv,inv,cu,cA,cI,exA,exI,exC,es,rfl,r⟩:=vs.h;intro p hp;simp[hp]
theorem beh_box(st:Sl h0 h S m rows1)(gv:GrV S g rv fv cv kv){x:It3}(hx:OkI g x){d e:Nat}(hd:(d,AObj.row .own e (itc x))∈rows1):
  xLdA 2 (.pointer (some ⟨d,0,none⟩)) h=some (.agg ⟨[.int .i64 x.1,.int .i64 (x.2.1:Nat)]⟩)/\pcall (F19 n cl (.agg ⟨gcs g rv fv cv kv⟩) (.agg ⟨[.int .i64 x.1,.int .i64 (x.2.1:Nat)]⟩) h.fzn)=some (.tuple ⟨[.int .i64 ((behI g x.1 x.2.1).getD 0),.bool (behI g x.1 x.2.1).isSome]⟩):=by
 have:=st.ok;exact⟨st.ldA hd rfl (by simp[itc]),c19 (h:=h.fzn) (fun b cs e=>st.leS b cs e) gv hx⟩
theorem getD_app{l:List (List It3)}{c:List It3}{j:Nat}(h:j<=l.length): ∃x,(l++[c])[j]?=some x/\(l++[c]).getD j []=x:=by
 have:j<(l++[c]).length:=by simp;omega
 exact⟨_,List.getElem?_eq_getElem this,by rw[List.getD_eq_getElem?_getD,List.getElem?_eq_getElem this];rfl⟩
theorem loop51(hg:GOk g)(gv:GrV S g rv fv cv kv)(pl:Pl g ks past){d i0:Nat}{x:It3}{r:Rl}(hx:EI g ks past.length x)(h1:x.1=(i0:Int))(hr:g.rules[i0]?=some r)(h2:x.2.1=r.right.length){cur0:List It3}
  (hk: ∀h' rows' cur',Sl h0 h' S m rows'->VS S bp g rv fv cv kv nv past cur' rows' ((d,.row .own 1 (itc x))::rest)->Grw g ks past.length cur0 cur'->(x.2.2<past.length-> ∀y∈(past++[cur']).getD x.2.2 [],behI g y.1 y.2.1=some r.left->stepI y∈cur')->Q (.tuple ⟨[]⟩) h'):
  ∀(q i fu:Nat)(cur:List It3)(rows:Rws)(h:PH),65537<=i+q->q<fu->Sl h0 h S m rows->VS S bp g rv fv cv kv nv past cur rows ((d,.row .own 1 (itc x))::rest)->Grw g ks past.length cur0 cur->i<=((past++[cur]).getD x.2.2 []).length->
   (∀(k:Nat) y,k<i->((past++[cur]).getD x.2.2 [])[k]?=some y->behI g y.1 y.2.1=some r.left->stepI y∈cur)->
   Ret (lp fu (F51_5 n cl) [pt bp,.int .i64 (past.length:Nat),pt d,.int .i64 r.left,.int .i64 (i:Nat)] h) Q:=by
 obtain⟨okx,fx,jx⟩:=EI.ok hg hx;have kl:=pl.kl;intro q
 induction q with
 |zero=>
  intro i fu cur rows h hq _ st vs w hi hd;exfalso;obtain⟨l,e1,e2⟩:=getD_app (l:=past) (c:=cur) fx;rw[e2]at hi;have:l.length<=65536:=by
   by_cases hlt:x.2.2<past.length
   ·rw[List.getElem?_append_left hlt]at e1;obtain⟨a,b⟩:=pl.h _ _ e1;exact few_EI hg kl a b
   ·rw[List.getElem?_append_right (by omega),show x.2.2-past.length=0 by omega]at e1;simp at e1;subst e1;exact few_EI hg kl w.nd w.ei
  omega
 |succ q ih=>
  intro i fu cur rows h hq hf st vs w hi hd;obtain⟨fu,rfl⟩: ∃q,fu=q+1:=⟨fu-1,by omega⟩;rw[lp_succ];obtain⟨l,e1,e2⟩:=getD_app (l:=past) (c:=cur) fx;rw[e2]at hi hd;have hlf:l.length<=65536:=by
   by_cases hlt:x.2.2<past.length
   ·rw[List.getElem?_append_left hlt]at e1;obtain⟨a,b⟩:=pl.h _ _ e1;exact few_EI hg kl a b
   ·rw[List.getElem?_append_right (by omega),show x.2.2-past.length=0 by omega]at e1;simp at e1;subst e1;exact few_EI hg kl w.nd w.ei
  obtain⟨allv,p,v,l8,f1,f2,f3,f4⟩:=vs.pl st (fun p hp=>hp) e1;have ld2:xLd (.pointer (some ⟨d,2,none⟩)) h=some (.int .i64 (x.2.2:Nat)):=st.ld (vs.rst _ (.head _)) rfl;simp only[F51_5,ucons_cons,F51_4,xNil_p,xFld_p,Nat.zero_add,vb_some,l8,ld2,f1,f2,f3,xLt_i]
  by_cases hlt:i<l.length
  ·have dc:decide (((i:Nat):Int)<((l.length:Nat):Int))=true:=decide_eq_true (by omega);have hy:=List.getElem?_eq_getElem hlt;generalize l[i]=y at hy;obtain⟨pq,g1,g2⟩:=f4 i y hy;have hyE:EI g ks x.2.2 y:=by
    by_cases hlt':x.2.2<past.length
    ·rw[List.getElem?_append_left hlt']at e1;exact(pl.h _ _ e1).2 y (List.mem_of_getElem? hy)
    ·have e:x.2.2=past.length:=by omega
     rw[List.getElem?_append_right (by omega),show x.2.2-past.length=0 by omega]at e1;simp at e1;subst e1;rw[e];exact w.ei y (List.mem_of_getElem? hy)
   obtain⟨oky,fy,_⟩:=EI.ok hg hyE;simp only[dc,bite_t,jn_eq,F51_3,xNil_p,xFld_p,Nat.zero_add,vb_some,l8,ld2,f1,f2,g1,g2];refine Ret.lalloc st zc55 fun hA b st1=>?_;refine Ret.lstA st1 0 rfl rfl rfl (by simp) rfl fun hB st2=>?_;rw[setsL_all (by rfl)]at st2;have st2:Sl h0 hB S m ((b,.row .own 1 (itc y))::rows):=st2;obtain⟨rows2,st3,vs3⟩:=vs.push st2;obtain⟨b1,b2⟩:=beh_box (n:=n) (cl:=cl) st3 gv oky (vs3.rst _ (.head _));obtain⟨q1,_⟩:=vs3.gr st3 (fun p hp=>hp);simp only[xFld_p,Nat.zero_add,q1,b1,b2,vb_some,xExt_t',List.getElem?_cons_zero,List.getElem?_cons_succ];have hnext: ∀(cur':List It3)(rows':Rws)(h':PH),Sl h0 h' S m rows'->VS S bp g rv fv cv kv nv past cur' rows' ((b,.row .own 1 (itc y))::(d,.row .own 1 (itc x))::rest)->Grw g ks past.length cur cur'->(behI g y.1 y.2.1=some r.left->stepI y∈cur')->
     Ret (F51_2 n cl (lp fu (F51_5 n cl)) [pt bp,.int .i64 (past.length:Nat),pt d,.int .i64 r.left,.int .i64 (i:Nat)] h') Q:=by
    intro cur' rows' h' st' vs' w' hst;obtain⟨rows'',st'',vs''⟩:=vs'.pop st';obtain⟨l',e1',e2'⟩:=getD_app (l:=past) (c:=cur') fx;have hpre: ∃e,l'=l++e:=by
     by_cases hlt':x.2.2<past.length
     ·rw[List.getElem?_append_left hlt']at e1 e1';rw[e1]at e1';cases e1';exact⟨[],by simp⟩
     ·rw[List.getElem?_append_right (by omega),show x.2.2-past.length=0 by omega]at e1 e1';simp at e1 e1';subst e1;subst e1';exact w'.pre
    obtain⟨ex,hex⟩:=hpre;simp only[F51_2,ucons_cons,F51_0,vN_eq,xAdd_i,vb_some,show(((1:Nat):Int))=1 from rfl,wrap1 (i:=i) (by omega)];refine ih (i+1) fu cur' rows'' h' (by omega) (by omega) st'' vs'' (w.trans w') ?_ ?_
    ·rw[e2',hex,List.length_append];omega
    ·intro k z hk' hz hb;rw[e2',hex,List.getElem?_append_left (by omega)]at hz
     by_cases e:k=i
     ·subst e;rw[hy]at hz;cases hz;exact hst hb
     ·exact w'.sub (hd k z (by omega) hz hb)
   cases hb:behI g y.1 y.2.1 with
   |none=>
    simp only[Option.isSome_none,isB_t,gd_false,vb_some,xPick_f,ff_eq,bite_f];exact hnext cur rows2 hB st3 vs3 ⟨⟨[],by simp⟩,w.nd,w.ei⟩ fun h=>by cases(hb▸h)
   |some s=>
    simp only[Option.isSome_some,Option.getD_some,isB_t,gd_true,vb_some,xEq_i,xPick_t]
    by_cases hs:s=r.left
    ·subst hs;simp only[decide_true,bite_t,F51_1];have la:xLdA 3 (.pointer (some ⟨b,0,none⟩)) hB=some (.agg ⟨itc y⟩):=st3.ldA (vs3.rst _ (.head _)) rfl (by simp[itc]);have okh:=st3.ok;have hyb:y.2.1<1000000:=by
      rcases oky.cases with⟨_,q⟩|⟨_,_,_,_,q,q'⟩<;>omega
     have hne:EI g ks past.length (stepI y):=by
      by_cases hlt':x.2.2<past.length
      ·exact .comp hx h1 hr h2 hlt' hyE hb
      ·have e:x.2.2=past.length:=by omega
       have hn:=EI.nul hg hx e h1 hr h2;rw[e]at hyE;exact .null hyE hb (by have:=hg.left r (List.mem_of_getElem? hr);rw[isName_iff]at this;omega) hn
     simp only[la,vb_some,c54 hyb];refine Ret.hb (c32 st3 vs3 (few_EI hg kl w.nd w.ei)) fun v' h' hv=>?_;obtain⟨rfl,rows',st',vs'⟩:=hv;exact hnext _ rows' h' st' vs' (Grw.add ⟨⟨[],by simp⟩,w.nd,w.ei⟩ hne) fun _=>addI_mem.2 (.inr rfl)
    ·simp only[decide_eq_false hs,bite_f];exact hnext cur rows2 hB st3 vs3 ⟨⟨[],by simp⟩,w.nd,w.ei⟩ fun h=>by rw[hb]at h;cases h;exact absurd rfl hs
  ·have dc:decide (((i:Nat):Int)<((l.length:Nat):Int))=false:=decide_eq_false (by omega);simp only[dc,bite_f];refine Ret.of (hk h rows cur st vs w fun _ y hy hb=>?_);rw[e2]at hy;obtain⟨k,hk'⟩:=List.getElem?_of_mem hy;have:=(List.getElem?_eq_some_iff.1 hk').1;exact hd k y (by omega) hk' hb
theorem c51(hn:9223372036854775808<=n)(hg:GOk g)(gv:GrV S g rv fv cv kv)(pl:Pl g ks past){x:It3}(hx:EI g ks past.length x)(hb:behI g x.1 x.2.1=none)(st:Sl h0 h S m rows)(vs:VS S bp g rv fv cv kv nv past cur rows rest)(hnd:cur.Nodup)(hei: ∀y∈cur,EI g ks past.length y):
  Ret (F51 n cl (pt bp) (.int .i64 (past.length:Nat)) (.agg ⟨itc x⟩) h) fun v h'=>v= .tuple ⟨[]⟩/\ ∃rows' cur',Sl h0 h' S m rows'/\VS S bp g rv fv cv kv nv past cur' rows' rest/\Grw g ks past.length cur cur'/\
   ∀(i:Nat) r y,x.1=(i:Int)->g.rules[i]?=some r->x.2.1=r.right.length->x.2.2<past.length->y∈past.getD x.2.2 []->behI g y.1 y.2.1=some r.left->stepI y∈cur':=by
 obtain⟨okx,fx,jx⟩:=EI.ok hg hx;unfold F51;refine Ret.lbox st fun h1 d st1=>?_;have st1:Sl h0 h1 S m ((d,.row .own 1 (itc x))::rows):=st1;have l0:xLd (.pointer (some ⟨d,0,none⟩)) h1=some (.int .i64 x.1):=st1.ld (.head _) rfl;have eM:vM 0= .int .i64 (-1):=rfl;simp only[xFld_p,Nat.zero_add,vb_some,l0,eM,xEq_i];rcases okx.cases with⟨a1,a2⟩|⟨i0,r,a1,a2,a3,a4⟩
 ·simp only[decide_eq_true a1,bite_t];refine Ret.of ⟨rfl,rows,cur,st1.drop (List.sublist_cons_self _ _),vs,⟨⟨[],by simp⟩,hnd,hei⟩,fun i r y e=>?_⟩;omega
 ·have hne: ¬((i0:Nat):Int)= -1:=by omega
  have h2:x.2.1=r.right.length:=by
   rw[a1,behI_rule a2,List.getElem?_eq_none_iff]at hb;omega
  obtain⟨rows2,st2,vs2⟩:=vs.push st1;obtain⟨_,q2,_⟩:=vs2.gr st2 (fun p hp=>hp);obtain⟨b2,o2,cs2,wv,e1,e2,e3,e4,e5⟩:=gv.rule a2;have ll:xLd (.pointer (some ⟨b2,o2,none⟩)) h1=some (.int .i64 r.left):=st2.ldS e2 (cells3 e3).1;simp only[a1,decide_eq_false hne,bite_f,F51_6,xNil_p,xFld_p,Nat.zero_add,Nat.add_zero,vb_some,q2,l0,a1,e1,ll,vN_eq];refine loop51 hg gv pl hx a1 a2 h2 (cur0:=cur) (rest:=rest) (fun h' rows' cur' st' vs' w' hc=>?_) 65537 0 n cur rows2 h1 (by omega) (by omega) st2 vs2 ⟨⟨[],by simp⟩,hnd,hei⟩ (Nat.zero_le _) (fun k y hk=>by omega);obtain⟨rows'',st'',vs''⟩:=vs'.pop st';refine⟨rfl,rows'',cur',st'',vs'',w',fun i r' y e hr' _ hf hy hb'=>?_⟩;have:i=i0:=by omega
  subst this;rw[a2]at hr';cases hr';refine hc hf y ?_ hb';rw[List.getD_eq_getElem?_getD,List.getElem?_append_left hf, <-List.getD_eq_getElem?_getD];exact hy
end
theorem cells_ltn{h:PH}{b:Nat}{cs:List Value}(e:h.cells b=some cs):b<h.n:=by
 by_cases hb:b<h.n
 ·exact hb
 ·exfalso;unfold PH.cells at e;rw[PH.raw_ge hb]at e;cases e
theorem sm_of_kp{h h1:PH}[k:OkH h]{S:Vw}(hs:Vw.le S h.cells)(kp:Kp h.n h h1):Sl h h1 S OM.emp []:=
 ⟨⟨kp,k.fz,(fun _ _ h=>by cases h),fun b cs e=>⟨kp.sees (hs _ _ e) (cells_ltn (hs _ _ e)),rfl⟩⟩,.nil,(fun _ h=>by cases h)⟩
theorem sl_of_kp{h h1:PH}[k:OkH h]{S:Vw}(hs:Vw.le S h.cells)(kp:Kp h.n h h1){b e:Nat}{md:Mode}{cs:List Value}(hb:h.n<=b)(hr:h1.raw b=some (.row md e cs)):Sl h h1 S OM.emp [(b,.row md e cs)]:=by
 refine Sl.cons (sm_of_kp hs kp) ⟨kp,k.fz,fun c o hc=>?_,fun c cs' e'=>⟨kp.sees (hs _ _ e') (cells_ltn (hs _ _ e')),?_⟩⟩ ⟨rfl,?_⟩
 ·by_cases hcb:c=b
  ·subst hcb;have:(OM.upd OM.emp c (.row md e cs)) c=some o:=hc;rw[OM.upd_self]at this;cases this;exact⟨hr,hb⟩
  ·have:(OM.upd OM.emp b (.row md e cs)) c=some o:=hc;rw[OM.upd_ne hcb]at this;cases this
 ·have:=cells_ltn (hs _ _ e');have hcb:c≠b:=by omega
  show(OM.upd OM.emp b (.row md e cs)) c=none
  rw[OM.upd_ne hcb];rfl
 ·cases hS:S b with
  |none=>rfl
  |some cs'=>have:=cells_ltn (hs _ _ hS);omega
structure NlV(S:Vw)(g:Gr)(nv:Value):Prop where
 h: ∃nul b c,NulT g nul/\nv= .slice (some ⟨b,0,none⟩) g.names.toNat c/\S b=some (bv nul)
theorem NlV.mono{S S':Vw}{g:Gr}{nv:Value}(hs:Vw.le S S')(h:NlV S g nv):NlV S' g nv:=by
 obtain⟨nul,b,c,h1,h2,h3⟩:=h.h;exact⟨nul,b,c,h1,h2,hs _ _ h3⟩
theorem NlV.at{S:Vw}{g:Gr}{nv:Value}(h:NlV S g nv){s:Int}(hs:isName g.names s=true): ∃p b o cs x,xIdxS 1 nv (.int .i64 s)=some p/\p= .pointer (some ⟨b,o,none⟩)/\S b=some cs/\cs[o]?=some (.bool x)/\(x=true↔Nul g s):=by
 obtain⟨nul,b,c,h1,rfl,h3⟩:=h.h;have hs':=isName_iff.1 hs;obtain⟨k,rfl⟩: ∃k:Nat,s=k:=⟨s.toNat,by omega⟩;have hlt:k<nul.length:=by rw[h1.len];omega
 have hx:=List.getElem?_eq_getElem hlt;generalize nul[k]=x at hx;refine⟨_,b,k,bv nul,x,by rw[xIdxS_at (by omega) (by omega)],by simp,h3,by simp[bv,hx],?_⟩;rw[<-h1.tells _ hs];unfold marked;rw[Int.toNat_natCast,hx];simp
theorem zc40:zcells Try.prog 40=some [.int .i64 0,nils,.int .i64 0]:=by kernel_rfl
theorem ab53(a:Int):abuild Try.prog 53 [(0,.int .i64 a)]=some (.agg ⟨[.int .i64 a,.int .i64 0]⟩):=by kernel_rfl
theorem ab55(a b c:Int):abuild Try.prog 55 [(0,.agg ⟨[.int .i64 a,.int .i64 b]⟩),(1,.int .i64 c)]=some (.agg ⟨[.int .i64 a,.int .i64 b,.int .i64 c]⟩):=by kernel_rfl
section
variable {Q:Value->PH->Prop}{n:Nat}{cl:CL}{h h0:PH}{S:Vw}{m:OM}{rows rest rows1:Rws}{bp:Nat}{g:Gr}{rv fv cv kv nv:Value}{past:List (List It3)}{cur:List It3}{ks:List Int}
theorem fr_nul[k:OkH h]{r:R}(hs:Vw.le S h.cells)(hgood:goodB g=true)(a:Ret r fun v h1=>Kp h.n h.fzn h1/\NulQ g h h1 v):
  Fr h.fzn S r fun v ex=> ∃b md e c nul,ex=[(b,.row md e (bv nul))]/\NulT g nul/\v= .slice (some ⟨b,0,none⟩) g.names.toNat c:=by
 refine Ret.mono a fun v h1 q=>?_;obtain⟨out,b,c,q1,q2,q3,q4,q5,md,e,q6,_⟩:=q.2.good hgood;exact⟨_,sl_of_kp (h:=h.fzn) (fun b cs e=>hs b cs e) q.1 q4 q6,b,md,e,c,out,rfl,⟨q1,q2⟩,q3⟩
theorem loop53(hg:GOk g)(gv:GrV S g rv fv cv kv)(kl:ks.length<=40){d:Nat}{x:It3}{s:Int}(hx:EI g ks past.length x)(hb:behI g x.1 x.2.1=some s)(hs:0<=s){cur0:List It3}
  (hk: ∀h' rows' cur',Sl h0 h' S m rows'->VS S bp g rv fv cv kv nv past cur' rows' ((d,.row .own 1 (itc x))::rest)->Grw g ks past.length cur0 cur'->(∀(k:Nat) r,g.rules[k]?=some r->r.left=s->((k:Int),0,past.length)∈cur')->Ret (F53_5 n cl (pt bp) (.int .i64 s) (pt d) (.int .i64 (past.length:Nat)) h') Q):
  ∀(q i fu:Nat)(cur:List It3)(rows:Rws)(h:PH),g.rules.length=i+q->q<fu->Sl h0 h S m rows->VS S bp g rv fv cv kv nv past cur rows ((d,.row .own 1 (itc x))::rest)->Grw g ks past.length cur0 cur->
   (∀(k:Nat) r,k<i->g.rules[k]?=some r->r.left=s->((k:Int),0,past.length)∈cur)->
   Ret (lp fu (F53_7 n cl) [pt bp,.int .i64 (past.length:Nat),.int .i64 s,pt d,rv,.int .i64 (g.rules.length:Nat),.int .i64 (i:Nat)] h) Q:=by
 obtain⟨okx,fx,jx⟩:=EI.ok hg hx;intro q
 induction q with
 |zero=>
  intro i fu cur rows h hq hf st vs w hd;obtain⟨fu,rfl⟩: ∃q,fu=q+1:=⟨fu-1,by omega⟩;rw[lp_succ];have dc:decide (((i:Nat):Int)<((g.rules.length:Nat):Int))=false:=decide_eq_false (by omega);simp only[F53_7,ucons_cons,F53_6,xLt_i,dc,vb_some,bite_f];refine hk h rows cur st vs w fun k r hr hl=>hd k r ?_ hr hl;have:=(List.getElem?_eq_some_iff.1 hr).1;omega
 |succ q ih=>
  intro i fu cur rows h hq hf st vs w hd;obtain⟨fu,rfl⟩: ∃q,fu=q+1:=⟨fu-1,by omega⟩;rw[lp_succ];have dc:decide (((i:Nat):Int)<((g.rules.length:Nat):Int))=true:=decide_eq_true (by omega);have hrl:=hg.rl;have hr:=List.getElem?_eq_getElem (l:=g.rules) (i:=i) (by omega);generalize g.rules[i]=r at hr;obtain⟨b2,o2,cs2,wv,e1,e2,e3,e4,e5⟩:=gv.rule hr;have la:xLdA 3 (.pointer (some ⟨b2,o2,none⟩)) h=some (.agg ⟨[.int .i64 r.left,wv,.int .i64 r.dyn]⟩):=st.ldSA e2 e3 e4;simp only[F53_7,ucons_cons,F53_6,xLt_i,dc,vb_some,bite_t,jn_eq,F53_3,e1,la];refine Ret.lalloc st zc40 fun hA b st1=>?_;refine Ret.lstA st1 0 rfl rfl rfl (by simp) (by have:=e5.one;show(true&&(wv.oneCell'&&(true&&true)))=true;rw[this];rfl) fun hB st2=>?_;rw[setsL_all (by rfl)]at st2;have st2:Sl h0 hB S m ((b,.row .own 1 [.int .i64 r.left,wv,.int .i64 r.dyn])::rows):=st2;have ll:xLd (.pointer (some ⟨b,0,none⟩)) hB=some (.int .i64 r.left):=st2.ld (.head _) rfl;simp only[xFld_p,Nat.zero_add,vb_some,ll,xEq_i];have st3:=st2.drop (List.sublist_cons_self _ _);have hnext: ∀(cur':List It3)(rows':Rws)(h':PH),Sl h0 h' S m rows'->VS S bp g rv fv cv kv nv past cur' rows' ((d,.row .own 1 (itc x))::rest)->Grw g ks past.length cur cur'->(r.left=s->((i:Int),0,past.length)∈cur')->
    Ret (F53_2 n cl (lp fu (F53_7 n cl)) [pt bp,.int .i64 (past.length:Nat),.int .i64 s,pt d,rv,.int .i64 (g.rules.length:Nat),.int .i64 (i:Nat)] h') Q:=by
   intro cur' rows' h' st' vs' w' hst;simp only[F53_2,ucons_cons,F53_0,vN_eq,xAdd_i,vb_some,show(((1:Nat):Int))=1 from rfl,wrap1 (i:=i) (by omega)];refine ih (i+1) fu cur' rows' h' (by omega) (by omega) st' vs' (w.trans w') fun k r' hk' hr' hl=>?_
   by_cases e:k=i
   ·subst e;rw[hr]at hr';cases hr';exact hst hl
   ·exact w'.sub (hd k r' (by omega) hr' hl)
  by_cases hl:r.left=s
  ·subst hl;have ab1:abuild Try.prog 53 [(0,.int .i64 (i:Nat))]=some (.agg ⟨[.int .i64 (i:Nat),.int .i64 0]⟩):=ab53 _;have ab2:abuild Try.prog 55 [(0,.agg ⟨[.int .i64 (i:Nat),.int .i64 0]⟩),(1,.int .i64 (past.length:Nat))]=some (.agg ⟨itc ((i:Int),0,past.length)⟩):=ab55 _ _ _;simp only[decide_true,bite_t,F53_1,ab1,ab2,vb_some];refine Ret.hb (c32 st3 vs (few_EI hg kl w.nd w.ei)) fun v' h' hv=>?_;obtain⟨rfl,rows',st',vs'⟩:=hv;exact hnext _ rows' h' st' vs' (Grw.add ⟨⟨[],by simp⟩,w.nd,w.ei⟩ (.pred hx hb hs hr rfl)) fun _=>addI_mem.2 (.inr rfl)
  ·simp only[decide_eq_false hl,bite_f];exact hnext cur rows hB st3 vs ⟨⟨[],by simp⟩,w.nd,w.ei⟩ fun h=>absurd h hl
theorem c53(hn:9223372036854775808<=n)(hg:GOk g)(gv:GrV S g rv fv cv kv)(nl:NlV S g nv)(kl:ks.length<=40){x:It3}{s:Int}(hx:EI g ks past.length x)(hb:behI g x.1 x.2.1=some s)(hs:isName g.names s=true)(st:Sl h0 h S m rows)(vs:VS S bp g rv fv cv kv nv past cur rows rest)(hnd:cur.Nodup)(hei: ∀y∈cur,EI g ks past.length y):
  Ret (F53 n cl (pt bp) (.int .i64 (past.length:Nat)) (.agg ⟨itc x⟩) (.int .i64 s) h) fun v h'=>v= .tuple ⟨[]⟩/\ ∃rows' cur',Sl h0 h' S m rows'/\VS S bp g rv fv cv kv nv past cur' rows' rest/\Grw g ks past.length cur cur'/\
   (∀(k:Nat) r,g.rules[k]?=some r->r.left=s->((k:Int),0,past.length)∈cur')/\(Nul g s->stepI x∈cur'):=by
 obtain⟨okx,fx,jx⟩:=EI.ok hg hx;have hs':=isName_iff.1 hs;unfold F53;refine Ret.lbox st fun h1 d st1=>?_;have st1:Sl h0 h1 S m ((d,.row .own 1 (itc x))::rows):=st1;obtain⟨rows2,st2,vs2⟩:=vs.push st1;obtain⟨_,q2,_⟩:=vs2.gr st2 (fun p hp=>hp);simp only[xNil_p,xFld_p,Nat.zero_add,vb_some,q2,gv.rules.lenV,vN_eq];have hrl:=hg.rl;refine loop53 hg gv kl hx hb hs'.1 (cur0:=cur) (rest:=rest) (fun h' rows' cur' st' vs' w' hc=>?_) g.rules.length 0 n cur rows2 h1 (by omega) (by omega) st2 vs2 ⟨⟨[],by simp⟩,hnd,hei⟩ (fun k y hk=>by omega);obtain⟨_,_,q3,_⟩:=vs'.gr st' (fun p hp=>hp);obtain⟨p,b,o,cs,bx,e1,rfl,e2,e3,e4⟩:=nl.at hs;have lb:xLd (.pointer (some ⟨b,o,none⟩)) h'=some (.bool bx):=st'.ldS e2 e3;simp only[F53_5,xNil_p,xFld_p,Nat.zero_add,vb_some,q3,e1,lb];cases bx with
 |false=>
  simp only[bite_f];obtain⟨rows'',st'',vs''⟩:=vs'.pop st';exact Ret.of ⟨rfl,rows'',cur',st'',vs'',w',hc,fun h=>by cases e4.2 h⟩
 |true=>
  have la:xLdA 3 (.pointer (some ⟨d,0,none⟩)) h'=some (.agg ⟨itc x⟩):=st'.ldA (vs'.rst _ (.head _)) rfl (by simp[itc]);have okh:=st'.ok;have hyb:x.2.1<1000000:=by
   rcases okx.cases with⟨_,q⟩|⟨_,_,_,_,q,q'⟩<;>omega
  simp only[bite_t,F53_4,la,vb_some,c54 hyb];refine Ret.hb (c32 st' vs' (few_EI hg kl w'.nd w'.ei)) fun v2 h2 hv=>?_;obtain⟨rfl,rows3,st3,vs3⟩:=hv;obtain⟨rows4,st4,vs4⟩:=vs3.pop st3;exact Ret.of ⟨rfl,rows4,_,st4,vs4,w'.add (.null hx hb hs'.1 (e4.1 rfl)),fun k r hr hl=>addI_sub (hc k r hr hl),fun _=>addI_mem.2 (.inr rfl)⟩
end
theorem Clo.mono{g:Gr}{P:Nat->List It3}{j:Nat}{L L':List It3}{x:It3}(c:Clo g P j L x)(h: ∀y∈L,y∈L'):Clo g P j L' x:=
 ⟨fun s i r a b d e=>h _ (c.pred s i r a b d e),fun s a b d=>h _ (c.null s a b d),fun i r y a b d e f k=>h _ (c.comp i r y a b d e f k)⟩
theorem beh_sym{g:Gr}(hg:GOk g){r:Int}{a:Nat}{s:Int}(h:behI g r a=some s):isName g.names s=true\/s<0/\ -1-s<g.kinds:=by
 unfold behI at h
 split at h
 ·split at h
  ·cases h;exact .inl hg.start
  ·cases h
 ·cases hr:g.rules[r.toNat]? with
  |none=>rw[hr]at h;cases h
  |some x=>
   rw[hr]at h;have h1:=hg.right x (List.mem_of_getElem? hr) s (List.mem_of_getElem? h);unfold isSym isKind at h1;simp only[Bool.or_eq_true,decide_eq_true_eq]at h1;rcases h1 with h1|h1
   ·right;omega
   ·exact .inl h1
section
variable {Q:Value->PH->Prop}{n:Nat}{cl:CL}{h h0:PH}{S:Vw}{m:OM}{rows rest rows1:Rws}{bp:Nat}{g:Gr}{rv fv cv kv nv:Value}{past:List (List It3)}{cur:List It3}{ks:List Int}
theorem app_last{l:List (List It3)}{c:List It3}:(l++[c])[l.length]?=some c:=by
 rw[List.getElem?_append_right (Nat.le_refl _),Nat.sub_self];rfl
theorem loop34(hn:9223372036854775808<=n)(hg:GOk g)(gv:GrV S g rv fv cv kv)(nl:NlV S g nv)(pl:Pl g ks past){cur0:List It3}
  (hk: ∀h' rows' cur',Sl h0 h' S m rows'->VS S bp g rv fv cv kv nv past cur' rows' rest->Grw g ks past.length cur0 cur'->(∀y∈cur',Clo g (fun j=>past.getD j []) past.length cur' y)->Q (.tuple ⟨[]⟩) h'):
  ∀(q i fu:Nat)(cur:List It3)(rows:Rws)(h:PH),65537<=i+q->q<fu->Sl h0 h S m rows->VS S bp g rv fv cv kv nv past cur rows rest->Grw g ks past.length cur0 cur->i<=cur.length->
   (∀(k:Nat) y,k<i->cur[k]?=some y->Clo g (fun j=>past.getD j []) past.length cur y)->
   Ret (lp fu (F34_7 n cl) [pt bp,.int .i64 (past.length:Nat),.int .i64 (i:Nat)] h) Q:=by
 have kl:=pl.kl;intro q
 induction q with
 |zero=>
  intro i fu cur rows h hq _ st vs w hi hd;have:=few_EI hg kl w.nd w.ei;omega
 |succ q ih=>
  intro i fu cur rows h hq hf st vs w hi hd;obtain⟨fu,rfl⟩: ∃q,fu=q+1:=⟨fu-1,by omega⟩;rw[lp_succ];have hlf:=few_EI hg kl w.nd w.ei;obtain⟨allv,p,v,l8,f1,f2,f3,f4⟩:=vs.pl st (fun p hp=>hp) (app_last (l:=past) (c:=cur));simp only[F34_7,ucons_cons,F34_6,xNil_p,xFld_p,Nat.zero_add,vb_some,l8,f1,f2,f3,xLt_i]
  by_cases hlt:i<cur.length
  ·have dc:decide (((i:Nat):Int)<((cur.length:Nat):Int))=true:=decide_eq_true (by omega);have hy:=List.getElem?_eq_getElem hlt;generalize cur[i]=y at hy;obtain⟨pq,g1,g2⟩:=f4 i y hy;have hyE:=w.ei y (List.mem_of_getElem? hy);obtain⟨oky,fy,_⟩:=EI.ok hg hyE;simp only[dc,bite_t,jn_eq,F34_5,xNil_p,xFld_p,Nat.zero_add,vb_some,l8,f1,f2,g1,g2];refine Ret.lalloc st zc55 fun hA b st1=>?_;refine Ret.lstA st1 0 rfl rfl rfl (by simp) rfl fun hB st2=>?_;rw[setsL_all (by rfl)]at st2;have st2:Sl h0 hB S m ((b,.row .own 1 (itc y))::rows):=st2;obtain⟨rows2,st3,vs3⟩:=vs.push st2;obtain⟨b1,b2⟩:=beh_box (n:=n) (cl:=cl) st3 gv oky (vs3.rst _ (.head _));obtain⟨q1,_⟩:=vs3.gr st3 (fun p hp=>hp);have la:xLdA 3 (.pointer (some ⟨b,0,none⟩)) hB=some (.agg ⟨itc y⟩):=st3.ldA (vs3.rst _ (.head _)) rfl (by simp[itc]);simp only[xFld_p,Nat.zero_add,q1,b1,b2,vb_some,xExt_t',List.getElem?_cons_zero,List.getElem?_cons_succ,xNot_b];have hnext: ∀(cur':List It3)(rows':Rws)(h':PH),Sl h0 h' S m rows'->VS S bp g rv fv cv kv nv past cur' rows' ((b,.row .own 1 (itc y))::rest)->Grw g ks past.length cur cur'->Clo g (fun j=>past.getD j []) past.length cur' y->
     Ret (F34_4 n cl (lp fu (F34_7 n cl)) [pt bp,.int .i64 (past.length:Nat),.int .i64 (i:Nat)] h') Q:=by
    intro cur' rows' h' st' vs' w' hst;obtain⟨rows'',st'',vs''⟩:=vs'.pop st';obtain⟨ex,hex⟩:=w'.pre;simp only[F34_4,ucons_cons,F34_0,vN_eq,xAdd_i,vb_some,show(((1:Nat):Int))=1 from rfl,wrap1 (i:=i) (by omega)];refine ih (i+1) fu cur' rows'' h' (by omega) (by omega) st'' vs'' (w.trans w') ?_ ?_
    ·rw[hex,List.length_append];omega
    ·intro k z hk' hz;rw[hex,List.getElem?_append_left (by omega)]at hz
     by_cases e:k=i
     ·subst e;rw[hy]at hz;cases hz;exact hst
     ·exact(hd k z (by omega) hz).mono fun y hy=>w'.sub hy
   cases hb:behI g y.1 y.2.1 with
   |none=>
    simp only[Option.isSome_none,Bool.not_false,bite_t,F34_1,la,vb_some];refine Ret.hb (c51 hn hg gv pl hyE hb st3 vs3 w.nd w.ei) fun v' h' hv=>?_;obtain⟨rfl,rows',cur',st',vs',w',hc⟩:=hv;refine hnext cur' rows' h' st' vs' w' ⟨fun s i r e=>?_,fun s e=>?_,fun i r z e1 e2 e3 e4 e5 e6=>hc i r z e1 e2 e3 e4 e5 e6⟩
    ·rw[hb]at e;cases e
    ·rw[hb]at e;cases e
   |some s=>
    have hnc: ∀(i:Nat) r,y.1=(i:Int)->g.rules[i]?=some r->y.2.1=r.right.length->False:=fun i r e1 e2 e3=>by
     rw[e1,behI_rule e2,e3,List.getElem?_eq_none (Nat.le_refl _)]at hb;cases hb
    have okh:=st3.ok;simp only[Option.isSome_some,Option.getD_some,Bool.not_true,bite_f,F34_3,xNil_p,xFld_p,Nat.zero_add,vb_some,q1,c52];cases hs:isName g.names s with
    |true=>
     simp only[bite_t,F34_2,la,vb_some];refine Ret.hb (c53 hn hg gv nl kl hyE hb hs st3 vs3 w.nd w.ei) fun v' h' hv=>?_;obtain⟨rfl,rows',cur',st',vs',w',hc1,hc2⟩:=hv;refine hnext cur' rows' h' st' vs' w' ⟨fun s' i r e e2 e3 e4=>?_,fun s' e e2 e3=>?_,fun i r z e1 e2 e3=>absurd e3 fun e=>hnc i r e1 e2 e⟩
     ·rw[hb]at e;cases e;exact hc1 i r e3 e4
     ·rw[hb]at e;cases e;exact hc2 e3
    |false=>
     simp only[bite_f];have hneg:s<0:=by
      rcases beh_sym hg hb with h|h
      ·rw[hs]at h;cases h
      ·exact h.1
     refine hnext cur rows2 hB st3 vs3 ⟨⟨[],by simp⟩,w.nd,w.ei⟩ ⟨fun s' i r e e2=>?_,fun s' e e2=>?_,fun i r z e1 e2 e3=>absurd e3 fun e=>hnc i r e1 e2 e⟩
     ·rw[hb]at e;cases e;omega
     ·rw[hb]at e;cases e;omega
  ·have dc:decide (((i:Nat):Int)<((cur.length:Nat):Int))=false:=decide_eq_false (by omega);simp only[dc,bite_f];refine Ret.of (hk h rows cur st vs w fun y hy=>?_);obtain⟨k,hk'⟩:=List.getElem?_of_mem hy;have:=(List.getElem?_eq_some_iff.1 hk').1;exact hd k y (by omega) hk'
theorem c34(hn:9223372036854775808<=n)(hg:GOk g)(gv:GrV S g rv fv cv kv)(nl:NlV S g nv)(pl:Pl g ks past)(st:Sl h0 h S m rows)(vs:VS S bp g rv fv cv kv nv past cur rows rest)(hnd:cur.Nodup)(hei: ∀y∈cur,EI g ks past.length y):
  Ret (F34 n cl (pt bp) (.int .i64 (past.length:Nat)) h) fun v h'=>v= .tuple ⟨[]⟩/\ ∃rows' cur',Sl h0 h' S m rows'/\VS S bp g rv fv cv kv nv past cur' rows' rest/\Grw g ks past.length cur cur'/\ ∀y∈cur',Clo g (fun j=>past.getD j []) past.length cur' y:=by
 unfold F34;simp only[vN_eq];exact loop34 hn hg gv nl pl (cur0:=cur) (rest:=rest) (fun h' rows' cur' st' vs' w' hc=>⟨rfl,rows',cur',st',vs',w',hc⟩) 65537 0 n cur rows h (by omega) (by omega) st vs ⟨⟨[],by simp⟩,hnd,hei⟩ (Nat.zero_le _) (fun k y hk=>by omega)
end
def Whole(g:Gr)(ks:List Int)(PS:List (List It3)):Prop:= ∀(j:Nat) l,PS[j]?=some l->l.Nodup/\ ∀x,x∈l↔EI g ks j x
theorem Whole.getD{g:Gr}{ks:List Int}{PS:List (List It3)}(f:Whole g ks PS){j:Nat}(hj:j<PS.length){x:It3}:x∈PS.getD j []↔EI g ks j x:=by
 have:=List.getElem?_eq_getElem hj;rw[List.getD_eq_getElem?_getD,this];exact(f j _ this).2 x
theorem Whole.snoc{g:Gr}{ks:List Int}(hg:GOk g){past:List (List It3)}{cur:List It3}(f:Whole g ks past)(hnd:cur.Nodup)(hei: ∀y∈cur,EI g ks past.length y)(hc: ∀y∈cur,Clo g (fun j=>past.getD j []) past.length cur y)
  (h0:past.length=0->(-1,0,0)∈cur) (hs: ∀j x s k,past.length=j+1->EI g ks j x->behI g x.1 x.2.1=some s->s<0->ks[j]?=some k->s= -1-k->stepI x∈cur):Whole g ks (past++[cur]):=by
 intro j l hj
 by_cases hlt:j<past.length
 ·rw[List.getElem?_append_left hlt]at hj;exact f j l hj
 ·have hl:=(List.getElem?_eq_some_iff.1 hj).1;rw[List.length_append,List.length_singleton]at hl;have e:j=past.length:=by omega
  subst e;rw[List.getElem?_append_right (Nat.le_refl _),Nat.sub_self]at hj;simp at hj;subst hj;refine⟨hnd,fun x=>⟨hei x,fun hx=>?_⟩⟩;have key: ∀{j:Nat}{x:It3},EI g ks j x->j=past.length->x∈cur:=by
   intro j x hx
   induction hx with
   |start=>intro e;exact h0 e.symm
   |pred hx hb hs' hr hl ih=>intro e;subst e;exact(hc _ (ih rfl)).pred _ _ _ hb hs' hr hl
   |null hx hb hs' hn ih=>intro e;subst e;exact(hc _ (ih rfl)).null _ hb hs' hn
   |comp hx h1 hr ha hf hy hb ih1 ih2=>intro e;subst e;exact(hc _ (ih1 rfl)).comp _ _ _ h1 hr ha hf ((f.getD hf).2 hy) hb
   |shift hx hb hs' hk he ih=>intro e;exact hs _ _ _ _ e.symm hx hb hs' hk he
  exact key hx rfl
theorem Whole.pl{g:Gr}{ks:List Int}{past:List (List It3)}(f:Whole g ks past)(kl:ks.length<=40)(hp:past.length<=ks.length):Pl g ks past:=
 ⟨kl,hp,fun i l hi=>⟨(f i l hi).1,fun y hy=>((f i l hi).2 y).1 hy⟩⟩
section
variable {Q:Value->PH->Prop}{n:Nat}{cl:CL}{h h0:PH}{S:Vw}{m:OM}{rows rest rows1:Rws}{bp:Nat}{g:Gr}{rv fv cv kv nv:Value}{past:List (List It3)}{cur:List It3}{ks:List Int}
theorem SlC.itAt{v:Value}{l:List It3}(r:SlC S 3 v l.length (l.flatMap itc)){i:Nat}{x:It3}(hi:l[i]?=some x)(st:Sl h0 h S m rows): ∃q,xIdxS 3 v (.int .i64 (i:Nat))=some q/\xLdA 3 q h=some (.agg ⟨itc x⟩):=by
 have hil:=(List.getElem?_eq_some_iff.1 hi).1;rcases r with⟨h1,_⟩|⟨b,o,c,cs,rfl,h1,h2,h3⟩
 ·omega
 ·refine⟨.pointer (some ⟨b,o+i*3,none⟩),by rw[xIdxS_at (by omega) (by omega)];simp,st.ldSA h1 ?_ (by omega)⟩;have:=itc_at hi;rw[h3,List.drop_take,List.take_take,List.drop_drop,Nat.min_eq_left (by omega)]at this;exact this
theorem SlC.itLen{v:Value}{l:List It3}(r:SlC S 3 v l.length (l.flatMap itc)):xLenS v=some (.int .i64 (l.length:Nat)):=by
 rcases r with⟨h1,_,rfl⟩|⟨b,o,c,cs,rfl,_⟩
 ·rw[h1];rfl
 ·simp
theorem VS.pst(vs:VS S bp g rv fv cv kv nv past cur rows rest)(st:Sl h0 h S m rows1)(hsub: ∀p∈rows,p∈rows1){j:Nat}{l:List It3}(hj:past[j]?=some l):
  ∃allv p v,xLd (.pointer (some ⟨bp,8,none⟩)) h=some allv/\xIdxS 1 allv (.int .i64 (j:Nat))=some p/\xLd p h=some v/\SlC S 3 v l.length (l.flatMap itc):=by
 obtain⟨bm,c,allv,inv,cu,cA,cI,exA,exI,exC,es,rfl,gA,gI,hcu,gC,hbm,hpast,hes⟩:=vs.h;have hjl:=(List.getElem?_eq_some_iff.1 hj).1;obtain⟨ba,oa,aa,f1,rfl,f2,f3,f4⟩:=gA.set1 (i:=j) (by omega);have l8:xLd (.pointer (some ⟨bp,8,none⟩)) h=some allv:=st.ld (b:=bp) (e:=1) (md:=.own) (cs:=gcs g rv fv cv kv++[nv,allv,inv]) (hsub _ (by simp)) rfl;obtain⟨v,q1,q2⟩:=hpast j l hj;exact⟨allv,_,v,l8,f1,st.ld (b:=ba) (e:=1) (md:=.opn) (cs:=aa) (hsub _ (by simp)) (f2.trans q1),q2⟩
theorem loop35(hn:9223372036854775808<=n)(hg:GOk g)(gv:GrV S g rv fv cv kv)(kl:ks.length<=40){l:List It3}{v:Value}{k:Int}{J:Nat}(hJ:past.length=J+1)(hl:SlC S 3 v l.length (l.flatMap itc))(ll:l.length<=65536)(hE: ∀y∈l,EI g ks J y)(hk0:0<=k)(hk1:k<1000000)(hkJ:ks[J]?=some k){cur0:List It3}
  (hk: ∀h' rows' cur',Sl h0 h' S m rows'->VS S bp g rv fv cv kv nv past cur' rows' rest->Grw g ks past.length cur0 cur'->(∀y∈l,behI g y.1 y.2.1=some (-1-k)->stepI y∈cur')->Ret (F35_4 n cl (pt bp) (.int .i64 (past.length:Nat)) h') Q):
  ∀(q i fu:Nat)(cur:List It3)(rows:Rws)(h:PH),l.length=i+q->q<fu->Sl h0 h S m rows->VS S bp g rv fv cv kv nv past cur rows rest->Grw g ks past.length cur0 cur->
   (∀(j:Nat) y,j<i->l[j]?=some y->behI g y.1 y.2.1=some (-1-k)->stepI y∈cur)->
   Ret (lp fu (F35_6 n cl) [pt bp,.int .i64 k,.int .i64 (past.length:Nat),v,.int .i64 (l.length:Nat),.int .i64 (i:Nat)] h) Q:=by
 intro q
 induction q with
 |zero=>
  intro i fu cur rows h hq hf st vs w hd;obtain⟨fu,rfl⟩: ∃q,fu=q+1:=⟨fu-1,by omega⟩;rw[lp_succ];have dc:decide (((i:Nat):Int)<((l.length:Nat):Int))=false:=decide_eq_false (by omega);simp only[F35_6,ucons_cons,F35_5,xLt_i,dc,vb_some,bite_f];refine hk h rows cur st vs w fun y hy hb=>?_;obtain⟨j,hj⟩:=List.getElem?_of_mem hy;have:=(List.getElem?_eq_some_iff.1 hj).1;exact hd j y (by omega) hj hb
 |succ q ih=>
  intro i fu cur rows h hq hf st vs w hd;obtain⟨fu,rfl⟩: ∃q,fu=q+1:=⟨fu-1,by omega⟩;rw[lp_succ];have dc:decide (((i:Nat):Int)<((l.length:Nat):Int))=true:=decide_eq_true (by omega);have hy:=List.getElem?_eq_getElem (l:=l) (i:=i) (by omega);generalize l[i]=y at hy;obtain⟨pq,g1,g2⟩:=hl.itAt hy st;have hyE:=hE y (List.mem_of_getElem? hy);obtain⟨oky,fy,_⟩:=EI.ok hg hyE;simp only[F35_6,ucons_cons,F35_5,xLt_i,dc,vb_some,bite_t,jn_eq,F35_3,g1,g2];refine Ret.lalloc st zc55 fun hA b st1=>?_;refine Ret.lstA st1 0 rfl rfl rfl (by simp) rfl fun hB st2=>?_;rw[setsL_all (by rfl)]at st2;have st2:Sl h0 hB S m ((b,.row .own 1 (itc y))::rows):=st2;obtain⟨rows2,st3,vs3⟩:=vs.push st2;obtain⟨b1,b2⟩:=beh_box (n:=n) (cl:=cl) st3 gv oky (vs3.rst _ (.head _));obtain⟨q1,_⟩:=vs3.gr st3 (fun p hp=>hp);have hw:IntKind.i64.wrap (-1-k)= -1-k:=wrap_in (by omega) (by omega);have eM:vM 0= .int .i64 (-1):=rfl;simp only[xNil_p,xFld_p,Nat.zero_add,q1,b1,b2,vb_some,xExt_t',List.getElem?_cons_zero,List.getElem?_cons_succ];have hnext: ∀(cur':List It3)(rows':Rws)(h':PH),Sl h0 h' S m rows'->VS S bp g rv fv cv kv nv past cur' rows' ((b,.row .own 1 (itc y))::rest)->Grw g ks past.length cur cur'->(behI g y.1 y.2.1=some (-1-k)->stepI y∈cur')->
    Ret (F35_2 n cl (lp fu (F35_6 n cl)) [pt bp,.int .i64 k,.int .i64 (past.length:Nat),v,.int .i64 (l.length:Nat),.int .i64 (i:Nat)] h') Q:=by
   intro cur' rows' h' st' vs' w' hst;obtain⟨rows'',st'',vs''⟩:=vs'.pop st';simp only[F35_2,ucons_cons,F35_0,vN_eq,xAdd_i,vb_some,show(((1:Nat):Int))=1 from rfl,wrap1 (i:=i) (by omega)];refine ih (i+1) fu cur' rows'' h' (by omega) (by omega) st'' vs'' (w.trans w') fun j z hj hz hb=>?_
   by_cases e:j=i
   ·subst e;rw[hy]at hz;cases hz;exact hst hb
   ·exact w'.sub (hd j z (by omega) hz hb)
  cases hb:behI g y.1 y.2.1 with
  |none=>
   simp only[Option.isSome_none,isB_t,gd_false,vb_some,xPick_f,ff_eq,bite_f];exact hnext cur rows2 hB st3 vs3 ⟨⟨[],by simp⟩,w.nd,w.ei⟩ fun h=>by rw[hb]at h;cases h
  |some s=>
   simp only[Option.isSome_some,Option.getD_some,isB_t,gd_true,vb_some,eM,xSub_i,hw,xEq_i,xPick_t]
   by_cases hs:s= -1-k
   ·subst hs;have la:xLdA 3 (.pointer (some ⟨b,0,none⟩)) hB=some (.agg ⟨itc y⟩):=st3.ldA (vs3.rst _ (.head _)) rfl (by simp[itc]);have okh:=st3.ok;have hyb:y.2.1<1000000:=by
     rcases oky.cases with⟨_,q⟩|⟨_,_,_,_,q,q'⟩<;>omega
    have hne:EI g ks past.length (stepI y):=by
     rw[hJ];exact .shift hyE hb (by omega) hkJ rfl
    simp only[decide_true,bite_t,F35_1,la,vb_some,c54 hyb];refine Ret.hb (c32 st3 vs3 (few_EI hg kl w.nd w.ei)) fun v' h' hv=>?_;obtain⟨rfl,rows',st',vs'⟩:=hv;exact hnext _ rows' h' st' vs' (Grw.add ⟨⟨[],by simp⟩,w.nd,w.ei⟩ hne) fun _=>addI_mem.2 (.inr rfl)
   ·simp only[decide_eq_false hs,bite_f];exact hnext cur rows2 hB st3 vs3 ⟨⟨[],by simp⟩,w.nd,w.ei⟩ fun h=>by rw[hb]at h;cases h;exact absurd rfl hs
theorem c35(hn:9223372036854775808<=n)(hg:GOk g)(gv:GrV S g rv fv cv kv)(nl:NlV S g nv)(kl:ks.length<=40)(f:Whole g ks (past++[cur])){k:Int}(hk:ks[past.length]?=some k)(st:Sl h0 h S m rows)(vs:VS S bp g rv fv cv kv nv past cur rows rest):
  Ret (F35 n cl (pt bp) (.int .i64 k) h) fun v h'=> ∃b S' rows',v= .bool b/\VwN h0 S S'/\Sl h0 h' S' m rows'/\((b=false/\ ∀x, ¬ EI g ks (past.length+1) x)\/b=true/\ ∃cur',VS S' bp g rv fv cv kv nv (past++[cur]) cur' rows' rest/\Whole g ks (past++[cur]++[cur'])/\cur'≠[]):=by
 have hJ:=(List.getElem?_eq_some_iff.1 hk).1;obtain⟨_,_,_,q4⟩:=vs.gr st (fun p hp=>hp);have un1:isB false (.bool true)=false:=rfl;have un2:isB false (.bool false)=true:=rfl;unfold F35;have hkn:=hg.kn;have hno:(k<0\/g.kinds<=k)-> ∀x, ¬ EI g ks (past.length+1) x:=by
  have key:(k<0\/g.kinds<=k)-> ∀{j:Nat}{x:It3},EI g ks j x->j=past.length+1->False:=by
   intro ho j x hx
   induction hx with
   |start=>intro e;omega
   |pred hx hb hs' hr hl ih=>exact ih
   |null hx hb hs' hn ih=>exact ih
   |comp hx h1 hr ha hf hy hb ih1 ih2=>exact ih1
   |shift hx hb hs' hk' he ih=>
    intro e;have e:_=past.length:=Nat.succ.inj e;rw[e,hk]at hk';cases hk';rcases beh_sym hg hb with h|h
    ·have:=isName_iff.1 h;omega
    ·omega
  exact fun ho x hx=>key ho hx rfl
 simp only[vN_eq,show(((0:Nat):Int))=0 from rfl,xLt_i]
 by_cases h1:k<0
 ·simp only[decide_eq_true h1,vb_some,un1,gd_false,xPick_t,tt_eq,bite_t,ff_eq];exact Ret.of ⟨false,S,rows,rfl,VwN.refl,st,.inl ⟨rfl,hno (.inl h1)⟩⟩
 ·simp only[decide_eq_false h1,vb_some,un2,gd_true,xNil_p,xFld_p,Nat.zero_add,q4,xGe_i,xPick_f]
  by_cases h2:g.kinds<=k
  ·simp only[decide_eq_true h2,bite_t,ff_eq];exact Ret.of ⟨false,S,rows,rfl,VwN.refl,st,.inl ⟨rfl,hno (.inr h2)⟩⟩
  ·simp only[decide_eq_false h2,bite_f,F35_7];obtain⟨S',rows1,le,st1,vs1⟩:=vs.end st;have pl1:=f.pl kl (by simp;omega);refine Ret.hb (c33 st1 vs1 (by simp;omega)) fun v' h' hv=>?_;obtain⟨rfl,rows2,st2,vs2⟩:=hv;obtain⟨allv,p,v,l8,f1,f2,f3⟩:=vs2.pst st2 (fun p hp=>hp) (app_last (l:=past) (c:=cur));have hw:IntKind.i64.wrap ((((past++[cur]).length:Nat):Int)-((1:Nat):Int))=((past.length:Nat):Int):=by
    rw[wrap_in (by rw[List.length_append,List.length_singleton];omega) (by rw[List.length_append,List.length_singleton];omega)];simp
   simp only[xNil_p,xFld_p,Nat.zero_add,vb_some,l8,vN_eq,xSub_i,hw,f1,f2,f3.itLen];have fl:=f past.length cur (app_last (l:=past) (c:=cur));have hE: ∀y∈cur,EI g ks past.length y:=fun y hy=>(fl.2 y).1 hy;refine loop35 (cur0:=[]) (rest:=rest) hn hg (gv.mono le.1) kl (J:=past.length) (by simp) f3 (few_EI hg kl fl.1 hE) hE (by omega) (by omega) hk (fun h3 rows3 cur3 st3 vs3 w3 hc3=>?_) cur.length 0 n [] rows2 h' (by omega) (by have:=few_EI hg kl fl.1 hE;omega) st2 vs2 ⟨⟨[],rfl⟩,List.nodup_nil,fun y hy=>by cases hy⟩ (fun j y hj=>by omega);unfold F35_4;refine Ret.hb (c34 hn hg (gv.mono le.1) (nl.mono le.1) pl1 st3 vs3 w3.nd w3.ei) fun v4 h4 hv=>?_;obtain⟨rfl,rows4,cur4,st4,vs4,w4,hc4⟩:=hv;obtain⟨allv,p,v,l8,f1,f2,f3,_⟩:=vs4.pl st4 (fun p hp=>hp) (app_last (l:=past++[cur]) (c:=cur4));simp only[xNil_p,xFld_p,Nat.zero_add,vb_some,l8,f1,f2,f3,vN_eq,xGt_i];have F:=Whole.snoc hg f w4.nd w4.ei hc4 (by simp) fun j x s k' e hx hb hs hk' he=>by
    have e:past.length=j:=by simpa using e
    subst e;rw[hk]at hk';cases hk';subst he;exact w4.sub (hc3 x ((fl.2 x).2 hx) hb)
   refine Ret.of ⟨_,S',rows4,rfl,le,st4,?_⟩
   by_cases h0':cur4=[]
   ·left
    subst h0';refine⟨by simp,fun x hx=>?_⟩;have:=(F (past.length+1) [] (by rw[List.getElem?_append_right (by simp)];simp)).2 x;cases this.2 hx
   ·right
    have:0<cur4.length:=List.length_pos_iff.2 h0';exact⟨decide_eq_true (by show((0:Nat):Int)<_;omega),cur4,vs4,F,h0'⟩
end
end Go.Am
