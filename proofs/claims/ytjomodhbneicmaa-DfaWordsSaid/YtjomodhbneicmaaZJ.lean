import Derived.Test.YtjomodhbneicmaaZG
import Derived.Test.YtjomodhbneicmaaZW
import Derived.Test.YtjomodhbneicmaaRows
import Derived.Test.YtjomodhbneicmaaZT
import Derived.Test.YtjomodhbneicmaaZQ
import Derived.Laws.Strings
set_option linter.unusedSimpArgs false
set_option linter.unusedVariables false
namespace Go.Am
open Go Go.RowKit Go.Proofs
def rawS(N:Nat)(nxs:List (List Int))(oks:List Int):Ss:=⟨List.replicate N [],nxs,oks⟩
def prn(bs:List Bool)(z:Int):Int:=if 0<=z/\bs[z.toNat]?≠some true then -1 else z
structure Prn(N:Nat)(nxs nx2:List (List Int))(bs:List Bool):Prop where
 ok:NxOk N nxs
 ok2:NxOk N nx2
 ent: ∀i c,i<N->c<256->entZ nx2 i c=prn bs (entZ nxs i c)
section
variable {N:Nat}{nxs nx2:List (List Int)}{bs:List Bool}{oks cls:List Int}
def cls2(N:Nat)(bs:List Bool)(cls:List Int):List Int:=(List.range N).map (fun i=>if bs[i]?=some true then cls.getD i 0 else(N:Int))++[(N:Int)]
end
section
variable {l:List Po}{all:List (List Spt)}{nxs nx2:List (List Int)}{oks:List Int}{bs:List Bool}
def SpotW(l:List Po)(w:List Nat)(x:Spt):Prop:= ∃po,l[x.1]?=some po/\(if w=[]then x.2= -1 else∃y:Nat,x.2=y/\DP po w y)
end
structure PrI(N:Nat)(nxs nx2:List (List Int))(bs:List Bool)(i c:Nat):Prop where
 ok2:NxOk N nx2
 done: ∀i' c',i'<N->c'<256->Bef i' c' i c->entZ nx2 i' c'=prn bs (entZ nxs i' c')
 todo: ∀i' c',i'<N->c'<256-> ¬ Bef i' c' i c->entZ nx2 i' c'=entZ nxs i' c'
section
variable {Q:Value->PH->Prop}{n:Nat}{cl:CL}{h h0:PH}{S:Vw}{m:OM}{rest:Rws}{K2:Value->PH->R}
end
def Om(h0:PH)(S:Vw)(rows rest:Rws)(d2:Nat)(sv:Value)(st:List Nat)(nxs:List (List Int))(accs:List Int):Prop:= ∃nv av exS exN exA cN,
 rows=(d2,.row .own 1 [nv,av])::(exS++(exN++(exA++rest)))/\Gq sv st.length (ns st) exS/\Gq nv nxs.length cN exN/\(∀(i:Nat) r,nxs[i]?=some r-> ∃x,cN[i]?=some x/\SlV (Nw h0 S) x (zv r))/\Gq av accs.length (zv accs) exA
section
variable {h0:PH}{rows rest:Rws}{d2:Nat}{sv:Value}{st:List Nat}{nxs:List (List Int)}{accs:List Int}
variable {Q:Value->PH->Prop}{n:Nat}{cl:CL}{h:PH}{S:Vw}{m:OM}{K2:Value->PH->R}
end
section
variable {Q:Value->PH->Prop}{n:Nat}{cl:CL}{h h0:PH}{S:Vw}{m:OM}{rows rest rows0:Rws}{d2:Nat}{K2:Value->PH->R}
def RefV(l:List Po)(V:Vw)(v:Value):Prop:=
 (40<l.length/\v= .tuple ⟨[.agg ⟨[nils,nils]⟩,.int .i64 3,tt]⟩)\/(l.length<=40/\(v= .tuple ⟨[.agg ⟨[nils,nils]⟩,.int .i64 0,ff]⟩\/
  ∃d dv all nxs oks,v= .tuple ⟨[dv,.int .i64 0,tt]⟩/\DfV V dv d/\Canon d/\(∀w,Byt w->FstI l.length (fun k=> ∃po,l[k]?=some po/\takesP po w) (dacc d (drun d 0 w)))/\SubI l all nxs oks/\nxs.length=all.length))
end
section
variable {l:List Po}{p:Pp}{a0:Int}{s:Ss}
def SetW(l:List Po)(w:List Nat)(ws:List Nat):Prop:= ∀g,hs ws g=true↔ ∃k po y,l[k]?=some po/\g=off l k+y/\DP po w y
theorem may_iff(hpo:PpOf l p){i c:Nat}{v:List Nat}(hi:(i=0/\v=[])\/(i≠0/\v≠[]/\SetW l v (s.alls.getD i [])))(hc:c<256)(g:Nat):(MayP p s.alls i g/\hs (p.takes.getD c []) g=true)↔ ∃k po y,l[k]?=some po/\g=off l k+y/\DP po (v++[c]) y:=by
 rw[hpo.tks c hc];constructor
 ·rintro⟨h1,k,po,y,h2,h3,h4,rfl⟩;refine⟨k,po,y,h2,rfl,DP_snoc.2 ⟨?_,h4⟩⟩;rcases hi with⟨rfl,rfl⟩|⟨hi0,hv,hset⟩
  ·rw[if_pos rfl];have h1:hs p.first (off l k+y)=true:=h1;obtain⟨k',po',y',e1,e2,e3,e4⟩:=(hpo.first _).1 h1;obtain⟨rfl,rfl⟩:=off_inj h2 e1 h3 e3 e4;rw[h2]at e1;cases e1;exact e2
  ·rw[if_neg hv];unfold MayP at h1;rw[if_neg hi0]at h1;obtain⟨x,x1,x2,x3⟩:=h1;obtain⟨k1,po1,y1,f1,rfl,f3⟩:=(hset x).1 x2;have hfo:=List.getElem?_eq_getElem (l:=p.follow) (i:=off l k1+y1) (by rw[hpo.ok.fl];exact x1);have hD:p.follow.getD (off l k1+y1) []=p.follow[off l k1+y1]'(by rw[hpo.ok.fl];exact x1):=by rw[List.getD_eq_getElem?_getD,hfo];rfl
   rw[hD]at x3;obtain⟨k2,po2,y2,z2,g1,g2,g3,g4,g5,g6⟩:=(hpo.fol _ _ hfo _).1 x3;have hy1:=DP_lt f3;obtain⟨rfl,rfl⟩:=off_inj f1 g1 hy1 g2 g3;rw[f1]at g1;cases g1;obtain⟨rfl,rfl⟩:=off_inj h2 f1 h3 g5 g6;rw[h2]at f1;cases f1;exact⟨y1,f3,g4⟩
 ·rintro⟨k,po,y,h2,rfl,h3⟩;obtain⟨h4,h5⟩:=DP_snoc.1 h3;have hy:=takesB_lt h5;refine⟨?_,k,po,y,h2,hy,h5,rfl⟩;rcases hi with⟨rfl,rfl⟩|⟨hi0,hv,hset⟩
  ·rw[if_pos rfl]at h4
   show hs p.first (off l k+y)=true
   exact(hpo.first _).2 ⟨k,po,y,h2,h4,hy,rfl⟩
  ·rw[if_neg hv]at h4;obtain⟨x,x1,x2⟩:=h4;have hxl:=DP_lt x1;have hoff:=off_lt h2 hxl;have hN:p.N=tot l:=hpo.N;unfold MayP;rw[if_neg hi0];refine⟨off l k+x,by omega,(hset _).2 ⟨k,po,x,h2,rfl,x1⟩,?_⟩;have hfo:=List.getElem?_eq_getElem (l:=p.follow) (i:=off l k+x) (by rw[hpo.ok.fl];omega);have hD:p.follow.getD (off l k+x) []=p.follow[off l k+x]'(by rw[hpo.ok.fl];omega):=by rw[List.getD_eq_getElem?_getD,hfo];rfl
   rw[hD];exact(hpo.fol _ _ hfo _).2 ⟨k,po,x,y,h2,hxl,rfl,x2,hy,rfl⟩
theorem set_word(hpo:PpOf l p)(hmk:s.Mk p a0): ∀(k:Nat) ws,1<=k->s.alls[k]?=some ws-> ∃w,w≠[]/\Byt w/\SetW l w ws:=by
 intro k
 induction k using Nat.strongRecOn with
 |_ k ih=>
  intro ws hk hw;obtain⟨j,c,h1,h2,h3⟩:=hmk.from' k ws hk hw
  by_cases hj:j=0
  ·subst hj;refine⟨[]++[c],by simp,fun d hd=>by simp at hd;omega,fun g=>(h3.2 g).trans (may_iff hpo (.inl ⟨rfl,rfl⟩) h2 g)⟩
  ·have hjl:j<s.alls.length:=by have:=(List.getElem?_eq_some_iff.1 hw).1;omega
   have hx:=List.getElem?_eq_getElem hjl;have hD:s.alls.getD j []=s.alls[j]:=by rw[List.getD_eq_getElem?_getD,hx];rfl
   obtain⟨w,w1,w2,w3⟩:=ih j h1 _ (by omega) hx;refine⟨w++[c],by simp,fun d hd=>?_,fun g=>(h3.2 g).trans (may_iff hpo (.inr ⟨hj,w1,by rw[hD];exact w3⟩) h2 g)⟩;rcases List.mem_append.1 hd with hd|hd
   ·exact w2 d hd
   ·have:d=c:=by simpa using hd
    omega
end
theorem alive13_run:isT (F13 3000 (CLV 3000 30) h00)=true:=by kernel_rfl
noncomputable def CLU(n d:Nat):CL:=toldOr 13 (.bool true) (CLV n d)
theorem CLU_ok(n d:Nat):OkCL Try.prog (CLU n d):=by
 obtain⟨k,hk⟩:=isT_ok alive13_run;have:=(S13 _ (CLV_ok _ _)).c0 hk;refine toldOr_ok (CLV_ok n d) this.1.1 rfl ?_;have hc:=this.1.2;have h0:h00.abs=[]:=rfl;rw[h0]at hc;exact hc.mono fun u k hq=>hq.1
theorem told13{n d:Nat}{h:PH}:pcall (CLU n d 13 [] h)=some (.bool true):=rfl
theorem clu25{n d:Nat}{v:Value}{h:PH}:CLU n d 25 [v] h=CLV n d 25 [v] h:=rfl
theorem clu53{n d:Nat}{v:Value}{h:PH}:CLU n d 53 [v] h=CLV n d 53 [v] h:=rfl
theorem clu54{n d:Nat}{u v:Value}{h:PH}:CLU n d 54 [u,v] h=CLV n d 54 [u,v] h:=rfl
theorem clu55{n d:Nat}{u v:Value}{h:PH}:CLU n d 55 [u,v] h=CLV n d 55 [u,v] h:=rfl
theorem clu109{n d:Nat}{u v:Value}{h:PH}:CLU n (d+1) 109 [u,v] h=F109 n (CLV n d) u v h:=rfl
theorem clu107{n d:Nat}{v:Value}{h:PH}:CLU n (d+1) 107 [v] h=F107 n (CLV n d) v h:=rfl
theorem clv107{n d:Nat}{v:Value}{h:PH}:CLV n (d+1) 107 [v] h=F107 n (CLV n d) v h:=rfl
theorem clu99{n d:Nat}{u v:Value}{h:PH}:CLU n (d+1) 99 [u,v] h=F99 n (CLV n d) u v h:=rfl
section
variable {Q:Value->PH->Prop}{n:Nat}{cl:CL}{h h0:PH}{S:Vw}{m:OM}{rows:Rws}{K2:Value->PH->R}
def LsZ(S:Vw)(v:Value)(ls:List (List Int)):Prop:= ∃ws,SlV S v ws/\ws.length=ls.length/\ ∀(i:Nat) l,ls[i]?=some l-> ∃w,ws[i]?=some w/\SlV S w (zv l)
end
def rT:Rdr ByteArray:=⟨1,fun _ t es=>es=[.string t],fun _ h=>h,fun h=>by rw[h];rfl,fun h=>by rw[h];rfl⟩
section
open Go.ChangeShapes Go.WideShapes
end
theorem RdV.tlen{V:Vw}{v:Value}{l:List ByteArray}(r:RdV rT V v l):xLenS v=some (.int .i64 (l.length:Nat)):=by
 rcases r with⟨rfl,a,c,rfl⟩|⟨b,o,c,cs,rfl,_⟩<;>simp
theorem RdV.tat{V:Vw}{v:Value}{l:List ByteArray}(r:RdV rT V v l){i:Nat}{t:ByteArray}(hi:l[i]?=some t): ∃b o cs,xIdxS 1 v (.int .i64 (i:Nat))=some (.pointer (some ⟨b,o,none⟩))/\V b=some cs/\cs[o]?=some (.string t):=by
 have hlt:=(List.getElem?_eq_some_iff.1 hi).1;rcases r with⟨rfl,_⟩|⟨b,o,c,cs,rfl,h1,h2⟩
 ·simp at hi
 ·obtain⟨q1,q2⟩:=h2 i t hi;have q1:o+i*1+1<=cs.length:=q1;have q2:(cs.drop (o+i*1)).take 1=[.string t]:=q2;refine⟨b,o+i,cs,by rw[xIdxS_at (by omega) (by omega)];simp,h1,?_⟩;have:=congrArg (fun l=>l[0]?) q2;simp only[List.getElem?_take,List.getElem?_drop]at this;simpa using this
end Go.Am
namespace Go.Am
open Go Go.RowKit Go.Proofs
def isSl(v:Value):Prop:=v=nils\/ ∃b o n c,v= .slice (some ⟨b,o,none⟩) n c
theorem SlV.isSl{V:Vw}{v:Value}{vs:List Value}(h:SlV V v vs):isSl v:=by
 rcases h with⟨_,rfl⟩|⟨b,o,c,cs,rfl,_⟩
 ·exact .inl rfl
 ·exact .inr ⟨_,_,_,_,rfl⟩
theorem SlC.isSl{V:Vw}{sz k:Nat}{v:Value}{cells:List Value}(h:SlC V sz v k cells):isSl v:=by
 rcases h with⟨_,_,rfl⟩|⟨b,o,c,cs,rfl,_⟩
 ·exact .inl rfl
 ·exact .inr ⟨_,_,_,_,rfl⟩
theorem bs24{a c d e:Value}{b:Bool}(ha:isSl a)(hc:isSl c)(hd:isSl d)(he:isSl e):bsRow Try.prog 24 1 [(0,.agg ⟨[a,.bool b,c,d,e]⟩)]=some (5,[a,.bool b,c,d,e]):=by
 rcases ha with rfl|⟨_,_,_,_,rfl⟩<;>rcases hc with rfl|⟨_,_,_,_,rfl⟩<;>rcases hd with rfl|⟨_,_,_,_,rfl⟩<;>rcases he with rfl|⟨_,_,_,_,rfl⟩<;>kernel_rfl
theorem bsPo{V:Vw}{po:Po}{ps:List Value}(h:PoV V po ps):bsRow Try.prog 24 1 [(0,.agg ⟨ps⟩)]=some (5,ps):=by
 obtain⟨sv,fv,lv,wv,ws,rfl,q1,q2,q3,q4,_⟩:=h.h;exact bs24 q1.isSl q2.isSl q3.isSl q4.isSl
theorem ai24:appInfo Try.prog #[24,24]=some (5,104):=by kernel_rfl
def PoG(po:Po):Prop:= ∃x:Re,po=poOf x/\x.sets.length<=150/\po.In
theorem PoG.ok{po:Po}(h:PoG po):PoB po:=by
 obtain⟨x,rfl,h1,h2⟩:=h;have hs:(poOf x).sets.length=x.sets.length:=rfl;refine⟨h2,by rw[hs];unfold poOf;simp,fun y hy=>?_,fun w hw y hy=>?_,by omega⟩
 ·rw[hs];exact(mem_srt.1 hy).1
 ·unfold poOf at hw;simp only[List.mem_map]at hw;obtain⟨i,_,rfl⟩:=hw;rw[hs];exact(mem_srt.1 hy).1
theorem tot_le: ∀{l:List Po},(∀po∈l,PoG po)->tot l<=l.length*150
 | [],_=>by simp[tot]
 |po::l,h=>by
  have h1:=tot_le (l:=l) fun p hp=>h p (.tail _ hp);obtain⟨x,rfl,h2,_⟩:=h po (.head _);have hs:(poOf x).sets.length=x.sets.length:=rfl
  show(poOf x).sets.length+tot l<=(l.length+1)*150
  omega
section
variable {Q:Value->PH->Prop}{n:Nat}{cl:CL}{h h0:PH}{S:Vw}{m:OM}{rows:Rws}{K2:Value->PH->R}
def PatQ(h0:PH)(S:Vw)(k:Nat)(v:Value)(h1:PH):Prop:= ∃S',Vw.le S S'/\Sl h0 h1 S' OM.emp []/\(v= .tuple ⟨[nils,ff]⟩\/ ∃pv l,v= .tuple ⟨[pv,tt]⟩/\PoL S' pv l/\l.length=k/\ ∀po∈l,PoG po)
end
theorem c18{n:Nat}{cl:CL}{k:IntKind}{z:Int}{h:PH}:pcall (F18 n cl (.int k z) h)=some (.int k z):=rfl
theorem DfV.agg{V:Vw}{v:Value}{d:Dfa}(h:DfV V v d): ∃nv av,v= .agg ⟨[nv,av]⟩/\nv.oneCell'=true/\av.oneCell'=true:=by
 obtain⟨nv,av,vs,rfl,a1,_,_,a4⟩:=h;exact⟨nv,av,rfl,a1.one,a4.one⟩
theorem one2{a b:Value}(ha:a.oneCell'=true)(hb:b.oneCell'=true):oneCells [a,b]=true:=by unfold oneCells;simp[ha,hb]
section
variable {n:Nat}{h h0:PH}{S:Vw}
end
end Go.Am
namespace Go.Am
open Go Go.RowKit Go.Proofs Go.ChangeShapes Go.WideShapes
end Go.Am
namespace Go.Am
open Go Go.RowKit Go.Proofs
def bt(t:ByteArray)(i:Nat):Nat:=if h:i<t.size then(t[i]'h).toNat else 0
def Ltr(c:Nat):Prop:=97<=c/\c<=122
def Pl(t:ByteArray):Prop:= ∀i,i<t.size->Ltr (bt t i)
theorem ai9x{t:ByteArray}{a:Nat}(h:a<t.size):aindex Try.prog 9 (.string t) (.int .i64 (a:Nat))=some (.int .u8 (bt t a:Nat)):=by
 unfold aindex bt;rw[Try.underlying9];simp[h]
def oneY(c:Nat):Int:=IntKind.u64.wrap ((Nat.lor (bitN .u64 0) (bitN .u64 (IntKind.u64.wrap (Int.mul (.ofNat 1) (.ofNat (Nat.pow 2 (c % 64)))))):Nat):Int)
def setL(c:Nat):List Int:=[0,oneY c,0,0]
theorem setL_all:((List.range 26).all fun i=>(List.range 256).all fun x=>hasB (setL (i+97)) x==decide (x=i+97))=true:=by kernel_rfl
theorem setL_has{c x:Nat}(hc:Ltr c)(hx:x<256):hasB (setL c) x=decide (x=c):=by
 have h:=List.all_eq_true.1 (List.all_eq_true.1 setL_all (c-97) (List.mem_range.2 (by unfold Ltr at hc;omega))) x (List.mem_range.2 hx);have e:c-97+97=c:=by unfold Ltr at hc;omega
 rw[e]at h;exact eq_of_beq h
def leafL(c:Nat):Re:=.mk 1 (setL c) []
section
variable {Q:Value->PH->Prop}{n:Nat}{cl:CL}{h h0:PH}{S:Vw}{m:OM}{rows:Rws}{br a e b b1 b2:Nat}{t:ByteArray}
theorem c83x[OkH h](hr:h.cells br=some [.string t,.int .i64 (a:Nat),.int .i64 (e:Nat),.int .i64 (b:Nat)]){c:Int}:pcall (F83 n cl (.pointer (some ⟨br,0,none⟩)) (.int .u8 c) h)=some (.bool (decide (a<t.size/\((bt t a:Nat):Int)=c))):=by
 have st:=Sl.start h (S:=h.cells) (Vw.le.refl _);have l1:xLd (.pointer (some ⟨br,1,none⟩)) h=some (.int .i64 (a:Nat)):=st.ldS hr rfl;have l0:xLd (.pointer (some ⟨br,0,none⟩)) h=some (.string t):=st.ldS hr rfl;have h2:=c56 (n:=n) (cl:=cl) (h:=h.fzn) hr
 by_cases ha:t.size<=a
 ·refine pcall_fr (h:=h) (S:=h.cells) ?_ rfl;unfold Fr F83;have d:decide (t.size<=a)=true:=by simp[ha]
  simp[h2,d,ha];exact Ret.of ⟨⟨[],st⟩,by simp;omega⟩
 ·have hi:=ai9x (t:=t) (a:=a) (by omega);refine pcall_fr (h:=h) (S:=h.cells) ?_ rfl;unfold Fr F83;simp[h2,ha,l1,l0,hi];exact Ret.of ⟨⟨[],st⟩,by simp;omega⟩
theorem c83n[OkH h](hp:Pl t)(hr:h.cells br=some [.string t,.int .i64 (a:Nat),.int .i64 (e:Nat),.int .i64 (b:Nat)]){c:Int}(hc:c<97\/122<c):pcall (F83 n cl (.pointer (some ⟨br,0,none⟩)) (.int .u8 c) h)=some (.bool false):=by
 rw[c83x hr];have: ¬(a<t.size/\((bt t a:Nat):Int)=c):=fun⟨h1,h2⟩=>by
  have:=hp a h1;unfold Ltr at this;omega
 simp[this]
theorem f133x[OkH h](hS:Vw.le S h.cells){c:Nat}(hc:Ltr c):Fr h S (F133 n cl (.agg ⟨u64s [0,0,0,0]⟩) (.int .u8 (c:Nat)) h) fun v _=>v= .agg ⟨u64s (setL c)⟩:=by
 unfold Ltr at hc;unfold Fr F133;refine Ret.lbox (Sl.start h hS) fun h1 b1 st1=>?_;have st1:Sl h h1 S OM.emp [(b1,.row .own 1 (u64s [0,0,0,0]))]:=st1;refine Ret.lalloc st1 zc54' fun h2 b2 st2=>?_;have hq:c / 64=1:=by omega
 have e1:xShr (.int .u8 (c:Nat)) (.int .u64 (.ofNat 6))=some (.int .u8 ((c / 64:Nat):Int)):=by
  have:=xShr_ex (k:=.u8) (k':=.u64) (x:=c) (s:=6) (by decide);exact this
 rw[hq]at e1;have hj:1<4:=by omega
 have l1:xLd (.pointer (some ⟨b1,0+1*1,none⟩)) h2=some (.int .u64 0):=st2.ld (.tail _ (.head _)) rfl;have e2:=xShl_ex (k:=.u64) (k':=.u64) (x:=.ofNat 1) (s:=c % 64) (by show c % 64<=64;omega);simp only[e1,vb_some,xIdxA_at' hj,l1,xBit63 (show c<256 by omega),xConvI_i',wr64u (show c % 64<18446744073709551616 by omega),e2,xBit_ex];refine Ret.lst1 st2 1 rfl rfl (by simp[u64s]) rfl fun h3 st3=>?_;have st3:Sl h h3 S OM.emp [(b2,.row .own 1 [.int .u64 0,.int .u64 0,.int .u64 0,.int .u64 0]),(b1,.row .own 1 (u64s (setL c)))]:=st3;have hl':(u64s (setL c)).length=4:=rfl;have la:xLdA 4 (.pointer (some ⟨b1,0,none⟩)) h3=some (.agg ⟨u64s (setL c)⟩):=st3.ldA (.tail _ (.head _)) (by rw[List.drop_zero, <-hl',List.take_length]) (by omega);simp only[la,vb_some];refine Ret.lstA st3 0 rfl rfl hl' (by simp) (oneCells_u64s _) fun h4 st4=>?_;rw[setsL_all (by rw[hl'];rfl)]at st4;have st4:Sl h h4 S OM.emp [(b2,.row .own 1 (u64s (setL c))),(b1,.row .own 1 (u64s (setL c)))]:=st4;have lb:xLdA 4 (.pointer (some ⟨b2,0,none⟩)) h4=some (.agg ⟨u64s (setL c)⟩):=st4.ldA (.head _) (by rw[List.drop_zero, <-hl',List.take_length]) (by omega);simp only[lb,vb_some];exact Fr.ret st4 rfl
theorem c133x[OkH h]{c:Nat}(hc:Ltr c):pcall (F133 n cl (.agg ⟨u64s [0,0,0,0]⟩) (.int .u8 (c:Nat)) h)=some (.agg ⟨u64s (setL c)⟩):=pcall_fr (f133x (n:=n) (cl:=cl) (h:=h) (Vw.le.refl _) hc) plain_u64s
def lefE(c:Nat):List Value:=.int .i64 ((1:Nat):Int)::(u64s (setL c)++[nils])
theorem lefE_ok{V:Vw}{c:Nat}:ReE V (leafL c) (lefE c):=leafS rfl
theorem f124x[OkH h](hS:Vw.le S h.cells){c:Nat}(hc:Ltr c):Fr h S (F124 n cl (.int .u8 (c:Nat)) h) fun v _=>v= .agg ⟨lefE c⟩:=by
 unfold Fr F124;refine Ret.lalloc (Sl.start h hS) zc57 fun h1 b1 st1=>?_;refine Ret.lalloc st1 zc54' fun h2 b2 st2=>?_;have la:xLdA 4 (.pointer (some ⟨b2,0,none⟩)) h2=some (.agg ⟨u64s [0,0,0,0]⟩):=st2.ldA (.head _) rfl (by simp);have:=st2.ok;have hp:=c133x (n:=n) (cl:=cl) (h:=h2.fzn) hc;simp only[la,vb_some,hp,vN_eq];have hab:=ab57s (s:=setL c) rfl;simp only[hab,vb_some];have hl:(lefE c).length=6:=rfl;have hone:oneCells (lefE c)=true:=(lefE_ok (V:=S) (c:=c)).one;refine Ret.lstA st2 1 rfl rfl hl (by simp) hone fun h3 st3=>?_;rw[setsL_all (by rfl)]at st3;have st3:Sl h h3 S OM.emp [(b2,.row .own 1 [.int .u64 0,.int .u64 0,.int .u64 0,.int .u64 0]),(b1,.row .own 1 (lefE c))]:=st3;have lb:xLdA 6 (.pointer (some ⟨b1,0,none⟩)) h3=some (.agg ⟨lefE c⟩):=st3.ldA (.tail _ (.head _)) (by rw[List.drop_zero, <-hl,List.take_length]) (by omega);simp only[lb,vb_some];exact Fr.ret st3 rfl
theorem c126x{c:Nat}(hc:Ltr c):pcall (F126 n cl (.int .u8 (c:Nat)) h)=some (.bool false):=by
 unfold Ltr at hc;have key:F126 n cl (.int .u8 (c:Nat)) h=some (.bool false,h):=by
  unfold F126;have d: ∀k:Nat,(k<97\/122<k)->decide (((c:Nat):Int)=Int.ofNat k)=false:=fun k hk=>by simp;omega
  simp only[xEq_i,vb_some,orS,d 124 (by omega),d 42 (by omega),d 43 (by omega),d 63 (by omega),d 40 (by omega),d 41 (by omega),d 91 (by omega),d 93 (by omega),Bool.or_false]
 rw[key];rfl
def PX(S:Vw)(t:ByteArray)(br:Nat)(h0:PH)(rows:Rws)(a' b:Nat)(x:Re)(v:Value)(h':PH):Prop:=
 ∃S' es,VwN h0 S S'/\Sl h0 h' S' (RM br t a' 0 b) rows/\v= .agg ⟨es⟩/\ReE S' x es
theorem c110x(ht:t.size<1000000)(hp:Pl t){dv:Value}(hlt:a<t.size)(st:Sl h0 h S (RM br t a 0 b) rows):Ret (F110 n cl (pt br) dv h) (PX S t br h0 rows (a+1) b (leafL (bt t a))):=by
 have hL:=hp a hlt;have hL':=hL;unfold Ltr at hL';unfold F110;refine Ret.lalloc st zc57 fun h1 b1 st1=>?_;have st1:Sl h0 h1 S (RM br t a 0 b) ([]++(b1,.row .own 1 z6)::rows):=st1;have l1:xLd (.pointer (some ⟨br,1,none⟩)) h1=some (.int .i64 (a:Nat)):=st1.ldB RM_at rfl;have l0:xLd (.pointer (some ⟨br,0,none⟩)) h1=some (.string t):=st1.ldB RM_at rfl;have hi:=ai9x (t:=t) (a:=a) hlt;have hw:IntKind.i64.wrap ((a:Int)+((1:Nat):Int))=((a+1:Nat):Int):=by rw[wrap_in (by omega) (by omega)];omega
 generalize bt t a=c at*;have d: ∀k:Nat,(k<97\/122<k)->decide (((c:Nat):Int)=Int.ofNat k)=false:=fun k hk=>by simp;omega
 have:=st1.ok;have hs:=c126x (n:=n) (cl:=cl) (h:=h1.fzn) hL;simp only[xNil_p,xFld_p,Nat.zero_add,vb_some,l1,l0,hi,xEq_i,d 40 (by omega),bite_f,F110_17,d 46 (by omega),F110_16,d 92 (by omega),F110_15,d 91 (by omega),F110_14,hs,F110_13,vN_eq,xAdd_i,hw];refine Ret.step st1 fun h2 st2=>?_;have:=st2.ok;refine Ret.lfcall st2 (f124x (n:=n) (cl:=cl) (h:=h2.fzn) (Vw.le.refl _) hL) fun v h3 rows1 hv st3=>?_;subst hv;have st3:Sl h0 h3 S (RM br t (a+1) 0 b) (rows1++(b1,.row .own 1 z6)::rows):=st3;refine Ret.put6x st3 rfl lefE_ok fun h4 st4=>?_;exact⟨S,_,VwN.refl,st4,rfl,lefE_ok⟩
theorem c102x(ht:t.size<1000000)(hn:4611686018427387904<=n)(hp:Pl t){dv:Value}(hlt:a<t.size)(st:Sl h0 h S (RM br t a 0 b) rows):Ret (F102 n cl (pt br) dv h) (PX S t br h0 rows (a+1) b (leafL (bt t a))):=by
 unfold F102;refine Ret.lalloc st zc57 fun h1 b1 st1=>?_;refine Ret.hb (c110x ht hp hlt st1) fun v h2 ⟨S2,es,le,st2,hv,he⟩=>?_;subst hv;refine Ret.lalloc st2 zc57 fun h3 b3 st3=>?_;refine Ret.lstA st3 0 rfl rfl he.len (by simp) he.one fun h4 st4=>?_;rw[setsL_all (by rw[he.len];rfl)]at st4;have st4:Sl h0 h4 S2 (RM br t (a+1) 0 b) ((b3,.row .own 1 es)::(b1,.row .own 1 z6)::rows):=st4;obtain⟨q,rfl⟩: ∃r,n=r+1:=⟨n-1,by omega⟩;rw[lp_succ];have l2:xLd (.pointer (some ⟨br,2,none⟩)) h4=some (.int .i64 ((0:Nat):Int)):=st4.ldB RM_at rfl;have hl:=he.len;have la:xLdA 6 (pt b3) h4=some (.agg ⟨es⟩):=st4.ldA (.head _) (by rw[List.drop_zero, <-hl,List.take_length]) (by omega);have fin:Ret (F102_5 (q+1) cl (pt b3) (pt b1) h4) (PX S t br h0 rows (a+1) b (leafL (bt t a))):=by
  simp only[F102_5,la,vb_some];refine Ret.put6x (pre:=[(b3,.row .own 1 es)]) st4 rfl he fun h8 st8=>?_;exact⟨S2,es,le,st8,rfl,he⟩
 have d:decide (((0:Nat):Int)=((0:Nat):Int))=true:=rfl;have:=st4.ok;have p1:pcall (F83 (q+1) cl (pt br) (.int .u8 42) h4.fzn)=some (.bool false):=c83n hp st4.rd (by omega);have p2:pcall (F83 (q+1) cl (pt br) (.int .u8 43) h4.fzn)=some (.bool false):=c83n hp st4.rd (by omega);have p3:pcall (F83 (q+1) cl (pt br) (.int .u8 63) h4.fzn)=some (.bool false):=c83n hp st4.rd (by omega);simp only[F102_7,F102_6,ucons_cons,xNil_p,xFld_p,Nat.zero_add,vb_some,l2,vN_eq,xEq_i,d,isB_t,gd_true];simpa[gd_some',p1,p2,p3]using fin
end
def plx(t:ByteArray)(a:Nat):List Re:=(List.range a).map fun i=>leafL (bt t i)
theorem plx_len{t:ByteArray}{a:Nat}:(plx t a).length=a:=by simp[plx]
theorem plx_succ{t:ByteArray}{a:Nat}:plx t (a+1)=plx t a++[leafL (bt t a)]:=by simp[plx,List.range_succ]
def wordR(t:ByteArray):Re:=if t.size=1 then leafL (bt t 0)else .mk 2 zs4 (plx t t.size)
section
variable {Q:Value->PH->Prop}{n:Nat}{cl:CL}{h h0:PH}{S:Vw}{m:OM}{rows:Rws}{br a e b b1 b2:Nat}{t:ByteArray}
theorem end82x(ht:t.size<=200)(hpos:0<t.size){b1:Nat}{S0:Vw}{v:Value}{cells:List Value}{ex:Rws}(le:VwN h0 S0 S)(st:Sl h0 h S (RM br t t.size 0 b) (ex++(b1,.row .own 1 z6)::rows))(g:Ga v t.size cells ex)(hc:KidsC S (plx t t.size) cells):
  Ret (F82_5 n cl v (pt b1) h) (PX S0 t br h0 rows t.size b (wordR t)):=by
 have hlen:=g.len;simp only[F82_5,hlen,vb_some,vN_eq,xEq_i];obtain⟨S',le',st',hv⟩:=g.kids st (plx_len (t:=t) (a:=t.size)) (show t.size<=1000 by omega) hc;have st':Sl h0 h S' (RM br t t.size 0 b) ([]++(b1,.row .own 1 z6)::rows):=st';have d:decide (((t.size:Nat):Int)=((0:Nat):Int))=false:=decide_eq_false (by omega);simp only[d,bite_f,F82_4,vN_eq,xEq_i,vb_some]
 by_cases hk1:t.size=1
 ·have d1:decide (((t.size:Nat):Int)=((1:Nat):Int))=true:=by simp[hk1]
  have hx:plx t t.size=[leafL (bt t 0)]:=by rw[hk1];rfl
  rw[hx]at hv;obtain⟨p,es,e1,e2,e3⟩:=hv.only st';simp only[d1,bite_t,F82_2,vN_eq,e1,e2,vb_some];refine Ret.put6x st' rfl e3 fun h8 st8=>?_;exact⟨S',es,le.trans le',st8,rfl,by unfold wordR;rw[if_pos hk1];exact e3⟩
 ·have d1:decide (((t.size:Nat):Int)=((1:Nat):Int))=false:=decide_eq_false (by omega);obtain⟨b',n',c',rfl⟩:=g.shape (by omega);simp only[d1,bite_f,F82_3,vN_eq];refine Ret.vb ab57' ?_;have he:ReE S' (.mk ((2:Nat):Int) zs4 (plx t t.size)) [.int .i64 ((2:Nat):Int),.int .u64 0,.int .u64 0,.int .u64 0,.int .u64 0,.slice (some ⟨b',0,none⟩) n' c']:=ReE_mk.2 ⟨_,rfl,rfl,hv⟩;refine Ret.put6x st' rfl he fun h8 st8=>?_;exact⟨S',_,le.trans le',st8,rfl,by unfold wordR;rw[if_neg hk1];exact he⟩
theorem loop82x(ht:t.size<=200)(hpos:0<t.size)(hn:4611686018427387904<=n)(hp:Pl t){b1:Nat}{S0:Vw}{dv:Value}:
  ∀(k q a:Nat)(S:Vw)(h:PH)(v:Value)(cells:List Value)(ex:Rws),t.size-a<=k->k<q->VwN h0 S0 S->Ga v a cells ex->KidsC S (plx t a) cells->a<=t.size->
   Sl h0 h S (RM br t a 0 b) (ex++(b1,.row .own 1 z6)::rows)->Ret (lp q (F82_7 n cl) [pt br,dv,pt b1,v] h) (PX S0 t br h0 rows t.size b (wordR t)):=by
 intro k
 induction k with
 |zero=>
  intro q a S h v cells ex h1 h2 le g hc h3 st;obtain⟨q,rfl⟩: ∃r,q=r+1:=⟨q-1,by omega⟩;obtain rfl:a=t.size:=by omega
  rw[lp_succ];have l2:xLd (.pointer (some ⟨br,2,none⟩)) h=some (.int .i64 ((0:Nat):Int)):=st.ldB RM_at rfl;have dd:decide (((0:Nat):Int)=((0:Nat):Int))=true:=rfl;have fin:=end82x (n:=n) (cl:=cl) ht hpos le st g hc;have:=st.ok;have hov:=c56 (n:=n) (cl:=cl) (h:=h.fzn) st.rd;have d2:decide (t.size<=t.size)=true:=by simp
  simp only[F82_7,F82_6,ucons_cons,xNil_p,xFld_p,Nat.zero_add,vb_some,l2,vN_eq,xEq_i,decide_true,isB_t,gd_true,hov,d2,xNot_b,xPick_t];simpa[gd_some']using fin
 |succ k ih=>
  intro q a S h v cells ex h1 h2 le g hc h3 st
  by_cases hlt:a<t.size
  ·obtain⟨q,rfl⟩: ∃r,q=r+1:=⟨q-1,by omega⟩;rw[lp_succ];generalize hL:lp q (F82_7 n cl)=LL;have l2:xLd (.pointer (some ⟨br,2,none⟩)) h=some (.int .i64 ((0:Nat):Int)):=st.ldB RM_at rfl;have dd:decide (((0:Nat):Int)=((0:Nat):Int))=true:=rfl;have:=st.ok;have hov:=c56 (n:=n) (cl:=cl) (h:=h.fzn) st.rd;have p1:pcall (F83 n cl (pt br) (.int .u8 124) h.fzn)=some (.bool false):=c83n hp st.rd (by omega);have p2:pcall (F83 n cl (pt br) (.int .u8 41) h.fzn)=some (.bool false):=c83n hp st.rd (by omega);have go:Ret (F82_0 n cl (pt br) dv v LL (pt b1) h) (PX S0 t br h0 rows t.size b (wordR t)):=by
    simp only[F82_0];refine Ret.hb (c102x (dv:=dv) (by omega) hn hp hlt st) fun v' h4' ⟨S4,es,le4,st4,hv,he⟩=>?_;subst hv;refine Ret.gappA st4 g (bsRe he) he.len he.one (by omega) fun h5' v5 ex5 st5 g5=>?_;rw[<-hL];refine ih q (a+1) S4 h5' v5 _ ex5 (by omega) (by omega) (le.trans le4) g5 ?_ (by omega) st5;rw[plx_succ];exact KidsC.snoc' he (KidsC.mono le4.1 hc) (by rw[g.length,plx_len])
   have d2:decide (t.size<=a)=false:=by simp;omega
   simp only[F82_7,F82_6,ucons_cons,xNil_p,xFld_p,Nat.zero_add,vb_some,l2,vN_eq,xEq_i,decide_true,isB_t,gd_true,hov,d2,xNot_b,xPick_t];simpa[gd_some',p1,p2]using go
  ·exact ih q a S h v cells ex (by omega) (by omega) le g hc h3 st
theorem c55x(ht:t.size<=200)(hpos:0<t.size)(hn:4611686018427387904<=n)(hp:Pl t){dv:Value}(st:Sl h0 h S (RM br t 0 0 b) rows):Ret (F55 n cl (pt br) dv h) (PX S t br h0 rows t.size b (wordR t)):=by
 unfold F55;refine Ret.lalloc st zc57 fun h1 b1 st1=>?_;have hx82:Ret (F82 n cl (pt br) dv h1) (PX S t br h0 ((b1,.row .own 1 z6)::rows) t.size b (wordR t)):=by
  unfold F82;refine Ret.lalloc st1 zc57 fun h2 b2 st2=>?_;exact loop82x ht hpos hn hp t.size n 0 S h2 nils [] [] (by omega) (by omega) VwN.refl Ga.nil (by simp[KidsC,plx]) (Nat.zero_le _) st2
 refine Ret.hb hx82 fun v' h4' ⟨S4,es,le4,st4,hv,he⟩=>?_;subst hv;refine Ret.lbs st4 (bsRe he) fun h5 b5 st5=>?_;have hl:=he.len;have hkc:KidsC S4 [wordR t] es:=by
  unfold KidsC;rw[List.take_of_length_le (by omega)];exact⟨he,by unfold KidsC;trivial⟩
 obtain⟨q,rfl⟩: ∃r,n=r+1:=⟨n-1,by omega⟩;rw[lp_succ];have l2:xLd (.pointer (some ⟨br,2,none⟩)) h5=some (.int .i64 ((0:Nat):Int)):=st5.ldB RM_at rfl;have dd:decide (((0:Nat):Int)=((0:Nat):Int))=true:=rfl;have:=st5.ok;have p1:pcall (F83 (q+1) cl (pt br) (.int .u8 124) h5.fzn)=some (.bool false):=c83n hp st5.rd (by omega);have g:Ga (.slice (some ⟨b5,0,none⟩) 1 1) 1 es [(b5,.row .own 6 es)]:=.inr ⟨rfl,b5,rfl,rfl,hl⟩;have st5:Sl h0 h5 S4 (RM br t t.size 0 b) ([(b5,.row .own 6 es)]++(b1,.row .own 1 z6)::rows):=st5;have fin:Ret (F55_3 (q+1) cl (.slice (some ⟨b5,0,none⟩) 1 1) (pt b1) h5) (PX S t br h0 rows t.size b (wordR t)):=by
  have hlen:=g.len;simp only[F55_3,hlen,vb_some,vN_eq,xEq_i];obtain⟨S',le',st',hv⟩:=g.kids st5 (xs:=[wordR t]) rfl (by omega) hkc;have st':Sl h0 h5 S' (RM br t t.size 0 b) ([]++(b1,.row .own 1 z6)::rows):=st';have d1:decide (((1:Nat):Int)=((1:Nat):Int))=true:=rfl;obtain⟨p,es',e1,e2,e3⟩:=hv.only st';simp only[d1,bite_t,F55_1,vN_eq,e1,e2,vb_some];refine Ret.put6x st' rfl e3 fun h8 st8=>?_;exact⟨S',es',le4.trans le',st8,rfl,e3⟩
 simp only[F55_5,F55_4,ucons_cons,xNil_p,xFld_p,Nat.zero_add,vb_some,l2,vN_eq,xEq_i,decide_true,isB_t,gd_true];simpa[gd_some',p1]using fin
theorem c30x(hn:4611686018427387904<=n){D:Nat}(h55: ∀u v h,cl 55 [u,v] h=CLV n (D+1) 55 [u,v] h)(ht:t.size<=200)(hpos:0<t.size)(hp:Pl t)(st:Sl h0 h S OM.emp rows):
  Ret (F30 n cl (.string t) h) fun v h'=> ∃S' es p,VwN h0 S S'/\Sl h0 h' S' OM.emp rows/\v= .tuple ⟨[.agg ⟨es⟩,.int .i64 p,.int .i64 ((0:Nat):Int)]⟩/\ReE S' (wordR t) es:=by
 unfold F30;refine Ret.lalloc st zc57 fun h1 b1 st1=>?_;have st1:Sl h0 h1 S OM.emp ([]++(b1,.row .own 1 z6)::rows):=st1;simp only[xLenT_s,vb_some,vN_eq,xGt_i];have d:decide (((200:Nat):Int)<((t.size:Nat):Int))=false:=by simp;omega
 simp only[d,bite_f,F30_7];refine Ret.vb ab116 ?_;refine Ret.lbox st1 fun h2 br st2=>?_;have st2:Sl h0 h2 S OM.emp ((br,rdr t 0 0 0)::(b1,.row .own 1 z6)::rows):=st2;have st3:Sl h0 h2 S (RM br t 0 0 0) ((b1,.row .own 1 z6)::rows):=(st2.sink (i:=0) rfl).1;rw[vN_eq,h55,CLV55];refine Ret.hb (c55x ht hpos hn hp st3) fun v h4 ⟨S4,es,le4,st4,hv,he⟩=>?_;subst hv;refine Ret.lalloc st4 zc57 fun h5 b9 st5=>?_;refine Ret.lstA st5 0 rfl rfl he.len (by simp) he.one fun h6 st6=>?_;rw[setsL_all (by rw[he.len];rfl)]at st6;have st6:Sl h0 h6 S4 (RM br t t.size 0 0) ([(b9,.row .own 1 es)]++(b1,.row .own 1 z6)::rows):=st6;have l2:xLd (.pointer (some ⟨br,2,none⟩)) h6=some (.int .i64 ((0:Nat):Int)):=st6.ldB RM_at rfl;have dd:decide (((0:Nat):Int)=((0:Nat):Int))=true:=rfl;have:=st6.ok;have hov:=c56 (n:=n) (cl:=cl) (h:=h6.fzn) st6.rd;have d2:decide (t.size<=t.size)=true:=by simp
 simp only[jn_eq,F30_6,xNil_p,xFld_p,Nat.zero_add,vb_some,l2,vN_eq,xEq_i,decide_true,isB_t,gd_true,hov,d2,xNot_b,xPick_t,Bool.not_true,bite_f];have hE:OM.le OM.emp (RM br t t.size 0 0):=fun b o hb=>by cases hb
 have dn:(!decide (((0:Nat):Int)=((0:Nat):Int)))=false:=rfl;have hl:=he.len;have la:xLdA 6 (pt b9) h6=some (.agg ⟨es⟩):=st6.ldA (.head _) (by rw[List.drop_zero, <-hl,List.take_length]) (by omega);simp only[F30_5,ucons_cons,F30_3,xNil_p,xFld_p,Nat.zero_add,vb_some,l2,vN_eq,xNe_i,decide_true,Bool.not_true,bite_f,F30_2,la,xLenT_s];have st7:=st6.perm (rows':=(b1,.row .own 1 z6)::([(b9,.row .own 1 es)]++rows)) List.perm_middle;refine Ret.lstA st7 0 rfl rfl he.len (by simp[z6]) he.one fun h8 st8=>?_;rw[setsL_all (by rw[he.len];rfl)]at st8;have st8:Sl h0 h8 S4 (RM br t t.size 0 0) ((b1,.row .own 1 es)::([(b9,.row .own 1 es)]++rows)):=st8;have lb:xLdA 6 (pt b1) h8=some (.agg ⟨es⟩):=st8.ldA (.head _) (by rw[List.drop_zero, <-hl,List.take_length]) (by omega);simp only[lb,vb_some];exact Ret.of ⟨S4,es,_,le4,(st8.drop ((List.sublist_append_right _ _).trans (List.sublist_cons_self _ _))).weakM hE,rfl,he⟩
end
theorem max48{x:Int}:(if plainV.plainVs [(vM 0),(.int .i64 x)]then prun Try.prog (Builtin.max_ #[3,3] 3 ⟨[(vM 0),(.int .i64 x)]⟩)else none)=some (.int .i64 (if(-1:Int)<x then x else -1)):=by kernel_rfl
theorem xConvI_i{k k':IntKind}{x:Int}:xConvI k (.int k' x)=some (.int k (k.wrap x)):=by simp only[xConvI,mkI_eq,wr_eq]
def rowR(d:Dfa)(s:Int):Value:=if s= -1 then .tuple ⟨[.int .i64 (-1),ff]⟩else .tuple ⟨[.int .i64 (if(-1:Int)<dacc d s then dacc d s else -1),tt]⟩
section
variable {n:Nat}{cl:CL}{h h0:PH}{S:Vw}{m:OM}{rows:Rws}{dv bv:Value}{d:Dfa}
theorem c46[OkH h](hS:Vw.le S h.cells){s:Int}(hd:DfV S dv d)(al:d.acc.length=d.next.length):pcall (F46 n cl dv (.int .i64 s) h)=some (.bool (decide (0<=s/\s<(d.next.length:Int)))):=by
 refine pcall_fr (h:=h) (S:=S) ?_ rfl;obtain⟨nv,av,vs,rfl,a1,a2,a3,a4⟩:=hd;unfold Fr F46;refine Ret.lbox (Sl.start h hS) fun h1 x st1=>?_;have st1:Sl h h1 S OM.emp [(x,.row .own 1 [nv,av])]:=st1;have l0:xLd (.pointer (some ⟨x,0,none⟩)) h1=some nv:=st1.ld (.head _) rfl;have l1:xLd (.pointer (some ⟨x,1,none⟩)) h1=some av:=st1.ld (.head _) rfl;have n0:=a1.len;have n1:=a4.len;rw[a2]at n0;rw[zv_len,al]at n1
 by_cases c1:0<=s<;>by_cases c2:s<(d.next.length:Int)<;>simp[c1,c2,l0,l1,n0,n1]<;>exact Ret.of ⟨⟨_,st1⟩,rfl⟩
theorem c47[OkH h](hS:Vw.le S h.cells){k c:Nat}(hd:DfV S dv d)(hc:Canon d)(hk:k<d.next.length)(h256:c<256)(hl:d.next.length<1000000):pcall (F47 n cl dv (.int .i64 (k:Nat)) (.int .u8 (c:Nat)) h)=some (.int .i64 (dstep d (k:Nat) c)):=by
 refine pcall_fr (h:=h) (S:=S) ?_ rfl;have hd0:=hd;obtain⟨nv,av,vs,rfl,a1,a2,a3,a4⟩:=hd;unfold Fr F47;refine Ret.lbox (Sl.start h hS) fun h1 x st1=>?_;have st1:Sl h h1 S OM.emp [(x,.row .own 1 [nv,av])]:=st1;have okh:=st1.ok;have l0:xLd (.pointer (some ⟨x,0,none⟩)) h1=some nv:=st1.ld (.head _) rfl;have la:xLdA 2 (.pointer (some ⟨x,0,none⟩)) h1=some (.agg ⟨[nv,av]⟩):=st1.ldA (.head _) rfl (by simp);have hF: ∀s,pcall (F46 n cl (.agg ⟨[nv,av]⟩) (.int .i64 s) h1.fzn)=some (.bool (decide (0<=s/\s<(d.next.length:Int)))):=fun s=>c46 (h:=h1.fzn) (fun b cs e=>st1.leS b cs e) hd0 hc.al;have hr:=List.getElem?_eq_getElem hk;generalize d.next[k]=r at hr;have hrl:=hc.rl r (List.mem_of_getElem? hr);obtain⟨w,e1,e2⟩:=a3 k r hr;obtain⟨b1,o1,cs1,f1,f2,f3⟩:=a1.at (k:=.i64) e1;have l1:=st1.ldS f2 f3;have nr:=e2.len;rw[zv_len,hrl]at nr;have hx:=List.getElem?_eq_getElem (l:=r) (i:=c) (by omega);generalize hxt:r[c]'(by omega)=t at hx;obtain⟨b2,o2,cs2,g1,g2,g3⟩:=e2.at (k:=.u8) (zv_get hx);have l2:=st1.ldS g2 g3;have hds:dstep d (k:Nat) c=t:=by
  unfold dstep;rw[if_neg (by omega)];simp only[List.getD_eq_getElem?_getD,Int.toNat_natCast,hr,hx,Option.getD_some]
 have hw:IntKind.i64.wrap ((c:Nat):Int)=(c:Nat):=wrap_in (by omega) (by omega);have h0:decide (0<=((k:Nat):Int)/\((k:Nat):Int)<(d.next.length:Int))=true:=by simp;omega
 have h1':decide (((256:Nat):Int)<=((c:Nat):Int))=false:=by simp;omega
 simp only[la,vb_some,hF,h0,xNot_b,Bool.not_true,isB_f,Bool.not_false,gd_true,xConvI_i,hw,xFld_p,Nat.zero_add,l0,f1,l1,nr,xGe_i,h1',xPick_f,g1,l2];rcases hc.rng k c hk h256 with h|⟨j,hj,h⟩
 ·rw[hds]at h;subst h;have d2:decide (0<=(-1:Int)/\(-1:Int)<(d.next.length:Int))=false:=by simp
  simp only[d2,Bool.not_false,bite_t];exact Fr.ret st1 (by rw[hds];rfl)
 ·rw[hds]at h;subst h;have d2:decide (0<=((j:Nat):Int)/\((j:Nat):Int)<(d.next.length:Int))=true:=by simp;omega
  simp only[d2,Bool.not_true,bite_f,F47_0,xFld_p,Nat.zero_add,l0,vb_some,f1,l1,g1,l2];exact Fr.ret st1 (by rw[hds])
theorem c48[OkH h](hS:Vw.le S h.cells){k:Nat}(hd:DfV S dv d)(hc:Canon d)(hk:k<d.next.length):pcall (F48 n cl dv (.int .i64 (k:Nat)) h)=some (.int .i64 (if(-1:Int)<dacc d (k:Nat)then dacc d (k:Nat)else -1)):=by
 refine pcall_fr (h:=h) (S:=S) ?_ rfl;have hd0:=hd;obtain⟨nv,av,vs,rfl,a1,a2,a3,a4⟩:=hd;unfold Fr F48;refine Ret.lbox (Sl.start h hS) fun h1 x st1=>?_;have st1:Sl h h1 S OM.emp [(x,.row .own 1 [nv,av])]:=st1;have okh:=st1.ok;have l0:xLd (.pointer (some ⟨x,1,none⟩)) h1=some av:=st1.ld (.head _) rfl;have la:xLdA 2 (.pointer (some ⟨x,0,none⟩)) h1=some (.agg ⟨[nv,av]⟩):=st1.ldA (.head _) rfl (by simp);have hF: ∀s,pcall (F46 n cl (.agg ⟨[nv,av]⟩) (.int .i64 s) h1.fzn)=some (.bool (decide (0<=s/\s<(d.next.length:Int)))):=fun s=>c46 (h:=h1.fzn) (fun b cs e=>st1.leS b cs e) hd0 hc.al;have hal:=hc.al;have hr:=List.getElem?_eq_getElem (l:=d.acc) (i:=k) (by omega);generalize d.acc[k]'(by omega)=t at hr;obtain⟨b1,o1,cs1,f1,f2,f3⟩:=a4.at (k:=.i64) (zv_get hr);have l1:=st1.ldS f2 f3;have hda:dacc d (k:Nat)=t:=by
  unfold dacc;rw[if_neg (by omega)];simp only[List.getD_eq_getElem?_getD,Int.toNat_natCast,hr,Option.getD_some]
 have h0:decide (0<=((k:Nat):Int)/\((k:Nat):Int)<(d.next.length:Int))=true:=by simp;omega
 simp only[la,vb_some,hF,h0,xNot_b,Bool.not_true,bite_f,F48_0,xFld_p,Nat.zero_add,l0,f1,l1,max48];exact Fr.ret st1 (by rw[hda])
theorem loop20(hd:DfV S dv d)(hc:Canon d)(hl:d.next.length<1000000){bs:List Nat}(hb:BysV S bv bs)(hbs: ∀c∈bs,c<256)(hbl:bs.length<1000000): ∀(k q i s:Nat)(h:PH)(x:Nat),bs.length-i<=k->k<q->i<=bs.length->s<d.next.length->Sl h0 h S OM.emp ((x,.row .own 1 (cellsL dv))::rows)->
  Ret (lp q (F20_4 n cl) [.pointer (some ⟨x,0,none⟩),.int .i64 (s:Nat),bv,.int .i64 (bs.length:Nat),.int .i64 (i:Nat)] h) fun v h1=> ∃rows,Sl h0 h1 S OM.emp rows/\v=rowR d (drun d (s:Nat) (bs.drop i)):=by
 have hdv: ∃nv av,dv= .agg ⟨[nv,av]⟩:=by obtain⟨nv,av,vs,rfl,_⟩:=hd;exact⟨nv,av,rfl⟩
 obtain⟨nv,av,rfl⟩:=hdv;intro k
 induction k with
 |zero=>
  intro q i s h x g1 g2 g3 g4 st;obtain⟨q,rfl⟩: ∃r,q=r+1:=⟨q-1,by omega⟩;have okh:=st.ok;rw[lp_succ];have dc:decide (((i:Nat):Int)<((bs.length:Nat):Int))=false:=by simp;omega
  have st':Sl h0 h S OM.emp ((x,.row .own 1 [nv,av])::rows):=st;have la:xLdA 2 (.pointer (some ⟨x,0,none⟩)) h=some (.agg ⟨[nv,av]⟩):=st'.ldA (.head _) rfl (by simp);have hF:=c48 (n:=n) (cl:=cl) (h:=h.fzn) (fun b cs e=>st.leS b cs e) hd hc g4;simp only[F20_4,F20_3,ucons_cons,xLt_i,vb_some,dc,bite_f,F20_2,la,hF];have hdr:bs.drop i=[]:=List.drop_eq_nil_of_le (by omega);refine Ret.of ⟨_,st,?_⟩;rw[hdr]
  show _=rowR d (s:Nat)
  unfold rowR;rw[if_neg (show ¬((s:Nat):Int)= -1 by omega)]
 |succ k ih=>
  intro q i s h x g1 g2 g3 g4 st
  by_cases hi:i<bs.length
  ·obtain⟨q,rfl⟩: ∃r,q=r+1:=⟨q-1,by omega⟩;have okh:=st.ok;rw[lp_succ];generalize hL:lp q (F20_4 n cl)=LL;have dc:decide (((i:Nat):Int)<((bs.length:Nat):Int))=true:=by simp;omega
   have st':Sl h0 h S OM.emp ((x,.row .own 1 [nv,av])::rows):=st;have la:xLdA 2 (.pointer (some ⟨x,0,none⟩)) h=some (.agg ⟨[nv,av]⟩):=st'.ldA (.head _) rfl (by simp);have hx:=List.getElem?_eq_getElem hi;have hdr:bs.drop i=bs[i]::bs.drop (i+1):=List.drop_eq_getElem_cons hi;rw[hdr,drun_cons];have hcm:=List.mem_of_getElem? hx;generalize bs[i]=c at hx hcm;have h256:=hbs c hcm;obtain⟨b1,o1,cs1,e1,e2,e3⟩:=(hb.slv (by intro e;rw[e]at hi;simp at hi)).at (k:=.i64) (x:=.int .u8 (c:Nat)) (i:=i) (by simp[bys,hx]);have l1:=st.ldS e2 e3;have hF:=c47 (n:=n) (cl:=cl) (h:=h.fzn) (fun b cs e=>st.leS b cs e) hd hc g4 h256 hl;simp only[F20_4,F20_3,ucons_cons,xLt_i,vb_some,dc,bite_t,F20_1,e1,l1,la,hF];rcases hc.rng s c g4 h256 with h|⟨j,hj,h⟩
   ·rw[h];have d1:xCmp ieq (.int .i64 (-1)) (vM 0)=some (.bool true):=rfl;simp only[d1,vb_some,bite_t];refine Ret.of ⟨_,st,?_⟩;rw[drun_neg];rfl
   ·rw[h];have d1:xCmp ieq (.int .i64 ((j:Nat):Int)) (vM 0)=some (.bool false):=by
     show some (Value.bool (decide (((j:Nat):Int)= -1)))=_
     have: ¬((j:Nat):Int)= -1:=by omega
     simp[this]
    simp only[d1,vb_some,bite_f,F20_0,vN_eq,xAdd_i,wrapN (show i<4611686018427387904 by omega)];rw[<-hL];exact ih q (i+1) j _ x (by omega) (by omega) (by omega) hj st
  ·exact ih q i s h x (by omega) (by omega) g3 g4 st
theorem c20[OkH h](hn:4611686018427387904<=n)(hS:Vw.le S h.cells)(hd:DfV S dv d)(hc:Canon d)(hl:d.next.length<1000000){bs:List Nat}(hb:BysV S bv bs)(hbs: ∀c∈bs,c<256)(hbl:bs.length<1000000):pcall (F20 n cl dv bv h)=some (rowR d (drun d 0 bs)):=by
 refine pcall_fr (h:=h) (S:=S) ?_ (by unfold rowR;split<;>rfl);have hdv: ∃nv av,dv= .agg ⟨[nv,av]⟩:=by obtain⟨nv,av,vs,rfl,_⟩:=hd;exact⟨nv,av,rfl⟩
 obtain⟨nv,av,rfl⟩:=hdv;unfold Fr F20;refine Ret.lbox (Sl.start h hS) fun h1 x st1=>?_;have st1:Sl h h1 S OM.emp [(x,.row .own 1 [nv,av])]:=st1;have okh:=st1.ok;have la:xLdA 2 (.pointer (some ⟨x,0,none⟩)) h1=some (.agg ⟨[nv,av]⟩):=st1.ldA (.head _) rfl (by simp);have hF:=c46 (n:=n) (cl:=cl) (h:=h1.fzn) (s:=((0:Nat):Int)) (fun b cs e=>st1.leS b cs e) hd hc.al;have hp:=hc.pos;have d0:decide (0<=((0:Nat):Int)/\((0:Nat):Int)<(d.next.length:Int))=true:=by simp;omega
 simp only[la,vb_some,vN_eq,hF,d0,xNot_b,Bool.not_true,bite_f,F20_5,hb.len];exact(loop20 (n:=n) (cl:=cl) hd hc hl hb hbs hbl bs.length n 0 0 h1 x (by omega) (by omega) (by omega) hp st1).mono fun v h1 ⟨rows,s,e⟩=>⟨rows,s,by rw[e,List.drop_zero];rfl⟩
end
def btl(t:ByteArray):List Nat:=(List.range t.size).map (bt t)
def wordOk(po:Po)(w:List Nat):Bool:=
 po.sets==w.map setL&&po.null==false&&po.first== [0]&&po.last== [w.length-1]&&po.follow==(List.range w.length).map fun i=>if i+1<w.length then [i+1]else []
structure WordP(po:Po)(w:List Nat):Prop where
 pos:0<w.length
 ltr: ∀c∈w,Ltr c
 sets:po.sets=w.map setL
 null:po.null=false
 first:po.first=[0]
 last:po.last=[w.length-1]
 follow:po.follow=(List.range w.length).map fun i=>if i+1<w.length then [i+1]else []
section
variable {po:Po}{w:List Nat}
theorem WordP.tk(h:WordP po w){c i:Nat}(hc:c<256):takesB po c i=true↔w[i]?=some c:=by
 unfold takesB;rw[h.sets,List.length_map]
 by_cases hi:i<w.length
 ·have hx:=List.getElem?_eq_getElem hi;have hl:=h.ltr _ (List.mem_of_getElem? hx);generalize w[i]=x at hx hl;have e:(w.map setL).getD i []=setL x:=by rw[List.getD_eq_getElem?_getD,List.getElem?_map,hx];rfl
  rw[e,setL_has hl hc,hx];simp[hi];exact⟨fun h=>h.symm,fun h=>h.symm⟩
 ·rw[List.getElem?_eq_none (by omega)];simp[hi]
theorem WordP.fol(h:WordP po w){x y:Nat}:y∈po.follow.getD x []↔(y=x+1/\y<w.length):=by
 rw[h.follow,List.getD_eq_getElem?_getD,List.getElem?_map]
 by_cases hx:x<w.length
 ·rw[List.getElem?_range hx];simp only[Option.map_some,Option.getD_some]
  split
  ·simp;omega
  ·simp;omega
 ·rw[List.getElem?_eq_none (by simp;omega)];simp;omega
theorem WordP.dp(h:WordP po w): ∀(n:Nat)(u:List Nat)(y:Nat),u.length=n->Byt u->(DP po u y↔y<w.length/\u=w.take (y+1)):=by
 intro n
 induction n with
 |zero=>
  intro u y hu _;obtain rfl:u=[]:=List.eq_nil_of_length_eq_zero hu;constructor
  ·intro h;cases h
  ·rintro⟨h1,h2⟩;have:=congrArg List.length h2;rw[List.length_take]at this;simp at this;omega
 |succ n ih=>
  intro u y hu hb;obtain⟨v,c,rfl⟩: ∃v c,u=v++[c]:=⟨u.dropLast,u.getLast (by intro e;rw[e]at hu;simp at hu),(List.dropLast_concat_getLast _).symm⟩;have hvl:v.length=n:=by simpa using hu
  have hc:c<256:=hb c (by simp);have hbv:Byt v:=fun x hx=>hb x (by simp[hx]);rw[DP_snoc,h.tk hc];have take_snoc: ∀y,y<w.length->w.take (y+1)=w.take y++[w.getD y 0]:=fun y hy=>by
   rw[List.take_add_one,List.getD_eq_getElem?_getD,List.getElem?_eq_getElem hy];rfl
  constructor
  ·rintro⟨h1,h2⟩;have hy:=(List.getElem?_eq_some_iff.1 h2).1;refine⟨hy,?_⟩;rw[take_snoc y hy,List.getD_eq_getElem?_getD,h2]
   congr 1
   by_cases hv:v=[]
   ·rw[if_pos hv,h.first]at h1;have:y=0:=by simpa using h1
    rw[hv,this];rfl
   ·rw[if_neg hv]at h1;obtain⟨x,h3,h4⟩:=h1;obtain⟨_,rfl⟩:=(ih v x hvl hbv).1 h3;rw[(h.fol.1 h4).1]
  ·rintro⟨hy,e⟩;rw[take_snoc y hy]at e;obtain⟨e1,e2⟩:=List.append_inj' e rfl;have e2:c=w.getD y 0:=by simpa using e2
   refine⟨?_,by rw[e2,List.getD_eq_getElem?_getD,List.getElem?_eq_getElem hy];rfl⟩
   by_cases hv:v=[]
   ·rw[if_pos hv,h.first];rw[hv]at e1;have:=congrArg List.length e1;rw[List.length_take]at this;simp at this;simp;omega
   ·rw[if_neg hv];have hy0:y≠0:=fun h0=>hv (by rw[e1,h0];rfl);refine⟨y-1,(ih v (y-1) hvl hbv).2 ⟨by omega,by rw[show y-1+1=y by omega];exact e1⟩,h.fol.2 ⟨by omega,hy⟩⟩
theorem WordP.takes(h:WordP po w){bs:List Nat}(hb:Byt bs):takesP po bs↔bs=w:=by
 match bs,hb with
 | [],_=>
  show po.null=true↔_
  rw[h.null];have:=h.pos;constructor
  ·intro h;cases h
  ·intro e;rw[<-e]at this;simp at this
 |c::cs,hb=>
  have e:takesP po (c::cs)↔ ∃y,DP po (c::cs) y/\y∈po.last:=Iff.rfl;rw[e,h.last];have hp:=h.pos;constructor
  ·rintro⟨y,h1,h2⟩;obtain⟨h3,h4⟩:=(h.dp _ _ y rfl hb).1 h1;have:y=w.length-1:=by simpa using h2
   rw[h4,this,show w.length-1+1=w.length by omega,List.take_length]
  ·intro e;refine⟨w.length-1,(h.dp _ _ _ rfl hb).2 ⟨by omega,?_⟩,by simp⟩;rw[show w.length-1+1=w.length by omega,List.take_length];exact e
end
def wds:List ByteArray:=[⟨#[105,102]⟩,⟨#[105,110]⟩,⟨#[105,110,116]⟩,⟨#[102,111,114]⟩,⟨#[102,111,114,109]⟩,⟨#[105]⟩,⟨#[102,111]⟩,⟨#[97]⟩]
def okW(t:ByteArray):Bool:=decide (0<t.size)&&decide (t.size<=4)&&((btl t).all fun c=>decide (97<=c)&&decide (c<=122))&&wordOk (poOf (wordR t)) (btl t)&&decide ((wordR t).sets.length<=150)&&decide ((wordR t).deep<=200)&&decide ((wordR t).size<1000)
theorem wds_ok:wds.all okW=true:=by kernel_rfl
structure WOk(t:ByteArray):Prop where
 pos:0<t.size
 le:t.size<=4
 pl:Pl t
 po:WordP (poOf (wordR t)) (btl t)
 sets:(wordR t).sets.length<=150
 deep:(wordR t).deep<=200
 size:(wordR t).size<1000
theorem btl_len{t:ByteArray}:(btl t).length=t.size:=by simp[btl]
theorem wds_WOk{t:ByteArray}(h:t∈wds):WOk t:=by
 have:=List.all_eq_true.1 wds_ok t h;unfold okW at this;simp only[Bool.and_eq_true,decide_eq_true_eq,List.all_eq_true]at this;obtain⟨⟨⟨⟨⟨⟨h1,h2⟩,h3⟩,h4⟩,h5⟩,h6⟩,h7⟩:=this;have hl: ∀c∈btl t,Ltr c:=fun c hc=>h3 c hc;unfold wordOk at h4;simp only[Bool.and_eq_true]at h4;obtain⟨⟨⟨⟨g1,g2⟩,g3⟩,g4⟩,g5⟩:=h4;exact⟨h1,h2,fun i hi=>hl _ (List.mem_map.2 ⟨i,List.mem_range.2 hi,rfl⟩),⟨by rw[btl_len];exact h1,hl,eq_of_beq g1,eq_of_beq g2,eq_of_beq g3,eq_of_beq g4,eq_of_beq g5⟩,h5,h6,h7⟩
def poW(t:ByteArray):Po:=poOf (wordR t)
section
variable {l:List Po}{p:Pp}{a0:Int}{s:Ss}{ts:List ByteArray}
theorem words_few(hpo:PpOf l p)(hmk:s.Mk p a0)(hl:l=ts.map poW)(hts: ∀t∈ts,WOk t)(h8:ts.length<=8):s.alls.length<=200:=by
 classical
 have hz: ∀k, ∃z:List Nat×Nat×Nat,k+1<s.alls.length->SetW l z.1 (s.alls.getD (k+1) [])/\z.2.1<8/\z.2.2<4/\ ∃t,ts[z.2.1]?=some t/\z.1=(btl t).take (z.2.2+1):=by
  intro k
  by_cases h:k+1<s.alls.length
  ·have hx:=List.getElem?_eq_getElem h;obtain⟨u,w1,w2,w3⟩:=set_word hpo hmk (k+1) _ (by omega) hx;have hD:s.alls.getD (k+1) []=s.alls[k+1]:=by rw[List.getD_eq_getElem?_getD,hx];rfl
   obtain⟨g,hg⟩:=hmk.ne (k+1) _ (by omega) hx;obtain⟨q,po,y,q1,q2,q3⟩:=(w3 g).1 hg;rw[hl,List.getElem?_map,Option.map_eq_some_iff]at q1;obtain⟨t,ht,rfl⟩:=q1;have hok:=hts t (List.mem_of_getElem? ht);obtain⟨g1,g2⟩:=(hok.po.dp _ u y rfl w2).1 q3;have hq:=(List.getElem?_eq_some_iff.1 ht).1;have:=hok.le;rw[btl_len]at g1;exact⟨(u,q,y),fun _=>⟨by rw[hD];exact w3,by show q<8;omega,by show y<4;omega,t,ht,g2⟩⟩
  ·exact⟨([],0,0),fun h'=>absurd h' h⟩
 have key:=inj_le 32 (s.alls.length-1) (fun k=>(hz k).choose.2.1*4+(hz k).choose.2.2) (fun k hk=>by
  obtain⟨_,h1,h2,_⟩:=(hz k).choose_spec (by omega)
  show(hz k).choose.2.1*4+(hz k).choose.2.2<32
  omega) (fun i j hi hj he=>by
  obtain⟨a1,a2,a3,t,a4,a5⟩:=(hz i).choose_spec (by omega);obtain⟨b1,b2,b3,t',b4,b5⟩:=(hz j).choose_spec (by omega);have he:(hz i).choose.2.1*4+(hz i).choose.2.2=(hz j).choose.2.1*4+(hz j).choose.2.2:=he;have e1:(hz i).choose.2.1=(hz j).choose.2.1:=by omega
  have e2:(hz i).choose.2.2=(hz j).choose.2.2:=by omega
  have eu:(hz i).choose.1=(hz j).choose.1:=by
   rw[e1,b4]at a4;have ht:t'=t:=Option.some.inj a4;rw[a5,b5,e2,ht]
  rw[eu]at a1;have same: ∀g,hs (s.alls.getD (i+1) []) g=true↔hs (s.alls.getD (j+1) []) g=true:=fun g=>(a1 g).trans (b1 g).symm;have hxi:=List.getElem?_eq_getElem (l:=s.alls) (i:=i+1) (by omega);have hxj:=List.getElem?_eq_getElem (l:=s.alls) (i:=j+1) (by omega);have hDi:s.alls.getD (i+1) []=s.alls[i+1]'(by omega):=by rw[List.getD_eq_getElem?_getD,hxi];rfl
  have hDj:s.alls.getD (j+1) []=s.alls[j+1]'(by omega):=by rw[List.getD_eq_getElem?_getD,hxj];rfl
  rw[hDi,hDj]at same;have bi:=hmk.ok.bk _ (List.getElem_mem (l:=s.alls) (n:=i+1) (by omega));have bj:=hmk.ok.bk _ (List.getElem_mem (l:=s.alls) (n:=j+1) (by omega));have heq:s.alls[i+1]'(by omega)=s.alls[j+1]'(by omega):=hs_ext (by rw[bi.len,bj.len]) bi.wd bj.wd fun g=>by
   have:=same g;cases h1:hs (s.alls[i+1]'(by omega)) g<;>cases h2:hs (s.alls[j+1]'(by omega)) g<;>simp_all
  rw[heq]at hxi;rcases Nat.lt_trichotomy i j with h|h|h
  ·exact absurd hxj (hmk.ok.dis (i+1) (j+1) _ (by omega) (by omega) hxi)
  ·exact h
  ·exact absurd hxi (hmk.ok.dis (j+1) (i+1) _ (by omega) (by omega) hxj))
 omega
end
section
variable {Q:Value->PH->Prop}{n:Nat}{cl:CL}{h h0:PH}{S:Vw}{m:OM}{rows:Rws}{K2:Value->PH->R}
def PatW(h0:PH)(S:Vw)(ts:List ByteArray)(v:Value)(h1:PH):Prop:= ∃S',Vw.le S S'/\Sl h0 h1 S' OM.emp []/\ ∃pv,v= .tuple ⟨[pv,tt]⟩/\PoL S' pv (ts.map poW)
theorem c14w[OkH h](hn:4611686018427387904<=n){D:Nat}(hD:1000<=D)(h25: ∀v h,cl 25 [v] h=CLV n (D+1) 25 [v] h)(h53: ∀v h,cl 53 [v] h=CLV n (D+1) 53 [v] h)(h54: ∀u v h,cl 54 [u,v] h=CLV n (D+1) 54 [u,v] h)(h55: ∀u v h,cl 55 [u,v] h=CLV n (D+1) 55 [u,v] h)
  (hS:Vw.le S h.cells) {av:Value} {ts:List ByteArray} (ha:RdV rT S av ts) (hl:ts.length<=8) (hts: ∀t∈ts,WOk t):Ret (F14 n cl av h) (PatW h S ts):=by
 unfold F14;have htt:tt= .bool true:=rfl;have key: ∀(d q i:Nat)(S':Vw)(h':PH)(ov:Value)(ex:Rws)(cells:List Value),ts.length-i<=d->d<q->i<=ts.length->Vw.le S S'->Sl h h' S' OM.emp ex->Gl 5 ov i cells ex->(∀(j:Nat) t,j<i->ts[j]?=some t->PoV S' (poW t) ((cells.drop (j*5)).take 5))->
   Ret (lp q (F14_5 n cl) [av,ov,.int .i64 (i:Nat)] h') (PatW h S ts):=by
  intro d
  induction d with
  |zero=>
   intro q i S' h' ov ex cells h1 h2 h3 le st g hpo;obtain⟨q,rfl⟩: ∃r,q=r+1:=⟨q-1,by omega⟩;rw[lp_succ];have dc:decide (((i:Nat):Int)<((ts.length:Nat):Int))=false:=by simp;omega
   simp only[F14_5,F14_4,ucons_cons,ha.tlen,vb_some,xLt_i,dc,bite_f];obtain⟨S2,le2,st2,hv⟩:=Gl.settle (rows:=[]) (by rw[List.append_nil];exact st) g;refine Ret.of ⟨S2,le.trans le2,st2,ov,rfl,?_⟩;have hlm:(ts.map poW).length=i:=by rw[List.length_map];omega
   rcases hv with⟨q1,_,rfl⟩|⟨b,o,c,cs,rfl,q1,q2,q3⟩
   ·exact .inl ⟨List.eq_nil_of_length_eq_zero (by omega),none,0,rfl⟩
   ·refine .inr ⟨b,o,c,cs,by rw[hlm],q1,by rw[hlm];exact q2,fun j po hj=>?_⟩;have hjl:=(List.getElem?_eq_some_iff.1 hj).1;rw[List.getElem?_map,Option.map_eq_some_iff]at hj;obtain⟨t,hj,rfl⟩:=hj;have:=(hpo j t (by omega) hj).mono le2;rw[q3]at this;rw[List.drop_take,List.take_take,List.drop_drop,Nat.min_eq_left (by omega)]at this;exact this
  |succ d ih=>
   intro q i S' h' ov ex cells h1 h2 h3 le st g hpo
   by_cases hi:i<ts.length
   ·obtain⟨q,rfl⟩: ∃r,q=r+1:=⟨q-1,by omega⟩;rw[lp_succ];generalize hL:lp q (F14_5 n cl)=LL;have dc:decide (((i:Nat):Int)<((ts.length:Nat):Int))=true:=by simp;omega
    have hx:=List.getElem?_eq_getElem hi;generalize ts[i]=t at hx;have hok:=hts t (List.mem_of_getElem? hx);have ht4:=hok.le;obtain⟨b1,o1,cs1,e1,e2,e3⟩:=ha.tat hx;have l1:=st.ldS (le _ _ e2) e3;simp only[F14_5,F14_4,ucons_cons,ha.tlen,vb_some,xLt_i,dc,bite_t,F14_3,e1,l1,xLenT_s,vN_eq,xGt_i];have d1:decide (((60:Nat):Int)<((t.size:Nat):Int))=false:=by simp;omega
    simp only[d1,bite_f,F14_2,e1,vb_some,l1];have okh:=st.ok;refine Ret.lfcallN (P:=fun v W=> ∃es p,v= .tuple ⟨[.agg ⟨es⟩,.int .i64 p,.int .i64 ((0:Nat):Int)]⟩/\ReE W (wordR t) es) st (fun v V W hVW ⟨es,p,a1,a2⟩=>⟨es,p,a1,a2.mono hVW⟩) ?_ fun v h2 S2 le2 st2 ⟨es,p,hv,he⟩=>?_
    ·refine Ret.mono (c30x (n:=n) (cl:=cl) (h:=h'.fzn) (h0:=h'.fzn) (S:=fun _=>none) (t:=t) (rows:=[]) hn (D:=D) h55 (by omega) hok.pos hok.pl (Sl.start h'.fzn (fun b cs e=>by cases e))) fun v h1 ⟨S3,es,p,le3,st3,q1,q2⟩=>?_;refine⟨S3,st3,es,p,q1,q2.mono fun b cs hb=>?_⟩;rcases le3.2 b cs hb with h|h
     ·cases h
     ·exact Nw.at h hb
    subst hv;have hes:=he.len;simp only[xExt_t',List.getElem?_cons_zero,List.getElem?_cons_succ,vb_some];refine Ret.lalloc st2 zc57 fun h3' x21 st3=>?_;refine Ret.lstA st3 0 rfl rfl hes (by simp) he.one fun h4' st4=>?_;rw[setsL_all (by rw[hes];rfl)]at st4;have st4:Sl h h4' S2 OM.emp ((x21,.row .own 1 es)::ex):=st4;have dd:(!decide (((0:Nat):Int)=((0:Nat):Int)))=false:=rfl;have la4:xLdA 6 (.pointer (some ⟨x21,0,none⟩)) h4'=some (.agg ⟨es⟩):=st4.ldA (.head _) (by rw[List.drop_zero, <-hes,List.take_length]) (by omega);simp only[vN_eq,xNe_i,vb_some,decide_true,Bool.not_true,bite_f,F14_1,la4];have hdp:=hok.deep;have hsz:=hok.size;have hs150:=hok.sets;refine Ret.hb (c27 hn h25 h53 h54 (by omega) (by omega) st4 he) fun v5 h5' ⟨S5,qs,f,le5,st5,hv,hq⟩=>?_;subst hv;obtain⟨rfl,hp⟩:f=0/\PoV S5 (poOf (wordR t)) qs:=by
     rcases hq with⟨h,_⟩|⟨_,h,_⟩|⟨_,_,h,h'⟩
     ·omega
     ·omega
     ·exact⟨h,h'⟩
    simp only[xExt_t',List.getElem?_cons_zero,List.getElem?_cons_succ,vb_some];have P2:=hp.ps;refine Ret.lalloc st5 zc43 fun h6' x27 st6=>?_;refine Ret.lstA st6 0 rfl rfl P2.1 (by simp) P2.2 fun h7' st7=>?_;rw[setsL_all (by rw[P2.1];rfl)]at st7;have st7:Sl h h7' S5 OM.emp ((x27,.row .own 1 qs)::(x21,.row .own 1 es)::ex):=st7;have d2:(!decide ((0:Int)=((0:Nat):Int)))=false:=rfl;have la7:xLdA 5 (.pointer (some ⟨x27,0,none⟩)) h7'=some (.agg ⟨qs⟩):=st7.ldA (.head _) (by rw[List.drop_zero, <-P2.1,List.take_length]) (by rw[P2.1];exact Nat.le_refl _);simp only[vN_eq,xNe_i,vb_some,d2,bite_f,F14_0,la7];have st8:Sl h h7' S5 OM.emp (ex++[]):=by rw[List.append_nil];exact st7.drop ((List.sublist_cons_self _ _).trans (List.sublist_cons_self _ _))
    refine Ret.gapp st8 g (bsPo hp) ai24 P2.1 P2.2 (sz_le (c:=1048576) (by omega) (by decide)) fun h9' ov' ex' st9 g9=>?_;rw[List.append_nil]at st9;simp only[xAdd_i,vN_eq,wrapN (show i<4611686018427387904 by omega),vb_some];rw[<-hL];have hcl:=g.length;refine ih q (i+1) S5 h9' ov' ex' (cells++qs) (by omega) (by omega) (by omega) ((le.trans le2).trans le5) st9 g9 (fun j t' hj ht'=>?_)
    by_cases e:j=i
    ·subst e;rw[hx]at ht';cases ht';rw[List.drop_append,List.drop_of_length_le (by omega),List.nil_append,show j*5-cells.length=0 by omega,List.drop_zero, <-P2.1,List.take_length];exact hp
    ·have:=(hpo j t' (by omega) ht').mono (le2.trans le5);rw[List.drop_append_of_le_length (by omega),List.take_append_of_le_length (by simp;omega)];exact this
   ·exact ih q i S' h' ov ex cells (by omega) (by omega) h3 le st g hpo
 exact key ts.length n 0 S h nils [] [] (by omega) (by omega) (by omega) (Vw.le.refl _) (Sl.start h hS) Gl.nil (fun j t hj=>by omega)
end
theorem g9:Try.prog.eqGuardType Try.prog.depth 9=false:=by kernel_rfl
theorem beqB{a b:ByteArray}:(a.toList==b.toList)=decide (a=b):=by
 rw[Go.ByteArray.toList_eq,Go.ByteArray.toList_eq,Bool.eq_iff_iff,decide_eq_true_eq,beq_iff_eq];exact⟨fun h=>by cases a;cases b;congr 1;exact Array.toList_inj.1 h,fun h=>by rw[h]⟩
theorem abin_str{P:Program}{T:TypeId}{o1 o2:Operand}{a b:ByteArray}(hu:P.underlying T=some .string)(hg:P.eqGuardType P.depth T=false):abin P .eql T o1 o2 (.string a) (.string b)=some (.bool (decide (a=b))):=by
 unfold abin;rw[if_pos (show(plainV (.string a)&&plainV (.string b))=true from rfl)];have hE:pureRun P (eqGuard .eql T o1 o2 (.string a) (.string b))=some ():=by
  unfold eqGuard;have hp:pureRun P program=some P:=rfl;simp only[Bool.not_true,Bool.false_eq_true,if_false,pureRun_bind,hp,Option.bind_some,hg,Bool.not_false,if_true];rfl
 have hB:pureRun P (binOp .eql T (.string a) (.string b))=some (.bool (a.toList==b.toList)):=rfl;unfold prun;rw[pureRun_bind,hE];simp only[Option.bind_some];rw[hB,beqB];rfl
theorem abstr{o1 o2:Operand}{a b:ByteArray}:abin Try.prog .eql 9 o1 o2 (.string a) (.string b)=some (.bool (decide (a=b))):=abin_str Try.underlying9 g9
theorem WordP.inn{po:Po}{w:List Nat}(h:WordP po w)(hl:w.length<=100):po.In:=by
 refine⟨fun s hs=>?_,by rw[h.sets];simp;omega,by rw[h.first];simp,by rw[h.last];simp,by rw[h.follow];simp;omega,fun l hm=>?_⟩
 ·rw[h.sets,List.mem_map]at hs;obtain⟨c,_,rfl⟩:=hs
  rfl
 ·rw[h.follow,List.mem_map]at hm;obtain⟨i,_,rfl⟩:=hm
  split<;>simp
theorem WOk.pog{t:ByteArray}(h:WOk t):PoG (poW t):=⟨wordR t,rfl,h.sets,h.po.inn (by rw[btl_len];have:=h.le;omega)⟩
def om8(z:Int):Nat:=(z % 8).toNat
theorem om8_lt(z:Int):om8 z<8:=by unfold om8;omega
theorem xBit7{z:Int}:xBit Nat.land (.int .i64 z) (.int .i64 ((7:Nat):Int))=some (.int .i64 (om8 z:Nat)):=by
 have e:(BitVec.ofInt 64 z).toNat % 8=om8 z:=by
  rw[BitVec.toNat_ofInt];unfold om8;have:(2:Int) ^ 64=18446744073709551616:=by decide
  omega
 have e2: ∀x:Nat,Nat.land x 7=x % 8:=fun x=>Nat.and_two_pow_sub_one_eq_mod x 3;have h3:bitN .i64 ((7:Nat):Int)=7:=by rfl
 show mkI .i64 (wr .i64 (.ofNat (Nat.land (bitN .i64 z) (bitN .i64 ((7:Nat):Int)))))=_
 rw[mkI_eq,wr_eq,bitN_eq,h3,e2]
 show some (Value.int .i64 (IntKind.i64.wrap (((BitVec.ofInt 64 z).toNat % 8:Nat):Int)))=_
 rw[e,wrap_in (by omega) (by have:=om8_lt z;omega)]
theorem btl_bstr{l:List Nat}(h: ∀c∈l,c<256):btl (bstr l)=l:=by
 have hs:(bstr l).size=l.length:=by show(l.map UInt8.ofNat).toArray.size=_;simp
 unfold btl
 apply List.ext_getElem?
 intro i;rw[List.getElem?_map]
 by_cases hi:i<l.length
 ·have hx:=List.getElem?_eq_getElem hi;have h2:=h _ (List.mem_of_getElem? hx);rw[List.getElem?_range (by omega),hx];simp only[Option.map_some];unfold bt;rw[dif_pos (by omega)]
  congr 1
  show((l.map UInt8.ofNat).toArray[i]'(by simp;exact hi)).toNat=_
  simp;omega
 ·rw[List.getElem?_eq_none (by simp;omega),List.getElem?_eq_none (by omega)];rfl
theorem btl_toList{t:ByteArray}:t.data.toList.map (fun b=>Value.int .u8 (b.toNat:Nat))=bys (btl t):=by
 unfold bys btl
 apply List.ext_getElem?
 intro i;rw[List.getElem?_map,List.getElem?_map,List.getElem?_map]
 by_cases hi:i<t.size
 ·have h1:i<t.data.toList.length:=by simpa using hi
  rw[List.getElem?_range hi,List.getElem?_eq_getElem h1];simp only[Option.map_some];unfold bt;rw[dif_pos hi]
  rfl
 ·rw[List.getElem?_eq_none (by simp;exact Nat.le_of_not_lt hi),List.getElem?_eq_none (by simp;omega)];rfl
theorem btl_inj{s t:ByteArray}(h:btl s=btl t):s=t:=by
 have e:bys (btl s)=bys (btl t):=by rw[h]
 rw[<-btl_toList, <-btl_toList]at e;have:s.data.toList=t.data.toList:=by
  apply List.ext_getElem?
  intro i;have:=congrArg (fun l=>l[i]?) e;simp only[List.getElem?_map]at this;cases h1:s.data.toList[i]? with
  |none=>
   rw[h1]at this;cases h2:t.data.toList[i]? with
   |none=>rfl
   |some y=>rw[h2]at this;simp at this
  |some x=>
   rw[h1]at this;cases h2:t.data.toList[i]? with
   |none=>rw[h2]at this;simp at this
   |some y=>
    rw[h2]at this;simp at this;have:x.toNat=y.toNat:=by omega
    rw[UInt8.toNat_inj.1 this]
 cases s;cases t
 congr 1
 exact Array.toList_inj.1 this
theorem btl_256{t:ByteArray}: ∀c∈btl t,c<256:=fun c hc=>by
 unfold btl at hc;rw[List.mem_map]at hc;obtain⟨i,_,rfl⟩:=hc;unfold bt
 split
 ·exact(t[i]).toNat_lt
 ·decide
section
variable {Q:Value->PH->Prop}{n:Nat}{cl:CL}{h h0:PH}{S:Vw}{m:OM}{rows:Rws}{K2:Value->PH->R}
theorem Sl.b2v(s:Sl h0 h S m rows){v:Value}{l:List Nat}(g:BysV S v l):xB2S v h=some (.string (bstr l)):=by
 by_cases e:l=[]
 ·subst e;rcases g.emp rfl with rfl|⟨b,c,rfl⟩
  ·rfl
  ·rfl
 ·rcases g.slv e with⟨h1,_⟩|⟨b,o,c,cs,rfl,h1,h2,h3⟩
  ·have:=congrArg List.length h1;rw[bys_len]at this;exact absurd (List.eq_nil_of_length_eq_zero this) e
  ·rw[bys_len]at h2 ⊢;have hc:=(s.sm.see b cs h1).1;unfold PH.cells at hc;have h4:Nat.ble (Nat.add o l.length) cs.length=true:=ble_t' (by show o+l.length<=_;omega);have htk:(cs.drop o).take l.length=bys l:=by
    apply List.ext_getElem?
    intro i
    by_cases hi:i<l.length
    ·have hx:=List.getElem?_eq_getElem (l:=bys l) (i:=i) (by rw[bys_len];exact hi);rw[List.getElem?_take,if_pos hi,List.getElem?_drop,hx,h3 i _ hx]
    ·rw[List.getElem?_eq_none (by simp;omega),List.getElem?_eq_none (by rw[bys_len];omega)]
   cases hq:h.raw b with
   |none=>rw[hq]at hc;cases hc
   |some ob=>
    rw[hq]at hc;cases ob with
    |row md ez cs'=>
     have hc:some cs'=some cs:=hc;have:cs'=cs:=Option.some.inj hc;subst this;have hn0:Nat.beq l.length 0=false:=by
      cases hq:Nat.beq l.length 0 with
      |false=>rfl
      |true=>exact absurd (List.eq_nil_of_length_eq_zero (Nat.eq_of_beq_eq_true hq)) e
     show(match Nat.beq l.length 0 with
      |true=>some (Value.string ByteArray.empty)
      |false=>match h.raw b with
      |some (.row _ _ cs)=>match Nat.ble (Nat.add o l.length) cs.length with
       |true=>match bytes8 ((cs.drop o).take l.length)with
        |some ns=>some (Value.string ⟨⟨ns⟩⟩)
        |none=>none
       |false=>none
      |_=>none)=_
     rw[hn0];dsimp only;rw[hq];dsimp only;rw[h4];dsimp only;rw[htk,bytes8_bys]
     rfl
    |_=>cases hc
theorem Ret.s2b(s:Sl h0 h S m rows){t:ByteArray}(hk: ∀h' b,Sl h0 h' S m ((b,.row .opn 1 (bys (btl t)))::rows)->Ret (K2 (.slice (some ⟨b,0,none⟩) t.size openCap) h') Q):Ret (Go.Am.hb (xS2B (.string t) h) K2) Q:=by
 obtain⟨h',hp,s',f,hn,_⟩:=s.sm.push (.row .opn 1 (t.data.toList.map fun b=>.int .u8 b.toNat))
 show Ret (Go.Am.hb (match h.push (.row .opn 1 (t.data.toList.map fun b=>.int .u8 b.toNat))with
  |some h'=>some (Value.slice (some ⟨h.n,0,none⟩) t.size openCap,h')
  |none=>none) K2) Q
 rw[hp];have s2:=s.cons s' f;refine hk h' h.n ?_;rw[<-btl_toList];exact s2
end
def wz(z:Int):ByteArray:=wds.getD (om8 z) ⟨#[]⟩
theorem wds_len:wds.length=8:=rfl
theorem wz_at(z:Int):wds[om8 z]?=some (wz z):=by
 have h:=om8_lt z;unfold wz;rw[List.getD_eq_getElem?_getD,List.getElem?_eq_getElem (by rw[wds_len];exact h)];rfl
theorem wz_ok(z:Int):WOk (wz z):=wds_WOk (List.mem_of_getElem? (wz_at z))
def strs(l:List ByteArray):List Value:=l.map .string
theorem bs22w:bsRow Try.prog 22 8 [(0,(Value.string {data:= #[105,102]})),(1,(Value.string {data:= #[105,110]})),(2,(Value.string {data:= #[105,110,116]})),(3,(Value.string {data:= #[102,111,114]})),(4,(Value.string {data:= #[102,111,114,109]})),(5,(Value.string {data:= #[105]})),(6,(Value.string {data:= #[102,111]})),(7,(Value.string {data:= #[97]}))]=some (1,strs wds):=by kernel_rfl
theorem bs22{s:ByteArray}:bsRow Try.prog 22 1 [(0,.string s)]=some (1,[.string s]):=by kernel_rfl
theorem ai22:appInfo Try.prog #[22,22]=some (1,16):=by kernel_rfl
section
variable {n:Nat}{cl:CL}{h h0:PH}{S:Vw}{m:OM}{rows:Rws}{lv bv:Value}{zl:List Int}{bs:List Nat}{Q:Value->PH->Prop}
theorem loop7a(hl:SlV S lv (zv zl))(hz:zl.length<=8){wb:Nat}{dv:Value}(hdv:dv= .slice (some ⟨wb,0,none⟩) 8 8)
  (hk: ∀h pv ex,Sl h0 h S m (ex++[(wb,.row .own 1 (strs wds))])->Gl 1 pv zl.length (strs (zl.map wz)) ex->Ret (F7_15 n cl pv bv h) Q):
  ∀(k q i:Nat)(h:PH)(pv:Value)(ex:Rws),zl.length-i<=k->k<q->i<=zl.length->Sl h0 h S m (ex++[(wb,.row .own 1 (strs wds))])->Gl 1 pv i (strs ((zl.take i).map wz)) ex->
   Ret (lp q (F7_17 n cl) [lv,bv,dv,pv,.int .i64 (i:Nat)] h) Q:=by
 intro k
 induction k with
 |zero=>
  intro q i h pv ex h1 h2 h3 st g;obtain⟨q,rfl⟩: ∃r,q=r+1:=⟨q-1,by omega⟩;rw[lp_succ];obtain rfl:i=zl.length:=by omega
  have dc:decide (((zl.length:Nat):Int)<((zl.length:Nat):Int))=false:=by simp
  have hlen:=hl.len;rw[zv_len]at hlen;rw[List.take_length]at g;simp only[F7_17,F7_16,ucons_cons,hlen,vb_some,xLt_i,dc,bite_f];exact hk h pv ex st g
 |succ k ih=>
  intro q i h pv ex h1 h2 h3 st g
  by_cases hi:i<zl.length
  ·obtain⟨q,rfl⟩: ∃r,q=r+1:=⟨q-1,by omega⟩;rw[lp_succ];generalize hL:lp q (F7_17 n cl)=LL;have dc:decide (((i:Nat):Int)<((zl.length:Nat):Int))=true:=by simp;omega
   have hlen:=hl.len;rw[zv_len]at hlen;have hx:=List.getElem?_eq_getElem hi;generalize zl[i]=z at hx;obtain⟨b1,o1,cs1,e1,e2,e3⟩:=hl.at (k:=.i64) (zv_get hx);have l1:=st.ldS e2 e3;have h8:=om8_lt z;have e4:xIdxS 1 dv (.int .i64 (om8 z:Nat))=some (.pointer (some ⟨wb,om8 z,none⟩)):=by
    rw[hdv,xIdxS_at (by omega) (by omega)];simp
   have l4:xLd (.pointer (some ⟨wb,om8 z,none⟩)) h=some (.string (wz z)):=st.ld (List.mem_append_right _ (.head _)) (by unfold strs;rw[List.getElem?_map,wz_at];rfl);simp only[F7_17,F7_16,ucons_cons,hlen,vb_some,xLt_i,dc,bite_t,F7_0,e1,l1,vN_eq,xBit7,e4,l4];refine Ret.gapp st g bs22 ai22 rfl rfl (sz_le (c:=1048576) (by omega) (by decide)) fun h6 pv6 ex6 st6 g6=>?_;simp only[xAdd_i,vN_eq,wrapN (show i<4611686018427387904 by omega),vb_some];rw[<-hL];refine ih q (i+1) h6 pv6 ex6 (by omega) (by omega) (by omega) st6 ?_;have:strs ((zl.take (i+1)).map wz)=strs ((zl.take i).map wz)++[.string (wz z)]:=by
    rw[List.take_add_one,hx];simp[strs]
   rw[this];exact g6
  ·exact ih q i h pv ex (by omega) (by omega) h3 st g
theorem loop7b{ts:List ByteArray}{pv xv iv:Value}{s:ByteArray}(hp:RdV rT S pv ts)(ht:ts.length<=8){K2:Kt}(st:Sl h0 h S m rows)
  (hk: ∀W,FstI ts.length (fun k=>ts[k]?=some s) W->Ret (F7_5 n cl xv (.string s) (.int .i64 W) iv K2 bv pv h) Q):
  ∀(k q:Nat)(i:Int)(W:Int),i+1<=k->k<q-> -1<=i->i<ts.length->((W= -1/\ ∀j:Nat,i<j->j<ts.length->ts[j]?≠some s)\/ ∃w:Nat,W=w/\i<w/\w<ts.length/\ts[w]?=some s/\ ∀j:Nat,i<j->j<w->ts[j]?≠some s)->
   Ret (lp q (F7_7 n cl K2) [bv,pv,xv,iv,.string s,.int .i64 W,.int .i64 i] h) Q:=by
 intro k
 induction k with
 |zero=>
  intro q i W h1 h2 h3 h4 h5;obtain⟨q,rfl⟩: ∃r,q=r+1:=⟨q-1,by omega⟩;rw[lp_succ];obtain rfl:i= -1:=by omega
  have dc:decide (((0:Nat):Int)<=(-1:Int))=false:=by decide
  simp only[F7_7,F7_6,ucons_cons,vN_eq,xGe_i,dc,vb_some,bite_f];refine hk W ?_;rcases h5 with⟨rfl,h⟩|⟨w,rfl,_,g1,g2,g3⟩
  ·exact .inl ⟨rfl,fun j hj=>h j (by omega) hj⟩
  ·exact .inr ⟨w,rfl,g1,g2,fun j hj=>g3 j (by omega) hj⟩
 |succ k ih=>
  intro q i W h1 h2 h3 h4 h5
  by_cases hi:0<=i
  ·obtain⟨q,rfl⟩: ∃r,q=r+1:=⟨q-1,by omega⟩;rw[lp_succ];generalize hL:lp q (F7_7 n cl K2)=LL;obtain⟨i,rfl⟩: ∃j:Nat,i=j:=⟨i.toNat,by omega⟩;have dc:decide (((0:Nat):Int)<=((i:Nat):Int))=true:=by simp
   have hx:=List.getElem?_eq_getElem (l:=ts) (i:=i) (by omega);generalize ts[i]'(by omega)=t at hx;obtain⟨b1,o1,cs1,e1,e2,e3⟩:=hp.tat hx;have l1:=st.ldS e2 e3;have hw:IntKind.i64.wrap (((i:Nat):Int)-((1:Nat):Int))=((i:Nat):Int)-1:=by rw[wrap_in (by omega) (by omega)];omega
   simp only[F7_7,F7_6,ucons_cons,vN_eq,xGe_i,dc,vb_some,bite_t,jn_eq,F7_3,e1,l1,abstr];cases hts:decide (t=s)with
   |true=>
    have e:t=s:=of_decide_eq_true hts;simp only[bite_t,F7_2,ucons_cons,F7_1,vN_eq,xSub_i,hw,vb_some];rw[<-hL];refine ih q _ _ (by omega) (by omega) (by omega) (by omega) (.inr ⟨i,rfl,by omega,by omega,by rw[hx,e],fun j h1 h2=>by omega⟩)
   |false=>
    have e:t≠s:=of_decide_eq_false hts;simp only[bite_f,F7_2,ucons_cons,F7_1,vN_eq,xSub_i,hw,vb_some];rw[<-hL];refine ih q _ _ (by omega) (by omega) (by omega) (by omega) ?_;rcases h5 with⟨rfl,h⟩|⟨w,rfl,g0,g1,g2,g3⟩
    ·refine .inl ⟨rfl,fun j k1 k2 k3=>?_⟩
     by_cases ej:j=i
     ·rw[ej,hx]at k3;exact e (Option.some.inj k3)
     ·exact h j (by omega) k2 k3
    ·refine .inr ⟨w,rfl,by omega,g1,g2,fun j k1 k2 k3=>?_⟩
     by_cases ej:j=i
     ·rw[ej,hx]at k3;exact e (Option.some.inj k3)
     ·exact g3 j (by omega) k2 k3
  ·exact ih q i W (by omega) (by omega) h3 h4 h5
theorem loop7c(hn:4611686018427387904<=n){ts:List ByteArray}{pv:Value}{x:Nat}{nv av:Value}{d:Dfa}(hp:RdV rT S pv ts)(ht:ts.length<=8)(hts: ∀t∈ts,WOk t)(hb:BysV S bv bs)(hbs: ∀c∈bs,c<256)(hbl:bs.length<=10)(hd:DfV S (.agg ⟨[nv,av]⟩) d)(hc:Canon d)(hdl:d.next.length<1000000)
  (htel: ∀w,Byt w->FstI ts.length (fun k=>ts[k]?=some (bstr w)) (dacc d (drun d 0 w))):
  ∀(k q:Nat)(i:Int)(h:PH),ts.length-i<=k->k<q-> -1<=i->i<=ts.length->Sl h0 h S m ((x,.row .own 1 [nv,av])::rows)->
   Ret (lp q (F7_14 n cl) [bv,pv,pt x,.int .i64 i] h) fun v _=>v= .bool true:=by
 intro k
 induction k with
 |zero=>
  intro q i h h1 h2 h3 h4 st;obtain⟨q,rfl⟩: ∃r,q=r+1:=⟨q-1,by omega⟩;rw[lp_succ];have dc:decide (i<((ts.length:Nat):Int))=false:=by simp;omega
  simp only[F7_14,F7_13,ucons_cons,hp.tlen,vb_some,xLt_i,dc,bite_f];exact Ret.of rfl
 |succ k ih=>
  intro q i h h1 h2 h3 h4 st
  by_cases hi:i<((ts.length:Nat):Int)
  ·obtain⟨q,rfl⟩: ∃r,q=r+1:=⟨q-1,by omega⟩;rw[lp_succ];generalize hL:lp q (F7_14 n cl)=LL;have dc:decide (i<((ts.length:Nat):Int))=true:=by simp;omega
   have go: ∀s:ByteArray,s.size<1000000->Ret (F7_10 n cl LL [bv,pv,pt x,.int .i64 i,.string s] h) fun v _=>v= .bool true:=by
    intro s hs;have hw:IntKind.i64.wrap (((ts.length:Nat):Int)-((1:Nat):Int))=((ts.length:Nat):Int)-1:=by rw[wrap_in (by omega) (by omega)];omega
    simp only[F7_10,ucons_cons,F7_8,hp.tlen,vb_some,vN_eq,xSub_i,hw];refine loop7b (W:= -1) hp ht st (fun W hW=>?_) 8 n (((ts.length:Nat):Int)-1) (by omega) (by omega) (by omega) (by omega) (.inl ⟨rfl,fun j h1 h2=>by omega⟩);have la:xLdA 2 (pt x) h=some (.agg ⟨[nv,av]⟩):=st.ldA (.head _) rfl (by simp);simp only[F7_5,la,vb_some];refine Ret.s2b st fun h2 b st2=>?_;obtain⟨st3,hSb⟩:=st2.settle (i:=0) rfl;have okh:=st3.ok;have hle:Vw.le S (S.put b (bys (btl s))):=Vw.le_put hSb;have hby:BysV (S.put b (bys (btl s))) (.slice (some ⟨b,0,none⟩) s.size openCap) (btl s):=by
     refine⟨fun e=>.inr ⟨b,0,openCap,bys (btl s),by rw[bys_len,btl_len],Vw.put_self,by rw[bys_len,btl_len];omega,fun i x hx=>by rw[Nat.zero_add];exact hx⟩,fun e=>.inr ⟨b,openCap,?_⟩,fun b' n' c' e=>by cases e;rfl⟩;have:=btl_len (t:=s);rw[e]at this;rw[<-this];rfl
    have hF:=c20 (n:=n) (cl:=cl) (h:=h2.fzn) hn (fun b cs e=>st3.leS b cs e) (hd.mono hle) hc hdl hby btl_256 (by rw[btl_len];exact hs);have hb2:bstr (btl s)=s:=btl_inj (btl_bstr btl_256);have hT:=htel (btl s) btl_256;rw[hb2]at hT;have e:=hT.uniq hW;have hW1: -1<=W:=by
     rcases hW with⟨rfl,_⟩|⟨k,rfl,_⟩
     ·decide
     ·omega
    have hrow: ∃u,rowR d (drun d 0 (btl s))= .tuple ⟨[.int .i64 W,u]⟩:=by
     unfold rowR
     by_cases hr:drun d 0 (btl s)= -1
     ·rw[if_pos hr];rw[hr]at e;exact⟨ff,by rw[<-e];rfl⟩
     ·rw[if_neg hr,e];refine⟨tt,?_⟩
      by_cases h1: -1<W
      ·rw[if_pos h1]
      ·rw[if_neg h1];have:W= -1:=by omega
       rw[this]
    obtain⟨u,hrow⟩:=hrow;have d1:(!decide (W=W))=false:=by simp
    have hw1:IntKind.i64.wrap (i+((1:Nat):Int))=i+1:=by rw[wrap_in (by omega) (by omega)];rfl
    simp only[hF,hrow,xExt_t',List.getElem?_cons_zero,List.getElem?_cons_succ,vb_some,xNe_i,decide_true,Bool.not_true,bite_f,F7_4,vN_eq,xAdd_i,hw1];rw[<-hL];exact ih q (i+1) h2 (by omega) (by omega) (by omega) (by omega) (st2.drop (List.sublist_cons_self _ _))
   simp only[F7_14,F7_13,ucons_cons,hp.tlen,vb_some,xLt_i,dc,bite_t,F7_12,st.b2v hb,jn_eq,F7_11,vN_eq,xGe_i]
   by_cases h0':0<=i
   ·obtain⟨j,rfl⟩: ∃j:Nat,i=j:=⟨i.toNat,by omega⟩;have d0:decide (((0:Nat):Int)<=((j:Nat):Int))=true:=by simp
    have hx:=List.getElem?_eq_getElem (l:=ts) (i:=j) (by omega);generalize ts[j]'(by omega)=t at hx;obtain⟨b1,o1,cs1,e1,e2,e3⟩:=hp.tat hx;have l1:=st.ldS e2 e3;have:=(hts t (List.mem_of_getElem? hx)).le;simp only[d0,bite_t,F7_9,e1,l1,vb_some];exact go t (by omega)
   ·have d0:decide (((0:Nat):Int)<=i)=false:=by simp;omega
    simp only[d0,bite_f];refine go (bstr bs) ?_;have:(bstr bs).size=bs.length:=by show(bs.map UInt8.ofNat).toArray.size=_;simp
    omega
  ·exact ih q i h (by omega) (by omega) h3 h4 st
theorem law7[OkH h](hn:4611686018427387904<=n){D:Nat}(hD:1000<=D)(hS:Vw.le S h.cells)(hlen:xLenS lv=some (.int .i64 (zl.length:Nat)))(hl:zl≠[]->SlV S lv (zv zl))(hb:BysV S bv bs)(hbs: ∀c∈bs,c<256):Ret (F7 n (CLU n (D+2)) lv bv h) fun v _=>v= .bool true:=by
 have st0:Sl h h S OM.emp []:=Sl.start h hS;have hok:=st0.ok;have htt:tt= .bool true:=rfl;have hff:ff= .bool false:=rfl;unfold F7;rw[told13];simp only[vb_some];refine Ret.lbs st0 bs22w fun hA wb st1=>?_;simp only[xNot_b,Bool.not_true,isB_f,Bool.not_false,gd_true,vb_some,hlen,vN_eq,xLt_i,xPick_f]
 by_cases h1:zl.length<1
 ·have d1:decide (((zl.length:Nat):Int)<((1:Nat):Int))=true:=by simp;omega
  simp only[d1,isB_f,Bool.not_true,gd_false,vb_some,xPick_t,htt,bite_t];exact Ret.of rfl
 have d1:decide (((zl.length:Nat):Int)<((1:Nat):Int))=false:=by simp;omega
 simp only[d1,isB_f,Bool.not_false,gd_true,vb_some,hlen,xGt_i,xPick_f]
 by_cases h8:8<zl.length
 ·have d2:decide (((8:Nat):Int)<((zl.length:Nat):Int))=true:=by simp;omega
  simp only[d2,isB_f,Bool.not_true,gd_false,vb_some,xPick_t,htt,bite_t];exact Ret.of rfl
 have d2:decide (((8:Nat):Int)<((zl.length:Nat):Int))=false:=by simp;omega
 simp only[d2,isB_f,Bool.not_false,gd_true,vb_some,hb.len,xGt_i,xPick_f]
 by_cases h10:10<bs.length
 ·have d3:decide (((10:Nat):Int)<((bs.length:Nat):Int))=true:=by simp;omega
  simp only[d3,bite_t];exact Ret.of rfl
 have d3:decide (((10:Nat):Int)<((bs.length:Nat):Int))=false:=by simp;omega
 simp only[d3,bite_f];refine loop7a (cl:=CLU n (D+2)) (m:=OM.emp) (hl (fun e=>h1 (by rw[e];decide))) (by omega) (wb:=wb) rfl (fun h2 pv ex st2 g=>?_) zl.length n 0 hA nils [] (by omega) (by omega) (by omega) st1 Gl.nil;obtain⟨S3,le3,st3,hv⟩:=g.settle st2;have st3:=st3.clear;generalize hts:zl.map wz=ts at hv;have htl:ts.length=zl.length:=by rw[<-hts];simp
 have hok: ∀t∈ts,WOk t:=fun t ht=>by
  rw[<-hts,List.mem_map]at ht;obtain⟨z,_,rfl⟩:=ht;exact wz_ok z
 have hp:RdV rT S3 pv ts:=by
  rcases hv with⟨q1,_,_⟩|⟨b,o,c,cs,rfl,q1,q2,q3⟩
  ·omega
  ·refine .inr ⟨b,o,c,cs,by rw[htl],q1,fun i t hi=>?_⟩;have hil:=(List.getElem?_eq_some_iff.1 hi).1;refine⟨by show o+i*1+1<=_;omega,?_⟩
   show(cs.drop (o+i*1)).take 1=[.string t]
   have h4:(strs ts)[i]?=some (.string t):=by unfold strs;rw[List.getElem?_map,hi];rfl
   rw[q3,List.getElem?_take,if_pos (by omega),List.getElem?_drop]at h4;have hlt:o+i<cs.length:=by omega
   rw[Nat.mul_one,List.drop_eq_getElem_cons hlt,List.take_succ_cons,List.take_zero];rw[List.getElem?_eq_getElem hlt]at h4;rw[Option.some.inj h4]
 unfold F7_15;have okh2:=st3.ok;refine Ret.fcall0 st3 (P:=fun v S'=> ∃pv,v= .tuple ⟨[pv,tt]⟩/\PoL S' pv (ts.map poW))
  ((c14w (n:=n) (cl:=CLU n (D+2)) (h:=h2.fzn) (S:=S3) hn (D:=D+1) (by omega) (fun v h=>clu25) (fun v h=>clu53) (fun u v h=>clu54) (fun u v h=>clu55) (fun b cs e=>st3.leS b cs e) hp (by omega) hok).mono fun v h1 ⟨S',le,st,q⟩=>⟨S',le,st,q⟩)
  fun v h4 S4 le4 ⟨qv,hv,hpl⟩ st4=>?_
 subst hv;have hll:(ts.map poW).length=zl.length:=by rw[List.length_map,htl]
 have hpg: ∀po∈ts.map poW,PoG po:=fun po hm=>by
  rw[List.mem_map]at hm;obtain⟨t,ht,rfl⟩:=hm;exact(hok t ht).pog
 have htot:=tot_le hpg;simp only[xExt_t',List.getElem?_cons_zero,List.getElem?_cons_succ,vb_some];refine Ret.hb (c16 (n:=n) (cl:=CLU n (D+2)) (cl':=CLV n (D+1)) (cl'':=CLV n D) hn (fun u v h=>clu109) (fun v h=>clu107) (fun v h=>clv107) (fun u v h=>clu99) st4 hpl (by omega) (fun _=>by omega) (fun po hm=>(hpg po hm).ok.inn)) fun v h5 ⟨S5,le5,st5,ho⟩=>?_;rcases ho with⟨h40,_⟩|⟨_,p,a0,s,hpo,ha0,hmk,hcase⟩
 ·omega
 have hfew:=words_few hpo hmk rfl hok (by omega);rcases hcase with⟨h2000,_⟩|⟨hf,cls,d,dv,rfl,hdv,hck,hnd⟩
 ·omega
 obtain⟨hcan,_⟩:=NumD.canon hf hck hnd;have htel: ∀w,Byt w->FstI ts.length (fun k=>ts[k]?=some (bstr w)) (dacc d (drun d 0 w)):=fun w hw=>by
  have:=of_run hpo hmk hf ha0 hck hnd hw;rw[List.length_map]at this;refine this.congr fun k hk=>?_;constructor
  ·rintro⟨po,h1,h2⟩;rw[List.getElem?_map,Option.map_eq_some_iff]at h1;obtain⟨t,h3,rfl⟩:=h1;have e:=((hok t (List.mem_of_getElem? h3)).po.takes hw).1 h2;rw[h3,e,btl_inj (btl_bstr (btl_256 (t:=t)))]
  ·intro h1;refine⟨poW (bstr w),by rw[List.getElem?_map,h1];rfl,?_⟩;exact((hok _ (List.mem_of_getElem? h1)).po.takes hw).2 (btl_bstr hw).symm
 have hdl:d.next.length<1000000:=by
  obtain⟨stt,nr,nb,hll⟩:=hnd;have:=nb.len;have:=hf.sz;omega
 obtain⟨nv,av,e2,o1,o2⟩:=hdv.agg;subst e2;simp only[xExt_t',List.getElem?_cons_zero,List.getElem?_cons_succ,vb_some];refine Ret.lalloc st5 zc30 fun h6 x st6=>?_;refine Ret.lstA st6 0 rfl rfl rfl (by simp) (one2 o1 o2) fun h7 st7=>?_;rw[setsL_all (by rfl)]at st7;have st7:Sl h h7 S5 OM.emp [(x,.row .own 1 [nv,av])]:=st7;have d5:(!decide ((0:Int)=((0:Nat):Int)))=false:=rfl;simp only[htt,xNot_b,Bool.not_true,isB_f,Bool.not_false,gd_true,vb_some,c18,vN_eq,xNe_i,d5,xPick_f,bite_f];have le:=(le3.trans le4).trans le5;exact loop7c (cl:=CLU n (D+2)) hn (hp.mono (le4.trans le5)) (by omega) hok (hb.mono le) hbs (by omega) hdv hcan hdl htel 9 n (-1) h7 (by omega) (by omega) (by omega) (by omega) st7
end
end Go.Am
namespace Go.Am
open Go Go.RowKit Go.Proofs Go.ChangeShapes Go.WideShapes
theorem oI28:Opens Try.prog 28 (rI .i64).sl (GLen inR):=opens_slice Try.underlying28 (by kernel_rfl) (by decide) (opens_i64 Try.underlying3)
theorem RdV.zlen{V:Vw}{v:Value}{l:List Int}(r:RdV (rI .i64) V v l):xLenS v=some (.int .i64 (l.length:Nat)):=by
 rcases r with⟨rfl,a,c,rfl⟩|⟨b,o,c,cs,rfl,_⟩<;>simp
theorem RdV.slz{V:Vw}{v:Value}{l:List Int}(r:RdV (rI .i64) V v l)(hl:l≠[]):SlV V v (zv l):=by
 rcases r with⟨rfl,_⟩|⟨b,o,c,cs,rfl,h1,h2⟩
 ·exact absurd rfl hl
 ·have h3: ∀(i:Nat) z,l[i]?=some z->o+i+1<=cs.length/\cs[o+i]?=some (.int .i64 z):=fun i z hz=>by
   obtain⟨q1,q2⟩:=h2 i z hz;have q1:o+i*1+1<=cs.length:=q1;have q2:(cs.drop (o+i*1)).take 1=[.int .i64 z]:=q2;rw[Nat.mul_one]at q1 q2;rw[List.drop_eq_getElem_cons (by omega),List.take_succ_cons,List.take_zero]at q2;refine⟨q1,?_⟩;rw[List.getElem?_eq_getElem (by omega)];exact congrArg some (List.cons.inj q2).1
  refine .inr ⟨b,o,c,cs,by rw[zv_len],h1,?_,fun i x hx=>?_⟩
  ·rw[zv_len];have hpos:0<l.length:=List.length_pos_iff.2 hl;have:=(h3 (l.length-1) _ (List.getElem?_eq_getElem (by omega))).1;omega
  ·unfold zv at hx;rw[List.getElem?_map,Option.map_eq_some_iff]at hx;obtain⟨z,hz,rfl⟩:=hx;exact(h3 i z hz).2
set_option maxRecDepth 100000 in
theorem law_zb{f:FuncId}{H:Type}{enc:TypeId×Value->H}{w:World}{r:_root_.Go.Reach}{b0:Nat}{v0 v1:Value}{T1 e:TypeId}{d0 d1:DataW H}{p0 p1:List MemPlace}(hu:Try.prog.underlying T1=some (.slice e))(hsz:Try.prog.cellsOf e=1)(he:Try.prog.underlying e=some (.int .u8))
  (hv0:Value.okWide Try.prog w r b0 28 v0) (hv1:Value.okWide Try.prog w r b0 T1 v1) (ht0:DataW.Trod enc Try.prog w 0 (fun _=>true) true 28 v0 d0 p0) (ht1:DataW.Trod enc Try.prog w 0 (fun _=>true) true T1 v1 d1 p1)
  (law: ∀(h:PH)(av:Value)(zl:List Int)(bv:Value)(bs:List Nat),OkH h->RdV (rI .i64) h.cells av zl->BysV h.cells bv bs->(∀c∈bs,c<256)-> ∃k,ACall Try.prog f [av,bv] h.abs fun u k'=>u= .bool true/\k'=k):
  Calls Try.prog f #[v0,v1] w fun e w'=>e= .returned (.bool true)/\Below w.heap.size w w':=by
 obtain⟨a0,l0,c0,rfl⟩:=okWide_slice Try.underlying28 hv0;obtain⟨a1,l1,c1,rfl⟩:=okWide_slice hu hv1;obtain⟨f0,ht0⟩:=ht0;obtain⟨f1,ht1⟩:=ht1;obtain⟨ρ1,ext1,es,zl,m1,le1,hve,hE,hG⟩:=oI28 (Im.start w) (cs:=[.slice a0 l0 c0]) rfl ht0;obtain⟨v0',rfl,hr⟩:=hE;obtain⟨u1,hu1,hv0'⟩:=VR.of1 hve;cases hu1;obtain⟨ρ,ext,v1',bs,m,le,hv,hbs,h256⟩:=opens_bytes hu hsz he m1 ht1;obtain⟨h,ok,hhn,hz,hrw⟩:=PH.of_list ([.dead]++ext1++ext);obtain⟨k,hk⟩:=law h v0' zl v1' bs ok ((hr.mono (vl_app _ _)).mono (vl_ph hrw)) (hbs.mono (vl_ph hrw)) h256;rw[PH.abs_list hhn hz hrw]at hk;exact calls_rel (Q:=fun k'=>k'=k) m.rel (.cons (hv0'.mono le) (.cons hv .nil)) rfl hk
end Go.Am
