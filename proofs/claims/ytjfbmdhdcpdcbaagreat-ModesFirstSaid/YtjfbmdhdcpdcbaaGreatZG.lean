import Derived.Test.YtjfbmdhdcpdcbaaGreatZE
import Derived.Test.YtjfbmdhdcpdcbaaGreatZW
set_option linter.unusedSimpArgs false
set_option linter.unusedVariables false
namespace Go.Am
open Go Go.RowKit Go.Proofs
section
variable {Q:Value->PH->Prop}{n D:Nat}{cl:CL}{h h0:PH}{S:Vw}{rows:Rws}{l:Lxr}
end
def IdxP(rs sub:List LxR)(il:List Nat):Prop:=il.length=sub.length/\ ∀(t j:Nat),il[t]?=some j->rs[j]?=sub[t]?
section
variable {Q:Value->PH->Prop}{n D:Nat}{cl:CL}{h h0:PH}{S:Vw}{rows:Rws}{l:Lxr}
end
structure MacK(S:Vw)(rs:List LxR)(dcs ivs:List Value)(k:Nat):Prop where
 d: ∃nv av d,(dcs.drop (k*2)).take 2=[nv,av]/\DfV S (.agg ⟨[nv,av]⟩) d/\Knw ((rulesOf rs (k:Nat)).map posOf) d
 i: ∃x il,ivs[k]?=some x/\SlV S x (ns il)/\IdxP rs (rulesOf rs (k:Nat)) il
def MacP(S:Vw)(l:Lxr)(e:Nat):Prop:= ∃rv iv dv ivs dcs,S e=some [.int .i64 l.modes,rv,iv,dv]/\RdV rLR S rv l.rules/\SlV S iv ivs/\ivs.length=l.modes.toNat/\SlC S 2 dv l.modes.toNat dcs/\ ∀k,k<l.modes.toNat->MacK S l.rules dcs ivs k
section
variable {Q:Value->PH->Prop}{n D:Nat}{cl:CL}{h h0:PH}{S:Vw}{rows:Rws}{l:Lxr}
def MakB(l:Lxr)(S:Vw)(h0:PH)(rows:Rws)(u:Value)(h':PH):Prop:=(∃S',Vw.le S S'/\Sl h0 h' S' OM.emp rows/\u= .tuple ⟨[.pointer none,.int .i64 (-1),.int .i64 0,.bool false]⟩)\/ ∃S' e,Vw.le S S'/\Sl h0 h' S' OM.emp rows/\u= .tuple ⟨[pt e,.int .i64 (-1),.int .i64 0,.bool true]⟩/\MacP S' l e
end
section
variable {Q:Value->PH->Prop}{n D:Nat}{cl:CL}{h h0:PH}{S:Vw}{rows:Rws}{l:Lxr}
end
structure Dsp3(n D:Nat)(cl:CL):Prop extends Dsp2 n D cl where
 al: ∀h,cl 15 [] h=some (.bool true,h)
section
variable {Q:Value->PH->Prop}{n D:Nat}{cl:CL}{h h0:PH}{S:Vw}{rows:Rws}{l:Lxr}
theorem c19[OkH h]{z:Int}:pcall (F19 n cl (.int .i64 z) h)=some (.int .i64 z):=pcall_some rfl
end
def runN(po:Po):List Nat->List Nat->List Nat
 |X,[]=>X
 |X,c::cs=>runN po ((X.flatMap fun y=>po.follow.getD y []).filter fun i=>takesB po c i) cs
def runP(po:Po):List Nat->List Nat
 | []=>[]
 |c::cs=>runN po (po.first.filter fun i=>takesB po c i) cs
def takB(po:Po)(w:List Nat):Bool:=if w=[]then po.null else(runP po w).any fun y=>po.last.contains y
theorem nowP_run{po:Po}: ∀(cs:List Nat)(P:Nat->Prop)(X:List Nat),(∀y,P y↔y∈X)-> ∀y,nowP po P cs y↔y∈runN po X cs
 | [],P,X,h,y=>h y
 |c::cs,P,X,h,y=>by
  refine nowP_run cs _ _ (fun i=>?_) y;rw[List.mem_filter,List.mem_flatMap];constructor
  ·rintro⟨⟨z,h1,h2⟩,h3⟩;exact⟨⟨z,(h z).1 h1,h2⟩,h3⟩
  ·rintro⟨⟨z,h1,h2⟩,h3⟩;exact⟨⟨z,(h z).2 h1,h2⟩,h3⟩
theorem takesP_iff{po:Po}{w:List Nat}:takesP po w↔takB po w=true:=by
 cases w with
 |nil=>exact Iff.rfl
 |cons c cs=>
  unfold takB;rw[if_neg (by simp),List.any_eq_true];have hr:=nowP_run (po:=po) cs (fun i=>i∈po.first/\takesB po c i=true) (po.first.filter fun i=>takesB po c i) fun y=>by rw[List.mem_filter]
  constructor
  ·rintro⟨y,h1,h2⟩;exact⟨y,(hr y).1 h1,by simpa using h2⟩
  ·rintro⟨y,h1,h2⟩;exact⟨y,(hr y).2 h1,by simpa using h2⟩
theorem runN_nil{po:Po}: ∀(cs:List Nat),runN po [] cs=[]
 | []=>rfl
 |c::cs=>runN_nil cs
theorem runN_app{po:Po}: ∀(a b X:List Nat),runN po X (a++b)=runN po (runN po X a) b
 | [],b,X=>rfl
 |c::a,b,X=>runN_app a b _
theorem runP_app{po:Po}{c:Nat}{a b:List Nat}:runP po ((c::a)++b)=runN po (runP po (c::a)) b:=runN_app a b _
def fstB:List Po->List Nat->Nat->Int
 | [],_,_=> -1
 |po::l,w,k=>if takB po w=true then((k:Nat):Int)else fstB l w (k+1)
theorem fstB_spec{w:List Nat}: ∀(l:List Po)(k:Nat),(fstB l w k= -1/\ ∀(j:Nat)(po:Po),l[j]?=some po->takB po w=false)\/ ∃(j:Nat) (po:Po),fstB l w k=((k+j:Nat):Int)/\l[j]?=some po/\takB po w=true/\ ∀(i:Nat)(po':Po),i<j->l[i]?=some po'->takB po' w=false
 | [],k=>.inl ⟨rfl,fun j po h=>by simp at h⟩
 |po::l,k=>by
  unfold fstB;cases ht:takB po w with
  |true=>exact .inr ⟨0,po,by simp,rfl,ht,fun i po' hi=>by omega⟩
  |false=>
   rw[if_neg (by simp)];rcases fstB_spec l (k+1)with⟨h1,h2⟩|⟨j,po',h1,h2,h3,h4⟩
   ·refine .inl ⟨h1,fun j po' hj=>?_⟩;cases j with
    |zero=>simp at hj;subst hj;exact ht
    |succ j=>exact h2 j po' (by simpa using hj)
   ·refine .inr ⟨j+1,po',by rw[h1];congr 1;omega,by simpa using h2,h3,fun i po'' hi hx=>?_⟩;cases i with
    |zero=>simp at hx;subst hx;exact ht
    |succ i=>exact h4 i po'' (by omega) (by simpa using hx)
def accB(l:List Po)(w:List Nat):Int:=fstB l w 0
section
variable {l:List Po}{d:Dfa}{p w:List Nat}{c i len:Nat}{r:Int}
theorem AutK.acc(h:AutK l d)(hw:Byt w):dacc d (drun d 0 w)=accB l w:=by
 refine(h.2 w hw).uniq ?_;unfold accB;rcases fstB_spec (w:=w) l 0 with⟨h1,h2⟩|⟨j,po,h1,h2,h3,h4⟩
 ·rw[h1];refine .inl ⟨rfl,fun k hk ⟨po,h3,h4⟩=>?_⟩;have:=h2 k po h3;rw[takesP_iff,this]at h4;cases h4
 ·rw[h1];refine .inr ⟨j,by simp,(List.getElem?_eq_some_iff.1 h2).1,⟨po,h2,takesP_iff.2 h3⟩,fun i hi ⟨po',h5,h6⟩=>?_⟩;have:=h4 i po' hi h5;rw[takesP_iff,this]at h6;cases h6
theorem drun_app{d:Dfa}{i:Int}{a b:List Nat}:drun d i (a++b)=drun d (drun d i a) b:=by unfold drun;rw[List.foldl_append]
theorem drun_in(hc:Canon d): ∀(w:List Nat)(i:Nat),Byt w->i<d.next.length->drun d i w= -1\/ ∃k:Nat,k<d.next.length/\drun d i w=k
 | [],i,_,hi=>.inr ⟨i,hi,rfl⟩
 |c::w,i,hb,hi=>by
  have hb':Byt w:=fun x hx=>hb x (.tail _ hx);rw[drun_cons];rcases hc.rng i c hi (hb c (.head _))with h|⟨k,hk,h⟩
  ·rw[h,drun_neg];exact .inl rfl
  ·rw[h];exact drun_in hc w k hb' hk
theorem scn_live(h:AutK l d)(hp:Byt p)(hc:c<256)(h0:0<=drun d 0 p){v:List Nat}(hv:Byt v)(hx:accB l (p++c::v)≠ -1):
  0<=drun d 0 (p++[c])/\scn d (c::w) i (drun d 0 p).toNat r len=if 0<=accB l (p++[c])then scn d w (i+1) (drun d 0 (p++[c])).toNat (accB l (p++[c])) (i+1)else scn d w (i+1) (drun d 0 (p++[c])).toNat r len:=by
 have e1:drun d 0 (p++[c])=dstep d (drun d 0 p) c:=by rw[drun_app];rfl
 have hb:Byt (p++[c]):=fun x hx=>by
  rcases List.mem_append.1 hx with h|h
  ·exact hp x h
  ·have:x=c:=by simpa using h
   rw[this];exact hc
 have hb2:Byt (p++c::v):=fun x hx=>by
  rcases List.mem_append.1 hx with h|h
  ·exact hp x h
  ·rcases List.mem_cons.1 h with rfl|h
   ·exact hc
   ·exact hv x h
 have hne:dstep d (drun d 0 p) c≠ -1:=fun he=>by
  have:=h.acc hb2;rw[drun_app,drun_cons,he,drun_neg]at this;exact hx this.symm
 have hge:0<=dstep d (drun d 0 p) c:=by
  rcases drun_in h.1 (p++[c]) 0 hb h.1.pos with hh|⟨k,_,hh⟩
  ·exact absurd (e1▸hh) hne
  ·have:drun d 0 (p++[c])=k:=hh;rw[e1]at this;omega
 refine⟨by rw[e1];exact hge,?_⟩;have ha:=h.acc hb;rw[e1]at ha ⊢;have et:((drun d 0 p).toNat:Int)=drun d 0 p:=Int.toNat_of_nonneg h0
 show(if dstep d ((drun d 0 p).toNat:Nat) c<0 then _ else _)=_
 rw[et,if_neg (by omega),ha]
theorem scn_dead(h:AutK l d)(hp:Byt p)(hc:c<256)(h0:0<=drun d 0 p)(hx: ∀v,Byt v->accB l (p++c::v)= -1):scn d (c::w) i (drun d 0 p).toNat r len=(r,len,i+1):=by
 have et:((drun d 0 p).toNat:Int)=drun d 0 p:=Int.toNat_of_nonneg h0;have hk:(drun d 0 p).toNat<d.next.length:=by
  rcases drun_in h.1 p 0 hp h.1.pos with hh|⟨k,hk,hh⟩
  ·have:drun d 0 p= -1:=hh;omega
  ·have:drun d 0 p=k:=hh;omega
 have he:dstep d (drun d 0 p) c= -1:=by
  refine Classical.byContradiction fun hne=>?_;obtain⟨v,hv,hv2⟩:=h.1.live (drun d 0 p).toNat c hk hc (by rw[et];exact hne);rw[et]at hv2;have hb2:Byt (p++c::v):=fun x hx=>by
   rcases List.mem_append.1 hx with h|h
   ·exact hp x h
   ·rcases List.mem_cons.1 h with rfl|h
    ·exact hc
    ·exact hv x h
  have:=h.acc hb2;rw[drun_app,drun_cons,hx v hv]at this;exact hv2 this
 show(if dstep d ((drun d 0 p).toNat:Nat) c<0 then _ else _)=_
 rw[et,if_pos (by rw[he];decide)]
theorem scn_end(h0:0<=drun d 0 p):scn d [] i (drun d 0 p).toNat r len=(r,len,i+1):=rfl
theorem dead_of{c:Nat}{a:List Nat}(h: ∀po∈l,runP po (c::a)=[])(v:List Nat):accB l ((c::a)++v)= -1:=by
 unfold accB;rcases fstB_spec (w:=(c::a)++v) l 0 with⟨h1,_⟩|⟨j,po,_,h2,h3,_⟩
 ·exact h1
 ·exfalso;unfold takB at h3;rw[if_neg (by simp),runP_app,h po (List.mem_of_getElem? h2),runN_nil]at h3;cases h3
end
theorem xMark_row{h:PH}{b o n c e:Nat}{md:Mode}{cs:List Value}(hg:h.get b=some (.row md e cs))(hm:mro md=false)(h0:0<c)(h1:c<4611686018427387904):xMark (.slice (some ⟨b,o,none⟩) n c) h=some (.slice (some ⟨b,o,none⟩) n c,h):=by
 unfold xMark;have e0:Nat.blt 0 c=true:=blt_t' h0;have e1:Nat.blt c 4611686018427387904=true:=blt_t' h1;simp only[e0,e1,hg,hm]
def tAB:ByteArray:=⟨#[97,98]⟩
def lx0:Lxr:=⟨1,[]⟩
def lx1:Lxr:=⟨1,[⟨tAB,0,0,3⟩]⟩
theorem lx0_ok:lx0.Ok:=⟨⟨by decide,by decide,by decide⟩,rfl⟩
theorem lx1_ok:lx1.Ok:=⟨⟨by decide,by decide,by decide⟩,by kernel_rfl⟩
theorem lx0_in:lx0.In:=⟨⟨by decide,by decide⟩,by decide,fun r hr=>by cases hr⟩
theorem lx1_in:lx1.In:=⟨⟨by decide,by decide⟩,by decide,fun r hr=>by
 have:r=⟨tAB,0,0,3⟩:=by simpa[lx1]using hr
 subst this;exact⟨by decide,⟨by decide,by decide⟩,⟨by decide,by decide⟩,⟨by decide,by decide⟩⟩⟩
theorem few_le{l:List Po}{k:Nat}(h:tot l=k)(hk:k<=10)(hl:l.length<=40):CanK l:=CanK.few hl (by omega)
theorem lx0_kn:KnwL lx0:=fun _ k hk=>CanK.few (by simp[rulesOf,lx0]) (by simp[rulesOf,lx0,tot])
theorem lx1_kn:KnwL lx1:=fun _ k hk=>by
 obtain rfl:k=0:=by
  have hk:((k:Nat):Int)<1:=hk;omega
 exact few_le (k:=2) (by kernel_rfl) (by decide) (by decide)
abbrev LAB:List Po:=(rulesOf lx1.rules ((0:Nat):Int)).map posOf
theorem byt_nil:Byt []:=fun x hx=>by cases hx
theorem byt_cons{c:Nat}{w:List Nat}(hc:c<256)(hw:Byt w):Byt (c::w):=fun x hx=>by
 rcases List.mem_cons.1 hx with rfl|h
 ·exact hc
 ·exact hw x h
theorem scnAB{d:Dfa}(h:AutK LAB d):scn d [97,98] 0 0 (-1) 0=(0,2,3):=by
 have e1:accB LAB [97]= -1:=by kernel_rfl
 have e2:accB LAB [97,98]=0:=by kernel_rfl
 obtain⟨a1,a2⟩:=scn_live (p:=[]) (w:=[98]) (i:=0) (len:=0) (r:= -1) (c:=97) h byt_nil (by decide) (Int.le_refl 0) (v:=[98]) (byt_cons (by decide) byt_nil) (by show accB LAB [97,98]≠ -1;rw[e2];decide);obtain⟨b1,b2⟩:=scn_live (p:=[97]) (w:=[]) (i:=1) (len:=0) (r:= -1) (c:=98) h (byt_cons (by decide) byt_nil) (by decide) a1 (v:=[]) byt_nil (by show accB LAB [97,98]≠ -1;rw[e2];decide);refine Eq.trans a2 ?_;have e1:accB LAB ([]++[97])= -1:=e1;have e2:accB LAB ([97]++[98])=0:=e2;rw[e1,if_neg (by decide)];refine Eq.trans b2 ?_;rw[e2,if_pos (by decide)]
 rfl
theorem ab24_1{m:Int}:abuild Tryz.prog 24 [(0,.int .i64 m)]=some (.agg ⟨[.int .i64 m,nils]⟩):=by kernel_rfl
theorem ab24_2{m:Int}{b n c:Nat}:abuild Tryz.prog 24 [(0,.int .i64 m),(1,.slice (some ⟨b,0,none⟩) n c)]=some (.agg ⟨[.int .i64 m,.slice (some ⟨b,0,none⟩) n c]⟩):=by kernel_rfl
theorem ab46AB:abuild Tryz.prog 46 [(0,(Value.string {data:= #[97,98]})),(3,.int .i64 3)]=some (.agg ⟨[.string tAB,.int .i64 0,.int .i64 0,.int .i64 3]⟩):=by kernel_rfl
theorem bs22_1{t:ByteArray}{a b c:Int}:bsRow Tryz.prog 22 1 [(0,.agg ⟨[.string t,.int .i64 a,.int .i64 b,.int .i64 c]⟩)]=some (4,[.string t,.int .i64 a,.int .i64 b,.int .i64 c]):=by kernel_rfl
theorem bs33_2{a b:Int}:bsRow Tryz.prog 33 2 [(0,.int .u8 a),(1,.int .u8 b)]=some (1,[.int .u8 a,.int .u8 b]):=by kernel_rfl
section
variable {Q:Value->PH->Prop}{n D:Nat}{cl:CL}{h h0:PH}{S:Vw}{rows:Rws}{l:Lxr}
theorem lxv_of{b c:Nat}{cells:List Value}{l:Lxr}(hb:S b=some cells)(hc:cells=flt eR l.rules)(hne:l.rules≠[]):LxV S l (.agg ⟨[.int .i64 l.modes,.slice (some ⟨b,0,none⟩) l.rules.length c]⟩):=by
 subst hc;have hl:=flt_len (E:=eR) (l:=l.rules);have e4:eR.sz=4:=rfl;rw[e4]at hl;exact⟨_,rfl,rdv_flt hb (by omega) (List.take_of_length_le (by omega)),fun he=>absurd he hne⟩
theorem lxv_nil{m:Int}:LxV S ⟨m,[]⟩ (.agg ⟨[.int .i64 m,nils]⟩):=⟨nils,rfl,.inl ⟨rfl,none,0,rfl⟩,fun _=>⟨none,0,rfl⟩⟩
theorem alive15[OkH h](hn:4611686018427387904<=n)(hD:1000<=D)(dp:Dsp2 n (D+1) cl):Ret (F15 n cl h) fun u _=>u= .bool true:=by
 have d1:Dsp n (D+1) cl:=dp.toDsp;have c0:=c18 (n:=n) (cl:=cl) (h:=h.fzn) (S:=fun _=>none) (l:=lx0) (v:=.agg ⟨[.int .i64 ((1:Nat):Int),nils]⟩) hn (by omega) d1 (fun b cs e=>by cases e) lxv_nil lx0_in lx0_kn;rw[lx0_ok.chk]at c0;unfold F15;simp only[vN_eq,ab24_1,vb_some,c0,xExt_t',List.getElem?_cons_zero,List.getElem?_cons_succ];have e46:abuild Tryz.prog 46 [(0,(Value.string {data:= #[97,98]})),(3,.int .i64 ((3:Nat):Int))]=some (.agg ⟨[.string tAB,.int .i64 0,.int .i64 0,.int .i64 3]⟩):=ab46AB;simp only[e46,vb_some];refine Ret.lbs (Sl.start h (S:=fun _=>none) (fun b cs e=>by cases e)) bs22_1 fun h1 b st=>?_;obtain⟨st1,fr⟩:=st.settle (i:=0) rfl;have hb:(Vw.put (fun _=>none) b [.string tAB,.int .i64 0,.int .i64 0,.int .i64 3]) b=some [.string tAB,.int .i64 0,.int .i64 0,.int .i64 3]:=Vw.put_self;generalize Vw.put (fun _=>none) b [.string tAB,.int .i64 0,.int .i64 0,.int .i64 3]=S1 at st1 hb;have st1:Sl h h1 S1 OM.emp []:=st1;have hv:=lxv_of (S:=S1) (l:=lx1) (c:=1) hb rfl (by decide);have ab2:abuild Tryz.prog 24 [(0,.int .i64 ((1:Nat):Int)),(1,.slice (some ⟨b,0,none⟩) 1 1)]=some (.agg ⟨[.int .i64 lx1.modes,.slice (some ⟨b,0,none⟩) lx1.rules.length 1]⟩):=ab24_2;simp only[ab2,vb_some];refine Ret.hb (c21 hn (by omega) d1 hv lx1_in lx1_kn st1) fun u h2 hq=>?_;rcases hq with⟨hne,_⟩|⟨_,S2,x,mr,le2,st2,rfl,hx⟩
 ·rw[lx1_ok.chk]at hne;exact absurd rfl hne
 have st2:Sl h h2 S2 OM.emp (mr++[]):=st2;have okh2:=st2.ok;have w19:=fun z=>c19 (n:=n) (cl:=cl) (h:=h2.fzn) (z:=z);have d0:(!decide ((0:Int)=((0:Nat):Int)))=false:=by decide
 simp only[xExt_t',List.getElem?_cons_zero,List.getElem?_cons_succ,vb_some,w19,xNe_i,d0,isB_f,Bool.not_false,gd_true,nil37,xPick_f,bite_f,F15_0];refine Ret.lbs st2 bs33_2 fun h3 t st3=>?_;have hg:=st3.sm.get (st3.mem (.head _));rw[xMark_row hg rfl (by decide) (by decide)];simp only[hb_some];obtain⟨st4,fr4⟩:=st3.settle (i:=0) rfl;have hb4:(S2.put t [.int .u8 (Int.ofNat 97),.int .u8 (Int.ofNat 98)]) t=some [.int .u8 (Int.ofNat 97),.int .u8 (Int.ofNat 98)]:=Vw.put_self;have le4:Vw.le S2 (S2.put t [.int .u8 (Int.ofNat 97),.int .u8 (Int.ofNat 98)]):=Vw.le_put fr4;generalize S2.put t [.int .u8 (Int.ofNat 97),.int .u8 (Int.ofNat 98)]=S4 at st4 hb4 le4;have st4:Sl h h3 S4 OM.emp (mr++[]):=st4;have htx:TxV S4 (.slice (some ⟨t,0,none⟩) 2 2) [97,98]:=.inr ⟨t,0,2,rfl,⟨by decide,.inl (by decide)⟩,fun _=>⟨_,hb4,by decide,fun i x hx=>by
  match i,hx with
  |0,hx=>cases hx;rfl
  |1,hx=>cases hx;rfl⟩⟩
 have hml:mr.length=1:=by
  have:=hx.len;have:(mr.length:Int)=1:=this;omega
 refine Ret.hb (c22 hn hD dp lx1_in lx1_ok lx1_kn (hx.mono le4) htx (by decide) (byt_cons (by decide) (byt_cons (by decide) byt_nil)) st4) fun u h5 ⟨S5,mr',d,le5,st5,hx5,hau,hu⟩=>?_;have e1:clp (Int.ofNat 0) (mr.length-1)=0:=by rw[hml];rfl
 have e2:clp (Int.ofNat 0) [97,98].length=0:=rfl;rw[e1]at hau hu;rw[e2]at hu;have hone:oneT (rulesOf lx1.rules ((0:Nat):Int)) d 0 [97,98] 0=(⟨3,0,2,3,0⟩,0):=oneT_some (k:=0) (r:=⟨tAB,0,0,3⟩) (scnAB hau) rfl;rw[hone]at hu;subst hu;have st5:Sl h h5 S5 OM.emp (mr'++[]):=st5;simp only[xExt_t',List.getElem?_cons_zero,List.getElem?_cons_succ,vb_some];refine Ret.lalloc st5 zc41 fun h6 j st6=>?_;refine Ret.lstA st6 0 rfl rfl rfl (Nat.le_refl 5) rfl fun h7 st7=>?_;have st7:Sl h h7 S5 OM.emp ((j,.row .own 1 (tkv ⟨3,0,2,3,0⟩))::(mr'++[])):=st7;have l1:xLd (.pointer (some ⟨j,0,none⟩)) h7=some (.int .i64 3):=st7.ld (.head _) rfl;have l2:xLd (.pointer (some ⟨j,2,none⟩)) h7=some (.int .i64 2):=st7.ld (.head _) rfl;have okh7:=st7.ok;have w19:=fun z=>c19 (n:=n) (cl:=cl) (h:=h7.fzn) (z:=z);have t0:decide ((0:Int)=((0:Nat):Int))=true:=by decide
 have t1:decide ((-1:Int)=Int.negSucc 0)=true:=by decide
 have t2:decide ((3:Int)=((3:Nat):Int))=true:=by decide
 have t3:decide ((2:Int)=((2:Nat):Int))=true:=by decide
 simp only[w19,vb_some,xEq_i,vN_eq,vM_eq,t0,t1,t2,t3,isB_t,gd_true,xPick_t,xFld_p,Nat.zero_add,l1,l2];exact Ret.of rfl
end
theorem sw_ne{g k:Nat}{x y:R}(h:g≠k):sw g k x y=y:=by
 unfold sw;have:Nat.beq g k=false:=by
  cases hq:Nat.beq g k with
  |false=>rfl
  |true=>exact absurd (Nat.eq_of_beq_eq_true hq) h
 rw[this]
noncomputable def CLo(n d:Nat):CL:=toldOnce (LV n d)
theorem CLo_ok(n d:Nat):OkCL Tryz.prog (CLo n d):=toldOnce_ok (LV_ok n d)
theorem CLo_dsp(n D:Nat):Dsp2 n D (CLo n (D+1)):=⟨⟨fun f xs h _ _ _ h78=>sw_ne h78⟩,fun xs h=>rfl⟩
instance h00_ok:OkH h00:=⟨Nat.le_refl _,rfl⟩
noncomputable def CL7(n d:Nat):CL:=toldOr 15 (.bool true) (CLo n d)
theorem CL7_ok(n d:Nat):OkCL Tryz.prog (CL7 n d):=by
 obtain⟨u,k,hk,hu⟩:=alive15 (n:=4611686018427387904) (D:=1000) (cl:=CLo 4611686018427387904 1002) (h:=h00) (Nat.le_refl _) (Nat.le_refl _) (CLo_dsp _ _);subst hu;have:=(S15 _ (CLo_ok _ _)).c0 hk;refine toldOr_ok (CLo_ok n d) this.1.1 rfl ?_;have hc:=this.1.2;have h0:h00.abs=[]:=rfl;rw[h0]at hc;exact hc.mono fun u k hq=>hq.1
theorem CL7_dsp(n D:Nat):Dsp3 n D (CL7 n (D+1)):=⟨⟨⟨fun f xs h h15 _ _ h78=>(sw_ne h15).trans (sw_ne h78)⟩,fun xs h=>rfl⟩,fun h=>rfl⟩
end Go.Am
namespace Go.Am
open Go Go.RowKit Go.Proofs Go.ChangeShapes Go.WideShapes
inductive Flds(P:Program):Nat->List (TypeId×Nat)->{α:Type}->Rdr α->(α->Prop)->Prop
 |one {o:Nat} {t:TypeId} {α:Type} {R:Rdr α} {G:α->Prop}:Opens P t R G->P.cellsOf t=R.sz->Flds P o [(t,o)] R G
 |cons {o:Nat} {t:TypeId} {L:List (TypeId×Nat)} {α β:Type} {R:Rdr α} {S:Rdr β} {G:α->Prop} {G':β->Prop}:Opens P t R G->P.cellsOf t=R.sz->Flds P (o+R.sz) L S G'->Flds P o ((t,o)::L) (R.pr S) fun x=>G x.1/\G' x.2
section
variable {P:Program}
end
end Go.Am
namespace Go.Am
open Go Go.RowKit Go.Proofs
def tX:ByteArray:=⟨#[120,43]⟩
def tAZ:ByteArray:=⟨#[91,97,45,122,93,43]⟩
def pX:Po:=match plcT tX with
 | .ok p=>p
 | .error _=>po0
def pAZ:Po:=match plcT tAZ with
 | .ok p=>p
 | .error _=>po0
theorem plX:plcT tX= .ok pX:=by kernel_rfl
theorem plAZ:plcT tAZ= .ok pAZ:=by kernel_rfl
theorem nlX:pX.null=false:=by kernel_rfl
theorem nlAZ:pAZ.null=false:=by kernel_rfl
def lxF(a b c d:Int):Lxr:=⟨4,[⟨tX,d,0,a⟩,⟨tAZ,c,1,b⟩]⟩
theorem posF(a b c:Int):posOf ⟨tX,a,b,c⟩=pX/\posOf ⟨tAZ,a,b,c⟩=pAZ:=by
 unfold posOf;simp only[plX,plAZ,and_self]
theorem totF:tot [pX,pAZ]=2/\tot [pAZ]=1/\tot [pX]=1:=⟨by kernel_rfl,by kernel_rfl,by kernel_rfl⟩
section
variable {a b c d:Int}
theorem lxF_ok(ha:0<=a/\a<=39)(hb:0<=b/\b<=39)(hc:0<=c/\c<=3)(hd:0<=d/\d<=3):(lxF a b c d).Ok:=by
 refine⟨⟨show(1:Int)<=4 by decide,show(4:Int)<=8 by decide,show 2<=40 by decide⟩,?_⟩;have r1:ruleT 4 ⟨tX,d,0,a⟩=0:=by
  have hB: ¬ RuleB 4 ⟨tX,d,0,a⟩:=by unfold RuleB;dsimp only;omega
  rw[ruleT_ok hB plX,nlX];rfl
 have r2:ruleT 4 ⟨tAZ,c,1,b⟩=0:=by
  have hB: ¬ RuleB 4 ⟨tAZ,c,1,b⟩:=by unfold RuleB;dsimp only;omega
  rw[ruleT_ok hB plAZ,nlAZ];rfl
 show chkT 4 [⟨tX,d,0,a⟩,⟨tAZ,c,1,b⟩] 0=none
 unfold chkT;rw[if_pos r1];unfold chkT;rw[if_pos r2]
 rfl
theorem lxF_in(ha:0<=a/\a<=39)(hb:0<=b/\b<=39)(hc:0<=c/\c<=3)(hd:0<=d/\d<=3):(lxF a b c d).In:=⟨⟨show(-9223372036854775808:Int)<=4 by decide,show(4:Int)<9223372036854775808 by decide⟩,show 2<9223372036854775808 by decide,fun r hr=>by
 have:r=⟨tX,d,0,a⟩\/r=⟨tAZ,c,1,b⟩:=by simpa[lxF]using hr
 rcases this with rfl|rfl
 ·exact⟨show tX.size<9223372036854775808 by decide,⟨by dsimp only;omega,by dsimp only;omega⟩,⟨show(-9223372036854775808:Int)<=0 by decide,show(0:Int)<9223372036854775808 by decide⟩,⟨by dsimp only;omega,by dsimp only;omega⟩⟩
 ·exact⟨show tAZ.size<9223372036854775808 by decide,⟨by dsimp only;omega,by dsimp only;omega⟩,⟨show(-9223372036854775808:Int)<=1 by decide,show(1:Int)<9223372036854775808 by decide⟩,⟨by dsimp only;omega,by dsimp only;omega⟩⟩⟩
theorem rulesF(k:Int):rulesOf (lxF a b c d).rules k=(if d=k then [⟨tX,d,0,a⟩]else [])++(if c=k then [⟨tAZ,c,1,b⟩]else []):=by
 unfold rulesOf lxF
 by_cases h1:d=k<;>by_cases h2:c=k<;>simp[h1,h2]
theorem lxF_kn:KnwL (lxF a b c d):=fun _ k hk=>by
 rw[rulesF]
 split<;>split<;>simp only[List.nil_append,List.append_nil,List.map_cons,List.map_nil,List.cons_append,posF]
 ·exact few_le (k:=2) totF.1 (by decide) (by simp)
 ·exact few_le (k:=1) totF.2.2 (by decide) (by simp)
 ·exact few_le (k:=1) totF.2.1 (by decide) (by simp)
 ·exact few_le (k:=0) rfl (by decide) (by simp)
end
theorem byt3:Byt [120,120,120]:=byt_cons (by decide) (byt_cons (by decide) (byt_cons (by decide) byt_nil))
theorem scn4{L:List Po}{d:Dfa}(h:AutK L d)(e1:accB L [120]=0)(e2:accB L [120,120]=0)(e3:accB L [120,120,120]=0)(hd: ∀po∈L,runP po [120,120,120,33]=[]):scn d [120,120,120,33] 0 0 (-1) 0=(0,3,4):=by
 obtain⟨a1,a2⟩:=scn_live (p:=[]) (w:=[120,120,33]) (i:=0) (len:=0) (r:= -1) (c:=120) h byt_nil (by decide) (Int.le_refl 0) (v:=[]) byt_nil (by show accB L [120]≠ -1;rw[e1];decide);obtain⟨b1,b2⟩:=scn_live (p:=[120]) (w:=[120,33]) (i:=1) (len:=1) (r:=0) (c:=120) h (byt_cons (by decide) byt_nil) (by decide) a1 (v:=[]) byt_nil (by show accB L [120,120]≠ -1;rw[e2];decide);obtain⟨c1,c2⟩:=scn_live (p:=[120,120]) (w:=[33]) (i:=2) (len:=2) (r:=0) (c:=120) h (byt_cons (by decide) (byt_cons (by decide) byt_nil)) (by decide) b1 (v:=[]) byt_nil (by show accB L [120,120,120]≠ -1;rw[e3];decide);have d1:=scn_dead (p:=[120,120,120]) (w:=[]) (i:=3) (len:=3) (r:=0) (c:=33) h byt3 (by decide) c1 (fun v _=>dead_of (c:=120) (a:=[120,120,33]) hd v);refine Eq.trans a2 ?_;rw[show accB L ([]++[120])=0 from e1,if_pos (by decide)];refine Eq.trans b2 ?_;rw[show accB L ([120]++[120])=0 from e2,if_pos (by decide)];refine Eq.trans c2 ?_;rw[show accB L ([120,120]++[120])=0 from e3,if_pos (by decide)];exact d1
theorem accF:accB [pX,pAZ] [120]=0/\accB [pX,pAZ] [120,120]=0/\accB [pX,pAZ] [120,120,120]=0/\accB [pAZ] [120]=0/\accB [pAZ] [120,120]=0/\accB [pAZ] [120,120,120]=0:=⟨by kernel_rfl,by kernel_rfl,by kernel_rfl,by kernel_rfl,by kernel_rfl,by kernel_rfl⟩
theorem deadF:runP pX [120,120,120,33]=[]/\runP pAZ [120,120,120,33]=[]:=⟨by kernel_rfl,by kernel_rfl⟩
theorem ab46X{a b:Int}:abuild Tryz.prog 46 [(0,(Value.string {data:= #[120,43]})),(1,.int .i64 a),(3,.int .i64 b)]=some (.agg ⟨[.string tX,.int .i64 a,.int .i64 0,.int .i64 b]⟩):=by kernel_rfl
theorem ab46Z{a b c:Int}:abuild Tryz.prog 46 [(0,(Value.string {data:= #[91,97,45,122,93,43]})),(1,.int .i64 a),(2,.int .i64 c),(3,.int .i64 b)]=some (.agg ⟨[.string tAZ,.int .i64 a,.int .i64 c,.int .i64 b]⟩):=by kernel_rfl
theorem bs22_2{t t':ByteArray}{a b c a' b' c':Int}:bsRow Tryz.prog 22 2 [(0,.agg ⟨[.string t,.int .i64 a,.int .i64 b,.int .i64 c]⟩),(1,.agg ⟨[.string t',.int .i64 a',.int .i64 b',.int .i64 c']⟩)]=some (4,[.string t,.int .i64 a,.int .i64 b,.int .i64 c,.string t',.int .i64 a',.int .i64 b',.int .i64 c']):=by kernel_rfl
theorem bs33_4{a b c d:Int}:bsRow Tryz.prog 33 4 [(0,.int .u8 a),(1,.int .u8 b),(2,.int .u8 c),(3,.int .u8 d)]=some (1,[.int .u8 a,.int .u8 b,.int .u8 c,.int .u8 d]):=by kernel_rfl
theorem zc24:zcells Tryz.prog 24=some [.int .i64 0,nils]:=by kernel_rfl
section
variable {Q:Value->PH->Prop}{n D:Nat}{cl:CL}{h h0:PH}{S:Vw}{rows:Rws}
theorem law5w[OkH h](hn:4611686018427387904<=n)(hD:1000<=D)(dp:Dsp3 n (D+1) cl){a b c d:Int}(ha:0<=a/\a<=39)(hb:0<=b/\b<=39)(hc:0<=c/\c<=3)(hd:0<=d/\d<=3):
  Ret (F5_3 n cl (.int .i64 d) (.int .i64 a) (.int .i64 c) (.int .i64 b) h) fun u _=>u= .bool true:=by
 have hok:=lxF_ok ha hb hc hd;have hin:=lxF_in ha hb hc hd;have hkn:=lxF_kn (a:=a) (b:=b) (c:=c) (d:=d);have d1:Dsp n (D+1) cl:=dp.toDsp;unfold F5_3;have e2:abuild Tryz.prog 46 [(0,(Value.string {data:= #[91,97,45,122,93,43]})),(1,.int .i64 c),(2,.int .i64 ((1:Nat):Int)),(3,.int .i64 b)]=some (.agg ⟨[.string tAZ,.int .i64 c,.int .i64 1,.int .i64 b]⟩):=ab46Z;simp only[ab46X,vb_some,vN_eq,e2];refine Ret.lbs (Sl.start h (S:=fun _=>none) (fun b cs e=>by cases e)) bs22_2 fun h1 t st=>?_;obtain⟨st1,fr⟩:=st.settle (i:=0) rfl;have hbt:(Vw.put (fun _=>none) t [.string tX,.int .i64 d,.int .i64 0,.int .i64 a,.string tAZ,.int .i64 c,.int .i64 1,.int .i64 b]) t=some [.string tX,.int .i64 d,.int .i64 0,.int .i64 a,.string tAZ,.int .i64 c,.int .i64 1,.int .i64 b]:=Vw.put_self;generalize Vw.put (fun _=>none) t [.string tX,.int .i64 d,.int .i64 0,.int .i64 a,.string tAZ,.int .i64 c,.int .i64 1,.int .i64 b]=S1 at st1 hbt;have st1:Sl h h1 S1 OM.emp []:=st1;have hv:=lxv_of (S:=S1) (l:=lxF a b c d) (c:=2) hbt rfl (by simp[lxF]);have ab2:abuild Tryz.prog 24 [(0,.int .i64 ((4:Nat):Int)),(1,.slice (some ⟨t,0,none⟩) 2 2)]=some (.agg ⟨[.int .i64 (lxF a b c d).modes,.slice (some ⟨t,0,none⟩) (lxF a b c d).rules.length 2]⟩):=ab24_2;simp only[ab2,vb_some];refine Ret.lalloc st1 zc24 fun h2 j st2=>?_;refine Ret.lstA st2 0 rfl rfl rfl (Nat.le_refl 2) rfl fun h3 st3=>?_;have l1:xLdA 2 (pt j) h3=some (.agg ⟨[.int .i64 (lxF a b c d).modes,.slice (some ⟨t,0,none⟩) (lxF a b c d).rules.length 2]⟩):=st3.ldA (.head _) rfl (Nat.le_refl 2);simp only[l1,vb_some];refine Ret.hb (c21 hn (by omega) d1 hv hin hkn st3) fun u h4 hq=>?_;rcases hq with⟨hne,_⟩|⟨_,S2,x,mr,le2,st4,rfl,hx⟩
 ·rw[hok.chk]at hne;exact absurd rfl hne
 have st4:Sl h h4 S2 OM.emp (mr++[]):=by rw[List.append_nil];exact st4.drop (List.sublist_append_left _ _)
 have okh4:=st4.ok;have w19:=fun z=>c19 (n:=n) (cl:=cl) (h:=h4.fzn) (z:=z);have d0:(!decide ((0:Int)=((0:Nat):Int)))=false:=by decide
 simp only[xExt_t',List.getElem?_cons_zero,List.getElem?_cons_succ,vb_some,w19,xNe_i,d0,isB_f,Bool.not_false,gd_true,nil37,xPick_f,bite_f,F5_2,vN_eq];refine Ret.lbs st4 bs33_4 fun h5 y st5=>?_;have hg:=st5.sm.get (st5.mem (.head _));rw[xMark_row hg rfl (by decide) (by decide)];simp only[hb_some];obtain⟨st6,fr6⟩:=st5.settle (i:=0) rfl;have hb6:(S2.put y [.int .u8 (Int.ofNat 120),.int .u8 (Int.ofNat 120),.int .u8 (Int.ofNat 120),.int .u8 (Int.ofNat 33)]) y=some [.int .u8 (Int.ofNat 120),.int .u8 (Int.ofNat 120),.int .u8 (Int.ofNat 120),.int .u8 (Int.ofNat 33)]:=Vw.put_self;have le6:Vw.le S2 (S2.put y [.int .u8 (Int.ofNat 120),.int .u8 (Int.ofNat 120),.int .u8 (Int.ofNat 120),.int .u8 (Int.ofNat 33)]):=Vw.le_put fr6;generalize S2.put y [.int .u8 (Int.ofNat 120),.int .u8 (Int.ofNat 120),.int .u8 (Int.ofNat 120),.int .u8 (Int.ofNat 33)]=S6 at st6 hb6 le6;have st6:Sl h h5 S6 OM.emp (mr++[]):=st6;have htx:TxV S6 (.slice (some ⟨y,0,none⟩) 4 4) [120,120,120,33]:=.inr ⟨y,0,4,rfl,⟨by decide,.inl (by decide)⟩,fun _=>⟨_,hb6,by decide,fun i x hx=>by
  match i,hx with
  |0,hx=>cases hx;rfl
  |1,hx=>cases hx;rfl
  |2,hx=>cases hx;rfl
  |3,hx=>cases hx;rfl⟩⟩
 have hml:mr.length=4:=by
  have:=hx.len;have:(mr.length:Int)=4:=this;omega
 refine Ret.hb (c22 hn hD dp.toDsp2 hin hok hkn (hx.mono le6) htx (by decide) (byt_cons (by decide) (byt_cons (by decide) (byt_cons (by decide) (byt_cons (by decide) byt_nil)))) st6) fun u h7 ⟨S7,mr',df,le7,st7,hx7,hau,hu⟩=>?_;have e1:((clp c (mr.length-1):Nat):Int)=c:=by rw[hml];unfold clp;split<;>omega
 have e0:clp ((0:Nat):Int) [120,120,120,33].length=0:=rfl;rw[e0,e1]at hu;rw[e1]at hau;generalize clp c (mr.length-1)=q at hu e1;have st7:Sl h h7 S7 OM.emp (mr'++[]):=st7;have go: ∃tk nx,u= .tuple ⟨[.agg ⟨tkv tk⟩,.int .i64 nx]⟩/\tk.n=3/\tk.w=4/\tk.m=c/\(d=c->tk.k=a/\nx=0)/\(d≠c->tk.k=b/\nx=1):=by
  rw[rulesF,if_pos (rfl:c=c)]at hau hu
  by_cases hdc:d=c
  ·rw[if_pos hdc]at hau hu;have hau:AutK [pX,pAZ] df:=hau;have hs:=scn4 hau accF.1 accF.2.1 accF.2.2.1 (fun po hp=>by
    rcases List.mem_cons.1 hp with rfl|hp
    ·exact deadF.1
    ·have:po=pAZ:=by simpa using hp
     rw[this];exact deadF.2)
   have hone:=oneT_some (rs:=[⟨tX,d,0,a⟩]++[⟨tAZ,c,1,b⟩]) (q:=q) (bs:=[120,120,120,33]) (i:=0) (k:=0) hs rfl;rw[hone]at hu;exact⟨_,_,hu,rfl,rfl,e1,fun _=>⟨rfl,rfl⟩,fun hh=>absurd hdc hh⟩
  ·rw[if_neg hdc]at hau hu;have hau:AutK [pAZ] df:=hau;have hs:=scn4 hau accF.2.2.2.1 accF.2.2.2.2.1 accF.2.2.2.2.2 (fun po hp=>by
    have:po=pAZ:=by simpa using hp
    rw[this];exact deadF.2)
   have hone:=oneT_some (rs:=[]++[⟨tAZ,c,1,b⟩]) (q:=q) (bs:=[120,120,120,33]) (i:=0) (k:=0) hs rfl;rw[hone]at hu;exact⟨_,_,hu,rfl,rfl,e1,fun hh=>absurd hh hdc,fun _=>⟨rfl,rfl⟩⟩
 obtain⟨tk,nx,rfl,hn3,hw4,hmc,hsame,hdiff⟩:=go;simp only[xExt_t',List.getElem?_cons_zero,List.getElem?_cons_succ,vb_some];refine Ret.lalloc st7 zc41 fun h8 z st8=>?_;refine Ret.lstA st8 0 rfl rfl rfl (Nat.le_refl 5) rfl fun h9 st9=>?_;have st9:Sl h h9 S7 OM.emp ((z,.row .own 1 (tkv tk))::(mr'++[])):=st9;have l0:xLd (.pointer (some ⟨z,0,none⟩)) h9=some (.int .i64 tk.k):=st9.ld (.head _) rfl;have l2:xLd (.pointer (some ⟨z,2,none⟩)) h9=some (.int .i64 tk.n):=st9.ld (.head _) rfl;have l3:xLd (.pointer (some ⟨z,3,none⟩)) h9=some (.int .i64 tk.w):=st9.ld (.head _) rfl;have l4:xLd (.pointer (some ⟨z,4,none⟩)) h9=some (.int .i64 tk.m):=st9.ld (.head _) rfl;simp only[xEq_i,vb_some]
 by_cases hdc:d=c
 ·obtain⟨g1,g2⟩:=hsame hdc;have t1:decide ((3:Int)=((3:Nat):Int))=true:=by decide
  have t2:decide ((0:Int)=((0:Nat):Int))=true:=by decide
  simp only[decide_eq_true hdc,bite_t,F5_0,xFld_p,Nat.zero_add,l0,l2,vb_some,xEq_i,g1,g2,hn3,decide_true,isB_t,gd_true,vN_eq,t1,t2,xPick_t];exact Ret.of rfl
 ·obtain⟨g1,g2⟩:=hdiff hdc;have t1:decide ((3:Int)=((3:Nat):Int))=true:=by decide
  have t2:decide ((1:Int)=((1:Nat):Int))=true:=by decide
  have t3:decide ((4:Int)=((4:Nat):Int))=true:=by decide
  simp only[decide_eq_false hdc,bite_f,F5_1,xFld_p,Nat.zero_add,l0,l2,l3,l4,vb_some,xEq_i,g1,g2,hn3,hw4,hmc,decide_true,isB_t,gd_true,vN_eq,t1,t2,t3,xPick_t];exact Ret.of rfl
end
theorem OkF.c4{P:Program}{f:FuncId}{F:Value->Value->Value->Value->PH->R}(s:OkF P f (A4 F)){a0 a1 a2 a3:Value}{h h':PH}{v:Value}(hx:F a0 a1 a2 a3 h=some (v,h')):(enterable P f=true/\ACall P f [a0,a1,a2,a3] h.abs (fun u k=>u=v/\k=h'.abs))/\Inv h h':=s [a0,a1,a2,a3] _ _ _ hx
section
variable {Q:Value->PH->Prop}{n D:Nat}{cl:CL}{h h0:PH}{S:Vw}{rows:Rws}
theorem law5[OkH h](hn:4611686018427387904<=n)(hD:1000<=D)(dp:Dsp3 n (D+1) cl){a b c d:Int}:
  Ret (F5 n cl (.int .i64 a) (.int .i64 b) (.int .i64 c) (.int .i64 d) h) fun u _=>u= .bool true:=by
 unfold F5;have ha:pcall (cl 15 [] h.fzn)=some (.bool true):=by rw[dp.al];exact pcall_some rfl
 have out:Ret (some (Value.bool true,h)) fun u _=>u= .bool true:=Ret.of rfl;simp only[ha,vb_some,xNot_b,Bool.not_true,isB_f,Bool.not_false,gd_true,xLt_i,vN_eq,xPick_f]
 by_cases c1:a<((0:Nat):Int)
 ·simp only[decide_eq_true c1,isB_f,Bool.not_true,gd_false,vb_some,xPick_t,tt_eq,bite_t];exact out
 simp only[decide_eq_false c1,isB_f,Bool.not_false,gd_true,vb_some,xPick_f,xGt_i]
 by_cases c2:((39:Nat):Int)<a
 ·simp only[decide_eq_true c2,isB_f,Bool.not_true,gd_false,vb_some,xPick_t,tt_eq,bite_t];exact out
 simp only[decide_eq_false c2,isB_f,Bool.not_false,gd_true,vb_some,xPick_f,xLt_i]
 by_cases c3:b<((0:Nat):Int)
 ·simp only[decide_eq_true c3,isB_f,Bool.not_true,gd_false,vb_some,xPick_t,tt_eq,bite_t];exact out
 simp only[decide_eq_false c3,isB_f,Bool.not_false,gd_true,vb_some,xPick_f,xGt_i]
 by_cases c4:((39:Nat):Int)<b
 ·simp only[decide_eq_true c4,isB_f,Bool.not_true,gd_false,vb_some,xPick_t,tt_eq,bite_t];exact out
 simp only[decide_eq_false c4,isB_f,Bool.not_false,gd_true,vb_some,xPick_f,xLt_i]
 by_cases c5:c<((0:Nat):Int)
 ·simp only[decide_eq_true c5,isB_f,Bool.not_true,gd_false,vb_some,xPick_t,tt_eq,bite_t];exact out
 simp only[decide_eq_false c5,isB_f,Bool.not_false,gd_true,vb_some,xPick_f,xGt_i]
 by_cases c6:((3:Nat):Int)<c
 ·simp only[decide_eq_true c6,isB_f,Bool.not_true,gd_false,vb_some,xPick_t,tt_eq,bite_t];exact out
 simp only[decide_eq_false c6,isB_f,Bool.not_false,gd_true,vb_some,xPick_f,xLt_i]
 by_cases c7:d<((0:Nat):Int)
 ·simp only[decide_eq_true c7,isB_f,Bool.not_true,gd_false,vb_some,xPick_t,tt_eq,bite_t];exact out
 simp only[decide_eq_false c7,isB_f,Bool.not_false,gd_true,vb_some,xPick_f,xGt_i]
 by_cases c8:((3:Nat):Int)<d
 ·simp only[decide_eq_true c8,bite_t];exact out
 simp only[decide_eq_false c8,bite_f];exact law5w hn hD dp ⟨by omega,by omega⟩ ⟨by omega,by omega⟩ ⟨by omega,by omega⟩ ⟨by omega,by omega⟩
end
end Go.Am
