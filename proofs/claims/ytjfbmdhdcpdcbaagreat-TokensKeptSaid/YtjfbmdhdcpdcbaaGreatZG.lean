import Derived.Test.YtjfbmdhdcpdcbaaGreatZE
import Derived.Test.YtjfbmdhdcpdcbaaGreatZW
set_option linter.unusedSimpArgs false
set_option linter.unusedVariables false
namespace Go.Am
open Go Go.RowKit Go.Proofs
section
variable {Q:Value->PH->Prop}{n D:Nat}{cl:CL}{h h0:PH}{S:Vw}{rows:Rws}{l:Lxr}
end
def IdxP(rs sub:List LxR)(il:List Nat):Prop:=il.length=sub.length/\ ∀(t j:Nat),il[t]?=some j->rs[j]?=sub[t]?
section
variable {Q:Value->PH->Prop}{n D:Nat}{cl:CL}{h h0:PH}{S:Vw}{rows:Rws}{l:Lxr}
end
structure MacK(S:Vw)(rs:List LxR)(dcs ivs:List Value)(k:Nat):Prop where
 d: ∃nv av d,(dcs.drop (k*2)).take 2=[nv,av]/\DfV S (.agg ⟨[nv,av]⟩) d/\Knw ((rulesOf rs (k:Nat)).map posOf) d
 i: ∃x il,ivs[k]?=some x/\SlV S x (ns il)/\IdxP rs (rulesOf rs (k:Nat)) il
def MacP(S:Vw)(l:Lxr)(e:Nat):Prop:= ∃rv iv dv ivs dcs,S e=some [.int .i64 l.modes,rv,iv,dv]/\RdV rLR S rv l.rules/\SlV S iv ivs/\ivs.length=l.modes.toNat/\SlC S 2 dv l.modes.toNat dcs/\ ∀k,k<l.modes.toNat->MacK S l.rules dcs ivs k
section
variable {Q:Value->PH->Prop}{n D:Nat}{cl:CL}{h h0:PH}{S:Vw}{rows:Rws}{l:Lxr}
def MakB(l:Lxr)(S:Vw)(h0:PH)(rows:Rws)(u:Value)(h':PH):Prop:=(∃S',Vw.le S S'/\Sl h0 h' S' OM.emp rows/\u= .tuple ⟨[.pointer none,.int .i64 (-1),.int .i64 0,.bool false]⟩)\/ ∃S' e,Vw.le S S'/\Sl h0 h' S' OM.emp rows/\u= .tuple ⟨[pt e,.int .i64 (-1),.int .i64 0,.bool true]⟩/\MacP S' l e
end
section
variable {Q:Value->PH->Prop}{n D:Nat}{cl:CL}{h h0:PH}{S:Vw}{rows:Rws}{l:Lxr}
end
structure Dsp3(n D:Nat)(cl:CL):Prop extends Dsp2 n D cl where
 al: ∀h,cl 15 [] h=some (.bool true,h)
section
variable {Q:Value->PH->Prop}{n D:Nat}{cl:CL}{h h0:PH}{S:Vw}{rows:Rws}{l:Lxr}
end
def runN(po:Po):List Nat->List Nat->List Nat
 |X,[]=>X
 |X,c::cs=>runN po ((X.flatMap fun y=>po.follow.getD y []).filter fun i=>takesB po c i) cs
def runP(po:Po):List Nat->List Nat
 | []=>[]
 |c::cs=>runN po (po.first.filter fun i=>takesB po c i) cs
def takB(po:Po)(w:List Nat):Bool:=if w=[]then po.null else(runP po w).any fun y=>po.last.contains y
theorem nowP_run{po:Po}: ∀(cs:List Nat)(P:Nat->Prop)(X:List Nat),(∀y,P y↔y∈X)-> ∀y,nowP po P cs y↔y∈runN po X cs
 | [],P,X,h,y=>h y
 |c::cs,P,X,h,y=>by
  refine nowP_run cs _ _ (fun i=>?_) y;rw[List.mem_filter,List.mem_flatMap];constructor
  ·rintro⟨⟨z,h1,h2⟩,h3⟩;exact⟨⟨z,(h z).1 h1,h2⟩,h3⟩
  ·rintro⟨⟨z,h1,h2⟩,h3⟩;exact⟨⟨z,(h z).2 h1,h2⟩,h3⟩
theorem takesP_iff{po:Po}{w:List Nat}:takesP po w↔takB po w=true:=by
 cases w with
 |nil=>exact Iff.rfl
 |cons c cs=>
  unfold takB;rw[if_neg (by simp),List.any_eq_true];have hr:=nowP_run (po:=po) cs (fun i=>i∈po.first/\takesB po c i=true) (po.first.filter fun i=>takesB po c i) fun y=>by rw[List.mem_filter]
  constructor
  ·rintro⟨y,h1,h2⟩;exact⟨y,(hr y).1 h1,by simpa using h2⟩
  ·rintro⟨y,h1,h2⟩;exact⟨y,(hr y).2 h1,by simpa using h2⟩
theorem runN_nil{po:Po}: ∀(cs:List Nat),runN po [] cs=[]
 | []=>rfl
 |c::cs=>runN_nil cs
theorem runN_app{po:Po}: ∀(a b X:List Nat),runN po X (a++b)=runN po (runN po X a) b
 | [],b,X=>rfl
 |c::a,b,X=>runN_app a b _
theorem runP_app{po:Po}{c:Nat}{a b:List Nat}:runP po ((c::a)++b)=runN po (runP po (c::a)) b:=runN_app a b _
def fstB:List Po->List Nat->Nat->Int
 | [],_,_=> -1
 |po::l,w,k=>if takB po w=true then((k:Nat):Int)else fstB l w (k+1)
theorem fstB_spec{w:List Nat}: ∀(l:List Po)(k:Nat),(fstB l w k= -1/\ ∀(j:Nat)(po:Po),l[j]?=some po->takB po w=false)\/ ∃(j:Nat) (po:Po),fstB l w k=((k+j:Nat):Int)/\l[j]?=some po/\takB po w=true/\ ∀(i:Nat)(po':Po),i<j->l[i]?=some po'->takB po' w=false
 | [],k=>.inl ⟨rfl,fun j po h=>by simp at h⟩
 |po::l,k=>by
  unfold fstB;cases ht:takB po w with
  |true=>exact .inr ⟨0,po,by simp,rfl,ht,fun i po' hi=>by omega⟩
  |false=>
   rw[if_neg (by simp)];rcases fstB_spec l (k+1)with⟨h1,h2⟩|⟨j,po',h1,h2,h3,h4⟩
   ·refine .inl ⟨h1,fun j po' hj=>?_⟩;cases j with
    |zero=>simp at hj;subst hj;exact ht
    |succ j=>exact h2 j po' (by simpa using hj)
   ·refine .inr ⟨j+1,po',by rw[h1];congr 1;omega,by simpa using h2,h3,fun i po'' hi hx=>?_⟩;cases i with
    |zero=>simp at hx;subst hx;exact ht
    |succ i=>exact h4 i po'' (by omega) (by simpa using hx)
def accB(l:List Po)(w:List Nat):Int:=fstB l w 0
section
variable {l:List Po}{d:Dfa}{p w:List Nat}{c i len:Nat}{r:Int}
theorem AutK.acc(h:AutK l d)(hw:Byt w):dacc d (drun d 0 w)=accB l w:=by
 refine(h.2 w hw).uniq ?_;unfold accB;rcases fstB_spec (w:=w) l 0 with⟨h1,h2⟩|⟨j,po,h1,h2,h3,h4⟩
 ·rw[h1];refine .inl ⟨rfl,fun k hk ⟨po,h3,h4⟩=>?_⟩;have:=h2 k po h3;rw[takesP_iff,this]at h4;cases h4
 ·rw[h1];refine .inr ⟨j,by simp,(List.getElem?_eq_some_iff.1 h2).1,⟨po,h2,takesP_iff.2 h3⟩,fun i hi ⟨po',h5,h6⟩=>?_⟩;have:=h4 i po' hi h5;rw[takesP_iff,this]at h6;cases h6
theorem drun_app{d:Dfa}{i:Int}{a b:List Nat}:drun d i (a++b)=drun d (drun d i a) b:=by unfold drun;rw[List.foldl_append]
theorem drun_in(hc:Canon d): ∀(w:List Nat)(i:Nat),Byt w->i<d.next.length->drun d i w= -1\/ ∃k:Nat,k<d.next.length/\drun d i w=k
 | [],i,_,hi=>.inr ⟨i,hi,rfl⟩
 |c::w,i,hb,hi=>by
  have hb':Byt w:=fun x hx=>hb x (.tail _ hx);rw[drun_cons];rcases hc.rng i c hi (hb c (.head _))with h|⟨k,hk,h⟩
  ·rw[h,drun_neg];exact .inl rfl
  ·rw[h];exact drun_in hc w k hb' hk
theorem scn_live(h:AutK l d)(hp:Byt p)(hc:c<256)(h0:0<=drun d 0 p){v:List Nat}(hv:Byt v)(hx:accB l (p++c::v)≠ -1):
  0<=drun d 0 (p++[c])/\scn d (c::w) i (drun d 0 p).toNat r len=if 0<=accB l (p++[c])then scn d w (i+1) (drun d 0 (p++[c])).toNat (accB l (p++[c])) (i+1)else scn d w (i+1) (drun d 0 (p++[c])).toNat r len:=by
 have e1:drun d 0 (p++[c])=dstep d (drun d 0 p) c:=by rw[drun_app];rfl
 have hb:Byt (p++[c]):=fun x hx=>by
  rcases List.mem_append.1 hx with h|h
  ·exact hp x h
  ·have:x=c:=by simpa using h
   rw[this];exact hc
 have hb2:Byt (p++c::v):=fun x hx=>by
  rcases List.mem_append.1 hx with h|h
  ·exact hp x h
  ·rcases List.mem_cons.1 h with rfl|h
   ·exact hc
   ·exact hv x h
 have hne:dstep d (drun d 0 p) c≠ -1:=fun he=>by
  have:=h.acc hb2;rw[drun_app,drun_cons,he,drun_neg]at this;exact hx this.symm
 have hge:0<=dstep d (drun d 0 p) c:=by
  rcases drun_in h.1 (p++[c]) 0 hb h.1.pos with hh|⟨k,_,hh⟩
  ·exact absurd (e1▸hh) hne
  ·have:drun d 0 (p++[c])=k:=hh;rw[e1]at this;omega
 refine⟨by rw[e1];exact hge,?_⟩;have ha:=h.acc hb;rw[e1]at ha ⊢;have et:((drun d 0 p).toNat:Int)=drun d 0 p:=Int.toNat_of_nonneg h0
 show(if dstep d ((drun d 0 p).toNat:Nat) c<0 then _ else _)=_
 rw[et,if_neg (by omega),ha]
theorem scn_dead(h:AutK l d)(hp:Byt p)(hc:c<256)(h0:0<=drun d 0 p)(hx: ∀v,Byt v->accB l (p++c::v)= -1):scn d (c::w) i (drun d 0 p).toNat r len=(r,len,i+1):=by
 have et:((drun d 0 p).toNat:Int)=drun d 0 p:=Int.toNat_of_nonneg h0;have hk:(drun d 0 p).toNat<d.next.length:=by
  rcases drun_in h.1 p 0 hp h.1.pos with hh|⟨k,hk,hh⟩
  ·have:drun d 0 p= -1:=hh;omega
  ·have:drun d 0 p=k:=hh;omega
 have he:dstep d (drun d 0 p) c= -1:=by
  refine Classical.byContradiction fun hne=>?_;obtain⟨v,hv,hv2⟩:=h.1.live (drun d 0 p).toNat c hk hc (by rw[et];exact hne);rw[et]at hv2;have hb2:Byt (p++c::v):=fun x hx=>by
   rcases List.mem_append.1 hx with h|h
   ·exact hp x h
   ·rcases List.mem_cons.1 h with rfl|h
    ·exact hc
    ·exact hv x h
  have:=h.acc hb2;rw[drun_app,drun_cons,hx v hv]at this;exact hv2 this
 show(if dstep d ((drun d 0 p).toNat:Nat) c<0 then _ else _)=_
 rw[et,if_pos (by rw[he];decide)]
theorem scn_end(h0:0<=drun d 0 p):scn d [] i (drun d 0 p).toNat r len=(r,len,i+1):=rfl
theorem dead_of{c:Nat}{a:List Nat}(h: ∀po∈l,runP po (c::a)=[])(v:List Nat):accB l ((c::a)++v)= -1:=by
 unfold accB;rcases fstB_spec (w:=(c::a)++v) l 0 with⟨h1,_⟩|⟨j,po,_,h2,h3,_⟩
 ·exact h1
 ·exfalso;unfold takB at h3;rw[if_neg (by simp),runP_app,h po (List.mem_of_getElem? h2),runN_nil]at h3;cases h3
end
theorem xMark_row{h:PH}{b o n c e:Nat}{md:Mode}{cs:List Value}(hg:h.get b=some (.row md e cs))(hm:mro md=false)(h0:0<c)(h1:c<4611686018427387904):xMark (.slice (some ⟨b,o,none⟩) n c) h=some (.slice (some ⟨b,o,none⟩) n c,h):=by
 unfold xMark;have e0:Nat.blt 0 c=true:=blt_t' h0;have e1:Nat.blt c 4611686018427387904=true:=blt_t' h1;simp only[e0,e1,hg,hm]
def tAB:ByteArray:=⟨#[97,98]⟩
def lx0:Lxr:=⟨1,[]⟩
def lx1:Lxr:=⟨1,[⟨tAB,0,0,3⟩]⟩
theorem lx0_ok:lx0.Ok:=⟨⟨by decide,by decide,by decide⟩,rfl⟩
theorem lx0_in:lx0.In:=⟨⟨by decide,by decide⟩,by decide,fun r hr=>by cases hr⟩
theorem few_le{l:List Po}{k:Nat}(h:tot l=k)(hk:k<=10)(hl:l.length<=40):CanK l:=CanK.few hl (by omega)
theorem lx0_kn:KnwL lx0:=fun _ k hk=>CanK.few (by simp[rulesOf,lx0]) (by simp[rulesOf,lx0,tot])
abbrev LAB:List Po:=(rulesOf lx1.rules ((0:Nat):Int)).map posOf
theorem byt_nil:Byt []:=fun x hx=>by cases hx
theorem byt_cons{c:Nat}{w:List Nat}(hc:c<256)(hw:Byt w):Byt (c::w):=fun x hx=>by
 rcases List.mem_cons.1 hx with rfl|h
 ·exact hc
 ·exact hw x h
theorem ab24_1{m:Int}:abuild Tryz.prog 24 [(0,.int .i64 m)]=some (.agg ⟨[.int .i64 m,nils]⟩):=by kernel_rfl
theorem ab24_2{m:Int}{b n c:Nat}:abuild Tryz.prog 24 [(0,.int .i64 m),(1,.slice (some ⟨b,0,none⟩) n c)]=some (.agg ⟨[.int .i64 m,.slice (some ⟨b,0,none⟩) n c]⟩):=by kernel_rfl
theorem bs22_1{t:ByteArray}{a b c:Int}:bsRow Tryz.prog 22 1 [(0,.agg ⟨[.string t,.int .i64 a,.int .i64 b,.int .i64 c]⟩)]=some (4,[.string t,.int .i64 a,.int .i64 b,.int .i64 c]):=by kernel_rfl
theorem bs33_2{a b:Int}:bsRow Tryz.prog 33 2 [(0,.int .u8 a),(1,.int .u8 b)]=some (1,[.int .u8 a,.int .u8 b]):=by kernel_rfl
section
variable {Q:Value->PH->Prop}{n D:Nat}{cl:CL}{h h0:PH}{S:Vw}{rows:Rws}{l:Lxr}
theorem lxv_of{b c:Nat}{cells:List Value}{l:Lxr}(hb:S b=some cells)(hc:cells=flt eR l.rules)(hne:l.rules≠[]):LxV S l (.agg ⟨[.int .i64 l.modes,.slice (some ⟨b,0,none⟩) l.rules.length c]⟩):=by
 subst hc;have hl:=flt_len (E:=eR) (l:=l.rules);have e4:eR.sz=4:=rfl;rw[e4]at hl;exact⟨_,rfl,rdv_flt hb (by omega) (List.take_of_length_le (by omega)),fun he=>absurd he hne⟩
theorem lxv_nil{m:Int}:LxV S ⟨m,[]⟩ (.agg ⟨[.int .i64 m,nils]⟩):=⟨nils,rfl,.inl ⟨rfl,none,0,rfl⟩,fun _=>⟨none,0,rfl⟩⟩
end
theorem sw_ne{g k:Nat}{x y:R}(h:g≠k):sw g k x y=y:=by
 unfold sw;have:Nat.beq g k=false:=by
  cases hq:Nat.beq g k with
  |false=>rfl
  |true=>exact absurd (Nat.eq_of_beq_eq_true hq) h
 rw[this]
noncomputable def CLo(n d:Nat):CL:=toldOnce (LV n d)
theorem CLo_ok(n d:Nat):OkCL Tryz.prog (CLo n d):=toldOnce_ok (LV_ok n d)
theorem CLo_dsp(n D:Nat):Dsp2 n D (CLo n (D+1)):=⟨⟨fun f xs h _ _ _ h78=>sw_ne h78⟩,fun xs h=>rfl⟩
instance h00_ok:OkH h00:=⟨Nat.le_refl _,rfl⟩
noncomputable def CL7(n d:Nat):CL:=toldOr 15 (.bool true) (CLo n d)
end Go.Am
namespace Go.Am
open Go Go.RowKit Go.Proofs Go.ChangeShapes Go.WideShapes
inductive Flds(P:Program):Nat->List (TypeId×Nat)->{α:Type}->Rdr α->(α->Prop)->Prop
 |one {o:Nat} {t:TypeId} {α:Type} {R:Rdr α} {G:α->Prop}:Opens P t R G->P.cellsOf t=R.sz->Flds P o [(t,o)] R G
 |cons {o:Nat} {t:TypeId} {L:List (TypeId×Nat)} {α β:Type} {R:Rdr α} {S:Rdr β} {G:α->Prop} {G':β->Prop}:Opens P t R G->P.cellsOf t=R.sz->Flds P (o+R.sz) L S G'->Flds P o ((t,o)::L) (R.pr S) fun x=>G x.1/\G' x.2
section
variable {P:Program}
theorem Flds.open{α:Type}{R:Rdr α}{G:α->Prop}{o:Nat}{L:List (TypeId×Nat)}(f:Flds P o L R G): ∀{H:Type}{enc:TypeId×Value->H}{w:World}{ρ:RMap}{l:Heap}{n:Nat}{cs:List Value},Im w ρ l->o+R.sz<=cs.length->
  (∀p∈L, ∃y,DataW.trod enc P w 0 (fun _=>true) true n p.1 ((cs.drop p.2).take (P.cellsOf p.1))=some y)->
  ∃(ρ':RMap) (ext:Heap) (es:List Value) (x:α),Im w ρ' (l++ext)/\ρ.le ρ'/\VRs ρ' es ((cs.drop o).take R.sz)/\R.E (vl (l++ext)) x es/\G x:=by
 induction f with
 |one op hc=>
  intro H enc w ρ l n cs m hl hf;obtain⟨y,hy⟩:=hf _ (.head _);rw[hc]at hy;exact op m (by simp;omega) hy
 | @cons o t L α β R S G G' op hc f ih=>
  intro H enc w ρ l n cs m hl hf;have hl:o+(R.sz+S.sz)<=cs.length:=hl;obtain⟨y,hy⟩:=hf _ (.head _);rw[hc]at hy;obtain⟨ρ1,ext1,es1,x1,m1,le1,v1,E1,G1⟩:=op m (by simp;omega) hy;obtain⟨ρ2,ext2,es2,x2,m2,le2,v2,E2,G2⟩:=ih m1 (by omega) fun p hp=>hf p (.tail _ hp);refine⟨ρ2,ext1++ext2,es1++es2,(x1,x2),by rw[<-List.append_assoc];exact m2,RMap.le_trans le1 le2,?_,⟨es1,es2,rfl,by rw[<-List.append_assoc];exact R.mono (vl_app _ _) E1,by rw[<-List.append_assoc];exact E2⟩,G1,G2⟩;have e:(cs.drop o).take (R.pr S).sz=(cs.drop o).take R.sz++(cs.drop (o+R.sz)).take S.sz:=by
   show(cs.drop o).take (R.sz+S.sz)=_
   rw[List.take_add,List.drop_drop]
  rw[e];exact(v1.mono le2).append v2
theorem opens_struct{α:Type}{R:Rdr α}{G:α->Prop}{T:TypeId}{fs:Array Field}(hu:P.underlying T=some (.struct fs))(f:Flds P 0 (fs.toList.map fun f=>(f.type,f.offset)) R G):Opens P T R G:=by
 intro H enc w ρ l fuel cs y m hl ht;obtain⟨xs,n,_,_,_,hxl,hf⟩:=DataW.trod_struct hu ht;obtain⟨ρ',ext,es,x,h1,h2,h3,h4,h5⟩:=f.open (enc:=enc) (n:=n) (cs:=cs) m (by omega) fun p hp=>by
  rw[List.mem_map]at hp;obtain⟨g,hg,rfl⟩:=hp;obtain⟨i,hi⟩:=List.getElem?_of_mem hg;have hlt:=(List.getElem?_eq_some_iff.1 hi).1;rw[Array.length_toList]at hlt;have h0:=hf i g (by rw[<-Array.getElem?_toList];exact hi);rw[List.getElem?_eq_getElem (by omega)]at h0;exact⟨_,h0⟩
 rw[List.drop_zero, <-hl,List.take_length]at h3;exact⟨ρ',ext,es,x,h1,h2,h3,h4,h5⟩
end
theorem oi3:Opens Tryz.prog 3 (rI .i64) inR:=opens_i64 Tryz.underlying3
theorem cI3:Tryz.prog.cellsOf 3=1:=by kernel_rfl
end Go.Am
namespace Go.Am
open Go Go.RowKit Go.Proofs
def tX:ByteArray:=⟨#[120,43]⟩
def tAZ:ByteArray:=⟨#[91,97,45,122,93,43]⟩
def pX:Po:=match plcT tX with
 | .ok p=>p
 | .error _=>po0
def pAZ:Po:=match plcT tAZ with
 | .ok p=>p
 | .error _=>po0
def lxF(a b c d:Int):Lxr:=⟨4,[⟨tX,d,0,a⟩,⟨tAZ,c,1,b⟩]⟩
section
variable {a b c d:Int}
end
section
variable {Q:Value->PH->Prop}{n D:Nat}{cl:CL}{h h0:PH}{S:Vw}{rows:Rws}
end
section
variable {Q:Value->PH->Prop}{n D:Nat}{cl:CL}{h h0:PH}{S:Vw}{rows:Rws}
end
def eT:Enc TokR:=⟨tkv,5,by decide,fun _=>rfl,fun _=>rfl⟩
def rTk:Rdr TokR:=⟨5,fun _ t es=>es=tkv t,fun _ h=>h,fun h=>by rw[h];rfl,fun h=>by rw[h];rfl⟩
theorem ai51:appInfo Tryz.prog #[51,51]=some (5,40):=by kernel_rfl
theorem bs51{t:TokR}:bsRow Tryz.prog 51 1 [(0,.agg ⟨tkv t⟩)]=some (5,tkv t):=by cases t;kernel_rfl
inductive Toks(l:Lxr)(bs:List Nat):Nat->Int->List TokR->Prop
 |nil {i:Nat} {m:Int}:bs.length<=i->Toks l bs i m []
 |cons {i:Nat} {m nx:Int} {d:Dfa} {t:TokR} {ts:List TokR}:i<bs.length->AutK ((rulesOf l.rules (clp m (l.modes.toNat-1):Nat)).map posOf) d->oneT (rulesOf l.rules (clp m (l.modes.toNat-1):Nat)) d (clp m (l.modes.toNat-1)) bs i=(t,nx)->Toks l bs (i+t.n.toNat) nx ts->Toks l bs i m (t::ts)
theorem scn_pos{d:Dfa}: ∀(w:List Nat)(i s:Nat)(r:Int)(l:Nat),(r<0\/1<=l)->((scn d w i s r l).1<0\/1<=(scn d w i s r l).2.1):=by
 intro w
 induction w with
 |nil=>intro i s r l h;exact h
 |cons c w ih=>
  intro i s r l h;unfold scn
  split
  ·exact h
  ·split
   ·exact ih _ _ _ _ (.inr (by omega))
   ·exact ih _ _ _ _ h
theorem oneT_n{rs:List LxR}{d:Dfa}{q:Nat}{bs:List Nat}{i:Nat}(hi:i<bs.length): ∃k:Nat,(oneT rs d q bs i).1.n=k/\1<=k/\i+k<=bs.length:=by
 have h1:=scn_pos (d:=d) (bs.drop i) 0 0 (-1) 0 (.inl (by decide));have h2:=scn_le (d:=d) (bs.drop i) 0 0 (-1) 0 (Nat.zero_le _);rw[List.length_drop]at h2;have key: ∀p,scn d (bs.drop i) 0 0 (-1) 0=p-> ∃k:Nat,(oneT rs d q bs i).1.n=k/\1<=k/\i+k<=bs.length:=by
  rintro⟨z,ln,lk⟩ hp;rw[hp]at h1 h2;have h1:z<0\/1<=ln:=h1;have h2:ln<=0+(bs.length-i)/\lk<=0+(bs.length-i)+1:=h2
  by_cases hz:0<=z/\z<(rs.length:Int)
  ·obtain⟨k,rfl⟩: ∃k:Nat,z=(k:Nat):=⟨z.toNat,by omega⟩;have hk:k<rs.length:=by omega
   rw[oneT_some hp (List.getElem?_eq_getElem hk)];exact⟨ln,rfl,by omega,by omega⟩
  ·rw[oneT_none hp hz];exact⟨_,rfl,by split<;>omega,by split<;>omega⟩
 exact key _ rfl
section
variable {Q:Value->PH->Prop}{n D:Nat}{cl:CL}{h h0:PH}{S:Vw}{rows:Rws}{l:Lxr}{bv:Value}{bs:List Nat}
theorem rdv_tk{v:Value}{ts:List TokR}(h:SlC S 5 v ts.length (flt eT ts)):RdV rTk S v ts:=by
 rcases h with⟨h1,_,rfl⟩|⟨b,o,c,cs,rfl,h1,h2,h3⟩
 ·exact .inl ⟨List.eq_nil_of_length_eq_zero h1,none,0,rfl⟩
 ·refine .inr ⟨b,o,c,cs,rfl,h1,fun i x hx=>?_⟩;have hlt:=(List.getElem?_eq_some_iff.1 hx).1;have e5:rTk.sz=5:=rfl;have hf:=flt_at (E:=eT) hx;have e5':eT.sz=5:=rfl;rw[e5',h3,List.drop_take,List.take_take,Nat.min_eq_left (by omega),List.drop_drop]at hf;rw[e5];exact⟨by omega,hf⟩
theorem c26(hn:4611686018427387904<=n)(hD:1000<=D)(dp:Dsp2 n (D+1) cl){v:Value}(hv:LxV S l v)(hin:l.In)(hk:KnwL l)(hb:TxV S bv bs)(hbl:bs.length<=65536)(hby:Byt bs)(st:Sl h0 h S OM.emp rows):
  Ret (F26 n cl v bv h) fun u h'=> ∃S',Vw.le S S'/\Sl h0 h' S' OM.emp rows/\(((chkA l).2≠0/\u= .tuple ⟨[nils,.int .i64 (chkA l).2]⟩)\/(l.Ok/\ ∃tv ts,u= .tuple ⟨[tv,.int .i64 0]⟩/\SlC S' 5 tv ts.length (flt eT ts)/\Toks l bs 0 0 ts)):=by
 have hv':=hv;obtain⟨rv,rfl,hrv,hem⟩:=hv;unfold F26;refine Ret.lbox st fun h1 b st=>?_;have st:Sl h0 h1 S OM.emp ((b,.row .own 1 [.int .i64 l.modes,rv])::rows):=st;have l0:xLdA 2 (pt b) h1=some (.agg ⟨[.int .i64 l.modes,rv]⟩):=st.ldA (.head _) rfl (Nat.le_refl 2);simp only[l0,vb_some];refine Ret.hb (c21 hn (by omega) dp.toDsp hv' hin hk (st.drop (List.sublist_cons_self _ _))) fun u h2 hq=>?_;rcases hq with⟨hne,st2,rfl⟩|⟨hok,S2,x,mr,le2,st2,rfl,hx⟩
 ·have d0:(!decide ((chkA l).2=((0:Nat):Int)))=true:=by simp[hne]
  simp only[xExt_t',List.getElem?_cons_zero,List.getElem?_cons_succ,vb_some,vN_eq,xNe_i,d0,bite_t];exact Ret.of ⟨S,Vw.le.refl _,st2,.inl ⟨hne,rfl⟩⟩
 ·have d0:(!decide ((0:Int)=((0:Nat):Int)))=false:=by decide
  have d1:decide (((65536:Nat):Int)<((bs.length:Nat):Int))=false:=by simp;omega
  simp only[xExt_t',List.getElem?_cons_zero,List.getElem?_cons_succ,vb_some,vN_eq,xNe_i,d0,bite_f,F26_3,hb.len,xGt_i,d1];have hmt: ∀{S':Vw}{mr:Rws},LexP S' l x mr->mr.length-1=l.modes.toNat-1:=fun hx=>by have:=hx.len;omega
  have key: ∀(d q i:Nat)(m:Int)(S':Vw)(h':PH)(ov:Value)(ex mr:Rws)(ts0:List TokR),bs.length-i<=d->d<q->i<=bs.length->ts0.length<=i->Vw.le S S'->Sl h0 h' S' OM.emp (ex++(mr++rows))->LexP S' l x mr->Gl 5 ov ts0.length (flt eT ts0) ex->(∀ts,Toks l bs i m ts->Toks l bs 0 0 (ts0++ts))->
    Ret (lp q (F26_2 n cl) [bv,pt x,ov,.int .i64 m,.int .i64 (i:Nat)] h') fun u h'=> ∃S',Vw.le S S'/\Sl h0 h' S' OM.emp rows/\(((chkA l).2≠0/\u= .tuple ⟨[nils,.int .i64 (chkA l).2]⟩)\/(l.Ok/\ ∃tv ts,u= .tuple ⟨[tv,.int .i64 0]⟩/\SlC S' 5 tv ts.length (flt eT ts)/\Toks l bs 0 0 ts)):=by
   intro d
   induction d with
   |zero=>
    intro q i m S' h' ov ex mr ts0 g1 g2 g3 g4 le st hx g ht;obtain⟨q,rfl⟩: ∃r,q=r+1:=⟨q-1,by omega⟩;rw[lp_succ];obtain rfl:i=bs.length:=by omega
    have dc:decide (((bs.length:Nat):Int)<((bs.length:Nat):Int))=false:=by simp
    simp only[F26_2,F26_1,ucons_cons,hb.len,xLt_i,vb_some,dc,bite_f,vN_eq];obtain⟨S3,le3,st3,hs⟩:=g.settle st;have:=ht [] (.nil (Nat.le_refl _));rw[List.append_nil]at this;exact Ret.of ⟨S3,le.trans le3,st3.drop (List.sublist_append_right _ _),.inr ⟨hok,ov,ts0,rfl,hs,this⟩⟩
   |succ d ih=>
    intro q i m S' h' ov ex mr ts0 g1 g2 g3 g4 le st hx g ht
    by_cases hi:i<bs.length
    ·obtain⟨q,rfl⟩: ∃r,q=r+1:=⟨q-1,by omega⟩;rw[lp_succ];generalize hL:lp q (F26_2 n cl)=LL;have dc:decide (((i:Nat):Int)<((bs.length:Nat):Int))=true:=by simp;omega
     simp only[F26_2,F26_1,ucons_cons,hb.len,xLt_i,vb_some,dc,bite_t,F26_0];have st:=st.perm (rows':=mr++(ex++rows)) (List.perm_append_comm_assoc _ _ _);refine Ret.hb (c22 hn hD dp hin hok hk hx (hb.mono le) (by omega) hby st) fun u h3 ⟨S3,mr',df,le3,st3,hx3,hau,hu⟩=>?_;have hci:clp ((i:Nat):Int) bs.length=i:=by unfold clp;split<;>omega
     rw[hmt hx]at hau hu;rw[hci]at hu;obtain⟨k,hk1,hk2,hk3⟩:=oneT_n (rs:=rulesOf l.rules (clp m (l.modes.toNat-1):Nat)) (d:=df) (q:=clp m (l.modes.toNat-1)) hi;generalize hone:oneT (rulesOf l.rules (clp m (l.modes.toNat-1):Nat)) df (clp m (l.modes.toNat-1)) bs i=one at hu hk1;obtain⟨t,nx⟩:=one;have hk1:t.n=k:=hk1;subst hu;simp only[xExt_t',List.getElem?_cons_zero,List.getElem?_cons_succ,vb_some];refine Ret.lalloc st3 zc41 fun h4 y st4=>?_;refine Ret.lstA st4 0 rfl rfl rfl (Nat.le_refl 5) rfl fun h5 st5=>?_;have st5:Sl h0 h5 S3 OM.emp ((y,.row .own 1 (tkv t))::(mr'++(ex++rows))):=st5;have l1:xLdA 5 (pt y) h5=some (.agg ⟨tkv t⟩):=st5.ldA (.head _) rfl (Nat.le_refl 5);simp only[l1,vb_some];have st6:=st5.perm (rows':=ex++((y,.row .own 1 (tkv t))::(mr'++rows))) (by
      have:=(List.perm_append_comm_assoc ((y,AObj.row .own 1 (tkv t))::mr') ex rows);simpa using this)
     refine Ret.gapp st6 g bs51 ai51 rfl rfl (sz_le (c:=1048576) (by omega) (by decide)) fun h7 ov' ex' st7 g7=>?_;have l2:xLd (.pointer (some ⟨y,2,none⟩)) h7=some (.int .i64 ((k:Nat):Int)):=by rw[<-hk1];exact st7.ld (List.mem_append_right _ (.head _)) rfl
     have hw:IntKind.i64.wrap (((i:Nat):Int)+((k:Nat):Int))=((i+k:Nat):Int):=by rw[wrap_in (by omega) (by omega)];omega
     simp only[xFld_p,Nat.zero_add,l2,vb_some,xAdd_i,hw];rw[<-hL];have e:flt eT (ts0++[t])=flt eT ts0++tkv t:=by rw[flt_app];simp[flt,eT]
     refine ih q (i+k) nx S3 h7 ov' ex' mr' (ts0++[t]) (by omega) (by omega) (by omega) (by rw[List.length_append];show ts0.length+1<=_;omega) (le.trans le3) (st7.drop (List.Sublist.append_left (List.sublist_cons_self _ _) _)) hx3 (by rw[e,List.length_append];exact g7) fun ts hts=>?_;rw[List.append_assoc];refine ht _ (.cons hi hau hone ?_);rw[hk1,Int.toNat_natCast];exact hts
    ·exact ih q i m S' h' ov ex mr ts0 (by omega) (by omega) g3 g4 le st hx g ht
  exact key bs.length n 0 0 S2 h2 nils [] mr [] (by omega) (by omega) (Nat.zero_le _) (Nat.le_refl _) le2 st2 hx Gl.nil (fun ts h=>h)
end
theorem Toks.inv{l:Lxr}{bs:List Nat}{i:Nat}{m:Int}{ts:List TokR}(h:Toks l bs i m ts):(bs.length<=i/\ts=[])\/ ∃d t nx ts',i<bs.length/\AutK ((rulesOf l.rules (clp m (l.modes.toNat-1):Nat)).map posOf) d/\oneT (rulesOf l.rules (clp m (l.modes.toNat-1):Nat)) d (clp m (l.modes.toNat-1)) bs i=(t,nx)/\ts=t::ts'/\Toks l bs (i+t.n.toNat) nx ts':=by
 cases h with
 |nil h=>exact .inl ⟨h,rfl⟩
 |cons h1 h2 h3 h4=>exact .inr ⟨_,_,_,_,h1,h2,h3,rfl,h4⟩
section
variable {Q:Value->PH->Prop}{n D:Nat}{cl:CL}{h h0:PH}{S:Vw}{rows:Rws}{l:Lxr}{bv:Value}{bs:List Nat}
theorem f33[OkH h](hn:4611686018427387904<=n)(hS:Vw.le S h.cells){v:Value}{ts:List TokR}(hv:RdV rTk S v ts)(hl:ts.length<=100000):Fr h S (F33 n cl v h) fun u ex=>Gl 1 u ts.length (zv (ts.map (·.k))) ex:=by
 unfold Fr F33;simp only[hv.rlen,vb_some,vN_eq];have key: ∀(d q i:Nat)(h':PH)(ov:Value)(ex:Rws),ts.length-i<=d->d<q->i<=ts.length->Sl h h' S OM.emp ex->Gl 1 ov i (zv ((ts.take i).map (·.k))) ex->
   Ret (lp q (F33_2 n cl) [ov,v,.int .i64 (ts.length:Nat),.int .i64 (i:Nat)] h') fun u h1=> ∃rows,Sl h h1 S OM.emp rows/\Gl 1 u ts.length (zv (ts.map (·.k))) rows:=by
  intro d
  induction d with
  |zero=>
   intro q i h' ov ex g1 g2 g3 st g;obtain⟨q,rfl⟩: ∃r,q=r+1:=⟨q-1,by omega⟩;rw[lp_succ];obtain rfl:i=ts.length:=by omega
   rw[List.take_length]at g;have dc:decide (((ts.length:Nat):Int)<((ts.length:Nat):Int))=false:=by simp
   simp only[F33_2,F33_1,ucons_cons,xLt_i,vb_some,dc,bite_f];exact Ret.of ⟨ex,st,g⟩
  |succ d ih=>
   intro q i h' ov ex g1 g2 g3 st g
   by_cases hi:i<ts.length
   ·obtain⟨q,rfl⟩: ∃r,q=r+1:=⟨q-1,by omega⟩;rw[lp_succ];generalize hL:lp q (F33_2 n cl)=LL;have dc:decide (((i:Nat):Int)<((ts.length:Nat):Int))=true:=by simp;omega
    have hx:=List.getElem?_eq_getElem hi;have htk:=take_snoc hx;generalize ts[i]=t at hx htk;obtain⟨bb,oo,cs,es,e1,e2,e3,e4,e5⟩:=hv.rat (k:=.i64) hx;have e1:xIdxS 5 v (.int .i64 (i:Nat))=some (.pointer (some ⟨bb,oo,none⟩)):=e1;have e5:es=tkv t:=e5;subst e5;have l1:=st.ldSA (n:=5) e2 e3 e4;simp only[F33_2,F33_1,ucons_cons,xLt_i,vb_some,dc,bite_t,F33_0,e1,l1];refine Ret.lalloc st zc41 fun h2 y st2=>?_;refine Ret.lstA st2 0 rfl rfl rfl (Nat.le_refl 5) rfl fun h3 st3=>?_;have st3:Sl h h3 S OM.emp ((y,.row .own 1 (tkv t))::ex):=st3;have l2:xLd (.pointer (some ⟨y,0,none⟩)) h3=some (.int .i64 t.k):=st3.ld (.head _) rfl;simp only[xFld_p,Nat.zero_add,vb_some,l2];have st4:Sl h h3 S OM.emp (ex++[]):=by rw[List.append_nil];exact st3.drop (List.sublist_cons_self _ _)
    refine Ret.gapp st4 g bs49 ai49 rfl rfl (sz_le (c:=1048576) (by omega) (by decide)) fun h5 ov' ex' st5 g5=>?_;rw[List.append_nil]at st5;simp only[vN_eq,xAdd_i,wrN (show i<1000000 by omega),vb_some];rw[<-hL];exact ih q (i+1) h5 ov' ex' (by omega) (by omega) (by omega) st5 (by rw[htk,List.map_append];unfold zv at g5 ⊢;rw[List.map_append];exact g5)
   ·exact ih q i h' ov ex (by omega) (by omega) g3 st g
 exact key ts.length n 0 h nils [] (by omega) (by omega) (Nat.zero_le _) (Sl.start h hS) Gl.nil
end
def tA:ByteArray:=⟨#[97]⟩
def lxA:Lxr:=⟨1,[⟨tA,0,0,0⟩]⟩
theorem lxA_ok:lxA.Ok:=⟨⟨by decide,by decide,by decide⟩,by kernel_rfl⟩
theorem lxA_in:lxA.In:=⟨⟨by decide,by decide⟩,by decide,fun r hr=>by
 have:r=⟨tA,0,0,0⟩:=by simpa[lxA]using hr
 subst this;exact⟨by decide,⟨by decide,by decide⟩,⟨by decide,by decide⟩,⟨by decide,by decide⟩⟩⟩
theorem lxA_kn:KnwL lxA:=fun _ k hk=>by
 obtain rfl:k=0:=by
  have hk:((k:Nat):Int)<1:=hk;omega
 exact few_le (k:=1) (by kernel_rfl) (by decide) (by decide)
abbrev LA:List Po:=(rulesOf lxA.rules ((0:Nat):Int)).map posOf
theorem scnA1{d:Dfa}(h:AutK LA d):scn d [97] 0 0 (-1) 0=(0,1,2):=by
 have e1:accB LA [97]=0:=by kernel_rfl
 obtain⟨a1,a2⟩:=scn_live (p:=[]) (w:=[]) (i:=0) (len:=0) (r:= -1) (c:=97) h byt_nil (by decide) (Int.le_refl 0) (v:=[]) byt_nil (by show accB LA [97]≠ -1;rw[e1];decide);refine Eq.trans a2 ?_;rw[show accB LA ([]++[97])=0 from e1,if_pos (by decide)]
 rfl
theorem scnA2{d:Dfa}(h:AutK LA d):scn d [97,97] 0 0 (-1) 0=(0,1,2):=by
 have e1:accB LA [97]=0:=by kernel_rfl
 obtain⟨a1,a2⟩:=scn_live (p:=[]) (w:=[97]) (i:=0) (len:=0) (r:= -1) (c:=97) h byt_nil (by decide) (Int.le_refl 0) (v:=[]) byt_nil (by show accB LA [97]≠ -1;rw[e1];decide);have d1:=scn_dead (p:=[97]) (w:=[]) (i:=1) (len:=1) (r:=0) (c:=97) h (byt_cons (by decide) byt_nil) (by decide) a1 (fun v _=>dead_of (c:=97) (a:=[97]) (by
  have:LA.all (fun po=>(runP po [97,97]).isEmpty)=true:=by kernel_rfl
  intro po hp;exact List.isEmpty_iff.1 (List.all_eq_true.1 this po hp)) v)
 refine Eq.trans a2 ?_;rw[show accB LA ([]++[97])=0 from e1,if_pos (by decide)];exact d1
theorem toksA{ts:List TokR}(h:Toks lxA [97,97] 0 0 ts):ts.length=2:=by
 rcases h.inv with⟨h1,_⟩|⟨d,t,nx,ts',_,hd,ho,rfl,h2⟩
 ·exact absurd h1 (by decide)
 have hs:=scnA2 hd;rw[oneT_some (k:=0) (r:=⟨tA,0,0,0⟩) hs rfl]at ho;cases ho;rcases h2.inv with⟨h1,_⟩|⟨d,t,nx,ts'',_,hd,ho,rfl,h3⟩
 ·exact absurd h1 (by decide)
 have hs:=scnA1 hd;rw[oneT_some (bs:=[97,97]) (i:=0+Int.toNat ((1:Nat):Int)) (k:=0) (r:=⟨tA,0,0,0⟩) hs rfl]at ho;cases ho;rcases h3.inv with⟨_,rfl⟩|⟨d,t,nx,ts3,h1,_⟩
 ·rfl
 ·exact absurd h1 (by decide)
theorem ab46A:abuild Tryz.prog 46 [(0,(Value.string {data:= #[97]}))]=some (.agg ⟨[.string tA,.int .i64 0,.int .i64 0,.int .i64 0]⟩):=by kernel_rfl
section
variable {Q:Value->PH->Prop}{n D:Nat}{cl:CL}{h h0:PH}{S:Vw}{rows:Rws}{l:Lxr}{bv:Value}{bs:List Nat}
theorem c27[OkH h]{z:Int}:pcall (F27 n cl (.int .i64 z) h)=some (.int .i64 z):=pcall_some rfl
theorem alive24[OkH h](hn:4611686018427387904<=n)(hD:1000<=D)(dp:Dsp2 n (D+1) cl):Ret (F24 n cl h) fun u _=>u= .bool true:=by
 unfold F24;simp only[vN_eq,ab24_1,vb_some];refine Ret.hb (c26 (l:=lx0) (bs:=[]) hn hD dp lxv_nil lx0_in lx0_kn (.inl ⟨rfl,0,rfl,⟨Nat.le_refl _,.inl (by decide)⟩⟩) (by decide) byt_nil (Sl.start h (S:=fun _=>none) (fun b cs e=>by cases e))) fun u h1 ⟨S1,le1,st1,hq⟩=>?_;rcases hq with⟨hne,_⟩|⟨_,tv,ts,rfl,htv,hts⟩
 ·rw[lx0_ok.chk]at hne;exact absurd rfl hne
 have hts0:ts=[]:=by
  rcases hts.inv with⟨_,h⟩|⟨_,_,_,_,h,_⟩
  ·exact h
  ·exact absurd h (by decide)
 subst hts0;have hl0:=htv.len;simp only[xExt_t',List.getElem?_cons_zero,List.getElem?_cons_succ,vb_some,ab46A];refine Ret.lbs st1 bs22_1 fun h2 b st=>?_;obtain⟨st2,fr⟩:=st.settle (i:=0) rfl;have hb:(S1.put b [.string tA,.int .i64 0,.int .i64 0,.int .i64 0]) b=some [.string tA,.int .i64 0,.int .i64 0,.int .i64 0]:=Vw.put_self;have le2:Vw.le S1 (S1.put b [.string tA,.int .i64 0,.int .i64 0,.int .i64 0]):=Vw.le_put fr;generalize S1.put b [.string tA,.int .i64 0,.int .i64 0,.int .i64 0]=S2 at st2 hb le2;have st2:Sl h h2 S2 OM.emp []:=st2;have hv:=lxv_of (S:=S2) (l:=lxA) (c:=1) hb rfl (by decide);have ab2:abuild Tryz.prog 24 [(0,.int .i64 ((1:Nat):Int)),(1,.slice (some ⟨b,0,none⟩) 1 1)]=some (.agg ⟨[.int .i64 lxA.modes,.slice (some ⟨b,0,none⟩) lxA.rules.length 1]⟩):=ab24_2;simp only[ab2,vb_some];refine Ret.lbs st2 bs33_2 fun h3 t st3=>?_;have hg:=st3.sm.get (st3.mem (.head _));rw[xMark_row hg rfl (by decide) (by decide)];simp only[hb_some];obtain⟨st4,fr4⟩:=st3.settle (i:=0) rfl;have hb4:(S2.put t [.int .u8 (Int.ofNat 97),.int .u8 (Int.ofNat 97)]) t=some [.int .u8 (Int.ofNat 97),.int .u8 (Int.ofNat 97)]:=Vw.put_self;have le4:Vw.le S2 (S2.put t [.int .u8 (Int.ofNat 97),.int .u8 (Int.ofNat 97)]):=Vw.le_put fr4;generalize S2.put t [.int .u8 (Int.ofNat 97),.int .u8 (Int.ofNat 97)]=S4 at st4 hb4 le4;have st4:Sl h h3 S4 OM.emp []:=st4;have htx:TxV S4 (.slice (some ⟨t,0,none⟩) 2 2) [97,97]:=.inr ⟨t,0,2,rfl,⟨by decide,.inl (by decide)⟩,fun _=>⟨_,hb4,by decide,fun i x hx=>by
  match i,hx with
  |0,hx=>cases hx;rfl
  |1,hx=>cases hx;rfl⟩⟩
 refine Ret.hb (c26 (l:=lxA) hn hD dp (hv.mono le4) lxA_in lxA_kn htx (by decide) (byt_cons (by decide) (byt_cons (by decide) byt_nil)) st4) fun u h5 ⟨S5,le5,st5,hq⟩=>?_;rcases hq with⟨hne,_⟩|⟨_,tv2,ts2,rfl,htv2,hts2⟩
 ·rw[lxA_ok.chk]at hne;exact absurd rfl hne
 have hl2:=htv2.len;have hlen:=toksA hts2;rw[hlen]at hl2;have okh5:=st5.ok;have w27:=fun z=>c27 (n:=n) (cl:=cl) (h:=h5.fzn) (z:=z);have t0:decide ((0:Int)=((0:Nat):Int))=true:=by decide
 have t0':decide (((([]:List TokR).length:Nat):Int)=((0:Nat):Int))=true:=by decide
 have t2:decide (((2:Nat):Int)=((2:Nat):Int))=true:=by decide
 simp only[xExt_t',List.getElem?_cons_zero,List.getElem?_cons_succ,vb_some,w27,xEq_i,t0,isB_t,gd_true,hl0,t0',xPick_t,hl2,t2,decide_true,gd_true,gh_true];refine Ret.lfcall st5 (f33 (n:=n) (cl:=cl) (h:=h5.fzn) hn st5.anyS (rdv_tk htv2) (by omega)) fun g h6 ex hP st6=>?_;have hl3:=hP.len;rw[hlen]at hl3;simp only[hl3,vb_some,xEq_i,t2,decide_true,xPick_t];exact Ret.of rfl
end
noncomputable def CL8(n d:Nat):CL:=toldOr 24 (.bool true) (CLo n d)
theorem CL8_ok(n d:Nat):OkCL Tryz.prog (CL8 n d):=by
 obtain⟨u,k,hk,hu⟩:=alive24 (n:=4611686018427387904) (D:=1000) (cl:=CLo 4611686018427387904 1002) (h:=h00) (Nat.le_refl _) (Nat.le_refl _) (CLo_dsp _ _);subst hu;have:=(S24 _ (CLo_ok _ _)).c0 hk;refine toldOr_ok (CLo_ok n d) this.1.1 rfl ?_;have hc:=this.1.2;have h0:h00.abs=[]:=rfl;rw[h0]at hc;exact hc.mono fun u k hq=>hq.1
structure Dsp8(n D:Nat)(cl:CL):Prop extends Dsp2 n D cl where
 al: ∀h,cl 24 [] h=some (.bool true,h)
theorem CL8_dsp(n D:Nat):Dsp8 n D (CL8 n (D+1)):=⟨⟨⟨fun f xs h _ h24 _ h78=>(sw_ne h24).trans (sw_ne h78)⟩,fun xs h=>rfl⟩,fun h=>rfl⟩
def zrt:List Value:=[.int .i64 0,.int .i64 0,.int .i64 0,.int .i64 0,.int .i64 0]
theorem zi51:zinfo Tryz.prog 51=some (5,40,zrt):=by kernel_rfl
theorem nil51{o1 o2:Operand}{b o n c:Nat}:abin Tryz.prog .eql 51 o1 o2 (.slice (some ⟨b,o,none⟩) n c) nils=some (.bool false):=by kernel_rfl
theorem nil51n{o1 o2:Operand}{n c:Nat}:abin Tryz.prog .eql 51 o1 o2 (.slice none n c) nils=some (.bool true):=by kernel_rfl
theorem bs51_0:bsRow Tryz.prog 51 0 []=some (5,[]):=by kernel_rfl
theorem u51: ∃inf,Tryz.prog.underlying 51=some (.slice 41)/\Tryz.prog.info? 41=some inf/\inf.size=5:=by
 have e2:(Tryz.prog.info? 41).map (·.size)=some 5:=by kernel_rfl
 rw[Option.map_eq_some_iff]at e2;obtain⟨inf,h1,h2⟩:=e2;exact⟨inf,by kernel_rfl,h1,h2⟩
section
variable {Q:Value->PH->Prop}{n D:Nat}{cl:CL}{h h0:PH}{S:Vw}{rows:Rws}
theorem f54[OkH h](hS:Vw.le S h.cells){v:Value}{l:List TokR}(hv:RdV rTk S v l)(hem:l=[]->Emp v)(hl:l.length<=1000):
  Fr h S (F54 n cl v h) fun u ex=>(l=[]/\((u=nils/\ex=[])\/ ∃b,u= .slice (some ⟨b,0,none⟩) 0 0/\ex=[(b,.row .own 5 [])]))\/(0<l.length/\ ∃b,u= .slice (some ⟨b,0,none⟩) l.length openCap/\ex=[(b,.row .opn 5 (flt eT l))]):=by
 unfold Fr F54
 by_cases hl0:l.length=0
 ·have e:=List.eq_nil_of_length_eq_zero hl0;subst e;obtain⟨a,c,rfl⟩:=hem rfl;cases a with
  |none=>
   simp only[Option.map_none,nil51n,vb_some,bite_t];exact Fr.ret (Sl.start h hS) (.inl ⟨by first|rfl|trivial,.inl ⟨rfl,rfl⟩⟩)
  |some b=>
   simp only[Option.map_some,nil51,vb_some,bite_f,F54_0];refine Ret.lbs (Sl.start h hS) bs51_0 fun h1' b1 st=>?_;rw[ai51,xApp_0 ptail0 (Nat.le_refl 0)];simp only[hb_some];exact Fr.ret st (.inl ⟨by first|rfl|trivial,.inr ⟨b1,rfl,rfl⟩⟩)
 rcases hv with⟨rfl,a,c,rfl⟩|⟨b,o,c,cs,rfl,h1,h2⟩
 ·exact absurd rfl hl0
 ·simp only[nil51,vb_some,bite_f,F54_0];refine Ret.lbs (Sl.start h hS) bs51_0 fun h1' b1 st=>?_;have hle:o+l.length*5<=cs.length:=by
   have hx:=List.getElem?_eq_getElem (l:=l) (i:=l.length-1) (by omega);have:=(h2 _ _ hx).1;have e4:rTk.sz=5:=rfl;rw[e4]at this;have:(l.length-1)*5+5=l.length*5:=by omega
   omega
  have hx:=st.sm.ptailS (b:=b) (o:=o) (n:=l.length) (sz:=5) (c:=c) h1 hle;have htk:(cs.drop o).take (l.length*5)=flt eT l:=by
   apply List.ext_getElem?
   intro i
   by_cases hi:i<l.length*5
   ·have hq:i / 5<l.length:=by omega
    have hxq:=List.getElem?_eq_getElem hq;have he:(cs.drop (o+i / 5*5)).take 5=tkv l[i / 5]:=(h2 _ _ hxq).2;have hf:=flt_at (E:=eT) hxq;have e4:eT.sz=5:=rfl;rw[e4]at hf;have g1:=congrArg (fun q=>q[i % 5]?) he;have g2:=congrArg (fun q=>q[i % 5]?) hf;simp only[List.getElem?_take,List.getElem?_drop]at g1 g2;rw[if_pos (by omega)]at g1 g2;rw[List.getElem?_take,if_pos hi,List.getElem?_drop];have e1:o+i / 5*5+i % 5=o+i:=by omega
    have e2:i / 5*5+i % 5=i:=by omega
    rw[e1]at g1;rw[e2]at g2;rw[g1,g2];rfl
   ·rw[List.getElem?_eq_none (by rw[List.length_take];omega),List.getElem?_eq_none (by rw[flt_len];show l.length*5<=i;omega)]
  rw[htk]at hx;rw[ai51];refine Ret.lappF st (st.mem (.head _)) (by simp) (by omega) hx (by omega) flt_one (by omega) fun h2' b2 st2=>?_;rw[Nat.zero_add];exact Fr.ret (st2.drop (rows':=[(b2,.row .opn 5 (flt eT l))]) (.cons_cons _ (List.nil_sublist _))) (.inr ⟨by omega,b2,rfl,rfl⟩)
theorem c81[OkH h](hn:4611686018427387904<=n)(hS:Vw.le S h.cells){b c:Nat}{f:Value}{l:List TokR}{p:TokR->Bool}(hb:S b=some (flt eT l))(hl:l.length<=1000)(hf:DelF cl f S eT p):
  ∃z,pcall (F81 n cl (.slice (some ⟨b,0,none⟩) l.length c) f h)=some (.int .i64 z)/\FstP p l z:=by
 have key: ∀(d q i:Nat)(h':PH),l.length-i<=d->d<q->i<=l.length->(∀r∈l.take i,p r=false)->Sl h h' S OM.emp []->Ret (lp q (F81_3 n cl) [.slice (some ⟨b,0,none⟩) l.length c,f,.int .i64 (l.length:Nat),.int .i64 (i:Nat)] h') fun v h1=> ∃rows,Sl h h1 S OM.emp rows/\ ∃z,v= .int .i64 z/\FstP p l z:=by
  intro d
  induction d with
  |zero=>
   intro q i h' g1 g2 g3 hno st;obtain⟨q,rfl⟩: ∃r,q=r+1:=⟨q-1,by omega⟩;rw[lp_succ];obtain rfl:i=l.length:=by omega
   have dc:decide (((l.length:Nat):Int)<((l.length:Nat):Int))=false:=by simp
   simp only[F81_3,F81_2,ucons_cons,xLt_i,vb_some,dc,bite_f,vM_eq];rw[List.take_length]at hno;exact Fr.ret st ⟨_,rfl,.inl ⟨rfl,hno⟩⟩
  |succ d ih=>
   intro q i h' g1 g2 g3 hno st
   by_cases hi:i<l.length
   ·obtain⟨q,rfl⟩: ∃r,q=r+1:=⟨q-1,by omega⟩;rw[lp_succ];generalize hL:lp q (F81_3 n cl)=LL;have dc:decide (((i:Nat):Int)<((l.length:Nat):Int))=true:=by simp;omega
    have hx:=List.getElem?_eq_getElem hi;generalize l[i]=r at hx;have e1:=xIdxS_at (sz:=5) (b:=b) (o:=0) (n:=l.length) (c:=c) (k:=.i64) (i:=(i:Int)) (by omega) (by omega);rw[Nat.zero_add]at e1;have hfl:=flt_len (E:=eT) (l:=l);have e4:eT.sz=5:=rfl;have l1:xLdA 5 (.pointer (some ⟨b,i*5,none⟩)) h'=some (.agg ⟨tkv r⟩):=st.ldSA hb (flt_at (E:=eT) hx) (by rw[hfl,e4];omega);simp only[F81_3,F81_2,ucons_cons,xLt_i,vb_some,dc,bite_t,F81_1,e1,Int.toNat_natCast,l1];refine hf (Vw.le.refl _) r st fun h2 st2=>?_;cases hp:p r with
    |true=>
     simp only[bite_t];exact Fr.ret st2 ⟨_,rfl,.inr ⟨i,r,rfl,hx,hp,hno⟩⟩
    |false=>
     simp only[bite_f,F81_0,vN_eq,xAdd_i,wrN (show i<1000000 by omega),vb_some];rw[<-hL];refine ih q (i+1) h2 (by omega) (by omega) (by omega) (fun r' hr'=>?_) st2;rw[take_snoc hx]at hr';rcases List.mem_append.1 hr' with h|h
     ·exact hno r' h
     ·have:r'=r:=by simpa using h
      rw[this];exact hp
   ·exact ih q i h' (by omega) (by omega) g3 hno st
 have F:Fr h S (F81 n cl (.slice (some ⟨b,0,none⟩) l.length c) f h) fun v _=> ∃z,v= .int .i64 z/\FstP p l z:=by
  unfold Fr F81;simp only[xLenS_s,vb_some,vN_eq];exact key l.length n 0 h (by omega) (by omega) (by omega) (fun r hr=>by simp at hr) (Sl.start h hS)
 obtain⟨v,rows,⟨z,rfl,hz⟩,h2⟩:=pcall_ex F (fun v rows ⟨z,e,_⟩=>by rw[e];rfl);exact⟨z,h2,hz⟩
end
section
variable {Q:Value->PH->Prop}{n D:Nat}{cl:CL}{h h0:PH}{S:Vw}{rows:Rws}
theorem c53(hn:4611686018427387904<=n){b:Nat}{f:Value}{l:List TokR}{p:TokR->Bool}(hl0:0<l.length)(hl:l.length<=1000)(hf:DelF cl f S eT p)(hf2:DelF (svc 81 (A2 (F81 n cl)) cl) f S eT p)(st:Sl h0 h S OM.emp ((b,.row .opn 5 (flt eT l))::rows)):
  Ret (F53 n cl (.slice (some ⟨b,0,none⟩) l.length openCap) f h) fun u h'=> ∃cells,u= .slice (some ⟨b,0,none⟩) (l.filter fun r=>!p r).length openCap/\Sl h0 h' S OM.emp ((b,.row .opn 5 cells)::rows)/\cells.length=l.length*5/\cells.take ((l.filter fun r=>!p r).length*5)=flt eT (l.filter fun r=>!p r):=by
 have e4:eT.sz=5:=rfl;have okh:=st.ok;obtain⟨z,hz,hfst⟩:=c81 (n:=n) (cl:=cl) (h:=h.fzn) (c:=openCap) hn st.fz (vall_m (S:=S) (st.mem (.head _))) hl (hf.mono st.sm.S_all);unfold F53;simp only[hz,vb_some,vM_eq,xEq_i];rcases hfst with⟨rfl,hno⟩|⟨i,r,rfl,hr,hpr,hno⟩
 ·have d:decide ((-1:Int)=Int.negSucc 0)=true:=by decide
  simp only[d,bite_t];rw[filter_none hno];have hfl:=flt_len (E:=eT) (l:=l);rw[e4]at hfl;exact Ret.of ⟨flt eT l,rfl,st,hfl,List.take_of_length_le (Nat.le_of_eq hfl)⟩
 have hil:=(List.getElem?_eq_some_iff.1 hr).1;have d:decide (((i:Nat):Int)=Int.negSucc 0)=false:=by simp
 simp only[d,bite_f,F53_7,vN_eq,xAdd_i,wrN (show i<1000000 by omega),vb_some];have key: ∀(k q i j:Nat)(c:List TokR)(h:PH),l.length-j<=k->k<q->DelS p l c i j->Sl h0 h S OM.emp ((b,.row .opn 5 (flt eT c))::rows)->
   Ret (lp q (F53_6 n cl) [.slice (some ⟨b,0,none⟩) l.length openCap,f,.int .i64 (i:Nat),.int .i64 (j:Nat)] h) fun u h'=> ∃cells,u= .slice (some ⟨b,0,none⟩) (l.filter fun r=>!p r).length openCap/\Sl h0 h' S OM.emp ((b,.row .opn 5 cells)::rows)/\cells.length=l.length*5/\cells.take ((l.filter fun r=>!p r).length*5)=flt eT (l.filter fun r=>!p r):=by
  intro k
  induction k with
  |zero=>
   intro q i j c h g1 g2 s st;obtain⟨q,rfl⟩: ∃r,q=r+1:=⟨q-1,by omega⟩;rw[lp_succ];have hj:=s.jl;obtain rfl:j=l.length:=by omega
   have hil:=s.lt;have hcl:=s.len;have htk:=s.tk;rw[List.take_length]at htk;have hil2:(l.filter fun r=>!p r).length=i:=by rw[<-htk,List.length_take];omega
   have dc:decide (((l.length:Nat):Int)<((l.length:Nat):Int))=false:=by simp
   obtain⟨inf,u1,u2,u3⟩:=u51;have hcap:CapOk l.length openCap:=CapOk.opn (by omega);have cut1:=acut_at (P:=Tryz.prog) (T:=51) (b:=b) (o:=0) (lo:=some (.int .i64 ((i:Nat):Int))) (hi:=none) u1 u2 hcap (r:=l.length) (l:=i) (bd_n) (bd_i (by omega) (by omega)) (by omega) (Nat.le_refl _);have cut2:=acut_at (P:=Tryz.prog) (T:=51) (b:=b) (o:=0) (lo:=none) (hi:=some (.int .i64 ((i:Nat):Int))) u1 u2 hcap (r:=i) (l:=0) (bd_i (by omega) (by unfold openCap;omega)) (bd_n) (Nat.zero_le _) (by omega);rw[if_neg (by unfold openCap;omega),u3,Nat.zero_add]at cut1;rw[if_neg (by unfold openCap;omega),Nat.zero_mul,Nat.add_zero,Nat.sub_zero,Nat.sub_zero]at cut2;simp only[F53_6,F53_5,ucons_cons,xLenS_s,xLt_i,vb_some,dc,bite_f,F53_4,cut1];have hfl:=flt_len (E:=eT) (l:=c);rw[e4,hcl]at hfl;have hzl:(zrows zrt (l.length-i)).length=(l.length-i)*5:=by rw[zrows_length];rfl
   have hle:i*5+(zrows zrt (l.length-i)).length<=(flt eT c).length:=by rw[hzl,hfl];omega
   refine Ret.lclear st zi51 (i:=0) rfl rfl (by omega) (by decide) (zrows_one rfl _) hle fun h2 st2=>?_;have st2:Sl h0 h2 S OM.emp ((b,.row .opn 5 (setsL (flt eT c) (i*5) (zrows zrt (l.length-i))))::rows):=st2;simp only[cut2,vb_some];refine Ret.of ⟨_,by rw[hil2],st2,by rw[setsL_len hle,hfl],?_⟩;rw[hil2,setsL_take hle, <-htk];have:=flt_take (E:=eT) (l:=c) (i:=i);rw[e4]at this;exact this
  |succ k ih=>
   intro q i j c h g1 g2 s st
   by_cases hjl:j<l.length
   ·obtain⟨q,rfl⟩: ∃r,q=r+1:=⟨q-1,by omega⟩;rw[lp_succ];generalize hL:lp q (F53_6 n cl)=LL;have hx:=List.getElem?_eq_getElem hjl;generalize l[j]=x at hx;obtain⟨hcx,hdel,hkeep⟩:=s.step hx;have hcl:=s.len;have hij:=s.lt;have hfl:=flt_len (E:=eT) (l:=c);rw[e4,hcl]at hfl;have dc:decide (((j:Nat):Int)<((l.length:Nat):Int))=true:=by simp;omega
    have e1:=xIdxS_at (sz:=5) (b:=b) (o:=0) (n:=l.length) (c:=openCap) (k:=.i64) (i:=(j:Int)) (by omega) (by omega);rw[Nat.zero_add,Int.toNat_natCast]at e1;have e2:=xIdxS_at (sz:=5) (b:=b) (o:=0) (n:=l.length) (c:=openCap) (k:=.i64) (i:=(i:Int)) (by omega) (by omega);rw[Nat.zero_add,Int.toNat_natCast]at e2;have l1:xLdA 5 (.pointer (some ⟨b,j*5,none⟩)) h=some (.agg ⟨tkv x⟩):=st.ldA (.head _) (flt_at (E:=eT) hcx) (by rw[hfl];omega);simp only[F53_6,F53_5,ucons_cons,xLenS_s,xLt_i,vb_some,dc,bite_t,jn_eq,F53_3,e1,l1];refine Ret.lalloc st zc41 fun h2 x2 st2=>?_;refine Ret.lstA st2 0 rfl rfl rfl (by decide) rfl fun h3 st3=>?_;have st3:Sl h0 h3 S OM.emp ((x2,.row .own 1 (tkv x))::(b,.row .opn 5 (flt eT c))::rows):=st3;have l2:xLdA 5 (pt x2) h3=some (.agg ⟨tkv x⟩):=st3.ldA (.head _) rfl (Nat.le_refl 5);simp only[l2,vb_some];refine hf2 (Vw.le.refl _) x st3 fun h4 st4=>?_;simp only[xNot_b,vb_some];cases hp:p x with
    |true=>
     simp only[Bool.not_true,bite_f,F53_2,ucons_cons,F53_0,vN_eq,xAdd_i,wrN (show j<1000000 by omega),vb_some];rw[<-hL];exact ih q i (j+1) c h4 (by omega) (by omega) (hdel hp) (st4.drop (List.sublist_cons_self _ _))
    |false=>
     have l3:xLdA 5 (pt x2) h4=some (.agg ⟨tkv x⟩):=st4.ldA (.head _) rfl (Nat.le_refl 5);simp only[Bool.not_false,bite_t,F53_1,l3,e2,vb_some];have hle:i*5+(tkv x).length<=(flt eT c).length:=by rw[hfl];show i*5+5<=_;omega
     refine Ret.lstA st4 1 rfl rfl rfl (by rw[hfl];omega) rfl fun h5 st5=>?_;have hset:=flt_set (E:=eT) (l:=c) (x:=x) (i:=i) (by omega);rw[e4]at hset;have st5:Sl h0 h5 S OM.emp ((x2,.row .own 1 (tkv x))::(b,.row .opn 5 (setsL (flt eT c) (i*5) (tkv x)))::rows):=st5;have hset':setsL (flt eT c) (i*5) (tkv x)=flt eT (c.set i x):=hset;rw[hset']at st5;simp only[vN_eq,xAdd_i,wrN (show i<1000000 by omega),vb_some,F53_2,ucons_cons,F53_0,wrN (show j<1000000 by omega)];rw[<-hL];exact ih q (i+1) (j+1) _ h5 (by omega) (by omega) (hkeep hp) (st5.drop (List.sublist_cons_self _ _))
   ·exact ih q i j c h (by omega) (by omega) s st
 refine key (l.length-(i+1)) n i (i+1) l h (Nat.le_refl _) (by omega) ⟨rfl,?_,rfl,by omega,by omega⟩ st;rw[take_snoc hr,List.filter_append,filter_none hno];simp[hpr]
end
section
variable {Q:Value->PH->Prop}{n D:Nat}{cl:CL}{h h0:PH}{S:Vw}{m:OM}{rows:Rws}
theorem d55(dp:Dsp n D cl):DelF cl (.func (.func 55) ⟨[]⟩ ⟨[]⟩) S eT (fun r=>decide (r.k= -1)):=by
 intro S' le h0 h rows r K2 Q st hk;have e:xCall cl (.func (.func 55) ⟨[]⟩ ⟨[]⟩) [.agg ⟨eT.f r⟩] h=F55 n (LV n D) (.agg ⟨tkv r⟩) h:=(dp.ag 55 _ _ (by decide) (by decide) (by decide) (by decide)).trans rfl;rw[e];refine Ret.hb (Q1:=fun v h'=>v= .bool (decide (r.k= -1))/\Sl h0 h' S' OM.emp rows) ?_ fun v h' ⟨e1,s1⟩=>by subst e1;exact hk h' s1
 unfold F55;refine Ret.lbox st fun h1 x st1=>?_;have st1:Sl h0 h1 S' OM.emp ((x,.row .own 1 (tkv r))::rows):=st1;have l1:xLd (.pointer (some ⟨x,0,none⟩)) h1=some (.int .i64 r.k):=st1.ld (.head _) rfl;simp only[xFld_p,Nat.zero_add,vb_some,l1,vM_eq,xEq_i];exact Ret.of ⟨rfl,st1.drop (List.sublist_cons_self _ _)⟩
def keptT(ts:List TokR):List TokR:=ts.filter fun r=>!decide (r.k= -1)
theorem c53e(hn:4611686018427387904<=n){v f:Value}(hv:Emp v)[OkH h]:F53 n cl v f h=some (v,h):=by
 obtain⟨a,c,rfl⟩:=hv;have e:pcall (F81 n cl (.slice (a.map fun b=>⟨b,0,none⟩) 0 c) f h.fzn)=some (.int .i64 (Int.negSucc 0)):=by
  refine pcall_fr (h:=h.fzn) (S:=fun _=>none) ?_ rfl;unfold Fr F81;obtain⟨q,rfl⟩: ∃r,n=r+1:=⟨n-1,by omega⟩;have dc:decide (((0:Nat):Int)<((0:Nat):Int))=false:=by decide
  simp only[xLenS_s,vb_some,vN_eq,lp_succ,F81_3,F81_2,ucons_cons,xLt_i,dc,bite_f,vM_eq];exact Fr.ret (Sl.start _ (fun b cs e=>by cases e)) rfl
 have d:decide ((Int.negSucc 0:Int)=Int.negSucc 0)=true:=by decide
 unfold F53;simp only[e,vb_some,vM_eq,xEq_i,d,decide_true,bite_t]
theorem rdv_fltT{b c:Nat}{l:List TokR}{cells:List Value}(hb:S b=some cells)(hle:l.length*5<=cells.length)(ht:cells.take (l.length*5)=flt eT l):RdV rTk S (.slice (some ⟨b,0,none⟩) l.length c) l:=by
 refine .inr ⟨b,0,c,cells,rfl,hb,fun i x hx=>?_⟩;have hlt:=(List.getElem?_eq_some_iff.1 hx).1;have e5:rTk.sz=5:=rfl;have hf:=flt_at (E:=eT) hx;have e5':eT.sz=5:=rfl;rw[e5', <-ht,List.drop_take,List.take_take,Nat.min_eq_left (by omega)]at hf;rw[e5,Nat.zero_add];exact⟨by omega,hf⟩
theorem f30[OkH h](hn:4611686018427387904<=n)(dp:Dsp n D cl)(hS:Vw.le S h.cells){v:Value}{ts:List TokR}(hv:RdV rTk S v ts)(hem:ts=[]->Emp v)(hl:ts.length<=1000):
  Ret (F30 n cl v h) fun u h'=> ∃S',Sl h h' S' OM.emp []/\RdV rTk (Nw h S') u (keptT ts):=by
 unfold F30;have st:=Sl.start h hS;refine Ret.lfcall st (f54 (n:=n) (cl:=cl) (h:=h.fzn) st.anyS hv hem hl) fun g h3 ex hP st4=>?_;have df:DelF cl (.func (.func 55) ⟨[]⟩ ⟨[]⟩) S eT (fun r=>decide (r.k= -1)):=d55 dp;have df2:DelF (svc 81 (A2 (F81 n cl)) cl) (.func (.func 55) ⟨[]⟩ ⟨[]⟩) S eT (fun r=>decide (r.k= -1)):=fun le=>df le;have ef:fnV 55 [] []= .func (.func 55) ⟨[]⟩ ⟨[]⟩:=rfl;rw[ef];rcases hP with⟨rfl,hP⟩|⟨hpos,b,rfl,rfl⟩
 ·have hg:Emp g:=by
   rcases hP with⟨rfl,_⟩|⟨b,rfl,_⟩
   ·exact⟨none,0,rfl⟩
   ·exact⟨some b,0,rfl⟩
  have okh:=st4.ok;rw[c53e hn hg];simp only[hb_some];obtain⟨a,c,rfl⟩:=hg;exact Ret.of ⟨S,st4.clear,.inl ⟨rfl,_,_,rfl⟩⟩
 ·have st4:Sl h h3 S OM.emp ((b,.row .opn 5 (flt eT ts))::[]):=st4;refine Ret.hb (c53 (n:=n) (cl:=cl) hn hpos (by omega) df df2 st4) fun u h4 ⟨cells,hu,st5,hcl,htk⟩=>?_;subst hu;have hge:=(st5.sm.own b _ (st5.mem (.head _))).2;obtain⟨st6,fr2⟩:=st5.settle (i:=0) rfl;have hlen:(ts.filter fun r=>!decide (r.k= -1)).length<=ts.length:=List.length_filter_le _ _;exact Ret.of ⟨_,st6.clear,rdv_fltT (Nw.at hge Vw.put_self) (by omega) htk⟩
end
noncomputable def fs41:Array Field:=match Tryz.prog.underlying 41 with
 |some (.struct fs)=>fs
 |_=> #[]
theorem u41:Tryz.prog.underlying 41=some (.struct fs41):=by kernel_rfl
theorem g41:Tryz.prog.eqGuardType Tryz.prog.depth 41=false:=by kernel_rfl
theorem st41:Tryz.prog.stoodInHeld 41=false:=by kernel_rfl
theorem fs41_ok:(fs41.toList.map fun f=>(f.name== "_",f.offset,Tryz.prog.underlying f.type))=[(false,0,some (.int .i64)),(false,1,some (.int .i64)),(false,2,some (.int .i64)),(false,3,some (.int .i64)),(false,4,some (.int .i64))]:=by kernel_rfl
theorem fs_at5{L:List Field}(hok:(L.map fun f=>(f.name== "_",f.offset,Tryz.prog.underlying f.type))=[(false,0,some (.int .i64)),(false,1,some (.int .i64)),(false,2,some (.int .i64)),(false,3,some (.int .i64)),(false,4,some (.int .i64))]):(∀(j:Nat)(f:Field),L[j]?=some f->f.name≠ "_" /\f.offset=j/\ ∃k,Tryz.prog.underlying f.type=some (.int k))/\L.length=5:=by
 refine⟨fun j f hf=>?_,by have:=congrArg List.length hok;simpa using this⟩;have h:=congrArg (fun q=>q[j]?) hok;simp only[List.getElem?_map,hf,Option.map_some]at h;have hlt:=(List.getElem?_eq_some_iff.1 hf).1;have h5:L.length=5:=by have:=congrArg List.length hok;simpa using this
 match j,h with
 |0,h=>simp at h;exact⟨by simpa using h.1,h.2.1,_,h.2.2⟩
 |1,h=>simp at h;exact⟨by simpa using h.1,h.2.1,_,h.2.2⟩
 |2,h=>simp at h;exact⟨by simpa using h.1,h.2.1,_,h.2.2⟩
 |3,h=>simp at h;exact⟨by simpa using h.1,h.2.1,_,h.2.2⟩
 |4,h=>simp at h;exact⟨by simpa using h.1,h.2.1,_,h.2.2⟩
 |j+5,h=>omega
def tkl(t:TokR):List Int:=[t.k,t.a,t.n,t.w,t.m]
theorem tkl_v(t:TokR):tkv t=(tkl t).map (.int .i64):=rfl
theorem neq41{o1 o2:Operand}{t u:TokR}:abin Tryz.prog .neq 41 o1 o2 (.agg ⟨tkv t⟩) (.agg ⟨tkv u⟩)=some (.bool (!decide (tkl t=tkl u))):=by
 rw[tkl_v,tkl_v];exact abin_ints (o1:=o1) (o2:=o2) (.inr rfl) g41 (pureRun_eqStr (k':=.i64) u41 st41 (fs_at5 fs41_ok).1 _ («as»:=tkl t) (bs:=tkl u) (by rw[(fs_at5 fs41_ok).2];rfl) (by rw[(fs_at5 fs41_ok).2];rfl))
theorem keptT_snoc{ts:List TokR}{i:Nat}{t:TokR}(h:ts[i]?=some t):keptT (ts.take (i+1))=keptT (ts.take i)++if t.k= -1 then []else [t]:=by
 unfold keptT;rw[take_snoc h,List.filter_append]
 split
 ·rename_i e;simp[e]
 ·rename_i e;simp[e]
theorem keptT_at{ts:List TokR}{i:Nat}{t:TokR}(h:ts[i]?=some t)(hk: ¬ t.k= -1):(keptT ts)[(keptT (ts.take i)).length]?=some t:=by
 have hlt:=(List.getElem?_eq_some_iff.1 h).1;have e:ts=ts.take i++t::ts.drop (i+1):=by
  rw[<-(List.getElem?_eq_some_iff.1 h).2, <-List.drop_eq_getElem_cons hlt,List.take_append_drop]
 have e2:keptT ts=keptT (ts.take i)++(t::keptT (ts.drop (i+1))):=by
  rw[e];unfold keptT;rw[List.filter_append,List.filter_cons,if_pos (by simp[hk]), <-e]
 rw[e2,List.getElem?_append_right (Nat.le_refl _),Nat.sub_self];rfl
theorem keptT_len{ts:List TokR}{i:Nat}:(keptT (ts.take i)).length<=i:=Nat.le_trans (List.length_filter_le _ _) (by rw[List.length_take];omega)
section
variable {Q:Value->PH->Prop}{n D:Nat}{cl:CL}{h h0:PH}{S:Vw}{m:OM}{rows:Rws}{K2:Value->PH->R}
theorem Ret.copyT(st:Sl h0 h S OM.emp rows){v:Value}{ts:List TokR}(hv:RdV rTk S v ts)(hem:ts=[]->Emp v)(hl:ts.length<=100000)
  (hk: ∀h' u S',Vw.le S S'->Sl h0 h' S' OM.emp rows->RdV rTk S' u ts->(ts=[]->Emp u)->Ret (K2 u h') Q):Ret (Go.Am.hb (xApp (appInfo Tryz.prog #[51,51]) nils v h) K2) Q:=by
 rw[ai51]
 by_cases he:ts=[]
 ·subst he;have ht:Go.Am.ptail 5 v h=some (0,[]):=by
   obtain⟨a,c,rfl⟩:=hem rfl;cases a with
   |none=>rfl
   |some b=>exact ptail0
  rw[xApp_00 ht];exact hk h nils S (Vw.le.refl _) st (.inl ⟨rfl,none,0,rfl⟩) fun _=>⟨none,0,rfl⟩
 ·have hpos:=List.length_pos_iff.2 he;rcases hv with⟨rfl,_⟩|⟨b,o,c,cs,rfl,h1,h2⟩
  ·exact absurd rfl he
  have hle:o+ts.length*5<=cs.length:=by
   have hx:=List.getElem?_eq_getElem (l:=ts) (i:=ts.length-1) (by omega);have:=(h2 _ _ hx).1;have e5:rTk.sz=5:=rfl;rw[e5]at this;have:(ts.length-1)*5+5=ts.length*5:=by omega
   omega
  have hx:=st.sm.ptailS (b:=b) (o:=o) (n:=ts.length) (sz:=5) (c:=c) h1 hle;have htk:(cs.drop o).take (ts.length*5)=flt eT ts:=by
   apply List.ext_getElem?
   intro i
   by_cases hi:i<ts.length*5
   ·have hq:i / 5<ts.length:=by omega
    have hxq:=List.getElem?_eq_getElem hq;have he:(cs.drop (o+i / 5*5)).take 5=tkv ts[i / 5]:=(h2 _ _ hxq).2;have hf:=flt_at (E:=eT) hxq;have e5:eT.sz=5:=rfl;rw[e5]at hf;have g1:=congrArg (fun q=>q[i % 5]?) he;have g2:=congrArg (fun q=>q[i % 5]?) hf;simp only[List.getElem?_take,List.getElem?_drop]at g1 g2;rw[if_pos (by omega)]at g1 g2;rw[List.getElem?_take,if_pos hi,List.getElem?_drop];have e1:o+i / 5*5+i % 5=o+i:=by omega
    have e2:i / 5*5+i % 5=i:=by omega
    rw[e1]at g1;rw[e2]at g2;rw[g1,g2];rfl
   ·rw[List.getElem?_eq_none (by rw[List.length_take];omega),List.getElem?_eq_none (by rw[flt_len];show ts.length*5<=i;omega)]
  rw[htk]at hx;have st:Sl h0 h S OM.emp ([]++rows):=st;refine Ret.lapp st (sz:=5) (bt:=40) (k:=0) (v:=nils) (cells:=[]) Gl.nil hx (by rw[flt_len];rfl) hpos flt_one (by omega) fun h' v' ex' st' g'=>?_;obtain⟨S',le',st2,hs⟩:=g'.settle st';rw[Nat.zero_add,List.nil_append]at hs;exact hk h' v' S' le' st2 (rdv_tk hs) fun hh=>absurd hh he
theorem law10[OkH h](hn:4611686018427387904<=n)(dp:Dsp8 n D cl)(hS:Vw.le S h.cells){v:Value}{ts:List TokR}(hv:RdV rTk S v ts)(hem:ts=[]->Emp v):Ret (F10 n cl v h) fun u _=>u= .bool true:=by
 unfold F10;have ha:pcall (cl 24 [] h.fzn)=some (.bool true):=by rw[dp.al];exact pcall_some rfl
 simp only[ha,vb_some,xNot_b,Bool.not_true,isB_f,Bool.not_false,gd_true,hv.rlen,xGt_i,vN_eq,xPick_f]
 by_cases c1:((200:Nat):Int)<((ts.length:Nat):Int)
 ·simp only[decide_eq_true c1,bite_t];exact Ret.of rfl
 simp only[decide_eq_false c1,bite_f,F10_8];have hl:ts.length<=200:=by omega
 refine Ret.copyT (Sl.start h hS) hv hem (by omega) fun h1 u S1 le1 st1 hu hue=>?_;have okh:=st1.ok;refine Ret.lfcallN (P:=fun v W=>RdV rTk W v (keptT ts)) st1 (fun v V W hVW hp=>hp.mono hVW) ?_ fun c h2 S2 le2 st2 hc=>?_
 ·refine Ret.mono (f30 (n:=n) (cl:=cl) (h:=h1.fzn) hn dp.toDsp st1.anyS hu hue (by omega)) fun v h' ⟨S3,s3,hr⟩=>⟨S3,s3,hr⟩
 have hkl:(keptT ts).length<=ts.length:=List.length_filter_le _ _;have hv2:=hv.mono (le1.trans le2);have key: ∀(d q i:Nat),ts.length-i<=d->d<q->i<=ts.length->Ret (lp q (F10_7 n cl) [v,c,.int .i64 ((keptT (ts.take i)).length:Nat),.int .i64 (i:Nat)] h2) fun u _=>u= .bool true:=by
  intro d
  induction d with
  |zero=>
   intro q i g1 g2 g3;obtain⟨q,rfl⟩: ∃r,q=r+1:=⟨q-1,by omega⟩;rw[lp_succ];obtain rfl:i=ts.length:=by omega
   have dc:decide (((ts.length:Nat):Int)<((ts.length:Nat):Int))=false:=by simp
   simp only[F10_7,F10_6,ucons_cons,hv.rlen,xLt_i,vb_some,dc,bite_f,F10_5,hc.rlen,xEq_i,List.take_length,decide_true];exact Ret.of rfl
  |succ d ih=>
   intro q i g1 g2 g3
   by_cases hi:i<ts.length
   ·obtain⟨q,rfl⟩: ∃r,q=r+1:=⟨q-1,by omega⟩;rw[lp_succ];generalize hL:lp q (F10_7 n cl)=LL;have dc:decide (((i:Nat):Int)<((ts.length:Nat):Int))=true:=by simp;omega
    have hx:=List.getElem?_eq_getElem hi;generalize ts[i]=t at hx;have hsn:=keptT_snoc hx;have hki:(keptT (ts.take i)).length<=i:=keptT_len;obtain⟨bb,oo,cs,es,e1,e2,e3,e4,e5⟩:=hv2.rat (k:=.i64) hx;have e1:xIdxS 5 v (.int .i64 (i:Nat))=some (.pointer (some ⟨bb,oo,none⟩)):=e1;have e5:es=tkv t:=e5;subst e5;have hcell:cs[oo]?=some (.int .i64 t.k):=by
     have:=congrArg (fun q=>q[0]?) e3;simp only[List.getElem?_take,List.getElem?_drop]at this;rw[if_pos (show 0<rTk.sz by decide)]at this;exact this
    have l1:xLd (.pointer (some ⟨bb,oo,none⟩)) h2=some (.int .i64 t.k):=st2.ldS e2 hcell;have l2:xLdA 5 (.pointer (some ⟨bb,oo,none⟩)) h2=some (.agg ⟨tkv t⟩):=st2.ldSA (n:=5) e2 e3 e4;simp only[F10_7,F10_6,ucons_cons,hv.rlen,xLt_i,vb_some,dc,bite_t,jn_eq,F10_4,e1,xFld_p,Nat.add_zero,l1,vM_eq,xEq_i]
    by_cases hk:t.k= -1
    ·rw[if_pos hk,List.append_nil]at hsn;have dk:decide (t.k=Int.negSucc 0)=true:=decide_eq_true hk;simp only[dk,bite_t,F10_3,ucons_cons,F10_0,vN_eq,xAdd_i,wrN (show i<1000000 by omega),vb_some];rw[<-hL, <-hsn];exact ih q (i+1) (by omega) (by omega) (by omega)
    ·rw[if_neg hk]at hsn;have dk:decide (t.k=Int.negSucc 0)=false:=decide_eq_false hk;have hat:=keptT_at hx hk;have hlt:=(List.getElem?_eq_some_iff.1 hat).1;obtain⟨b2,o2,cs2,es2,f1,f2,f3,f4,f5⟩:=hc.rat (k:=.i64) hat;have f1:xIdxS 5 c (.int .i64 ((keptT (ts.take i)).length:Nat))=some (.pointer (some ⟨b2,o2,none⟩)):=f1;have f5:es2=tkv t:=f5;subst f5;have l3:xLdA 5 (.pointer (some ⟨b2,o2,none⟩)) h2=some (.agg ⟨tkv t⟩):=st2.ldSA (n:=5) f2 f3 f4;have dl:decide ((((keptT ts).length:Nat):Int)<=(((keptT (ts.take i)).length:Nat):Int))=false:=by simp;omega
     have dn:(!decide (tkl t=tkl t))=false:=by simp
     have hs1:(keptT (ts.take i)).length+1=(keptT (ts.take (i+1))).length:=by rw[hsn,List.length_append];rfl
     simp only[dk,bite_f,F10_2,hc.rlen,vb_some,xGe_i,dl,isB_f,Bool.not_false,gd_true,f1,e1,l3,l2,neq41,dn,xPick_f,F10_1,vN_eq,xAdd_i,wrN (show(keptT (ts.take i)).length<1000000 by omega),F10_3,ucons_cons,F10_0,wrN (show i<1000000 by omega)];rw[<-hL,hs1];exact ih q (i+1) (by omega) (by omega) (by omega)
   ·exact ih q i (by omega) (by omega) g3
 exact key ts.length n 0 (by omega) (by omega) (Nat.zero_le _)
end
end Go.Am
namespace Go.Am
open Go Go.RowKit Go.Proofs Go.ChangeShapes Go.WideShapes
theorem o41:Opens Tryz.prog 41 rTk fun _=>True:=by
 intro H enc w ρ l fuel cs y m hl ht;obtain⟨ρ',ext,es,x,h1,h2,h3,h4,h5⟩:=opens_struct Tryz.underlying41 (Flds.cons oi3 cI3 (Flds.cons oi3 cI3 (Flds.cons oi3 cI3 (Flds.cons oi3 cI3 (Flds.one oi3 cI3))))) m hl ht;obtain⟨a,b,c,d,e⟩:=x;obtain⟨e1,_,rfl,q1,e2,_,rfl,q2,e3,_,rfl,q3,e4,e5,rfl,q4,q5⟩:=h4;have q1:e1=[.int .i64 a]:=q1;have q2:e2=[.int .i64 b]:=q2;have q3:e3=[.int .i64 c]:=q3;have q4:e4=[.int .i64 d]:=q4;have q5:e5=[.int .i64 e]:=q5;subst q1 q2 q3 q4 q5;exact⟨ρ',ext,_,⟨a,b,c,d,e⟩,h1,h2,h3,rfl,trivial⟩
theorem o51:Opens Tryz.prog 51 rTk.sl (GLen fun _=>True):=opens_slice Tryz.underlying51 (by kernel_rfl) (by decide) o41
set_option maxRecDepth 100000 in
theorem law_tk{f:FuncId}{H:Type}{enc:TypeId×Value->H}{w:World}{r:_root_.Go.Reach}{b0:Nat}{v0:Value}{d0:DataW H}{p0:List MemPlace}(hv0:Value.okWide Tryz.prog w r b0 51 v0)
  (ht0:DataW.Trod enc Tryz.prog w 0 (fun _=>true) true 51 v0 d0 p0)
  (law: ∀(h:PH)(v:Value)(ts:List TokR),OkH h->RdV rTk h.cells v ts->(ts=[]->Emp v)-> ∃k,ACall Tryz.prog f [v] h.abs fun u k'=>u= .bool true/\k'=k):
  Calls Tryz.prog f #[v0] w fun e w'=>e= .returned (.bool true)/\Below w.heap.size w w':=by
 obtain⟨a1,l1,c1,rfl⟩:=okWide_slice Tryz.underlying51 hv0;obtain⟨f0,ht0⟩:=ht0;obtain⟨ρ,ext,es,ts,m,le,hv,hE,hG⟩:=o51 (Im.start w trivial) rfl ht0;obtain⟨v',rfl,hr,hem⟩:=hE;obtain⟨u,hu,hvr⟩:=VR.of1 hv;cases hu;obtain⟨h,ok,hhn,hz,hrw⟩:=PH.of_list ([.dead]++ext);obtain⟨k,hk⟩:=law h v' ts ok (hr.mono (vl_ph hrw)) hem;rw[PH.abs_list hhn hz hrw]at hk;exact calls_rel (Q:=fun k'=>k'=k) m.rel (.cons hvr .nil) rfl hk
end Go.Am
