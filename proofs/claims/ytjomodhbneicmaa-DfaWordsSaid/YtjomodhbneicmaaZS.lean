import Derived.Test.YtjomodhbneicmaaZW
import Derived.Test.YtjomodhbneicmaaZF
import Derived.Test.YtjomodhbneicmaaZQ
set_option linter.unusedSimpArgs false
set_option linter.unusedVariables false
namespace Go.Am
open Go Go.RowKit Go.Proofs
def fz(f:Nat->Int)(N:Nat):List Value:=(List.range N).map fun i=>.int .i64 (f i)
def fup(f:Nat->Int)(i:Nat)(x:Int):Nat->Int:=fun k=>if k=i then x else f k
def swp(f:Nat->Int)(i j:Nat):Nat->Int:=fun k=>if k=i then f j else if k=j then f i else f k
inductive Sw(a b:Nat):(Nat->Int)->(Nat->Int)->Prop where
 |refl {f}:Sw a b f f
 |step {f g:Nat->Int} {i j:Nat} (h:Sw a b f g) (hi:a<=i/\i<b) (hj:a<=j/\j<b):Sw a b f (swp g i j)
def Srt(a b:Nat)(f:Nat->Int):Prop:= ∀i j,a<=i->i<j->j<b->f i<=f j
def SM(b:Nat)(md:Mode)(pre post:List Value)(N:Nat)(f:Nat->Int):OM:=OM.emp.upd b (.row md 1 (pre++(fz f N++post)))
section
variable {Q:Value->PH->Prop}{n:Nat}{cl:CL}{h h0:PH}{S:Vw}{rows:Rws}{b N c:Nat}{md:Mode}{pre post:List Value}{f:Nat->Int}{K2:Value->PH->R}
abbrev sv(b:Nat)(pre:List Value)(N c:Nat):Value:=.slice (some ⟨b,pre.length,none⟩) N c
end
section
variable {Q:Value->PH->Prop}{n:Nat}{cl:CL}{h h0:PH}{S:Vw}{rows:Rws}{b N c:Nat}{md:Mode}{pre post:List Value}{f:Nat->Int}{K2:Value->PH->R}
def SR(S:Vw)(h0:PH)(rows:Rws)(b:Nat)(md:Mode)(pre post:List Value)(N a e:Nat)(f:Nat->Int)(P:(Nat->Int)->Value->Prop)(v:Value)(h':PH):Prop:=
 ∃g,Sw a e f g/\Sl h0 h' S (SM b md pre post N g) rows/\P g v
theorem wrapN{x:Nat}(h:x<4611686018427387904):IntKind.i64.wrap (((x:Nat):Int)+((1:Nat):Int))=((x+1:Nat):Int):=by rw[wrap_in (by omega) (by omega)];omega
end
def HeapAt(F:Nat->Int)(hi k:Nat):Prop:= ∀c,(c=2*k+1\/c=2*k+2)->c<hi->F c<=F k
structure HeapX(F:Nat->Int)(lo hi r:Nat):Prop where
 at': ∀k,lo<=k->k≠r->HeapAt F hi k
 up: ∀p,lo<=p->(r=2*p+1\/r=2*p+2)-> ∀c,(c=2*r+1\/c=2*r+2)->c<hi->F c<=F p
section
variable {Q:Value->PH->Prop}{n:Nat}{cl:CL}{h h0:PH}{S:Vw}{rows:Rws}{b N c:Nat}{md:Mode}{pre post:List Value}{f:Nat->Int}{K2:Value->PH->R}
end
theorem xQuo_n{x y:Nat}(hy:0<y)(hx:x<4611686018427387904):xQuo (.int .i64 (x:Nat)) (.int .i64 (y:Nat))=some (.int .i64 ((x / y:Nat):Int)):=by
 have h1:kb .i64 .i64=true:=rfl;have h2:ieq ((y:Nat):Int) 0=false:=by rw[ieq_eq];simp;omega
 have h3:Int.tdiv ((x:Nat):Int) ((y:Nat):Int)=((x / y:Nat):Int):=by simp[Int.tdiv]
 have h4:x / y<=x:=Nat.div_le_self _ _;simp only[xQuo,h1,h2,mkI_eq,wr_eq,h3];generalize x / y=z at h4;rw[wrap_in (by omega) (by omega)]
section
variable {Q:Value->PH->Prop}{n:Nat}{cl:CL}{h h0:PH}{S:Vw}{rows:Rws}{b N c:Nat}{md:Mode}{pre post:List Value}{f:Nat->Int}{K2:Value->PH->R}
end
structure Pinv(g:Nat->Int)(a e i j:Nat):Prop where
 lo:a+1<=i
 ij:i<=j+1
 je:j<e
 l: ∀k,a<k->k<i->g k<g a
 r: ∀k,j<k->k<e->g a<=g k
def Parted(a e:Nat)(g:Nat->Int)(mid:Nat):Prop:=a<=mid/\mid<e/\(∀k,a<=k->k<mid->g k<=g mid)/\(∀k,mid<k->k<e->g mid<=g k)
section
variable {Q:Value->PH->Prop}{n:Nat}{cl:CL}{h h0:PH}{S:Vw}{rows:Rws}{b N c:Nat}{md:Mode}{pre post:List Value}{f g:Nat->Int}{K2:Value->PH->R}
end
section
variable {Q:Value->PH->Prop}{n:Nat}{cl:CL}{h h0:PH}{S:Vw}{rows:Rws}{b N c:Nat}{md:Mode}{pre post:List Value}{f g:Nat->Int}{K2:Value->PH->R}
def PartP(a e:Nat)(g:Nat->Int)(v:Value):Prop:= ∃(mid:Nat) (bb:Bool),v= .tuple ⟨[.int .i64 (mid:Nat),.bool bb]⟩/\Parted a e g mid
end
structure Pine(g:Nat->Int)(a e i j:Nat):Prop where
 lo:a+1<=i
 ij:i<=j+1
 je:j<e
 l: ∀k,a<k->k<i->g k<=g a
 r: ∀k,j<k->k<e->g a<g k
def EqP(a e:Nat)(pv:Int)(g:Nat->Int)(v:Value):Prop:= ∃mid:Nat,v= .int .i64 (mid:Nat)/\g a=pv/\a<mid/\mid<=e/\(∀k,a<=k->k<mid->g k<=g a)/\(∀k,mid<=k->k<e->g a<g k)
section
variable {Q:Value->PH->Prop}{n:Nat}{cl:CL}{h h0:PH}{S:Vw}{rows:Rws}{b N c:Nat}{md:Mode}{pre post:List Value}{f g:Nat->Int}{K2:Value->PH->R}
end
section
variable {Q:Value->PH->Prop}{n:Nat}{cl:CL}{h h0:PH}{S:Vw}{rows:Rws}{b N c:Nat}{md:Mode}{pre post:List Value}{f g:Nat->Int}{K2:Value->PH->R}
def ChP(a e:Nat)(v:Value):Prop:= ∃p t:Nat,v= .tuple ⟨[.int .i64 (p:Nat),.int .i64 (t:Nat)]⟩/\a<=p/\p<e
end
def lenTab:ByteArray:= {data:= #[0,1,2,2,3,3,3,3,4,4,4,4,4,4,4,4,5,5,5,5,5,5,5,5,5,5,5,5,5,5,5,5,6,6,6,6,6,6,6,6,6,6,6,6,6,6,6,6,6,6,6,6,6,6,6,6,6,6,6,6,6,6,6,6,7,7,7,7,7,7,7,7,7,7,7,7,7,7,7,7,7,7,7,7,7,7,7,7,7,7,7,7,7,7,7,7,7,7,7,7,7,7,7,7,7,7,7,7,7,7,7,7,7,7,7,7,7,7,7,7,7,7,7,7,7,7,7,7,8,8,8,8,8,8,8,8,8,8,8,8,8,8,8,8,8,8,8,8,8,8,8,8,8,8,8,8,8,8,8,8,8,8,8,8,8,8,8,8,8,8,8,8,8,8,8,8,8,8,8,8,8,8,8,8,8,8,8,8,8,8,8,8,8,8,8,8,8,8,8,8,8,8,8,8,8,8,8,8,8,8,8,8,8,8,8,8,8,8,8,8,8,8,8,8,8,8,8,8,8,8,8,8,8,8,8,8,8,8,8,8,8,8,8,8,8,8,8,8,8,8,8,8,8,8,8,8]}
def BL(x L:Nat):Prop:=(x=0/\L=0)\/(0<L/\2 ^ (L-1)<=x/\x<2 ^ L)
instance(x L:Nat):Decidable (BL x L):=by unfold BL;exact inferInstance
section
variable {Q:Value->PH->Prop}{n:Nat}{cl:CL}{h h0:PH}{S:Vw}{rows:Rws}{b N c:Nat}{md:Mode}{pre post:List Value}{f g:Nat->Int}{K2:Value->PH->R}
end
section
variable {Q:Value->PH->Prop}{n:Nat}{cl:CL}{h h0:PH}{S:Vw}{m:OM}{rows:Rws}{b N c:Nat}{md:Mode}{pre post:List Value}{f g:Nat->Int}{K2:Value->PH->R}
end
def Low(a e:Nat)(f:Nat->Int):Prop:= ∀k,0<a->a<=k->k<e->f (a-1)<=f k
section
variable {Q:Value->PH->Prop}{n:Nat}{cl:CL}{h h0:PH}{S:Vw}{m:OM}{rows:Rws}{b N c:Nat}{md:Mode}{pre post:List Value}{f g:Nat->Int}{K2:Value->PH->R}
def PaP(a e:Nat)(g:Nat->Int)(v:Value):Prop:= ∃bb:Bool,v= .bool bb/\(bb=true->Srt a e g)
end
def Out(A E a e:Nat)(g:Nat->Int):Prop:= ∀x y,A<=x->x<y->y<E->(x<a\/e<=y)->g x<=g y
section
variable {Q:Value->PH->Prop}{n:Nat}{cl:CL}{h h0:PH}{S:Vw}{m:OM}{rows:Rws}{b N c:Nat}{md:Mode}{pre post:List Value}{f g:Nat->Int}{K2:Value->PH->R}
def Ih104(cl:CL)(S:Vw)(h0:PH)(rows:Rws)(b:Nat)(md:Mode)(pre post:List Value)(N c L:Nat):Prop:=
 ∀(h:PH)(f:Nat->Int)(a e t:Nat),a<=e->e<=N->e-a<L->t<1000->Low a e f->Sl h0 h S (SM b md pre post N f) rows->Ret (cl 104 [sv b pre N c,.int .i64 (a:Nat),.int .i64 (e:Nat),.int .i64 (t:Nat)] h) (SR S h0 rows b md pre post N a e f fun g _=>Srt a e g)
set_option maxRecDepth 100000 in
theorem CLV104{d:Nat}{u v w x:Value}{h:PH}:CLV n (d+1) 104 [u,v,w,x] h=F104 n (CLV n d) u v w x h:=rfl
end
section
variable {Q:Value->PH->Prop}{n:Nat}{cl:CL}{h h0:PH}{S:Vw}{m:OM}{rows:Rws}{b N c:Nat}{md:Mode}{pre post:List Value}{f g:Nat->Int}{K2:Value->PH->R}
end
theorem zi28:zinfo Try.prog 28=some (1,8,[.int .i64 0]):=by kernel_rfl
theorem u28: ∃inf,Try.prog.underlying 28=some (.slice 3)/\Try.prog.info? 3=some inf/\inf.size=1:=by
 have e2:(Try.prog.info? 3).map (·.size)=some 1:=by kernel_rfl
 rw[Option.map_eq_some_iff]at e2;obtain⟨inf,h1,h2⟩:=e2;exact⟨inf,by kernel_rfl,h1,h2⟩
section
variable {Q:Value->PH->Prop}{n:Nat}{cl:CL}{h h0:PH}{S:Vw}{m:OM}{rows:Rws}{b N c:Nat}{md:Mode}{pre post:List Value}{f g:Nat->Int}{K2:Value->PH->R}
def Once(N:Nat)(f:Nat->Int)(K:Nat)(g:Nat->Int):Prop:=(∀i j,i<j->j<K->g i<g j)/\(∀i,i<N-> ∃j,j<K/\g j=f i)/\(∀j,j<K-> ∃i,i<N/\g j=f i)
def CompV(S:Vw)(h0:PH)(rows:Rws)(b:Nat)(md:Mode)(pre:List Value)(N c:Nat)(f:Nat->Int)(v:Value)(h':PH):Prop:=
 ∃K g post',K<=N/\Once N f K g/\v=sv b pre K c/\Sl h0 h' S (SM b md pre post' K g) rows
end
section
variable {Q:Value->PH->Prop}{n:Nat}{cl:CL}{h h0:PH}{S:Vw}{m:OM}{rows:Rws}{b N c:Nat}{md:Mode}{pre post:List Value}{f g:Nat->Int}{K2:Value->PH->R}
end
end Go.Am
