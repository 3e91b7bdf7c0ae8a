import Derived.Test.YtjomodhbneicmaaZW
import Derived.Test.YtjomodhbneicmaaZF
set_option linter.unusedSimpArgs false
set_option linter.unusedVariables false
namespace Go.Am
inductive Re where
 |mk (op:Int) (set:List Int) (kids:List Re)
structure Pt where
 null:Bool
 cnt:Nat
 fst:Nat->Bool
 lst:Nat->Bool
 fol:Nat->Nat->Bool
def Pt.unit(b:Nat):Pt:=⟨true,b,fun _=>false,fun _=>false,fun _ _=>false⟩
def Pt.zero(b:Nat):Pt:=⟨false,b,fun _=>false,fun _=>false,fun _ _=>false⟩
def Pt.one(b:Nat):Pt:=⟨false,b+1,fun i=>decide (i=b),fun i=>decide (i=b),fun _ _=>false⟩
def Pt.cat(a b:Pt):Pt:=⟨a.null&&b.null,b.cnt,fun i=>a.fst i||(a.null&&b.fst i),fun i=>b.lst i||(b.null&&a.lst i),fun i j=>(a.fol i j||b.fol i j)||(a.lst i&&b.fst j)⟩
def Pt.alt(a b:Pt):Pt:=⟨a.null||b.null,b.cnt,fun i=>a.fst i||b.fst i,fun i=>a.lst i||b.lst i,fun i j=>a.fol i j||b.fol i j⟩
def Pt.rep(op:Int)(a:Pt):Pt:=⟨if op=5 then a.null else true,a.cnt,a.fst,a.lst,fun i j=>a.fol i j||(decide (op≠6)&&(a.lst i&&a.fst j))⟩
mutual
def Re.ev:Re->Nat->Pt
 | .mk op _ ks,b=>
  if op=1 then Pt.one b
  else if op=2 then evCat ks (Pt.unit b)
  else if op=3 then(if ks.isEmpty then Pt.unit b else evAlt ks (Pt.zero b))
  else if 4<=op/\op<=6 then evOne op ks b
  else Pt.unit b
def evCat:List Re->Pt->Pt
 | [],a=>a
 |k::ks,a=>evCat ks (a.cat (k.ev a.cnt))
def evAlt:List Re->Pt->Pt
 | [],a=>a
 |k::ks,a=>evAlt ks (a.alt (k.ev a.cnt))
def evOne(op:Int):List Re->Nat->Pt
 | [],b=>Pt.unit b
 |k::_,b=>(k.ev b).rep op
end
mutual
def Re.sets:Re->List (List Int)
 | .mk op s ks=>
  if op=1 then [s]
  else if op=2\/op=3 then reSets ks
  else if 4<=op/\op<=6 then reSet1 ks
  else []
def reSets:List Re->List (List Int)
 | []=>[]
 |k::ks=>k.sets++reSets ks
def reSet1:List Re->List (List Int)
 | []=>[]
 |k::_=>k.sets
end
mutual
def Re.deep:Re->Nat
 | .mk op _ ks=>
  if op=2\/op=3 then deepL ks+1
  else if 4<=op/\op<=6 then deep1 ks+1
  else 1
def deepL:List Re->Nat
 | []=>0
 |k::ks=>max k.deep (deepL ks)
def deep1:List Re->Nat
 | []=>0
 |k::_=>k.deep
end
mutual
def Re.high:Re->Nat
 | .mk _ _ ks=>highL ks+1
def highL:List Re->Nat
 | []=>0
 |k::ks=>max k.high (highL ks)
end
mutual
def Re.size:Re->Nat
 | .mk _ _ ks=>sizeL ks+1
def sizeL:List Re->Nat
 | []=>0
 |k::ks=>k.size+sizeL ks
end
def looked(op:Int)(ks:List Re):List Re:=if op=2\/op=3 then ks else if 4<=op/\op<=6 then ks.take 1 else []
theorem Re.deep_looked(op:Int)(s:List Int)(ks:List Re):(Re.mk op s ks).deep=deepL (looked op ks)+1:=by
 unfold Re.deep looked
 split
 ·rfl
 ·split
  ·cases ks<;>simp[deep1,deepL]
  ·simp[deepL]
theorem Re.sets_looked(op:Int)(s:List Int)(ks:List Re):(Re.mk op s ks).sets=if op=1 then [s]else reSets (looked op ks):=by
 unfold Re.sets looked
 split
 ·rfl
 ·split
  ·rfl
  ·split
   ·cases ks<;>simp[reSet1,reSets]
   ·simp[reSets]
theorem sizeL_mem{k:Re}: ∀{ks:List Re},k∈ks->k.size<=sizeL ks
 |x::ks,h=>by
  unfold sizeL;rcases List.mem_cons.1 h with rfl|h
  ·omega
  ·have:=sizeL_mem h;omega
theorem looked_mem{op:Int}{k:Re}{ks:List Re}(h:k∈looked op ks):k∈ks:=by
 unfold looked at h
 split at h
 ·exact h
 ·split at h
  ·exact List.mem_of_mem_take h
  ·cases h
theorem sizeL_take: ∀{ks:List Re}{n:Nat},sizeL (ks.take n)<=sizeL ks
 | [],n=>by simp
 |k::ks,0=>by simp[sizeL]
 |k::ks,n+1=>by
  rw[List.take_succ_cons];unfold sizeL;have:=sizeL_take (ks:=ks) (n:=n);omega
theorem Re.size_pos(x:Re):1<=x.size:=by cases x;unfold Re.size;omega
theorem sizeL_len: ∀(ks:List Re),ks.length<=sizeL ks
 | []=>by simp
 |k::ks=>by
  unfold sizeL;have:=sizeL_len ks;have:=k.size_pos;simp;omega
theorem Re.deep_pos(x:Re):1<=x.deep:=by cases x;rw[Re.deep_looked];omega
theorem deepL_mem{k:Re}: ∀{ks:List Re},k∈ks->k.deep<=deepL ks
 |x::ks,h=>by
  unfold deepL;rcases List.mem_cons.1 h with rfl|h
  ·omega
  ·have:=deepL_mem h;omega
mutual
theorem Re.deep_le: ∀(x:Re),x.deep<=x.size
 | .mk op s ks=>by
  unfold Re.deep Re.size;have h1:=deepL_le ks;have h2:deep1 ks<=sizeL ks:=by
   cases ks with
   |nil=>simp[deep1]
   |cons k ks=>unfold deep1 sizeL;have:=Re.deep_le k;omega
  split
  ·omega
  ·split<;>omega
theorem deepL_le: ∀(ks:List Re),deepL ks<=sizeL ks
 | []=>by simp[deepL]
 |k::ks=>by
  unfold deepL sizeL;have:=Re.deep_le k;have:=deepL_le ks;omega
end
mutual
theorem Re.sets_le: ∀(x:Re),x.sets.length<=x.size
 | .mk op s ks=>by
  unfold Re.sets Re.size;have h1:=reSets_le ks;have h2:(reSet1 ks).length<=sizeL ks:=by
   cases ks with
   |nil=>simp[reSet1]
   |cons k ks=>unfold reSet1 sizeL;have:=Re.sets_le k;omega
  split
  ·simp
  ·split
   ·omega
   ·split
    ·omega
    ·simp
theorem reSets_le: ∀(ks:List Re),(reSets ks).length<=sizeL ks
 | []=>by simp[reSets]
 |k::ks=>by
  unfold reSets sizeL;have:=Re.sets_le k;have:=reSets_le ks;rw[List.length_append];omega
end
theorem looked_get{op:Int}{ks:List Re}{i:Nat}{x:Re}(hx:(looked op ks)[i]?=some x):ks[i]?=some x:=by
 unfold looked at hx
 split at hx
 ·exact hx
 ·split at hx
  ·rw[List.getElem?_take]at hx
   split at hx
   ·exact hx
   ·cases hx
  ·simp at hx
theorem reSets_append(a b:List Re):reSets (a++b)=reSets a++reSets b:=by
 induction a with
 |nil=>rfl
 |cons x a ih=>simp[reSets,ih]
mutual
theorem Re.cnt: ∀(x:Re)(b:Nat),(x.ev b).cnt=b+x.sets.length
 | .mk op s ks,b=>by
  unfold Re.ev Re.sets
  by_cases h1:op=1
  ·subst h1;simp[Pt.one]
  by_cases h2:op=2
  ·subst h2;simp[cnt_cat,Pt.unit]
  by_cases h3:op=3
  ·subst h3;cases ks with
   |nil=>simp[reSets,Pt.unit]
   |cons k ks=>simp[cnt_alt,Pt.zero]
  by_cases h4:4<=op/\op<=6
  ·cases ks with
   |nil=>simp[h1,h2,h3,h4,evOne,reSet1,Pt.unit]
   |cons k ks=>simp[h1,h2,h3,h4,evOne,reSet1,Pt.rep,Re.cnt k b]
  ·simp[h1,h2,h3,h4,Pt.unit]
theorem cnt_cat: ∀(ks:List Re)(a:Pt),(evCat ks a).cnt=a.cnt+(reSets ks).length
 | [],a=>by simp[evCat,reSets]
 |k::ks,a=>by
  unfold evCat reSets;rw[cnt_cat ks]
  show(k.ev a.cnt).cnt+_=_
  rw[Re.cnt k,List.length_append];omega
theorem cnt_alt: ∀(ks:List Re)(a:Pt),(evAlt ks a).cnt=a.cnt+(reSets ks).length
 | [],a=>by simp[evAlt,reSets]
 |k::ks,a=>by
  unfold evAlt reSets;rw[cnt_alt ks]
  show(k.ev a.cnt).cnt+_=_
  rw[Re.cnt k,List.length_append];omega
end
structure Pt.In(p:Pt)(b:Nat):Prop where
 le:b<=p.cnt
 fst: ∀i,p.fst i=true->b<=i/\i<p.cnt
 lst: ∀i,p.lst i=true->b<=i/\i<p.cnt
 fol: ∀i j,p.fol i j=true->(b<=i/\i<p.cnt)/\b<=j/\j<p.cnt
theorem Pt.In.unit(b:Nat):(Pt.unit b).In b:=⟨Nat.le_refl _,(fun _ h=>by cases h),(fun _ h=>by cases h),(fun _ _ h=>by cases h)⟩
theorem Pt.In.zero(b:Nat):(Pt.zero b).In b:=⟨Nat.le_refl _,(fun _ h=>by cases h),(fun _ h=>by cases h),(fun _ _ h=>by cases h)⟩
theorem Pt.In.one(b:Nat):(Pt.one b).In b:=by
 refine⟨Nat.le_succ _,fun i h=>?_,fun i h=>?_,(fun _ _ h=>by cases h)⟩<;>(have:=of_decide_eq_true h;subst this;exact⟨Nat.le_refl _,Nat.lt_succ_self _⟩)
theorem Pt.In.cat{a p:Pt}{b:Nat}(h:a.In b)(h':p.In a.cnt):(a.cat p).In b:=by
 have:=h.le;have:=h'.le;refine⟨by show b<=p.cnt;omega,fun i hi=>?_,fun i hi=>?_,fun i j hi=>?_⟩
 ·have hi:(a.fst i||(a.null&&p.fst i))=true:=hi;simp only[Bool.or_eq_true,Bool.and_eq_true]at hi
  show b<=i/\i<p.cnt
  rcases hi with hi|⟨_,hi⟩
  ·have:=h.fst i hi;omega
  ·have:=h'.fst i hi;omega
 ·have hi:(p.lst i||(p.null&&a.lst i))=true:=hi;simp only[Bool.or_eq_true,Bool.and_eq_true]at hi
  show b<=i/\i<p.cnt
  rcases hi with hi|⟨_,hi⟩
  ·have:=h'.lst i hi;omega
  ·have:=h.lst i hi;omega
 ·have hi:((a.fol i j||p.fol i j)||(a.lst i&&p.fst j))=true:=hi;simp only[Bool.or_eq_true,Bool.and_eq_true]at hi
  show(b<=i/\i<p.cnt)/\b<=j/\j<p.cnt
  rcases hi with(hi|hi)|⟨h1,h2⟩
  ·have:=h.fol i j hi;omega
  ·have:=h'.fol i j hi;omega
  ·have:=h.lst i h1;have:=h'.fst j h2;omega
theorem Pt.In.alt{a p:Pt}{b:Nat}(h:a.In b)(h':p.In a.cnt):(a.alt p).In b:=by
 have:=h.le;have:=h'.le;refine⟨by show b<=p.cnt;omega,fun i hi=>?_,fun i hi=>?_,fun i j hi=>?_⟩
 ·have hi:(a.fst i||p.fst i)=true:=hi;simp only[Bool.or_eq_true]at hi
  show b<=i/\i<p.cnt
  rcases hi with hi|hi
  ·have:=h.fst i hi;omega
  ·have:=h'.fst i hi;omega
 ·have hi:(a.lst i||p.lst i)=true:=hi;simp only[Bool.or_eq_true]at hi
  show b<=i/\i<p.cnt
  rcases hi with hi|hi
  ·have:=h.lst i hi;omega
  ·have:=h'.lst i hi;omega
 ·have hi:(a.fol i j||p.fol i j)=true:=hi;simp only[Bool.or_eq_true]at hi
  show(b<=i/\i<p.cnt)/\b<=j/\j<p.cnt
  rcases hi with hi|hi
  ·have:=h.fol i j hi;omega
  ·have:=h'.fol i j hi;omega
theorem Pt.In.rep{a:Pt}{b:Nat}(op:Int)(h:a.In b):(a.rep op).In b:=by
 refine⟨h.le,h.fst,h.lst,fun i j hi=>?_⟩;have hi:(a.fol i j||(decide (op≠6)&&(a.lst i&&a.fst j)))=true:=hi;simp only[Bool.or_eq_true,Bool.and_eq_true]at hi;rcases hi with hi|⟨_,h1,h2⟩
 ·exact h.fol i j hi
 ·exact⟨h.lst i h1,h.fst j h2⟩
mutual
theorem Re.inn: ∀(x:Re)(b:Nat),(x.ev b).In b
 | .mk op s ks,b=>by
  unfold Re.ev
  split
  ·exact .one b
  ·split
   ·exact inn_cat ks _ b (.unit b)
   ·split
    ·split
     ·exact .unit b
     ·exact inn_alt ks _ b (.zero b)
    ·split
     ·cases ks with
      |nil=>exact .unit b
      |cons k ks=>exact(Re.inn k b).rep op
     ·exact .unit b
theorem inn_cat: ∀(ks:List Re)(a:Pt)(b:Nat),a.In b->(evCat ks a).In b
 | [],a,b,h=>h
 |k::ks,a,b,h=>inn_cat ks _ b (h.cat (Re.inn k _))
theorem inn_alt: ∀(ks:List Re)(a:Pt)(b:Nat),a.In b->(evAlt ks a).In b
 | [],a,b,h=>h
 |k::ks,a,b,h=>inn_alt ks _ b (h.alt (Re.inn k _))
end
def srt(N:Nat)(P:Nat->Bool):List Nat:=(List.range N).filter P
theorem mem_srt{N:Nat}{P:Nat->Bool}{i:Nat}:i∈srt N P↔i<N/\P i=true:=by simp[srt]
theorem srt_congr{N:Nat}{P Q:Nat->Bool}(h: ∀i,i<N->P i=Q i):srt N P=srt N Q:=by
 unfold srt;exact List.filter_congr fun i hi=>h i (by simpa using hi)
theorem srt_sorted(N:Nat)(P:Nat->Bool):(srt N P).Pairwise (· < ·):=List.Pairwise.filter _ List.pairwise_lt_range
theorem rising_eq: ∀{a b:List Nat},a.Pairwise (· < ·)->b.Pairwise (· < ·)->(∀i,i∈a↔i∈b)->a=b
 | [],[],_,_,_=>rfl
 | [],y::b,_,_,h=>by have:=(h y).2 (.head _);cases this
 |x::a,[],_,_,h=>by have:=(h x).1 (.head _);cases this
 |x::a,y::b,ha,hb,h=>by
  rw[List.pairwise_cons]at ha hb;have e:x=y:=by
   have h1:=(h x).1 (.head _);have h2:=(h y).2 (.head _);rcases List.mem_cons.1 h1 with e|h1
   ·exact e
   ·rcases List.mem_cons.1 h2 with e|h2
    ·exact e.symm
    ·have:=ha.1 _ h2;have:=hb.1 _ h1;omega
  subst e
  congr 1
  refine rising_eq ha.2 hb.2 fun i=>⟨fun hi=>?_,fun hi=>?_⟩
  ·rcases List.mem_cons.1 ((h i).1 (.tail _ hi))with e|h1
   ·subst e;have:=ha.1 _ hi;omega
   ·exact h1
  ·rcases List.mem_cons.1 ((h i).2 (.tail _ hi))with e|h1
   ·subst e;have:=hb.1 _ hi;omega
   ·exact h1
end Go.Am
namespace Go.Am
open Go Go.RowKit Go.Proofs
def okA(a:Option Addr):Bool:=match a with
 |none=>true
 |some ⟨_,_,none⟩=>true
 |_=>false
def u64s(s:List Int):List Value:=s.map fun x=>.int .u64 x
mutual
def ReE(V:Vw):Re->List Value->Prop
 | .mk op s ks,es=> ∃kv,es= .int .i64 op::(u64s s++[kv])/\s.length=4/\((ks=[]/\ ∃a c,kv= .slice a 0 c/\CapOk 0 c/\okA a=true)\/ ∃b o c cs,kv= .slice (some ⟨b,o,none⟩) ks.length c/\CapOk ks.length c/\V b=some cs/\o+ks.length*6<=cs.length/\KidsC V ks (cs.drop o))
def KidsC(V:Vw):List Re->List Value->Prop
 | [],_=>True
 |k::ks,cs=>ReE V k (cs.take 6)/\KidsC V ks (cs.drop 6)
end
def KidsV(V:Vw)(ks:List Re)(kv:Value):Prop:=(ks=[]/\ ∃a c,kv= .slice a 0 c/\CapOk 0 c/\okA a=true)\/ ∃b o c cs,kv= .slice (some ⟨b,o,none⟩) ks.length c/\CapOk ks.length c/\V b=some cs/\o+ks.length*6<=cs.length/\KidsC V ks (cs.drop o)
theorem ReE_mk{V:Vw}{op:Int}{s:List Int}{ks:List Re}{es:List Value}:ReE V (.mk op s ks) es↔ ∃kv,es= .int .i64 op::(u64s s++[kv])/\s.length=4/\KidsV V ks kv:=by
 unfold ReE KidsV;exact Iff.rfl
theorem KidsC.get{V:Vw}{k:Re}: ∀{ks:List Re}{cs:List Value}{i:Nat},KidsC V ks cs->ks[i]?=some k->ReE V k ((cs.drop (i*6)).take 6)
 | [],_,i,_,hi=>by simp at hi
 |x::ks,cs,0,h,hi=>by
  simp at hi;subst hi;unfold KidsC at h;rw[Nat.zero_mul,List.drop_zero];exact h.1
 |x::ks,cs,i+1,h,hi=>by
  simp at hi;unfold KidsC at h;have:=KidsC.get (i:=i) h.2 hi;rw[List.drop_drop]at this;have e:6+i*6=(i+1)*6:=by omega
  rw[e]at this;exact this
theorem KidsV.len{V:Vw}{ks:List Re}{kv:Value}(r:KidsV V ks kv):xLenS kv=some (.int .i64 ks.length):=by
 rcases r with⟨rfl,a,c,rfl,_⟩|⟨b,o,c,cs,rfl,_⟩<;>simp
theorem ReE.len{V:Vw}: ∀{x:Re}{es:List Value},ReE V x es->es.length=6
 | .mk op s ks,es,h=>by
  obtain⟨kv,rfl,hs,_⟩:=ReE_mk.1 h;simp[u64s,hs]
theorem oneCells_u64s(s:List Int):oneCells (u64s s)=true:=by
 unfold oneCells u64s;rw[List.all_map];exact List.all_eq_true.2 fun x _=>rfl
theorem KidsV.one{V:Vw}{ks:List Re}{kv:Value}(r:KidsV V ks kv):kv.oneCell'=true:=by
 rcases r with⟨rfl,a,c,rfl,_⟩|⟨b,o,c,cs,rfl,_⟩<;>rfl
theorem ReE.one{V:Vw}: ∀{x:Re}{es:List Value},ReE V x es->oneCells es=true
 | .mk op s ks,es,h=>by
  obtain⟨kv,rfl,hs,hk⟩:=ReE_mk.1 h;have:=oneCells_u64s s;unfold oneCells at this ⊢;simp only[List.all_cons,List.all_append,this,List.all_nil,hk.one];rfl
theorem KidsV.at{V:Vw}{ks:List Re}{kv:Value}(r:KidsV V ks kv){i:Nat}{x:Re}(hx:ks[i]?=some x): ∃b o cs es,xIdxS 6 kv (.int .i64 i)=some (.pointer (some ⟨b,o,none⟩))/\V b=some cs/\(cs.drop o).take 6=es/\o+6<=cs.length/\ReE V x es:=by
 have hlt:=(List.getElem?_eq_some_iff.1 hx).1;rcases r with⟨rfl,_⟩|⟨b,o,c,cs,rfl,hc,h1,h2,h3⟩
 ·simp at hx
 ·have h4:=h3.get hx;rw[List.drop_drop]at h4;refine⟨b,o+i*6,cs,_,?_,h1,rfl,by omega,h4⟩;have:=xIdxS_at (sz:=6) (b:=b) (o:=o) (n:=ks.length) (c:=c) (k:=.i64) (i:=(i:Int)) (by omega) (by omega);simpa using this
theorem zc57:zcells Try.prog 57=some [.int .i64 0,.int .u64 0,.int .u64 0,.int .u64 0,.int .u64 0,nils]:=by kernel_rfl
theorem CLV50{n d:Nat}{v:Value}{h:PH}:CLV n (d+1) 50 [v] h=F50 n (CLV n d) v h:=rfl
section
variable {n:Nat}{cl:CL}{h:PH}{S:Vw}
end
def fl(N:Nat)(P:Nat->Bool):List Value:=(List.range N).map fun i=>.bool (P i)
@[simp] theorem fl_len{N:Nat}{P:Nat->Bool}:(fl N P).length=N:=by simp[fl]
section
variable {n:Nat}{cl:CL}{h h0:PH}{S:Vw}{m:OM}{rows:Rws}
end
theorem ai49:appInfo Try.prog #[49,49]=some (1,1):=by kernel_rfl
section
variable {n:Nat}{cl:CL}{h h0:PH}{S:Vw}{m:OM}{rows:Rws}
structure PartV(rows:Rws)(N:Nat)(p:Pt)(b1 b2:Nat)(v:Value):Prop where
 c1: ∃c1 c2,v= .agg ⟨[.bool p.null,.slice (some ⟨b1,0,none⟩) N c1,.slice (some ⟨b2,0,none⟩) N c2]⟩
 r1: ∃md e,(b1,.row md e (fl N p.fst))∈rows
 r2: ∃md e,(b2,.row md e (fl N p.lst))∈rows
 ne:b1≠b2
def sl1(b N:Nat):Value:=.slice (some ⟨b,0,none⟩) N N
structure Mk(S:Vw)(m:OM)(bm:Nat)(fs:Nat->Nat)(N:Nat)(sv fv:Value)(sets:List (List Int))(F:Nat->Nat->Bool):Prop where
 main:m bm=some (.row .own 1 [sv,fv,.int .i64 N])
 fol:SlV S fv ((List.range N).map fun i=>sl1 (fs i) N)
 rows: ∀i,i<N->m (fs i)=some (.row .own 1 (fl N (F i)))
 inj: ∀i j,i<N->j<N->fs i=fs j->i=j
 neb: ∀i,i<N->fs i≠bm
 sets:Gs m 4 sv sets.length (sets.flatMap u64s)
 sd: ∀b,vBlk sv=some b->b≠bm/\ ∀i,i<N->fs i≠b
end
section
variable {n:Nat}{cl:CL}{h h0:PH}{S:Vw}{m:OM}{rows:Rws}
end
theorem ai41:appInfo Try.prog #[41,41]=some (4,32):=by kernel_rfl
theorem bs41{a b c d:Int}:bsRow Try.prog 41 1 [(0,.agg ⟨[.int .u64 a,.int .u64 b,.int .u64 c,.int .u64 d]⟩)]=some (4,[.int .u64 a,.int .u64 b,.int .u64 c,.int .u64 d]):=by kernel_rfl
section
variable {n:Nat}{cl:CL}{h h0:PH}{S:Vw}{m:OM}{rows:Rws}
end
theorem ai28:appInfo Try.prog #[28,28]=some (1,8):=by kernel_rfl
theorem bs28{a:Int}:bsRow Try.prog 28 1 [(0,.int .i64 a)]=some (1,[.int .i64 a]):=by kernel_rfl
def ns(l:List Nat):List Value:=l.map fun i=>.int .i64 (i:Nat)
section
variable {n:Nat}{cl:CL}{h h0:PH}{S:Vw}{m:OM}{rows:Rws}
def evFold(op:Int)(ks:List Re)(a:Pt):Pt:=if op=2 then evCat ks a else evAlt ks a
theorem CLV51{n d:Nat}{a b:Value}{h:PH}:CLV n (d+1) 51 [a,b] h=F51 n (CLV n d) a b h:=rfl
def Q51(h0:PH)(S:Vw)(rows:Rws)(bm:Nat)(fs:Nat->Nat)(N:Nat)(fv:Value)(sets:List (List Int))(F:Nat->Nat->Bool)(p:Pt)(v:Value)(h':PH):Prop:=
 ∃m' new b1 b2 sv',Sl h0 h' S m' (new++rows)/\Mk S m' bm fs N sv' fv sets (fun i j=>F i j||p.fol i j)/\PartV new N p b1 b2 v
end
theorem Re.ev_mk(op:Int)(s:List Int)(ks:List Re)(b:Nat):(Re.mk op s ks).ev b=if op=1 then Pt.one b else if op=2 then evCat ks (Pt.unit b)else if op=3 then(if ks.isEmpty then Pt.unit b else evAlt ks (Pt.zero b))else if 4<=op/\op<=6 then evOne op ks b else Pt.unit b:=by rw[Re.ev]
section
variable {n:Nat}{cl:CL}{h h0:PH}{S:Vw}{m:OM}{rows:Rws}
end
theorem ai27:appInfo Try.prog #[27,27]=some (1,24):=by kernel_rfl
theorem bs27{v:Value}(hv:v.oneCell'=true):bsRow Try.prog 27 1 [(0,v)]=some (1,[v]):=by
 cases v<;>first|(simp[Value.oneCell']at hv;done)|kernel_rfl
theorem zc43:zcells Try.prog 43=some [nils,.bool false,nils,nils,nils]:=by kernel_rfl
theorem ab43:abuild Try.prog 43 []=some (.agg ⟨[nils,.bool false,nils,nils,nils]⟩):=by kernel_rfl
structure Po where
 sets:List (List Int)
 null:Bool
 first:List Nat
 last:List Nat
 follow:List (List Nat)
def poOf(x:Re):Po:=⟨x.sets,(x.ev 0).null,srt x.sets.length (x.ev 0).fst,srt x.sets.length (x.ev 0).lst,(List.range x.sets.length).map fun i=>srt x.sets.length ((x.ev 0).fol i)⟩
structure PoV(V:Vw)(po:Po)(es:List Value):Prop where
 h: ∃sv fv lv wv ws,es=[sv,.bool po.null,fv,lv,wv]/\SlC V 4 sv po.sets.length (po.sets.flatMap u64s)/\SlV V fv (ns po.first)/\SlV V lv (ns po.last)/\SlV V wv ws/\ws.length=po.follow.length/\ ∀(i:Nat) l,po.follow[i]?=some l-> ∃w,ws[i]?=some w/\SlV V w (ns l)
section
variable {n:Nat}{cl:CL}{h h0:PH}{S:Vw}{m:OM}{rows:Rws}
structure Mk0(m:OM)(bm:Nat)(fs:Nat->Nat)(N i:Nat)(fv:Value):Prop where
 main:m bm=some (.row .own 1 [nils,fv,.int .i64 N])
 rows: ∀j,j<i->m (fs j)=some (.row .own 1 (fl N fun _=>false))
 inj: ∀j k,j<i->k<i->fs j=fs k->j=k
 neb: ∀j,j<i->fs j≠bm
 out:Gs m 1 fv i ((List.range i).map fun j=>sl1 (fs j) N)
 od: ∀b,vBlk fv=some b->b≠bm/\ ∀j,j<i->fs j≠b
theorem Gs.set{sz k b:Nat}{v:Value}{cells:List Value}{o:AObj}(g:Gs m sz v k cells)(hb:vBlk v≠some b):Gs (m.upd b o) sz v k cells:=g.mono fun c o' hc ho=>by rw[OM.upd_ne (fun e=>hb (by rw[<-e];exact hc))];exact ho
end
mutual
theorem ReE.mono{V W:Vw}(hs:Vw.le V W): ∀{x:Re}{es:List Value},ReE V x es->ReE W x es
 | .mk op s ks,es,h=>by
  unfold ReE at h ⊢;obtain⟨kv,h1,h2,h3⟩:=h;refine⟨kv,h1,h2,?_⟩;rcases h3 with h3|⟨b,o,c,cs,q1,q2,q3,q4,q5⟩
  ·exact .inl h3
  ·exact .inr ⟨b,o,c,cs,q1,q2,hs _ _ q3,q4,KidsC.mono hs q5⟩
theorem KidsC.mono{V W:Vw}(hs:Vw.le V W): ∀{ks:List Re}{cs:List Value},KidsC V ks cs->KidsC W ks cs
 | [],cs,h=>by unfold KidsC;trivial
 |k::ks,cs,h=>by
  unfold KidsC at h ⊢;exact⟨ReE.mono hs h.1,KidsC.mono hs h.2⟩
end
section
variable {n:Nat}{cl:CL}{h h0:PH}{S:Vw}{m:OM}{rows:Rws}
end
noncomputable def toldOr(f:FuncId)(v:Value)(b:CL):CL:=fun g xs h=>sw g f (u0 xs (some (v,h))) (b g xs h)
theorem toldOr_ok{P:Program}{f:FuncId}{v:Value}{b:CL}(hb:OkCL P b)(he:enterable P f=true)(hv:plainV v=true)(hc:ACall P f [] [] (fun u _=>u=v)):OkCL P (toldOr f v b):=by
 intro g xs h v' h' hx;unfold toldOr at hx;rcases sw_ok hx with⟨rfl,hx1⟩|hx1
 ·obtain⟨rfl,hx2⟩:=u0_ok hx1;cases hx2;refine⟨⟨he,?_⟩,Inv.refl _⟩;intro B w0 ρ rargs w hr hv2;cases hv2;refine(hc w.heap.size w (fun _=>none) [] w (rel0 w) .nil).mono ?_;rintro e w' ⟨u,u',k,ρ',rfl,rfl,hl,hr',hvr⟩;exact⟨_,u',h.abs,ρ,rfl,⟨rfl,rfl⟩,ρ.le_refl,hr.thaw hr',by rw[hvr.plain_eq hv];exact VR.plain hv⟩
 ·exact hb _ _ _ _ _ hx1
noncomputable def CLT(n d:Nat):CL:=toldOr 24 (.bool true) (CLV n d)
theorem told24{n d:Nat}{h:PH}:pcall (CLT n d 24 [] h)=some (.bool true):=rfl
theorem clt50{n d:Nat}{v:Value}{h:PH}:CLT n d 50 [v] h=CLV n d 50 [v] h:=rfl
theorem clt51{n d:Nat}{u v:Value}{h:PH}:CLT n d 51 [u,v] h=CLV n d 51 [u,v] h:=rfl
end Go.Am
