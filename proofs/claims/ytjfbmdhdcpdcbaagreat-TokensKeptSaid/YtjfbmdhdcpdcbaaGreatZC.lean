import Derived.Test.YtjfbmdhdcpdcbaaGreatZF
import Derived.Test.YtjfbmdhdcpdcbaaGreatZW
import Derived.WalkKit
import Derived.Laws.Externs
set_option linter.unusedSimpArgs false
set_option linter.unusedVariables false
namespace Go.Am
open Go Go.RowKit Go.Proofs
noncomputable def toldFn(f:FuncId)(F:List Value->Option Value)(b:CL):CL:=fun g xs h=>sw g f (match F xs with|some v=>some (v,h)|none=>none) (b g xs h)
theorem toldFn_ok{P:Program}{f:FuncId}{F:List Value->Option Value}{b:CL}(hb:OkCL P b)(he:enterable P f=true)(hc: ∀xs v h,F xs=some v->ACall P f xs h (fun u k=>u=v/\k=h)):OkCL P (toldFn f F b):=by
 intro g xs h v' h' hx;unfold toldFn at hx;rcases sw_ok hx with⟨rfl,hx1⟩|hx1
 ·cases hF:F xs with
  |none=>rw[hF]at hx1;cases hx1
  |some v=>
   rw[hF]at hx1;cases hx1;exact⟨⟨he,hc xs _ _ hF⟩,Inv.refl _⟩
 ·exact hb g xs h v' h' hx1
noncomputable def toldOr(f:FuncId)(v:Value)(b:CL):CL:=fun g xs h=>sw g f (u0 xs (some (v,h))) (b g xs h)
theorem toldOr_ok{P:Program}{f:FuncId}{v:Value}{b:CL}(hb:OkCL P b)(he:enterable P f=true)(hv:plainV v=true)(hc:ACall P f [] [] (fun u _=>u=v)):OkCL P (toldOr f v b):=by
 intro g xs h v' h' hx;unfold toldOr at hx;rcases sw_ok hx with⟨rfl,hx1⟩|hx1
 ·obtain⟨rfl,hx2⟩:=u0_ok hx1;cases hx2;refine⟨⟨he,?_⟩,Inv.refl _⟩;intro B w0 ρ rargs w hr hv2;cases hv2;refine(hc w.heap.size w (fun _=>none) [] w (rel0 w (hr.gl.next hr.below hr.base)) .nil).mono ?_;rintro e w' ⟨u,u',k,ρ',rfl,rfl,hl,hr',hvr⟩;exact⟨_,u',h.abs,ρ,rfl,⟨rfl,rfl⟩,ρ.le_refl,hr.thaw hr',by rw[hvr.plain_eq hv];exact VR.plain hv⟩
 ·exact hb g xs h v' h' hx1
theorem ib_run(s:ByteArray)(c:Int)(w:World):(callFunc 195 #[.string s,.int .u8 c]).run Tryz.prog w= .ok (.value (.int .i64 (firstIdx s c.toNat.toUInt8))) w:=by
 rw[run_callFunc_extern (e:=Extern.BytealgIndexByte.indexByte) Tryz.func195 (by kernel_rfl) (by kernel_rfl) (by kernel_rfl) (by kernel_rfl),run_indexByte_string]
 rfl
theorem ib_call2(s:ByteArray)(c:Int)(w:World):Calls Tryz.prog 192 #[.string s,.int .u8 c] w fun e w'=>e= .returned (.int .i64 (firstIdx s c.toNat.toUInt8))/\w'=w:=by
 have hx:=ib_run s c w
 go_enter Tryz.func192,Tryz.ntmps192
 go_wp2
 go_ret
 exact⟨rfl,rfl⟩
theorem ib_call(s:ByteArray)(c:Int)(w:World):Calls Tryz.prog 188 #[.string s,.int .u8 c] w fun e w'=>e= .returned (.int .i64 (firstIdx s c.toNat.toUInt8))/\w'=w:=by
 go_enter Tryz.func188,Tryz.ntmps188
 go_wp2_with (go_at_call 192;refine(ib_call2 s c _).mono ?_;rintro e w' ⟨rfl,rfl⟩)
 go_ret
 exact⟨rfl,rfl⟩
def ibF(xs:List Value):Option Value:=match xs with
 | [.string s,.int .u8 c]=>some (.int .i64 (firstIdx s c.toNat.toUInt8))
 |_=>none
theorem ibF_ok{xs:List Value}{v:Value}{h:Heap}(e:ibF xs=some v):ACall Tryz.prog 188 xs h (fun u k=>u=v/\k=h):=by
 unfold ibF at e
 split at e
 ·rename_i s c;cases e;intro B w0 ρ rargs w hr hv;have hr2:rargs=[.string s,.int .u8 c]:=by
   cases hv with
   |cons h1 h2=>
    cases h2 with
    |cons h3 h4=>
     cases h4;cases h1;cases h3
     rfl
  subst hr2;refine(ib_call s c w).mono ?_;rintro e w' ⟨rfl,rfl⟩;exact⟨_,_,h,ρ,rfl,⟨rfl,rfl⟩,ρ.le_refl,hr,.int _ _⟩
 ·cases e
theorem en188:enterable Tryz.prog 188=true:=by kernel_rfl
noncomputable def LV(n:Nat):Nat->CL
 |0=>CNo
 |d+1=>toldFn 188 ibF (CLs n (LV n d))
theorem LV_ok(n:Nat): ∀d,OkCL Tryz.prog (LV n d)
 |0=>CNo_ok _
 |d+1=>toldFn_ok (CLs_ok (LV_ok n d)) en188 fun _ _ _ h=>ibF_ok h
end Go.Am
namespace Go.Am
inductive Re where
 |mk (op:Int) (set:List Int) (kids:List Re)
structure Pt where
 null:Bool
 cnt:Nat
 fst:Nat->Bool
 lst:Nat->Bool
 fol:Nat->Nat->Bool
def Pt.unit(b:Nat):Pt:=⟨true,b,fun _=>false,fun _=>false,fun _ _=>false⟩
def Pt.zero(b:Nat):Pt:=⟨false,b,fun _=>false,fun _=>false,fun _ _=>false⟩
def Pt.one(b:Nat):Pt:=⟨false,b+1,fun i=>decide (i=b),fun i=>decide (i=b),fun _ _=>false⟩
def Pt.cat(a b:Pt):Pt:=⟨a.null&&b.null,b.cnt,fun i=>a.fst i||(a.null&&b.fst i),fun i=>b.lst i||(b.null&&a.lst i),fun i j=>(a.fol i j||b.fol i j)||(a.lst i&&b.fst j)⟩
def Pt.alt(a b:Pt):Pt:=⟨a.null||b.null,b.cnt,fun i=>a.fst i||b.fst i,fun i=>a.lst i||b.lst i,fun i j=>a.fol i j||b.fol i j⟩
def Pt.rep(op:Int)(a:Pt):Pt:=⟨if op=5 then a.null else true,a.cnt,a.fst,a.lst,fun i j=>a.fol i j||(decide (op≠6)&&(a.lst i&&a.fst j))⟩
mutual
def Re.ev:Re->Nat->Pt
 | .mk op _ ks,b=>
  if op=1 then Pt.one b
  else if op=2 then evCat ks (Pt.unit b)
  else if op=3 then(if ks.isEmpty then Pt.unit b else evAlt ks (Pt.zero b))
  else if 4<=op/\op<=6 then evOne op ks b
  else Pt.unit b
def evCat:List Re->Pt->Pt
 | [],a=>a
 |k::ks,a=>evCat ks (a.cat (k.ev a.cnt))
def evAlt:List Re->Pt->Pt
 | [],a=>a
 |k::ks,a=>evAlt ks (a.alt (k.ev a.cnt))
def evOne(op:Int):List Re->Nat->Pt
 | [],b=>Pt.unit b
 |k::_,b=>(k.ev b).rep op
end
mutual
def Re.sets:Re->List (List Int)
 | .mk op s ks=>
  if op=1 then [s]
  else if op=2\/op=3 then reSets ks
  else if 4<=op/\op<=6 then reSet1 ks
  else []
def reSets:List Re->List (List Int)
 | []=>[]
 |k::ks=>k.sets++reSets ks
def reSet1:List Re->List (List Int)
 | []=>[]
 |k::_=>k.sets
end
mutual
def Re.deep:Re->Nat
 | .mk op _ ks=>
  if op=2\/op=3 then deepL ks+1
  else if 4<=op/\op<=6 then deep1 ks+1
  else 1
def deepL:List Re->Nat
 | []=>0
 |k::ks=>max k.deep (deepL ks)
def deep1:List Re->Nat
 | []=>0
 |k::_=>k.deep
end
mutual
def Re.high:Re->Nat
 | .mk _ _ ks=>highL ks+1
def highL:List Re->Nat
 | []=>0
 |k::ks=>max k.high (highL ks)
end
mutual
def Re.size:Re->Nat
 | .mk _ _ ks=>sizeL ks+1
def sizeL:List Re->Nat
 | []=>0
 |k::ks=>k.size+sizeL ks
end
def looked(op:Int)(ks:List Re):List Re:=if op=2\/op=3 then ks else if 4<=op/\op<=6 then ks.take 1 else []
theorem Re.deep_looked(op:Int)(s:List Int)(ks:List Re):(Re.mk op s ks).deep=deepL (looked op ks)+1:=by
 unfold Re.deep looked
 split
 ·rfl
 ·split
  ·cases ks<;>simp[deep1,deepL]
  ·simp[deepL]
theorem Re.sets_looked(op:Int)(s:List Int)(ks:List Re):(Re.mk op s ks).sets=if op=1 then [s]else reSets (looked op ks):=by
 unfold Re.sets looked
 split
 ·rfl
 ·split
  ·rfl
  ·split
   ·cases ks<;>simp[reSet1,reSets]
   ·simp[reSets]
theorem sizeL_mem{k:Re}: ∀{ks:List Re},k∈ks->k.size<=sizeL ks
 |x::ks,h=>by
  unfold sizeL;rcases List.mem_cons.1 h with rfl|h
  ·omega
  ·have:=sizeL_mem h;omega
theorem looked_mem{op:Int}{k:Re}{ks:List Re}(h:k∈looked op ks):k∈ks:=by
 unfold looked at h
 split at h
 ·exact h
 ·split at h
  ·exact List.mem_of_mem_take h
  ·cases h
theorem sizeL_take: ∀{ks:List Re}{n:Nat},sizeL (ks.take n)<=sizeL ks
 | [],n=>by simp
 |k::ks,0=>by simp[sizeL]
 |k::ks,n+1=>by
  rw[List.take_succ_cons];unfold sizeL;have:=sizeL_take (ks:=ks) (n:=n);omega
theorem Re.size_pos(x:Re):1<=x.size:=by cases x;unfold Re.size;omega
theorem sizeL_len: ∀(ks:List Re),ks.length<=sizeL ks
 | []=>by simp
 |k::ks=>by
  unfold sizeL;have:=sizeL_len ks;have:=k.size_pos;simp;omega
theorem Re.deep_pos(x:Re):1<=x.deep:=by cases x;rw[Re.deep_looked];omega
theorem deepL_mem{k:Re}: ∀{ks:List Re},k∈ks->k.deep<=deepL ks
 |x::ks,h=>by
  unfold deepL;rcases List.mem_cons.1 h with rfl|h
  ·omega
  ·have:=deepL_mem h;omega
mutual
theorem Re.deep_le: ∀(x:Re),x.deep<=x.size
 | .mk op s ks=>by
  unfold Re.deep Re.size;have h1:=deepL_le ks;have h2:deep1 ks<=sizeL ks:=by
   cases ks with
   |nil=>simp[deep1]
   |cons k ks=>unfold deep1 sizeL;have:=Re.deep_le k;omega
  split
  ·omega
  ·split<;>omega
theorem deepL_le: ∀(ks:List Re),deepL ks<=sizeL ks
 | []=>by simp[deepL]
 |k::ks=>by
  unfold deepL sizeL;have:=Re.deep_le k;have:=deepL_le ks;omega
end
mutual
theorem Re.sets_le: ∀(x:Re),x.sets.length<=x.size
 | .mk op s ks=>by
  unfold Re.sets Re.size;have h1:=reSets_le ks;have h2:(reSet1 ks).length<=sizeL ks:=by
   cases ks with
   |nil=>simp[reSet1]
   |cons k ks=>unfold reSet1 sizeL;have:=Re.sets_le k;omega
  split
  ·simp
  ·split
   ·omega
   ·split
    ·omega
    ·simp
theorem reSets_le: ∀(ks:List Re),(reSets ks).length<=sizeL ks
 | []=>by simp[reSets]
 |k::ks=>by
  unfold reSets sizeL;have:=Re.sets_le k;have:=reSets_le ks;rw[List.length_append];omega
end
mutual
theorem Re.cnt: ∀(x:Re)(b:Nat),(x.ev b).cnt=b+x.sets.length
 | .mk op s ks,b=>by
  unfold Re.ev Re.sets
  by_cases h1:op=1
  ·subst h1;simp[Pt.one]
  by_cases h2:op=2
  ·subst h2;simp[cnt_cat,Pt.unit]
  by_cases h3:op=3
  ·subst h3;cases ks with
   |nil=>simp[reSets,Pt.unit]
   |cons k ks=>simp[cnt_alt,Pt.zero]
  by_cases h4:4<=op/\op<=6
  ·cases ks with
   |nil=>simp[h1,h2,h3,h4,evOne,reSet1,Pt.unit]
   |cons k ks=>simp[h1,h2,h3,h4,evOne,reSet1,Pt.rep,Re.cnt k b]
  ·simp[h1,h2,h3,h4,Pt.unit]
theorem cnt_cat: ∀(ks:List Re)(a:Pt),(evCat ks a).cnt=a.cnt+(reSets ks).length
 | [],a=>by simp[evCat,reSets]
 |k::ks,a=>by
  unfold evCat reSets;rw[cnt_cat ks]
  show(k.ev a.cnt).cnt+_=_
  rw[Re.cnt k,List.length_append];omega
theorem cnt_alt: ∀(ks:List Re)(a:Pt),(evAlt ks a).cnt=a.cnt+(reSets ks).length
 | [],a=>by simp[evAlt,reSets]
 |k::ks,a=>by
  unfold evAlt reSets;rw[cnt_alt ks]
  show(k.ev a.cnt).cnt+_=_
  rw[Re.cnt k,List.length_append];omega
end
structure Pt.In(p:Pt)(b:Nat):Prop where
 le:b<=p.cnt
 fst: ∀i,p.fst i=true->b<=i/\i<p.cnt
 lst: ∀i,p.lst i=true->b<=i/\i<p.cnt
 fol: ∀i j,p.fol i j=true->(b<=i/\i<p.cnt)/\b<=j/\j<p.cnt
def srt(N:Nat)(P:Nat->Bool):List Nat:=(List.range N).filter P
theorem mem_srt{N:Nat}{P:Nat->Bool}{i:Nat}:i∈srt N P↔i<N/\P i=true:=by simp[srt]
end Go.Am
namespace Go.Am
open Go Go.RowKit Go.Proofs
def okA(a:Option Addr):Bool:=match a with
 |none=>true
 |some ⟨_,_,none⟩=>true
 |_=>false
def u64s(s:List Int):List Value:=s.map fun x=>.int .u64 x
mutual
def ReE(V:Vw):Re->List Value->Prop
 | .mk op s ks,es=> ∃kv,es= .int .i64 op::(u64s s++[kv])/\s.length=4/\((ks=[]/\ ∃a c,kv= .slice a 0 c/\CapOk 0 c/\okA a=true)\/ ∃b o c cs,kv= .slice (some ⟨b,o,none⟩) ks.length c/\CapOk ks.length c/\V b=some cs/\o+ks.length*6<=cs.length/\KidsC V ks (cs.drop o))
def KidsC(V:Vw):List Re->List Value->Prop
 | [],_=>True
 |k::ks,cs=>ReE V k (cs.take 6)/\KidsC V ks (cs.drop 6)
end
def KidsV(V:Vw)(ks:List Re)(kv:Value):Prop:=(ks=[]/\ ∃a c,kv= .slice a 0 c/\CapOk 0 c/\okA a=true)\/ ∃b o c cs,kv= .slice (some ⟨b,o,none⟩) ks.length c/\CapOk ks.length c/\V b=some cs/\o+ks.length*6<=cs.length/\KidsC V ks (cs.drop o)
theorem ReE_mk{V:Vw}{op:Int}{s:List Int}{ks:List Re}{es:List Value}:ReE V (.mk op s ks) es↔ ∃kv,es= .int .i64 op::(u64s s++[kv])/\s.length=4/\KidsV V ks kv:=by
 unfold ReE KidsV;exact Iff.rfl
theorem KidsC.get{V:Vw}{k:Re}: ∀{ks:List Re}{cs:List Value}{i:Nat},KidsC V ks cs->ks[i]?=some k->ReE V k ((cs.drop (i*6)).take 6)
 | [],_,i,_,hi=>by simp at hi
 |x::ks,cs,0,h,hi=>by
  simp at hi;subst hi;unfold KidsC at h;rw[Nat.zero_mul,List.drop_zero];exact h.1
 |x::ks,cs,i+1,h,hi=>by
  simp at hi;unfold KidsC at h;have:=KidsC.get (i:=i) h.2 hi;rw[List.drop_drop]at this;have e:6+i*6=(i+1)*6:=by omega
  rw[e]at this;exact this
theorem KidsV.len{V:Vw}{ks:List Re}{kv:Value}(r:KidsV V ks kv):xLenS kv=some (.int .i64 ks.length):=by
 rcases r with⟨rfl,a,c,rfl,_⟩|⟨b,o,c,cs,rfl,_⟩<;>simp
theorem ReE.len{V:Vw}: ∀{x:Re}{es:List Value},ReE V x es->es.length=6
 | .mk op s ks,es,h=>by
  obtain⟨kv,rfl,hs,_⟩:=ReE_mk.1 h;simp[u64s,hs]
theorem oneCells_u64s(s:List Int):oneCells (u64s s)=true:=by
 unfold oneCells u64s;rw[List.all_map];exact List.all_eq_true.2 fun x _=>rfl
theorem KidsV.one{V:Vw}{ks:List Re}{kv:Value}(r:KidsV V ks kv):kv.oneCell'=true:=by
 rcases r with⟨rfl,a,c,rfl,_⟩|⟨b,o,c,cs,rfl,_⟩<;>rfl
theorem ReE.one{V:Vw}: ∀{x:Re}{es:List Value},ReE V x es->oneCells es=true
 | .mk op s ks,es,h=>by
  obtain⟨kv,rfl,hs,hk⟩:=ReE_mk.1 h;have:=oneCells_u64s s;unfold oneCells at this ⊢;simp only[List.all_cons,List.all_append,this,List.all_nil,hk.one];rfl
theorem KidsV.at{V:Vw}{ks:List Re}{kv:Value}(r:KidsV V ks kv){i:Nat}{x:Re}(hx:ks[i]?=some x): ∃b o cs es,xIdxS 6 kv (.int .i64 i)=some (.pointer (some ⟨b,o,none⟩))/\V b=some cs/\(cs.drop o).take 6=es/\o+6<=cs.length/\ReE V x es:=by
 have hlt:=(List.getElem?_eq_some_iff.1 hx).1;rcases r with⟨rfl,_⟩|⟨b,o,c,cs,rfl,hc,h1,h2,h3⟩
 ·simp at hx
 ·have h4:=h3.get hx;rw[List.drop_drop]at h4;refine⟨b,o+i*6,cs,_,?_,h1,rfl,by omega,h4⟩;have:=xIdxS_at (sz:=6) (b:=b) (o:=o) (n:=ks.length) (c:=c) (k:=.i64) (i:=(i:Int)) (by omega) (by omega);simpa using this
theorem KidsC.take{V:Vw}: ∀{ks:List Re}{cs:List Value}(n:Nat),KidsC V ks cs->KidsC V (ks.take n) cs
 | [],cs,n,h=>by simp[KidsC]
 |k::ks,cs,0,h=>by simp[KidsC]
 |k::ks,cs,n+1,h=>by
  unfold KidsC at h;rw[List.take_succ_cons];unfold KidsC;exact⟨h.1,KidsC.take n h.2⟩
theorem min1{a:Int}:(if plainV.plainVs [(vN 1),(.int .i64 a)]then prun Tryz.prog (Builtin.min_ #[3,3] 3 ⟨[(vN 1),(.int .i64 a)]⟩)else none)=some (.int .i64 (if a<1 then a else 1)):=by kernel_rfl
theorem u83: ∃inf,Tryz.prog.underlying 83=some (.slice 85)/\Tryz.prog.info? 85=some inf/\inf.size=6:=by
 have e2:(Tryz.prog.info? 85).map (·.size)=some 6:=by kernel_rfl
 rw[Option.map_eq_some_iff]at e2;obtain⟨inf,h1,h2⟩:=e2;exact⟨inf,by kernel_rfl,h1,h2⟩
theorem KidsC.drop{V:Vw}: ∀{ks:List Re}{cs:List Value}(n:Nat),KidsC V ks cs->KidsC V (ks.drop n) (cs.drop (n*6))
 | [],cs,n,h=>by simp[KidsC]
 |k::ks,cs,0,h=>by simpa using h
 |k::ks,cs,n+1,h=>by
  unfold KidsC at h;have:=KidsC.drop n h.2;rw[List.drop_drop]at this;rw[List.drop_succ_cons];have e:6+n*6=(n+1)*6:=by omega
  rw[e]at this;exact this
theorem KidsV.cut{V:Vw}{ks:List Re}{kv:Value}(r:KidsV V ks kv){lo hi:Option Value}{x y:Nat}(hr: ∀c,ks.length<=c->boundN hi ks.length c=some y)(hl:boundN lo 0 y=some x)(h1:x<=y)(h2:y<=ks.length):
  ∃kv',acut Tryz.prog 83 kv lo hi none=some kv'/\KidsV V ((ks.take y).drop x) kv':=by
 obtain⟨inf,hu,hi',hsz⟩:=u83;have hlen:((ks.take y).drop x).length=y-x:=by simp;omega
 rcases r with⟨rfl,a,c,rfl,hc,ha⟩|⟨b,o,c,cs,rfl,hc,hb,hle,hk⟩
 ·have hy:y=0:=by simpa using h2
  subst hy;have hx:x=0:=by omega
  subst hx
  match a,ha with
  |none,_=>exact⟨_,acut_nil hu hi' hc (hr c hc.1) hl (Nat.le_refl _) (Nat.zero_le _),.inl ⟨by simp,_,_,rfl,by simpa using hc,rfl⟩⟩
  |some ⟨b,o,none⟩,_=>exact⟨_,acut_at hu hi' hc (hr c hc.1) hl (Nat.le_refl _) (Nat.zero_le _),.inl ⟨by simp,_,_,rfl,by simpa using hc,rfl⟩⟩
 ·refine⟨_,acut_at hu hi' hc (hr c hc.1) hl h1 h2,?_⟩;have hc':=hc.cut h1 h2
  by_cases hxy:x=y
  ·subst hxy;refine .inl ⟨?_,_,_,by rw[Nat.sub_self],by simpa using hc',rfl⟩;exact List.eq_nil_of_length_eq_zero (by rw[hlen];omega)
  ·have hcx:c≠x:=by have:=hc.1;omega
   refine .inr ⟨b,o+x*inf.size,c-x,cs,by rw[if_neg hcx,hlen],by rw[hlen];exact hc',hb,by rw[hlen,hsz];omega,?_⟩;have:=(hk.take y).drop x;rw[List.drop_drop]at this;rw[hsz];exact this
theorem max33'{a b:Int}:(if plainV.plainVs [(.int .i64 a),(.int .i64 b)]then prun Tryz.prog (Builtin.max_ #[3,3] 3 ⟨[(.int .i64 a),(.int .i64 b)]⟩)else none)=some (.int .i64 (if a<b then b else a)):=by kernel_rfl
theorem zc85:zcells Tryz.prog 85=some [.int .i64 0,.int .u64 0,.int .u64 0,.int .u64 0,.int .u64 0,nils]:=by kernel_rfl
theorem LV111{n d:Nat}{v:Value}{h:PH}:LV n (d+1) 111 [v] h=F111 n (LV n d) v h:=rfl
section
variable {n:Nat}{cl:CL}{h:PH}{S:Vw}
theorem c131[OkH h](hS:Vw.le S h.cells){op:Int}{s:List Int}{ks:List Re}{kv:Value}(hs:s.length=4)(hk:KidsV S ks kv):Fr h S (F131 n cl (.agg ⟨.int .i64 op::(u64s s++[kv])⟩) h) fun v rows=>rows=[]/\KidsV S (looked op ks) v:=by
 obtain⟨s0,s1,s2,s3,rfl⟩: ∃a b c d,s=[a,b,c,d]:=by
  match s,hs with
  | [a,b,c,d],_=>exact⟨a,b,c,d,rfl⟩
 unfold Fr F131;refine Ret.lbox (Sl.start h hS) fun h1 b st=>?_;have l0:xLd (.pointer (some ⟨b,0,none⟩)) h1=some (.int .i64 op):=st.ld (.head _) rfl;have l5:xLd (.pointer (some ⟨b,5,none⟩)) h1=some kv:=st.ld (.head _) rfl;have st':=st.drop (rows':=[]) (List.nil_sublist _);have hlen:=hk.len;have hm:(if(ks.length:Int)<1 then(ks.length:Int)else 1).toNat=min 1 ks.length:=by split<;>omega
 obtain⟨kv',e1,e2⟩:=hk.cut (lo:=none) (hi:=some (.int .i64 (if(ks.length:Int)<1 then(ks.length:Int)else 1))) (x:=0) (y:=min 1 ks.length) (fun c hc=>by rw[bd_i (by split<;>omega) (by split<;>omega),hm]) rfl (Nat.zero_le _) (by omega);have e3:(ks.take (min 1 ks.length)).drop 0=ks.take 1:=by
  rw[List.drop_zero];cases ks with
  |nil=>rfl
  |cons k ks=>rw[show min 1 (k::ks).length=1 by simp]
 rw[e3]at e2;have hmin:=min1 (a:=ks.length)
 by_cases h2:op=2
 ·subst h2;simp[l0,l5,jn_eq,F131_8,F131_7,F131_0];exact Fr.ret st' ⟨rfl,by simpa[looked]using hk⟩
 by_cases h3:op=3
 ·subst h3;simp[l0,l5,jn_eq,F131_8,F131_7,F131_6,F131_0];exact Fr.ret st' ⟨rfl,by simpa[looked]using hk⟩
 have f1:Ret (F131_1 n cl (.pointer (some ⟨b,0,none⟩)) h1) fun v h1=> ∃rows,Sl h h1 S OM.emp rows/\rows=[]/\KidsV S (ks.take 1) v:=by
  unfold F131_1;refine Ret.vb xFld_p (Ret.vb ?_ (Ret.vb xFld_p (Ret.vb ?_ (Ret.vb hlen (Ret.vb hmin (Ret.vb e1 ?_))))))
  ·rw[Nat.zero_add];exact l5
  ·rw[Nat.zero_add];exact l5
  ·exact Fr.ret st' ⟨rfl,e2⟩
 have d2:decide (op=2)=false:=by simp[h2]
 have d3:decide (op=3)=false:=by simp[h3]
 by_cases h4:4<=op/\op<=6
 ·have hl:looked op ks=ks.take 1:=by unfold looked;rw[if_neg (by omega),if_pos h4]
  rw[hl]
  by_cases h5:op=4
  ·subst h5;simp only[l0,jn_eq,F131_8,F131_7,F131_6,F131_5,F131_4,xFld_p,Nat.zero_add,vb_some,vN_eq,xEq_i,ucons_cons,d2,d3,bite_f,bite_t,decide_true];exact f1
  by_cases h6:op=5
  ·subst h6;simp[l0,jn_eq,F131_8,F131_7,F131_6,F131_5,F131_4,F131_3,f1]
  have h7:op=6:=by omega
  subst h7;simp[l0,jn_eq,F131_8,F131_7,F131_6,F131_5,F131_4,F131_3,F131_2,f1]
 ·have hl:looked op ks=[]:=by unfold looked;rw[if_neg (by omega),if_neg h4]
  have c4: ¬ op=4:=by omega
  have c5: ¬ op=5:=by omega
  have c6: ¬ op=6:=by omega
  rw[hl];simp[l0,jn_eq,F131_8,F131_7,F131_6,F131_5,F131_4,F131_3,F131_2,h2,h3,c4,c5,c6];exact Fr.ret st' ⟨rfl,.inl ⟨rfl,none,0,rfl,CapOk.self (by omega),rfl⟩⟩
theorem loop111{h0:PH}{ks:List Re}{kv:Value}(hn:4611686018427387904<=n)(hk:KidsV S ks kv)(hsz:sizeL ks<1099511627776)
  (ih: ∀x∈ks, ∀(h:PH)[OkH h],Vw.le S h.cells-> ∀es,ReE S x es->Fr h S (cl 111 [.agg ⟨es⟩] h) fun v _=>v= .tuple ⟨[.int .i64 x.sets.length,.int .i64 x.deep]⟩):
  ∀(k m i N D:Nat)(h:PH),ks.length-i<=k->k<m->i<=ks.length->N<=sizeL (ks.take i)+1->D<=sizeL ks->Sl h0 h S OM.emp []->
  Ret (lp m (F111_3 n cl) [.int .i64 N,.int .i64 D,kv,.int .i64 ks.length,.int .i64 i] h) (fun v h1=> ∃rows,Sl h0 h1 S OM.emp rows/\v= .tuple ⟨[.int .i64 (N+(reSets (ks.drop i)).length:Nat),.int .i64 (max D (deepL (ks.drop i))+1:Nat)]⟩):=by
 intro k
 induction k with
 |zero=>
  intro m i N D h h1 h2 h3 h4 h5 st;obtain⟨m,rfl⟩: ∃q,m=q+1:=⟨m-1,by omega⟩;have hi:i=ks.length:=by omega
  subst hi;rw[lp_succ,List.drop_length];have hw:IntKind.i64.wrap ((D:Int)+((1:Nat):Int))=((D+1:Nat):Int):=by rw[wrap_in (by omega) (by omega)];omega
  have hc0:decide ((ks.length:Int)<(ks.length:Int))=false:=by simp
  simp only[F111_3,F111_2,ucons_cons,xLt_i,vb_some,hc0,bite_f,F111_1,vN_eq,xAdd_i,hw];exact Fr.ret st (by simp[reSets,deepL])
 |succ k ihk=>
  intro m i N D h h1 h2 h3 h4 h5 st;obtain⟨m,rfl⟩: ∃q,m=q+1:=⟨m-1,by omega⟩
  by_cases hi:i<ks.length
  ·rw[lp_succ];generalize hL:lp m (F111_3 n cl)=L at ihk ⊢;have hx:=List.getElem?_eq_getElem hi;generalize ks[i]=x at hx;have hmem:=List.mem_of_getElem? hx;obtain⟨b,o,cs,es,e1,e2,e3,e4,e5⟩:=hk.at hx;have hd:ks.drop i=x::ks.drop (i+1):=by
    rw[List.drop_eq_getElem_cons hi];rw[List.getElem?_eq_getElem hi]at hx;cases hx;rfl
   have ld:=st.ldSA e2 e3 e4;have hes:=e5.len;have hc:decide ((i:Int)<(ks.length:Int))=true:=by simp;omega
   have ht:sizeL (ks.take (i+1))=sizeL (ks.take i)+x.size:=by
    rw[List.take_add_one,hx];have: ∀(a:List Re),sizeL (a++[x])=sizeL a+x.size:=by
     intro a
     induction a with
     |nil=>simp[sizeL]
     |cons y a iha=>simp[sizeL,iha];omega
    exact this _
   have hle:sizeL (ks.take (i+1))<=sizeL ks:=sizeL_take;have hs:=x.sets_le;have hdp:=x.deep_le;have hks:=sizeL_len ks;have hxm:=sizeL_mem hmem;simp only[F111_3,F111_2,ucons_cons,xLt_i,vb_some,hc,bite_t,F111_0,e1,ld];refine Ret.lalloc st zc85 fun h' b' st'=>?_;refine Ret.lstA st' 0 rfl rfl hes (by rw[Nat.zero_add];exact Nat.le_refl _) e5.one fun h2 st2=>?_;rw[setsL_all hes]at st2;have st2':Sl h0 h2 S OM.emp [(b',.row .own 1 es)]:=st2;have ld2:xLdA 6 (.pointer (some ⟨b',0,none⟩)) h2=some (.agg ⟨es⟩):=st2'.ldA (.head _) (by rw[List.drop_zero, <-hes,List.take_length]) (by omega);have:=st2'.ok;have hp:=pcall_fr (ih x hmem h2.fzn st2'.leS es e5) rfl;have hw1:IntKind.i64.wrap ((N:Int)+(x.sets.length:Nat))=((N+x.sets.length:Nat):Int):=by rw[wrap_in (by omega) (by omega)];omega
   have hw2:IntKind.i64.wrap ((i:Int)+1)=((i+1:Nat):Int):=by rw[wrap_in (by omega) (by omega)];omega
   have hmx:(if(D:Int)<(x.deep:Int)then(x.deep:Int)else(D:Int))=((max D x.deep:Nat):Int):=by split<;>omega
   have:=ihk m (i+1) (N+x.sets.length) (max D x.deep) h2 (by omega) (by omega) (by omega) (by omega) (by omega) st2'.clear;rw[hL]at this;simp only[ld2,vb_some,hp,xExt_t',List.getElem?_cons_zero,List.getElem?_cons_succ,xAdd_i,hw1,max33',hmx,vN_eq,hw2];have hi1:IntKind.i64.wrap ((i:Int)+((1:Nat):Int))=((i+1:Nat):Int):=hw2;rw[hi1,hd];refine Ret.mono this fun v h3 ⟨rows,q1,q2⟩=>⟨rows,q1,?_⟩;rw[q2];simp only[reSets,deepL,List.length_append];have a1:N+x.sets.length+(reSets (ks.drop (i+1))).length=N+(x.sets.length+(reSets (ks.drop (i+1))).length):=by omega
   have a2:max (max D x.deep) (deepL (ks.drop (i+1)))=max D (max x.deep (deepL (ks.drop (i+1)))):=by omega
   rw[a1,a2]
  ·have:=ihk (m+1) i N D h (by omega) (by omega) h3 h4 h5 st;exact this
theorem c111(hn:4611686018427387904<=n): ∀(d:Nat)(x:Re),x.deep<=d->x.size<1099511627776-> ∀(h:PH)[OkH h]{S:Vw},Vw.le S h.cells-> ∀es,ReE S x es->Fr h S (LV n d 111 [.agg ⟨es⟩] h) fun v _=>v= .tuple ⟨[.int .i64 x.sets.length,.int .i64 x.deep]⟩:=by
 intro d
 induction d with
 |zero=>intro x hx;have:=x.deep_pos;omega
 |succ d ihd=>
  intro x hx hsz h _ S hS es he;obtain⟨op,s,ks⟩:=x;rw[Re.deep_looked]at hx;obtain⟨kv,rfl,hs,hk⟩:=ReE_mk.1 he;have hsz':sizeL ks+1<1099511627776:=hsz;rw[LV111];unfold Fr F111;refine Ret.lbox (Sl.start h hS) fun h1 b st=>?_;have l0:xLd (.pointer (some ⟨b,0,none⟩)) h1=some (.int .i64 op):=st.ld (.head _) rfl;have hes:(Value.int .i64 op::(u64s s++[kv])).length=6:=he.len;have la:xLdA 6 (.pointer (some ⟨b,0,none⟩)) h1=some (.agg ⟨.int .i64 op::(u64s s++[kv])⟩):=st.ldA (.head _) (by rw[List.drop_zero, <-hes];exact List.take_length) (by rw[Nat.zero_add, <-hes];exact Nat.le_refl _);have:=st.ok;have key: ∀N:Nat,N<=1->Ret (F111_4 n (LV n d) (.pointer (some ⟨b,0,none⟩)) (.int .i64 N) (.int .i64 (0:Nat)) h1) fun v h2=> ∃rows,Sl h h2 S OM.emp rows/\v= .tuple ⟨[.int .i64 (N+(reSets (looked op ks)).length:Nat),.int .i64 (deepL (looked op ks)+1:Nat)]⟩:=by
   intro N hN;unfold F111_4;simp only[la,vb_some];refine Ret.lfcall st (c131 (h:=h1.fzn) st.leS hs hk) fun v h2 rows1 ⟨e1,hk'⟩ st2=>?_;subst e1;have hlk:sizeL (looked op ks)<=sizeL ks:=by
    unfold looked
    split
    ·exact Nat.le_refl _
    ·split
     ·exact sizeL_take
     ·simp[sizeL]
   have hll:=sizeL_len (looked op ks);simp only[hk'.len,vb_some,vN_eq];have:=loop111 (n:=n) (cl:=LV n d) (h0:=h) hn hk' (by omega) (fun x hx h _ hS es he=>ihd x (by have:=deepL_mem hx;omega) (by have:=sizeL_mem hx;omega) h hS es he) (looked op ks).length n 0 N 0 h2 (by omega) (by omega) (by omega) (by omega) (by omega) st2.clear;simpa using this
  rw[Re.sets_looked,Re.deep_looked]
  by_cases h1':op=1
  ·subst h1';have:=key 1 (by omega);have e:looked 1 ks=[]:=rfl;rw[e]at this ⊢;simp[jn_eq,F111_5,l0];simpa[reSets]using this
  ·have:=key 0 (by omega);simp[jn_eq,F111_5,l0,h1'];simpa using this
end
def fl(N:Nat)(P:Nat->Bool):List Value:=(List.range N).map fun i=>.bool (P i)
@[simp] theorem fl_len{N:Nat}{P:Nat->Bool}:(fl N P).length=N:=by simp[fl]
theorem fl_get{N i:Nat}{P:Nat->Bool}(h:i<N):(fl N P)[i]?=some (.bool (P i)):=by simp[fl,h]
theorem fl_congr{N:Nat}{P Q:Nat->Bool}(h: ∀i,i<N->P i=Q i):fl N P=fl N Q:=by
 unfold fl;exact List.map_congr_left fun i hi=>by rw[h i (by simpa using hi)]
theorem fl_set{N i:Nat}{P:Nat->Bool}{b:Bool}:(fl N P).set i (.bool b)=fl N fun j=>if j=i then b else P j:=by
 apply List.ext_getElem?
 intro j
 by_cases hj:j<N
 ·rw[fl_get hj,List.getElem?_set]
  by_cases e:i=j
  ·subst e;rw[if_pos rfl,if_pos (by simpa using hj),if_pos rfl]
  ·rw[if_neg e,if_neg (fun h=>e h.symm),fl_get hj]
 ·rw[List.getElem?_eq_none (by simp;omega),List.getElem?_eq_none (by simp;omega)]
theorem fl_zrows{N:Nat}:zrows [.bool false] N=fl N fun _=>false:=by
 apply List.ext_getElem?
 intro j
 by_cases hj:j<N
 ·rw[fl_get hj,zrows_get _ _ _ (by simpa using hj)];simp[Nat.mod_one]
 ·rw[List.getElem?_eq_none (by rw[zrows_length];simp;omega),List.getElem?_eq_none (by simp;omega)]
theorem fl_one{N:Nat}{P:Nat->Bool}:oneCells (fl N P)=true:=by
 unfold oneCells fl;rw[List.all_map];exact List.all_eq_true.2 fun x _=>rfl
section
variable {n:Nat}{cl:CL}{h h0:PH}{S:Vw}{m:OM}{rows:Rws}
theorem loop155{N bl bm e e' c c':Nat}{md md':Mode}{P Q:Nat->Bool}(hmd:mro md=false)(hne:bm≠bl)(hN:N<4611686018427387904)(hm2:m bm=some (.row md' e' (fl N Q))):
  ∀(k q i:Nat)(h:PH),N-i<=k->k<q->i<=N->Sm h0 h S (m.upd bl (.row md e (fl N fun j=>P j||(decide (j<i)&&Q j))))->
  Ret (lp q (F155_2 n cl) [.slice (some ⟨bl,0,none⟩) N c,.slice (some ⟨bm,0,none⟩) N c',.int .i64 N,.int .i64 i] h) fun v h'=>v= .tuple ⟨[]⟩/\Sm h0 h' S (m.upd bl (.row md e (fl N fun j=>P j||Q j))):=by
 intro k
 induction k with
 |zero=>
  intro q i h h1 h2 h3 st;obtain⟨q,rfl⟩: ∃r,q=r+1:=⟨q-1,by omega⟩;have hi:i=N:=by omega
  subst hi;rw[lp_succ];have hc0:decide ((i:Int)<(i:Int))=false:=by simp
  simp only[F155_2,F155_1,ucons_cons,xLt_i,vb_some,hc0,bite_f];refine Ret.of ⟨rfl,?_⟩;rw[fl_congr (Q:=fun j=>P j||(decide (j<i)&&Q j)) fun j hj=>by simp[hj]];exact st
 |succ k ih=>
  intro q i h h1 h2 h3 st
  by_cases hi:i<N
  ·obtain⟨q,rfl⟩: ∃r,q=r+1:=⟨q-1,by omega⟩;rw[lp_succ];generalize hL:lp q (F155_2 n cl)=L;have hc1:decide ((i:Int)<(N:Int))=true:=by simp;omega
   have i1:=xIdxS_at (sz:=1) (b:=bm) (o:=0) (n:=N) (c:=c') (k:=.i64) (i:=(i:Int)) (by omega) (by omega);have i2:=xIdxS_at (sz:=1) (b:=bl) (o:=0) (n:=N) (c:=c) (k:=.i64) (i:=(i:Int)) (by omega) (by omega);simp only[Int.toNat_natCast,Nat.mul_one,Nat.zero_add]at i1 i2;have l1:xLd (.pointer (some ⟨bm,i,none⟩)) h=some (.bool (Q i)):=st.ld (by rw[OM.upd_ne hne];exact hm2) (fl_get hi);have l2:xLd (.pointer (some ⟨bl,i,none⟩)) h=some (.bool (P i)):=by
    have:=st.ld OM.upd_self (fl_get (P:=fun j=>P j||(decide (j<i)&&Q j)) hi);rw[this];simp
   have hw2:IntKind.i64.wrap ((i:Int)+((1:Nat):Int))=((i+1:Nat):Int):=by rw[wrap_in (by omega) (by omega)];omega
   have hp:xPick (.bool (P i)) tt (if isB false (.bool (P i))=true then .bool (Q i)else undef)=some (.bool (P i||Q i)):=by cases P i<;>rfl
   simp only[F155_2,F155_1,F155_0,ucons_cons,xLt_i,vb_some,hc1,bite_t,i1,l1,i2,l2,gd_some',hp];refine Ret.mst1 st OM.upd_self hmd (by simpa using hi) rfl fun h' st'=>?_;rw[OM.upd_upd,fl_set,fl_congr (Q:=fun j=>P j||(decide (j<i+1)&&Q j)) fun j hj=>?_]at st'
   ·simp only[vN_eq,xAdd_i,vb_some,hw2];have:=ih q (i+1) h' (by omega) (by omega) (by omega) st';rw[hL]at this;exact this
   ·by_cases e:j=i
    ·subst e;simp
    ·by_cases e2:j<i
     ·simp[e,e2,show j<i+1 by omega]
     ·simp[e,e2,show ¬ j<i+1 by omega]
  ·exact ih q i h (by omega) (by omega) h3 st
theorem c155{N bl bm e e' c c':Nat}{md md':Mode}{P Q:Nat->Bool}(hn:4611686018427387904<=n)(st:Sm h0 h S m)(hmd:mro md=false)(hne:bm≠bl)(hN:N<4611686018427387904)(hm1:m bl=some (.row md e (fl N P)))(hm2:m bm=some (.row md' e' (fl N Q))):
  Ret (F155 n cl (.slice (some ⟨bl,0,none⟩) N c) (.slice (some ⟨bm,0,none⟩) N c') h) fun v h'=>v= .tuple ⟨[]⟩/\Sm h0 h' S (m.upd bl (.row md e (fl N fun j=>P j||Q j))):=by
 unfold F155;simp only[xLenS_s,vb_some,vN_eq];refine loop155 (P:=P) hmd hne hN hm2 N n 0 h (by omega) (by omega) (by omega) ?_;rw[fl_congr (Q:=P) fun j hj=>by simp,OM.upd_id hm1];exact st
theorem c155L{N bl bm e e' c c':Nat}{md md':Mode}{P Q:Nat->Bool}(hn:4611686018427387904<=n)(st:Sl h0 h S m rows)(i:Nat)(hi:rows[i]?=some (bl,.row md e (fl N P)))(hmd:mro md=false)(hne:bm≠bl)(hN:N<4611686018427387904)(hm2:over rows m bm=some (.row md' e' (fl N Q))):
  Ret (F155 n cl (.slice (some ⟨bl,0,none⟩) N c) (.slice (some ⟨bm,0,none⟩) N c') h) fun v h'=>Sl h0 h' S m (rows.set i (bl,.row md e (fl N fun j=>P j||Q j))):=
 Ret.mono (c155 hn st.sm hmd hne hN (st.idx hi) hm2) fun v h' ⟨_,s⟩=>st.put hi s
end
theorem zi151:zinfo Tryz.prog 151=some (1,1,[.bool false]):=by kernel_rfl
theorem zc212:zcells Tryz.prog 212=some [.bool false,nils,nils]:=by kernel_rfl
theorem bs151:bsRow Tryz.prog 151 0 []=some (1,[]):=by kernel_rfl
theorem ai151:appInfo Tryz.prog #[151,151]=some (1,1):=by kernel_rfl
theorem b105{x:Bool}{a b:Value}(ha:a.oneCell'=true)(hb:b.oneCell'=true):abuild Tryz.prog 212 [(0,.bool x),(1,a),(2,b)]=some (.agg ⟨[.bool x,a,b]⟩):=by
 cases a<;>first|(simp[Value.oneCell']at ha;done)|(cases b<;>first|(simp[Value.oneCell']at hb;done)|kernel_rfl)
theorem nil49{b n c:Nat}{o1 o2:Operand}:abin Tryz.prog .eql 151 o1 o2 (.slice (some ⟨b,0,none⟩) n c) nils=some (.bool false):=by kernel_rfl
section
variable {n:Nat}{cl:CL}{h h0:PH}{S:Vw}{m:OM}{rows:Rws}
structure PartV(rows:Rws)(N:Nat)(p:Pt)(b1 b2:Nat)(v:Value):Prop where
 c1: ∃c1 c2,v= .agg ⟨[.bool p.null,.slice (some ⟨b1,0,none⟩) N c1,.slice (some ⟨b2,0,none⟩) N c2]⟩
 r1: ∃md e,(b1,.row md e (fl N p.fst))∈rows
 r2: ∃md e,(b2,.row md e (fl N p.lst))∈rows
 ne:b1≠b2
theorem c133[OkH h](hS:Vw.le S h.cells){bm N k:Nat}{sv fv:Value}(hb:S bm=some [sv,fv,.int .i64 N])(hN:N<1000000):
  Fr h S (F133 n cl (.pointer (some ⟨bm,0,none⟩)) h) fun v rows1=> ∃b1 b2,rows1=[(b2,.row .own 1 (fl N fun _=>false)),(b1,.row .own 1 (fl N fun _=>false))]/\v= .agg ⟨[.bool true,.slice (some ⟨b1,0,none⟩) N N,.slice (some ⟨b2,0,none⟩) N N]⟩:=by
 unfold Fr F133;refine Ret.lalloc (Sl.start h hS) zc212 fun h1 b st=>?_;refine Ret.lkp st fun h2 q st2 _ _=>?_;have st2:Sl h h2 S OM.emp [(q+1,.hole),(q,.hole),(b,.row .own 1 [.bool false,nils,nils])]:=st2;have l2:xLd (.pointer (some ⟨bm,2,none⟩)) h2=some (.int .i64 N):=st2.ldS hb rfl;simp only[xNil_p,vb_some,xFld_p,Nat.zero_add,l2];refine Ret.lfillMk st2 1 rfl zi151 (by omega) (by omega) (by omega) (by omega) fun h3 st3=>?_;refine Ret.lfillMk st3 0 rfl zi151 (by omega) (by omega) (by omega) (by omega) fun h4 st4=>?_;rw[Int.toNat_natCast,fl_zrows]at st4;have st4:Sl h h4 S OM.emp [(q+1,.row .own 1 (fl N fun _=>false)),(q,.row .own 1 (fl N fun _=>false)),(b,.row .own 1 [.bool false,nils,nils])]:=st4;simp only[tt_eq,b105 (x:=true) (a:=.slice (some ⟨Nat.add q 0,0,none⟩) (N:Int).toNat (N:Int).toNat) (b:=.slice (some ⟨Nat.add q 1,0,none⟩) (N:Int).toNat (N:Int).toNat) rfl rfl,vb_some];refine Ret.lstA st4 2 rfl rfl rfl (by decide) rfl fun h5 st5=>?_;have st5:Sl h h5 S OM.emp [(q+1,.row .own 1 (fl N fun _=>false)),(q,.row .own 1 (fl N fun _=>false)),(b,.row .own 1 [.bool true,.slice (some ⟨q,0,none⟩) N N,.slice (some ⟨q+1,0,none⟩) N N])]:=st5;have la:xLdA 3 (.pointer (some ⟨b,0,none⟩)) h5=some (.agg ⟨[.bool true,.slice (some ⟨q,0,none⟩) N N,.slice (some ⟨q+1,0,none⟩) N N]⟩):=st5.ldA (.tail _ (.tail _ (.head _))) rfl (by simp);simp only[la,vb_some];exact Fr.ret (st5.drop (rows':=[(q+1,.row .own 1 (fl N fun _=>false)),(q,.row .own 1 (fl N fun _=>false))]) (.cons_cons _ (.cons_cons _ (List.nil_sublist _)))) ⟨q,q+1,rfl,rfl⟩
theorem c154[OkH h](hS:Vw.le S h.cells){b N c:Nat}{P:Nat->Bool}(hb:S b=some (fl N P))(hN:N<1000000):
  Fr h S (F154 n cl (.slice (some ⟨b,0,none⟩) N c) h) fun v rows1=> ∃b' md e c',rows1=[(b',.row md e (fl N P))]/\mro md=false/\v= .slice (some ⟨b',0,none⟩) N c':=by
 unfold Fr F154;simp only[nil49,vb_some,bite_f,F154_0];refine Ret.lbs (Sl.start h hS) bs151 fun h1 b1 st=>?_;have hx:=st.sm.ptailS (sz:=1) (c:=c) (n:=N) (o:=0) hb (by simp);rw[List.drop_zero,Nat.mul_one,List.take_of_length_le (by simp)]at hx;rw[ai151]
 by_cases h0:N=0
 ·subst h0;have hx:ptail 1 (.slice (some ⟨b,0,none⟩) 0 c) h1=some (0,[]):=hx;rw[xApp_0 hx (Nat.le_refl _)];simp only[hb_some];exact Fr.ret st ⟨b1,.own,1,0,rfl,rfl,rfl⟩
 ·refine Ret.lappF st (st.mem (.head _)) (by simp) (by omega) hx (by omega) fl_one (by omega) fun h2 b2 st2=>?_;rw[Nat.zero_add];exact Fr.ret (st2.drop (rows':=[(b2,.row .opn 1 (fl N P))]) (.cons_cons _ (List.nil_sublist _))) ⟨b2,.opn,1,openCap,rfl,rfl,rfl⟩
def sl1(b N:Nat):Value:=.slice (some ⟨b,0,none⟩) N N
structure Mk(S:Vw)(m:OM)(bm:Nat)(fs:Nat->Nat)(N:Nat)(sv fv:Value)(sets:List (List Int))(F:Nat->Nat->Bool):Prop where
 main:m bm=some (.row .own 1 [sv,fv,.int .i64 N])
 fol:SlV S fv ((List.range N).map fun i=>sl1 (fs i) N)
 rows: ∀i,i<N->m (fs i)=some (.row .own 1 (fl N (F i)))
 inj: ∀i j,i<N->j<N->fs i=fs j->i=j
 neb: ∀i,i<N->fs i≠bm
 sets:Gs m 4 sv sets.length (sets.flatMap u64s)
 sd: ∀b,vBlk sv=some b->b≠bm/\ ∀i,i<N->fs i≠b
theorem Mk.upd{bm N:Nat}{fs:Nat->Nat}{sv fv:Value}{sets:List (List Int)}{F:Nat->Nat->Bool}(k:Mk S m bm fs N sv fv sets F){i:Nat}(hi:i<N)(P:Nat->Bool):
  Mk S (m.upd (fs i) (.row .own 1 (fl N P))) bm fs N sv fv sets fun a=>if a=i then P else F a:=by
 refine⟨by rw[OM.upd_ne (fun e=>k.neb i hi e.symm)];exact k.main,k.fol,fun a ha=>?_,k.inj,k.neb,k.sets.mono fun b o hb ho=>?_,k.sd⟩
 ·by_cases e:a=i
  ·subst e;rw[OM.upd_self,if_pos rfl]
  ·rw[OM.upd_ne (fun e'=>e (k.inj a i ha hi e')),if_neg e];exact k.rows a ha
 ·rw[OM.upd_ne (fun e=>(k.sd b hb).2 i hi e.symm)];exact ho
theorem Mk.congr{bm N:Nat}{fs:Nat->Nat}{sv fv:Value}{sets:List (List Int)}{F G:Nat->Nat->Bool}(k:Mk S m bm fs N sv fv sets F)(h: ∀i,i<N-> ∀j,j<N->F i j=G i j):Mk S m bm fs N sv fv sets G:=
 ⟨k.main,k.fol,fun i hi=>by rw[k.rows i hi,fl_congr (h i hi)],k.inj,k.neb,k.sets,k.sd⟩
theorem loop136{N bm bl bf e e' c c':Nat}{md md':Mode}{fs:Nat->Nat}{sv fv:Value}{sets:List (List Int)}{F:Nat->Nat->Bool}{L P:Nat->Bool}(hn:4611686018427387904<=n)(hN:N<1000000)(hr1:(bl,.row md e (fl N L))∈rows)(hr2:(bf,.row md' e' (fl N P))∈rows):
  ∀(k q i:Nat)(m:OM)(h:PH),N-i<=k->k<q->i<=N->Sl h0 h S m rows->Mk S m bm fs N sv fv sets (fun a b=>F a b||(decide (a<i)&&(L a&&P b)))->
  Ret (lp q (F136_5 n cl) [.pointer (some ⟨bm,0,none⟩),.slice (some ⟨bf,0,none⟩) N c',.slice (some ⟨bl,0,none⟩) N c,.int .i64 N,.int .i64 i] h) fun v h'=> ∃m',Sl h0 h' S m' rows/\Mk S m' bm fs N sv fv sets (fun a b=>F a b||(L a&&P b)):=by
 intro k
 induction k with
 |zero=>
  intro q i m h h1 h2 h3 st mk;obtain⟨q,rfl⟩: ∃r,q=r+1:=⟨q-1,by omega⟩;have hi:i=N:=by omega
  subst hi;rw[lp_succ];have hc0:decide ((i:Int)<(i:Int))=false:=by simp
  simp only[F136_5,F136_4,ucons_cons,xLt_i,vb_some,hc0,bite_f];exact Ret.of ⟨m,st,mk.congr fun a ha b hb=>by simp[ha]⟩
 |succ k ih=>
  intro q i m h h1 h2 h3 st mk
  by_cases hi:i<N
  ·obtain⟨q,rfl⟩: ∃r,q=r+1:=⟨q-1,by omega⟩;rw[lp_succ];generalize hL:lp q (F136_5 n cl)=LL;have hc1:decide ((i:Int)<(N:Int))=true:=by simp;omega
   have i1:=xIdxS_at (sz:=1) (b:=bl) (o:=0) (n:=N) (c:=c) (k:=.i64) (i:=(i:Int)) (by omega) (by omega);simp only[Int.toNat_natCast,Nat.mul_one,Nat.zero_add]at i1;have l1:xLd (.pointer (some ⟨bl,i,none⟩)) h=some (.bool (L i)):=st.ld hr1 (fl_get hi);have hw2:IntKind.i64.wrap ((i:Int)+((1:Nat):Int))=((i+1:Nat):Int):=by rw[wrap_in (by omega) (by omega)];omega
   have next: ∀(m':OM)(h':PH),Sl h0 h' S m' rows->Mk S m' bm fs N sv fv sets (fun a b=>F a b||(decide (a<i+1)&&(L a&&P b)))->Ret (F136_2 n cl LL [.pointer (some ⟨bm,0,none⟩),.slice (some ⟨bf,0,none⟩) N c',.slice (some ⟨bl,0,none⟩) N c,.int .i64 N,.int .i64 i] h') fun v h'=> ∃m',Sl h0 h' S m' rows/\Mk S m' bm fs N sv fv sets (fun a b=>F a b||(L a&&P b)):=by
    intro m' h' st' mk';simp only[F136_2,F136_0,ucons_cons,vN_eq,xAdd_i,vb_some,hw2];have:=ih q (i+1) m' h' (by omega) (by omega) (by omega) st' mk';rw[hL]at this;exact this
   simp only[F136_5,F136_4,F136_3,ucons_cons,xLt_i,vb_some,hc1,bite_t,jn_eq,i1,l1];cases hLi:L i with
   |false=>
    simp only[bite_f];refine next m h st (mk.congr fun a ha b hb=>?_)
    by_cases e:a=i
    ·subst e;simp[hLi]
    ·by_cases e2:a<i
     ·simp[e2,show a<i+1 by omega]
     ·simp[e2,show ¬ a<i+1 by omega]
   |true=>
    obtain⟨b,o,cs,e1,e2,e3⟩:=mk.fol.at (k:=.i64) (i:=i) (x:=sl1 (fs i) N) (by simp[hi]);have l2:xLd (.pointer (some ⟨bm,1,none⟩)) h=some fv:=st.ldB mk.main rfl;have l3:=st.ldS e2 e3;have hrow:=mk.rows i hi;have hne:bf≠fs i:=fun e=>st.ne hrow _ hr2 e;simp only[bite_t,F136_1,xNil_p,xFld_p,Nat.zero_add,vb_some,l2,e1,l3,sl1];refine Ret.hb (c155 hn st.sm rfl hne (by omega) (st.base hrow) (st.mem hr2)) fun v h' ⟨_,s'⟩=>?_;refine next _ h' (st.putB hrow s') ((mk.upd hi _).congr fun a ha b hb=>?_)
    by_cases e:a=i
    ·subst e;simp[hLi]
    ·by_cases e2:a<i
     ·simp[e,e2,show a<i+1 by omega]
     ·simp[e,e2,show ¬ a<i+1 by omega]
  ·exact ih q i m h (by omega) (by omega) h3 st mk
theorem c136{N bm bl bf e e' c c':Nat}{md md':Mode}{fs:Nat->Nat}{sv fv:Value}{sets:List (List Int)}{F:Nat->Nat->Bool}{L P:Nat->Bool}(hn:4611686018427387904<=n)(hN:N<1000000)(st:Sl h0 h S m rows)(hr1:(bl,.row md e (fl N L))∈rows)(hr2:(bf,.row md' e' (fl N P))∈rows)
  (mk:Mk S m bm fs N sv fv sets F):
  Ret (F136 n cl (.pointer (some ⟨bm,0,none⟩)) (.slice (some ⟨bl,0,none⟩) N c) (.slice (some ⟨bf,0,none⟩) N c') h) fun v h'=> ∃m',Sl h0 h' S m' rows/\Mk S m' bm fs N sv fv sets (fun a b=>F a b||(L a&&P b)):=by
 unfold F136;simp only[xLenS_s,vb_some,vN_eq];exact loop136 hn hN hr1 hr2 N n 0 m h (by omega) (by omega) (by omega) st (mk.congr fun a _ b _=>by simp)
end
section
variable {n:Nat}{cl:CL}{h h0:PH}{S:Vw}{m:OM}{rows:Rws}
theorem over_lt(st:Sl h0 h S m rows){b:Nat}{o:AObj}(hb:(b,o)∈rows){q:Nat}(hq: ∀c o,over rows m c=some o->c<q):b<q:=hq b o (st.mem hb)
theorem avk1{q b k n c:Nat}{r:R}(h:b<q):avk q k [.slice (some ⟨b,0,none⟩) n c] r=r:=avk_t (by simp[avL,avV,avV0,av1_t h])
theorem c134{N bm a1 a2 p1 p2:Nat}{fs:Nat->Nat}{sv fv av pv:Value}{sets:List (List Int)}{F:Nat->Nat->Bool}{a p:Pt}(hn:4611686018427387904<=n)(hN:N<1000000)(st:Sl h0 h S m rows)(ha:PartV rows N a a1 a2 av)(hp:PartV rows N p p1 p2 pv)
  (mk:Mk S m bm fs N sv fv sets F):
  Ret (F134 n cl (.pointer (some ⟨bm,0,none⟩)) av pv h) fun v h'=> ∃m' new b1 b2,Sl h0 h' S m' (new++rows)/\Mk S m' bm fs N sv fv sets (fun i j=>F i j||(a.lst i&&p.fst j))/\PartV new N (a.cat p) b1 b2 v:=by
 obtain⟨ca1,ca2,rfl⟩:=ha.c1;obtain⟨cp1,cp2,rfl⟩:=hp.c1;obtain⟨md1,e1,ha1⟩:=ha.r1;obtain⟨md2,e2,ha2⟩:=ha.r2;obtain⟨md3,e3,hp1⟩:=hp.r1;obtain⟨md4,e4,hp2⟩:=hp.r2;unfold F134;refine Ret.lbox st fun h1 x1 st1=>?_;refine Ret.lbox st1 fun h2 x2 st2=>?_;refine Ret.lalloc st2 zc212 fun h3 x3 st3=>?_;have R1:(x1,AObj.row .own 1 [.bool a.null,.slice (some ⟨a1,0,none⟩) N ca1,.slice (some ⟨a2,0,none⟩) N ca2])∈(x3,AObj.row .own 1 [.bool false,nils,nils])::(x2,AObj.row .own 1 [.bool p.null,.slice (some ⟨p1,0,none⟩) N cp1,.slice (some ⟨p2,0,none⟩) N cp2])::(x1,AObj.row .own 1 [.bool a.null,.slice (some ⟨a1,0,none⟩) N ca1,.slice (some ⟨a2,0,none⟩) N ca2])::rows:=.tail _ (.tail _ (.head _));have l1:xLd (.pointer (some ⟨x1,2,none⟩)) h3=some (.slice (some ⟨a2,0,none⟩) N ca2):=st3.ld R1 rfl;have l2:xLd (.pointer (some ⟨x2,1,none⟩)) h3=some (.slice (some ⟨p1,0,none⟩) N cp1):=st3.ld (.tail _ (.head _)) rfl;simp only[xFld_p,Nat.zero_add,vb_some,l1,l2];refine Ret.hb (c136 hn hN st3 (.tail _ (.tail _ (.tail _ ha2))) (.tail _ (.tail _ (.tail _ hp1))) mk) fun v4 h4 ⟨m4,st4,mk4⟩=>?_;refine Ret.lkp st4 fun h5 q st5 hq _=>?_;have st5:Sl h0 h5 S m4 ((q,.hole)::(x3,AObj.row .own 1 [.bool false,nils,nils])::(x2,AObj.row .own 1 [.bool p.null,.slice (some ⟨p1,0,none⟩) N cp1,.slice (some ⟨p2,0,none⟩) N cp2])::(x1,AObj.row .own 1 [.bool a.null,.slice (some ⟨a1,0,none⟩) N ca1,.slice (some ⟨a2,0,none⟩) N ca2])::rows):=st5;have k1:xLd (.pointer (some ⟨x1,0,none⟩)) h5=some (.bool a.null):=st5.ld (.tail _ R1) rfl;have k2:xLd (.pointer (some ⟨x2,0,none⟩)) h5=some (.bool p.null):=st5.ld (.tail _ (.tail _ (.head _))) rfl;have k3:xLd (.pointer (some ⟨x1,1,none⟩)) h5=some (.slice (some ⟨a1,0,none⟩) N ca1):=st5.ld (.tail _ R1) rfl;have k4:xLd (.pointer (some ⟨x2,2,none⟩)) h5=some (.slice (some ⟨p2,0,none⟩) N cp2):=st5.ld (.tail _ (.tail _ (.head _))) rfl;have g2:gd a.null (xLd (if a.null=true then .pointer (some ⟨x2,0,none⟩)else undef) h5)=some (if a.null=true then .bool p.null else undef):=by
  cases a.null with
  |true=>simp[k2]
  |false=>rfl
 have g3:xPick (.bool a.null) (if a.null=true then .bool p.null else undef) ff=some (.bool (a.null&&p.null)):=by cases a.null<;>rfl
 have lta:a1<q:=over_lt st4 (.tail _ (.tail _ (.tail _ ha1))) hq;have ltp:p2<q:=over_lt st4 (.tail _ (.tail _ (.tail _ hp2))) hq;simp only[k1,isB_t,gd_some',g2,g3,k3,k4,vb_some,avk1 lta];have:=st5.ok;have hv1:=vall_m (S:=S) (st5.mem (.tail _ (.tail _ (.tail _ (.tail _ ha1)))));have hc1:=c154 (n:=n) (cl:=cl) (h:=h5.fzn) (c:=ca1) st5.fz hv1 hN;refine Ret.lfcall st5 hc1 fun v6 h6 rows1 ⟨b1,md5,e5,c5,hr1,hmd5,hv6⟩ st6=>?_;subst hr1;subst hv6;have st6:Sl h0 h6 S m4 ((b1,.row md5 e5 (fl N a.fst))::(q,.hole)::(x3,AObj.row .own 1 [.bool false,nils,nils])::(x2,AObj.row .own 1 [.bool p.null,.slice (some ⟨p1,0,none⟩) N cp1,.slice (some ⟨p2,0,none⟩) N cp2])::(x1,AObj.row .own 1 [.bool a.null,.slice (some ⟨a1,0,none⟩) N ca1,.slice (some ⟨a2,0,none⟩) N ca2])::rows):=st6;simp only[avk1 ltp];have:=st6.ok;have hv2:=vall_m (S:=S) (st6.mem (.tail _ (.tail _ (.tail _ (.tail _ (.tail _ hp2))))));have hc2:=c154 (n:=n) (cl:=cl) (h:=h6.fzn) (c:=cp2) st6.fz hv2 hN;refine Ret.lfcall st6 hc2 fun v7 h7 rows1 ⟨b2,md6,e6,c6,hr2,hmd6,hv7⟩ st7=>?_;subst hr2;subst hv7;have st7:Sl h0 h7 S m4 ((b2,.row md6 e6 (fl N p.lst))::(b1,.row md5 e5 (fl N a.fst))::(q,.hole)::(x3,AObj.row .own 1 [.bool false,nils,nils])::(x2,AObj.row .own 1 [.bool p.null,.slice (some ⟨p1,0,none⟩) N cp1,.slice (some ⟨p2,0,none⟩) N cp2])::(x1,AObj.row .own 1 [.bool a.null,.slice (some ⟨a1,0,none⟩) N ca1,.slice (some ⟨a2,0,none⟩) N ca2])::rows):=st7;refine Ret.vb (b105 rfl rfl) ?_;refine Ret.lfillAlloc st7 2 rfl zc212 fun h8 st8=>?_;refine Ret.lstA st8 2 rfl rfl rfl (by decide) rfl fun h9 st9=>?_;have hb12:b2≠b1:=by
  have:=st7.nd;rw[List.pairwise_cons]at this;exact this.1 _ (.head _)
 have st9:Sl h0 h9 S m4 ((b2,.row md6 e6 (fl N p.lst))::(b1,.row md5 e5 (fl N a.fst))::(q,.row .own 1 [.bool (a.null&&p.null),.slice (some ⟨b1,0,none⟩) N c5,.slice (some ⟨b2,0,none⟩) N c6])::(x3,AObj.row .own 1 [.bool false,nils,nils])::(x2,AObj.row .own 1 [.bool p.null,.slice (some ⟨p1,0,none⟩) N cp1,.slice (some ⟨p2,0,none⟩) N cp2])::(x1,AObj.row .own 1 [.bool a.null,.slice (some ⟨a1,0,none⟩) N ca1,.slice (some ⟨a2,0,none⟩) N ca2])::rows):=st9;have fin: ∀(h:PH)(P L:Nat->Bool),Sl h0 h S m4 ((b2,.row md6 e6 (fl N L))::(b1,.row md5 e5 (fl N P))::(q,.row .own 1 [.bool (a.null&&p.null),.slice (some ⟨b1,0,none⟩) N c5,.slice (some ⟨b2,0,none⟩) N c6])::(x3,AObj.row .own 1 [.bool false,nils,nils])::(x2,AObj.row .own 1 [.bool p.null,.slice (some ⟨p1,0,none⟩) N cp1,.slice (some ⟨p2,0,none⟩) N cp2])::(x1,AObj.row .own 1 [.bool a.null,.slice (some ⟨a1,0,none⟩) N ca1,.slice (some ⟨a2,0,none⟩) N ca2])::rows)->
   (∀i,i<N->P i=(a.cat p).fst i)->(∀i,i<N->L i=(a.cat p).lst i)->
   Ret (F134_0 n cl (.pointer (some ⟨Nat.add q 0,0,none⟩)) (.pointer (some ⟨x3,0,none⟩)) h) fun v h'=> ∃m' new b1 b2,Sl h0 h' S m' (new++rows)/\Mk S m' bm fs N sv fv sets (fun i j=>F i j||(a.lst i&&p.fst j))/\PartV new N (a.cat p) b1 b2 v:=by
  intro h P L st hP hL;have la:xLdA 3 (.pointer (some ⟨q,0,none⟩)) h=some (.agg ⟨[.bool (a.null&&p.null),.slice (some ⟨b1,0,none⟩) N c5,.slice (some ⟨b2,0,none⟩) N c6]⟩):=st.ldA (.tail _ (.tail _ (.head _))) rfl (by simp);have la:xLdA 3 (.pointer (some ⟨Nat.add q 0,0,none⟩)) h=some (.agg ⟨[.bool (a.null&&p.null),.slice (some ⟨b1,0,none⟩) N c5,.slice (some ⟨b2,0,none⟩) N c6]⟩):=la;simp only[F134_0,la,vb_some];refine Ret.lstA st 3 rfl rfl rfl (by decide) rfl fun h' st'=>?_;have lb:xLdA 3 (.pointer (some ⟨x3,0,none⟩)) h'=some (.agg ⟨[.bool (a.null&&p.null),.slice (some ⟨b1,0,none⟩) N c5,.slice (some ⟨b2,0,none⟩) N c6]⟩):=st'.ldA (.tail _ (.tail _ (.tail _ (.head _)))) rfl (by simp[setsL]);simp only[lb,vb_some];rw[fl_congr hP,fl_congr hL]at st';refine Ret.of ⟨m4,[(b2,.row md6 e6 (fl N (a.cat p).lst)),(b1,.row md5 e5 (fl N (a.cat p).fst))],b1,b2,st'.drop ?_,mk4,⟨⟨c5,c6,rfl⟩,⟨_,_,.tail _ (.head _)⟩,⟨_,_,.head _⟩,fun e=>hb12 e.symm⟩⟩;exact .cons_cons _ (.cons_cons _ (.cons _ (.cons _ (.cons _ (.cons _ (List.Sublist.refl _))))))
 have second: ∀(h:PH)(P:Nat->Bool),Sl h0 h S m4 ((b2,.row md6 e6 (fl N p.lst))::(b1,.row md5 e5 (fl N P))::(q,.row .own 1 [.bool (a.null&&p.null),.slice (some ⟨b1,0,none⟩) N c5,.slice (some ⟨b2,0,none⟩) N c6])::(x3,AObj.row .own 1 [.bool false,nils,nils])::(x2,AObj.row .own 1 [.bool p.null,.slice (some ⟨p1,0,none⟩) N cp1,.slice (some ⟨p2,0,none⟩) N cp2])::(x1,AObj.row .own 1 [.bool a.null,.slice (some ⟨a1,0,none⟩) N ca1,.slice (some ⟨a2,0,none⟩) N ca2])::rows)->
   (∀i,i<N->P i=(a.cat p).fst i)->
   Ret (F134_3 n cl (.pointer (some ⟨x2,0,none⟩)) (.pointer (some ⟨Nat.add q 0,0,none⟩)) (.pointer (some ⟨x1,0,none⟩)) (.pointer (some ⟨x3,0,none⟩)) h) fun v h'=> ∃m' new b1 b2,Sl h0 h' S m' (new++rows)/\Mk S m' bm fs N sv fv sets (fun i j=>F i j||(a.lst i&&p.fst j))/\PartV new N (a.cat p) b1 b2 v:=by
  intro h P st hP;have k2:xLd (.pointer (some ⟨x2,0,none⟩)) h=some (.bool p.null):=st.ld (.tail _ (.tail _ (.tail _ (.tail _ (.head _))))) rfl;simp only[F134_3,jn_eq,F134_2,xFld_p,Nat.zero_add,vb_some,k2];cases hpn:p.null with
  |false=>
   simp only[bite_f,ucons_cons];rw[hpn]at st;have:=fin h P p.lst (by rw[hpn];exact st) hP (fun i hi=>by simp[Pt.cat,hpn]);exact this
  |true=>
   have k5:xLd (.pointer (some ⟨q,2,none⟩)) h=some (.slice (some ⟨b2,0,none⟩) N c6):=st.ld (.tail _ (.tail _ (.head _))) rfl;have k5:xLd (.pointer (some ⟨Nat.add q 0,2,none⟩)) h=some (.slice (some ⟨b2,0,none⟩) N c6):=k5;have k6:xLd (.pointer (some ⟨x1,2,none⟩)) h=some (.slice (some ⟨a2,0,none⟩) N ca2):=st.ld (.tail _ (.tail _ (.tail _ (.tail _ (.tail _ (.head _)))))) rfl;have hm:over _ m4 a2=some _:=st.mem (.tail _ (.tail _ (.tail _ (.tail _ (.tail _ (.tail _ ha2))))));have hne:a2≠b2:=by
    have:=st.nd;rw[List.pairwise_cons]at this;exact fun e=>this.1 _ (.tail _ (.tail _ (.tail _ (.tail _ (.tail _ ha2))))) e.symm
   simp only[bite_t,F134_1,xFld_p,Nat.zero_add,vb_some,k5,k6];refine Ret.hb (c155L hn st 0 rfl hmd6 hne (by omega) hm) fun v h' st'=>?_;have:=fin h' P (fun j=>p.lst j||a.lst j) st' hP (fun i hi=>by simp[Pt.cat,hpn]);simpa only[ucons_cons]using this
 simp only[jn_eq,F134_6,xFld_p,Nat.zero_add,vb_some];have k1':xLd (.pointer (some ⟨x1,0,none⟩)) h9=some (.bool a.null):=st9.ld (.tail _ (.tail _ (.tail _ (.tail _ (.tail _ (.head _)))))) rfl;simp only[k1',vb_some];cases han:a.null with
 |false=>
  simp only[bite_f,F134_5,ucons_cons];exact second h9 a.fst (by rw[han]at st9 ⊢;exact st9) (fun i hi=>by simp[Pt.cat,han])
 |true=>
  have k5:xLd (.pointer (some ⟨q,1,none⟩)) h9=some (.slice (some ⟨b1,0,none⟩) N c5):=st9.ld (.tail _ (.tail _ (.head _))) rfl;have k5:xLd (.pointer (some ⟨Nat.add q 0,1,none⟩)) h9=some (.slice (some ⟨b1,0,none⟩) N c5):=k5;have k6:xLd (.pointer (some ⟨x2,1,none⟩)) h9=some (.slice (some ⟨p1,0,none⟩) N cp1):=st9.ld (.tail _ (.tail _ (.tail _ (.tail _ (.head _))))) rfl;have hm:over _ m4 p1=some _:=st9.mem (.tail _ (.tail _ (.tail _ (.tail _ (.tail _ (.tail _ hp1))))));have hne:p1≠b1:=by
   have:=st9.nd;rw[List.pairwise_cons,List.pairwise_cons]at this;exact fun e=>this.2.1 _ (.tail _ (.tail _ (.tail _ (.tail _ hp1)))) e.symm
  simp only[bite_t,F134_4,xFld_p,Nat.zero_add,vb_some,k5,k6];refine Ret.hb (c155L hn st9 1 rfl hmd5 hne (by omega) hm) fun v h' st'=>?_;simp only[F134_5,ucons_cons];exact second h' (fun j=>a.fst j||p.fst j) st' (fun i hi=>by simp[Pt.cat,han])
end
theorem ai88:appInfo Tryz.prog #[88,88]=some (4,32):=by kernel_rfl
theorem bs88{a b c d:Int}:bsRow Tryz.prog 88 1 [(0,.agg ⟨[.int .u64 a,.int .u64 b,.int .u64 c,.int .u64 d]⟩)]=some (4,[.int .u64 a,.int .u64 b,.int .u64 c,.int .u64 d]):=by kernel_rfl
section
variable {n:Nat}{cl:CL}{h h0:PH}{S:Vw}{m:OM}{rows:Rws}
theorem c135{N a1 a2 p1 p2:Nat}{av pv:Value}{a p:Pt}(hn:4611686018427387904<=n)(hN:N<1000000)(st:Sl h0 h S m rows)(ha:PartV rows N a a1 a2 av)(hp:PartV rows N p p1 p2 pv):
  Ret (F135 n cl av pv h) fun v h'=> ∃new b1 b2,Sl h0 h' S m (new++rows)/\PartV new N (a.alt p) b1 b2 v:=by
 obtain⟨ca1,ca2,rfl⟩:=ha.c1;obtain⟨cp1,cp2,rfl⟩:=hp.c1;obtain⟨md1,e1,ha1⟩:=ha.r1;obtain⟨md2,e2,ha2⟩:=ha.r2;obtain⟨md3,e3,hp1⟩:=hp.r1;obtain⟨md4,e4,hp2⟩:=hp.r2;unfold F135;refine Ret.lbox st fun h1 x1 st1=>?_;refine Ret.lbox st1 fun h2 x2 st2=>?_;refine Ret.lalloc st2 zc212 fun h3 x3 st3=>?_;refine Ret.lkp st3 fun h5 q st5 hq _=>?_;have st5:Sl h0 h5 S m ((q,.hole)::(x3,AObj.row .own 1 [.bool false,nils,nils])::(x2,AObj.row .own 1 [.bool p.null,.slice (some ⟨p1,0,none⟩) N cp1,.slice (some ⟨p2,0,none⟩) N cp2])::(x1,AObj.row .own 1 [.bool a.null,.slice (some ⟨a1,0,none⟩) N ca1,.slice (some ⟨a2,0,none⟩) N ca2])::rows):=st5;have k1:xLd (.pointer (some ⟨x1,0,none⟩)) h5=some (.bool a.null):=st5.ld (.tail _ (.tail _ (.tail _ (.head _)))) rfl;have k2:xLd (.pointer (some ⟨x2,0,none⟩)) h5=some (.bool p.null):=st5.ld (.tail _ (.tail _ (.head _))) rfl;have k3:xLd (.pointer (some ⟨x1,1,none⟩)) h5=some (.slice (some ⟨a1,0,none⟩) N ca1):=st5.ld (.tail _ (.tail _ (.tail _ (.head _)))) rfl;have k4:xLd (.pointer (some ⟨x1,2,none⟩)) h5=some (.slice (some ⟨a2,0,none⟩) N ca2):=st5.ld (.tail _ (.tail _ (.tail _ (.head _)))) rfl;have g2:gd (!a.null) (xLd (if(!a.null)=true then .pointer (some ⟨x2,0,none⟩)else undef) h5)=some (if a.null=true then undef else .bool p.null):=by
  cases a.null with
  |true=>rfl
  |false=>simp[k2]
 have g3:xPick (.bool a.null) tt (if a.null=true then undef else .bool p.null)=some (.bool (a.null||p.null)):=by cases a.null<;>rfl
 have lta:a1<q:=over_lt st3 (.tail _ (.tail _ (.tail _ ha1))) hq;have ltp:a2<q:=over_lt st3 (.tail _ (.tail _ (.tail _ ha2))) hq;simp only[xFld_p,Nat.zero_add,vb_some,k1,isB_f,gd_some',g2,g3,k3,k4,avk1 lta];have:=st5.ok;have hv1:=vall_m (S:=S) (st5.mem (.tail _ (.tail _ (.tail _ (.tail _ ha1)))));have hc1:=c154 (n:=n) (cl:=cl) (h:=h5.fzn) (c:=ca1) st5.fz hv1 hN;refine Ret.lfcall st5 hc1 fun v6 h6 rows1 ⟨b1,md5,e5,c5,hr1,hmd5,hv6⟩ st6=>?_;subst hr1;subst hv6;have st6:Sl h0 h6 S m ((b1,.row md5 e5 (fl N a.fst))::(q,.hole)::(x3,AObj.row .own 1 [.bool false,nils,nils])::(x2,AObj.row .own 1 [.bool p.null,.slice (some ⟨p1,0,none⟩) N cp1,.slice (some ⟨p2,0,none⟩) N cp2])::(x1,AObj.row .own 1 [.bool a.null,.slice (some ⟨a1,0,none⟩) N ca1,.slice (some ⟨a2,0,none⟩) N ca2])::rows):=st6;simp only[avk1 ltp];have:=st6.ok;have hv2:=vall_m (S:=S) (st6.mem (.tail _ (.tail _ (.tail _ (.tail _ (.tail _ ha2))))));have hc2:=c154 (n:=n) (cl:=cl) (h:=h6.fzn) (c:=ca2) st6.fz hv2 hN;refine Ret.lfcall st6 hc2 fun v7 h7 rows1 ⟨b2,md6,e6,c6,hr2,hmd6,hv7⟩ st7=>?_;subst hr2;subst hv7;have st7:Sl h0 h7 S m ((b2,.row md6 e6 (fl N a.lst))::(b1,.row md5 e5 (fl N a.fst))::(q,.hole)::(x3,AObj.row .own 1 [.bool false,nils,nils])::(x2,AObj.row .own 1 [.bool p.null,.slice (some ⟨p1,0,none⟩) N cp1,.slice (some ⟨p2,0,none⟩) N cp2])::(x1,AObj.row .own 1 [.bool a.null,.slice (some ⟨a1,0,none⟩) N ca1,.slice (some ⟨a2,0,none⟩) N ca2])::rows):=st7;refine Ret.vb (b105 rfl rfl) ?_;refine Ret.lfillAlloc st7 2 rfl zc212 fun h8 st8=>?_;refine Ret.lstA st8 2 rfl rfl rfl (by decide) rfl fun h9 st9=>?_;have hb12:b2≠b1:=by
  have:=st7.nd;rw[List.pairwise_cons]at this;exact this.1 _ (.head _)
 have st9:Sl h0 h9 S m ((b2,.row md6 e6 (fl N a.lst))::(b1,.row md5 e5 (fl N a.fst))::(q,.row .own 1 [.bool (a.null||p.null),.slice (some ⟨b1,0,none⟩) N c5,.slice (some ⟨b2,0,none⟩) N c6])::(x3,AObj.row .own 1 [.bool false,nils,nils])::(x2,AObj.row .own 1 [.bool p.null,.slice (some ⟨p1,0,none⟩) N cp1,.slice (some ⟨p2,0,none⟩) N cp2])::(x1,AObj.row .own 1 [.bool a.null,.slice (some ⟨a1,0,none⟩) N ca1,.slice (some ⟨a2,0,none⟩) N ca2])::rows):=st9;have f1:xLd (.pointer (some ⟨Nat.add q 0,1,none⟩)) h9=some (.slice (some ⟨b1,0,none⟩) N c5):=st9.ld (b:=q) (.tail _ (.tail _ (.head _))) rfl;have f2:xLd (.pointer (some ⟨x2,1,none⟩)) h9=some (.slice (some ⟨p1,0,none⟩) N cp1):=st9.ld (.tail _ (.tail _ (.tail _ (.tail _ (.head _))))) rfl;have hm1:=st9.mem (.tail _ (.tail _ (.tail _ (.tail _ (.tail _ (.tail _ hp1))))));have hne1:p1≠b1:=by
  have:=st9.nd;rw[List.pairwise_cons,List.pairwise_cons]at this;exact fun e=>this.2.1 _ (.tail _ (.tail _ (.tail _ (.tail _ hp1)))) e.symm
 simp only[xFld_p,Nat.zero_add,vb_some,f1,f2];refine Ret.hb (c155L hn st9 1 rfl hmd5 hne1 (by omega) hm1) fun v10 h10 st10=>?_;have st10:Sl h0 h10 S m ((b2,.row md6 e6 (fl N a.lst))::(b1,.row md5 e5 (fl N fun j=>a.fst j||p.fst j))::(q,.row .own 1 [.bool (a.null||p.null),.slice (some ⟨b1,0,none⟩) N c5,.slice (some ⟨b2,0,none⟩) N c6])::(x3,AObj.row .own 1 [.bool false,nils,nils])::(x2,AObj.row .own 1 [.bool p.null,.slice (some ⟨p1,0,none⟩) N cp1,.slice (some ⟨p2,0,none⟩) N cp2])::(x1,AObj.row .own 1 [.bool a.null,.slice (some ⟨a1,0,none⟩) N ca1,.slice (some ⟨a2,0,none⟩) N ca2])::rows):=st10;have f3:xLd (.pointer (some ⟨Nat.add q 0,2,none⟩)) h10=some (.slice (some ⟨b2,0,none⟩) N c6):=st10.ld (b:=q) (.tail _ (.tail _ (.head _))) rfl;have f4:xLd (.pointer (some ⟨x2,2,none⟩)) h10=some (.slice (some ⟨p2,0,none⟩) N cp2):=st10.ld (.tail _ (.tail _ (.tail _ (.tail _ (.head _))))) rfl;have hm2:=st10.mem (.tail _ (.tail _ (.tail _ (.tail _ (.tail _ (.tail _ hp2))))));have hne2:p2≠b2:=by
  have:=st10.nd;rw[List.pairwise_cons]at this;exact fun e=>this.1 _ (.tail _ (.tail _ (.tail _ (.tail _ (.tail _ hp2))))) e.symm
 simp only[f3,f4,vb_some];refine Ret.hb (c155L hn st10 0 rfl hmd6 hne2 (by omega) hm2) fun v11 h11 st11=>?_;have st11:Sl h0 h11 S m ((b2,.row md6 e6 (fl N fun j=>a.lst j||p.lst j))::(b1,.row md5 e5 (fl N fun j=>a.fst j||p.fst j))::(q,.row .own 1 [.bool (a.null||p.null),.slice (some ⟨b1,0,none⟩) N c5,.slice (some ⟨b2,0,none⟩) N c6])::(x3,AObj.row .own 1 [.bool false,nils,nils])::(x2,AObj.row .own 1 [.bool p.null,.slice (some ⟨p1,0,none⟩) N cp1,.slice (some ⟨p2,0,none⟩) N cp2])::(x1,AObj.row .own 1 [.bool a.null,.slice (some ⟨a1,0,none⟩) N ca1,.slice (some ⟨a2,0,none⟩) N ca2])::rows):=st11;have la:xLdA 3 (.pointer (some ⟨Nat.add q 0,0,none⟩)) h11=some (.agg ⟨[.bool (a.null||p.null),.slice (some ⟨b1,0,none⟩) N c5,.slice (some ⟨b2,0,none⟩) N c6]⟩):=st11.ldA (b:=q) (.tail _ (.tail _ (.head _))) rfl (by simp);simp only[la,vb_some];refine Ret.lstA st11 3 rfl rfl rfl (by decide) rfl fun h12 st12=>?_;have lb:xLdA 3 (.pointer (some ⟨x3,0,none⟩)) h12=some (.agg ⟨[.bool (a.null||p.null),.slice (some ⟨b1,0,none⟩) N c5,.slice (some ⟨b2,0,none⟩) N c6]⟩):=st12.ldA (.tail _ (.tail _ (.tail _ (.head _)))) rfl (by simp[setsL]);simp only[lb,vb_some];refine Ret.of ⟨[(b2,.row md6 e6 (fl N (a.alt p).lst)),(b1,.row md5 e5 (fl N (a.alt p).fst))],b1,b2,st12.drop ?_,⟨⟨c5,c6,rfl⟩,⟨_,_,.tail _ (.head _)⟩,⟨_,_,.head _⟩,fun e=>hb12 e.symm⟩⟩;exact .cons_cons _ (.cons_cons _ (.cons _ (.cons _ (.cons _ (.cons _ (List.Sublist.refl _))))))
theorem Mk.more{bm N:Nat}{fs:Nat->Nat}{sv fv sv':Value}{sets:List (List Int)}{F:Nat->Nat->Bool}{m1:OM}{s:List Int}(k:Mk S m bm fs N sv fv sets F)(g:Grew S m m1 4 sv sv' (sets.length+1) (sets.flatMap u64s++u64s s)):
  Mk S (m1.upd bm (.row .own 1 [sv',fv,.int .i64 N])) bm fs N sv' fv (sets++[s]) F:=by
 have hsv:vBlk sv≠some bm:=fun e=>(k.sd _ e).1 rfl;have hsf: ∀i,i<N->vBlk sv≠some (fs i):=fun i hi e=>(k.sd _ e).2 i hi rfl;have k1:=g.keep _ _ k.main hsv;have k2: ∀i,i<N->_:=fun i hi=>g.keep _ _ (k.rows i hi) (hsf i hi);refine⟨OM.upd_self,k.fol,fun i hi=>?_,k.inj,k.neb,?_,fun b hb=>⟨fun e=>?_,fun i hi e=>?_⟩⟩
 ·rw[OM.upd_ne (k.neb i hi)];exact(k2 i hi).1
 ·have e1:(sets++[s]).length=sets.length+1:=by simp
  have e2:(sets++[s]).flatMap u64s=sets.flatMap u64s++u64s s:=by simp
  rw[e1,e2];refine g.gs.mono fun b o hb ho=>?_;rw[OM.upd_ne (fun e=>k1.2 (by rw[<-e];exact hb))];exact ho
 ·exact k1.2 (by rw[<-e];exact hb)
 ·exact(k2 i hi).2 (by rw[e];exact hb)
theorem c132{N bm:Nat}{fs:Nat->Nat}{sv fv:Value}{op:Int}{s:List Int}{kv:Value}{sets:List (List Int)}{F:Nat->Nat->Bool}(hn:4611686018427387904<=n)(hN:N<1000000)(hs:s.length=4)(hkv:kv.oneCell'=true)(hi:sets.length<N)(st:Sl h0 h S m rows)(mk:Mk S m bm fs N sv fv sets F):
  Ret (F132 n cl (.pointer (some ⟨bm,0,none⟩)) (.agg ⟨.int .i64 op::(u64s s++[kv])⟩) h) fun v h'=> ∃m' new b1 b2 sv',Sl h0 h' S m' (new++rows)/\Mk S m' bm fs N sv' fv (sets++[s]) F/\PartV new N (Pt.one sets.length) b1 b2 v:=by
 obtain⟨s0,s1,s2,s3,rfl⟩: ∃a b c d,s=[a,b,c,d]:=by
  match s,hs with
  | [a,b,c,d],_=>exact⟨a,b,c,d,rfl⟩
 unfold F132;refine Ret.lbox st fun h1 x1 st1=>?_;refine Ret.lalloc st1 zc212 fun h2 x2 st2=>?_;have l1:xLd (.pointer (some ⟨bm,0,none⟩)) h2=some sv:=st2.ldB mk.main rfl;have la:xLdA 4 (.pointer (some ⟨x1,1,none⟩)) h2=some (.agg ⟨[.int .u64 s0,.int .u64 s1,.int .u64 s2,.int .u64 s3]⟩):=st2.ldA (.tail _ (.head _)) rfl (by simp[cellsL,u64s]);simp only[xNil_p,vb_some,xFld_p,Nat.zero_add,l1,mk.sets.len,la];refine Ret.lbs st2 bs88 fun h3 x3 st3=>?_;rw[ai88];have hx:=st3.ptail (n:=1) (sz:=4) (c:=1) (.head _) rfl;refine Ret.lappB st3 mk.sets hx rfl (by omega) rfl (by
                             have:2*(sets.length+1)+512<=3000000:=by omega
                             exact Nat.le_trans (Nat.mul_le_mul_right 32 this) (by decide)) fun h4 m4 sv' st4 gr=>?_
 have hmain:=(gr.keep _ _ mk.main (fun e=>(mk.sd _ e).1 rfl)).1;refine Ret.lst1B st4 hmain rfl (by simp) gr.gs.one fun h5 st5=>?_;have mk5:=mk.more (s:=[s0,s1,s2,s3]) gr;have st5:Sl h0 h5 S (m4.upd bm (.row .own 1 [sv',fv,.int .i64 N])) ((x3,.row .own 4 [.int .u64 s0,.int .u64 s1,.int .u64 s2,.int .u64 s3])::(x2,.row .own 1 [.bool false,nils,nils])::(x1,.row .own 1 (cellsL (.agg ⟨.int .i64 op::(u64s [s0,s1,s2,s3]++[kv])⟩)))::rows):=st5;have:=st5.ok;have hv:=vall_m (S:=S) (st5.base mk5.main);have hc:=c133 (n:=n) (cl:=cl) (h:=h5.fzn) (k:=0) st5.fz hv hN;refine Ret.lfcall st5 hc fun v6 h6 rows1 ⟨b1,b2,hr,hv6⟩ st6=>?_;subst hr;subst hv6;refine Ret.lalloc st6 zc212 fun h7 x7 st7=>?_;refine Ret.lstA st7 0 rfl rfl rfl (by simp) rfl fun h8 st8=>?_;have st8:Sl h0 h8 S (m4.upd bm (.row .own 1 [sv',fv,.int .i64 N])) ((x7,.row .own 1 [.bool true,.slice (some ⟨b1,0,none⟩) N N,.slice (some ⟨b2,0,none⟩) N N])::(b2,.row .own 1 (fl N fun _=>false))::(b1,.row .own 1 (fl N fun _=>false))::(x3,.row .own 4 [.int .u64 s0,.int .u64 s1,.int .u64 s2,.int .u64 s3])::(x2,.row .own 1 [.bool false,nils,nils])::(x1,.row .own 1 (cellsL (.agg ⟨.int .i64 op::(u64s [s0,s1,s2,s3]++[kv])⟩)))::rows):=st8;have m1:xLd (.pointer (some ⟨x7,1,none⟩)) h8=some (.slice (some ⟨b1,0,none⟩) N N):=st8.ld (.head _) rfl;have m2:xLd (.pointer (some ⟨x7,2,none⟩)) h8=some (.slice (some ⟨b2,0,none⟩) N N):=st8.ld (.head _) rfl;simp only[xFld_p,Nat.zero_add,m1,m2,vb_some];refine Ret.lst1 st8 0 rfl rfl (by simp) rfl fun h9 st9=>?_;have i1:=xIdxS_at (sz:=1) (b:=b1) (o:=0) (n:=N) (c:=N) (k:=.i64) (i:=(sets.length:Int)) (by omega) (by omega);have i2:=xIdxS_at (sz:=1) (b:=b2) (o:=0) (n:=N) (c:=N) (k:=.i64) (i:=(sets.length:Int)) (by omega) (by omega);simp only[Int.toNat_natCast,Nat.mul_one,Nat.zero_add]at i1 i2;simp only[i1,vb_some];refine Ret.lst1 st9 2 rfl rfl (by simpa using hi) rfl fun h10 st10=>?_;simp only[i2,vb_some];refine Ret.lst1 st10 1 rfl rfl (by simpa using hi) rfl fun h11 st11=>?_;have st11:Sl h0 h11 S (m4.upd bm (.row .own 1 [sv',fv,.int .i64 N])) ((x7,.row .own 1 [.bool false,.slice (some ⟨b1,0,none⟩) N N,.slice (some ⟨b2,0,none⟩) N N])::(b2,.row .own 1 ((fl N fun _=>false).set sets.length (.bool true)))::(b1,.row .own 1 ((fl N fun _=>false).set sets.length (.bool true)))::(x3,.row .own 4 [.int .u64 s0,.int .u64 s1,.int .u64 s2,.int .u64 s3])::(x2,.row .own 1 [.bool false,nils,nils])::(x1,.row .own 1 (cellsL (.agg ⟨.int .i64 op::(u64s [s0,s1,s2,s3]++[kv])⟩)))::rows):=st11;have lb:xLdA 3 (.pointer (some ⟨x7,0,none⟩)) h11=some (.agg ⟨[.bool false,.slice (some ⟨b1,0,none⟩) N N,.slice (some ⟨b2,0,none⟩) N N]⟩):=st11.ldA (.head _) rfl (by simp);simp only[lb,vb_some];refine Ret.lstA st11 4 rfl rfl rfl (by simp) rfl fun h12 st12=>?_;have lc:xLdA 3 (.pointer (some ⟨x2,0,none⟩)) h12=some (.agg ⟨[.bool false,.slice (some ⟨b1,0,none⟩) N N,.slice (some ⟨b2,0,none⟩) N N]⟩):=st12.ldA (.tail _ (.tail _ (.tail _ (.tail _ (.head _))))) rfl (by simp[setsL]);simp only[lc,vb_some];have hb12:b2≠b1:=by
  have:=st8.nd;rw[List.pairwise_cons,List.pairwise_cons]at this;exact this.2.1 _ (.head _)
 have hfl:(fl N fun _=>false).set sets.length (.bool true)=fl N fun i=>decide (i=sets.length):=by
  rw[fl_set];exact fl_congr fun i hi=>by by_cases e:i=sets.length<;>simp[e]
 rw[hfl]at st12;refine Ret.of ⟨_,[(b2,.row .own 1 (fl N (Pt.one sets.length).lst)),(b1,.row .own 1 (fl N (Pt.one sets.length).fst))],b1,b2,sv',st12.drop ?_,mk5,⟨⟨N,N,rfl⟩,⟨_,_,.tail _ (.head _)⟩,⟨_,_,.head _⟩,fun e=>hb12 e.symm⟩⟩;exact .cons _ (.cons_cons _ (.cons_cons _ (.cons _ (.cons _ (.cons _ (List.Sublist.refl _))))))
end
theorem ai49:appInfo Tryz.prog #[49,49]=some (1,8):=by kernel_rfl
theorem bs49{a:Int}:bsRow Tryz.prog 49 1 [(0,.int .i64 a)]=some (1,[.int .i64 a]):=by kernel_rfl
def ns(l:List Nat):List Value:=l.map fun i=>.int .i64 (i:Nat)
section
variable {n:Nat}{cl:CL}{h h0:PH}{S:Vw}{m:OM}{rows:Rws}
theorem srt_next{N i:Nat}{P:Nat->Bool}:(List.range (i+1)).filter P=(List.range i).filter P++(if P i=true then [i]else []):=by
 rw[List.range_succ,List.filter_append]
 congr 1
 by_cases h:P i=true<;>simp[h]
theorem loop113{N b c:Nat}{P:Nat->Bool}(hb:S b=some (fl N P))(hN:N<1000000):
  ∀(k q i:Nat)(ex:Rws)(v:Value)(h:PH),N-i<=k->k<q->i<=N->Sl h0 h S OM.emp (ex++[])->Gl 1 v (srt i P).length (ns (srt i P)) ex->
  Ret (lp q (F113_5 n cl) [v,.slice (some ⟨b,0,none⟩) N c,.int .i64 N,.int .i64 i] h) fun v h'=> ∃rows1,Sl h0 h' S OM.emp rows1/\Gl 1 v (srt N P).length (ns (srt N P)) rows1:=by
 intro k
 induction k with
 |zero=>
  intro q i ex v h h1 h2 h3 st g;obtain⟨q,rfl⟩: ∃r,q=r+1:=⟨q-1,by omega⟩;have hi:i=N:=by omega
  subst hi;rw[lp_succ];have hc0:decide ((i:Int)<(i:Int))=false:=by simp
  simp only[F113_5,F113_4,ucons_cons,xLt_i,vb_some,hc0,bite_f];rw[List.append_nil]at st;exact Ret.of ⟨ex,st,g⟩
 |succ k ih=>
  intro q i ex v h h1 h2 h3 st g
  by_cases hi:i<N
  ·obtain⟨q,rfl⟩: ∃r,q=r+1:=⟨q-1,by omega⟩;rw[lp_succ];generalize hL:lp q (F113_5 n cl)=LL;have hc1:decide ((i:Int)<(N:Int))=true:=by simp;omega
   have i1:=xIdxS_at (sz:=1) (b:=b) (o:=0) (n:=N) (c:=c) (k:=.i64) (i:=(i:Int)) (by omega) (by omega);simp only[Int.toNat_natCast,Nat.mul_one,Nat.zero_add]at i1;have l1:xLd (.pointer (some ⟨b,i,none⟩)) h=some (.bool (P i)):=st.ldS hb (fl_get hi);have hw2:IntKind.i64.wrap ((i:Int)+((1:Nat):Int))=((i+1:Nat):Int):=by rw[wrap_in (by omega) (by omega)];omega
   have hlen:(srt i P).length<=1000000:=by
    have:=List.length_filter_le P (List.range i);rw[List.length_range]at this;unfold srt;omega
   simp only[F113_5,F113_4,F113_3,ucons_cons,xLt_i,vb_some,hc1,bite_t,jn_eq,i1,l1];have hs:srt (i+1) P=srt i P++(if P i=true then [i]else []):=srt_next (N:=N);cases hP:P i with
   |false=>
    simp only[bite_f,F113_2,F113_0,ucons_cons,vN_eq,xAdd_i,vb_some,hw2];rw[hP]at hs;have:=ih q (i+1) ex v h (by omega) (by omega) (by omega) st (by rw[hs];simpa using g);rw[hL]at this;exact this
   |true=>
    rw[hP]at hs;simp only[bite_t,F113_1];refine Ret.gapp st g bs49 ai49 rfl rfl (sz_le hlen (by decide)) fun h' v' ex' st' g'=>?_;simp only[F113_2,F113_0,ucons_cons,vN_eq,xAdd_i,vb_some,hw2];have:=ih q (i+1) ex' v' h' (by omega) (by omega) (by omega) st' (by rw[hs];simpa[ns]using g');rw[hL]at this;exact this
  ·exact ih q i ex v h (by omega) (by omega) h3 st g
theorem c113[OkH h](hn:4611686018427387904<=n)(hS:Vw.le S h.cells){N b c:Nat}{P:Nat->Bool}(hb:S b=some (fl N P))(hN:N<1000000):
  Fr h S (F113 n cl (.slice (some ⟨b,0,none⟩) N c) h) fun v rows1=>Gl 1 v (srt N P).length (ns (srt N P)) rows1:=by
 unfold Fr F113;simp only[xLenS_s,vb_some,vN_eq];exact loop113 hb hN N n 0 [] nils h (by omega) (by omega) (by omega) (Sl.start h hS) (by simpa[srt,ns]using Gl.nil)
theorem PartV.mono{rows rows':Rws}{N b1 b2:Nat}{p:Pt}{v:Value}(hv:PartV rows N p b1 b2 v)(hs: ∀q∈rows,q∈rows'):PartV rows' N p b1 b2 v:=
 ⟨hv.c1,let⟨a,b,c⟩:=hv.r1;⟨a,b,hs _ c⟩,let⟨a,b,c⟩:=hv.r2;⟨a,b,hs _ c⟩,hv.ne⟩
theorem PartV.cells{rows:Rws}{N b1 b2:Nat}{p:Pt}{v:Value}(hv:PartV rows N p b1 b2 v): ∃pc c1 c2,v= .agg ⟨pc⟩/\pc=[.bool p.null,.slice (some ⟨b1,0,none⟩) N c1,.slice (some ⟨b2,0,none⟩) N c2]:=by
 obtain⟨c1,c2,rfl⟩:=hv.c1;exact⟨_,_,_,rfl,rfl⟩
theorem Pt.cat_unit(b:Nat)(p:Pt):(Pt.unit b).cat p=p:=by
 cases p;simp[Pt.unit,Pt.cat]
theorem Pt.zero_alt(b:Nat)(p:Pt):(Pt.zero b).alt p=p:=by
 cases p;simp[Pt.zero,Pt.alt]
def evFold(op:Int)(ks:List Re)(a:Pt):Pt:=if op=2 then evCat ks a else evAlt ks a
theorem LV112{n d:Nat}{a b:Value}{h:PH}:LV n (d+1) 112 [a,b] h=F112 n (LV n d) a b h:=rfl
def Q51(h0:PH)(S:Vw)(rows:Rws)(bm:Nat)(fs:Nat->Nat)(N:Nat)(fv:Value)(sets:List (List Int))(F:Nat->Nat->Bool)(p:Pt)(v:Value)(h':PH):Prop:=
 ∃m' new b1 b2 sv',Sl h0 h' S m' (new++rows)/\Mk S m' bm fs N sv' fv sets (fun i j=>F i j||p.fol i j)/\PartV new N p b1 b2 v
theorem end112{N bm x1 x2 x18 b1 b2:Nat}{fs:Nat->Nat}{sv fv:Value}{sets:List (List Int)}{F0:Nat->Nat->Bool}{p:Pt}{pc c2 es:List Value}{new:Rws}{op:Int}{s:List Value}{kv:Value}(hn:4611686018427387904<=n)(hN:N<1000000)(h2l:c2.length=3)(hes:es= .int .i64 op::s)
  (st:Sl h0 h S m ((x18,.row .own 1 pc)::(new++((x2,.row .own 1 c2)::(x1,.row .own 1 es)::rows)))) (mk:Mk S m bm fs N sv fv sets (fun i j=>F0 i j||p.fol i j)) (hp:PartV new N p b1 b2 (.agg ⟨pc⟩)):
  Ret (F112_10 n cl (.pointer (some ⟨x1,0,none⟩)) (.pointer (some ⟨x18,0,none⟩)) (.pointer (some ⟨bm,0,none⟩)) (.pointer (some ⟨x2,0,none⟩)) h (F112_9 n cl)) (Q51 h0 S rows bm fs N fv sets F0 (if 4<=op/\op<=6 then p.rep op else p)):=by
 obtain⟨_,k1,k2,e,rfl⟩:=hp.cells;cases e;obtain⟨md1,e1,r1⟩:=hp.r1;obtain⟨md2,e2,r2⟩:=hp.r2;subst hes;have in1:(x1,AObj.row .own 1 (.int .i64 op::s))∈(x18,.row .own 1 [.bool p.null,.slice (some ⟨b1,0,none⟩) N k1,.slice (some ⟨b2,0,none⟩) N k2])::(new++((x2,.row .own 1 c2)::(x1,AObj.row .own 1 (.int .i64 op::s))::rows)):=.tail _ (List.mem_append_right _ (.tail _ (.head _)));have a1:xLd (.pointer (some ⟨x1,0,none⟩)) h=some (.int .i64 op):=st.ld in1 rfl;have fin: ∀(m':OM)(h':PH)(G:Nat->Nat->Bool),Sl h0 h' S m' ((x18,.row .own 1 [.bool p.null,.slice (some ⟨b1,0,none⟩) N k1,.slice (some ⟨b2,0,none⟩) N k2])::(new++((x2,.row .own 1 c2)::(x1,AObj.row .own 1 (.int .i64 op::s))::rows)))->Mk S m' bm fs N sv fv sets (fun i j=>F0 i j||G i j)->(∀i j,G i j=(if 4<=op/\op<=6 then p.rep op else p).fol i j)->
   Ret (F112_7 n cl (.pointer (some ⟨x18,0,none⟩)) (.pointer (some ⟨x1,0,none⟩)) (.pointer (some ⟨x2,0,none⟩)) h') (Q51 h0 S rows bm fs N fv sets F0 (if 4<=op/\op<=6 then p.rep op else p)):=by
  intro m' h' G st mk hG;have a1:xLd (.pointer (some ⟨x1,0,none⟩)) h'=some (.int .i64 op):=st.ld in1 rfl;have a2:xLd (.pointer (some ⟨x18,0,none⟩)) h'=some (.bool p.null):=st.ld (.head _) rfl;have g1: ∀(b:Bool),gd (!b) (xLd (if(!b)=true then .pointer (some ⟨x1,0,none⟩)else undef) h')=some (if b=true then undef else .int .i64 op):=by
   intro b;cases b with
   |true=>rfl
   |false=>simp[a1]
  have g2: ∀(b:Bool)(z:Int),gd (!b) (xCmp ieq (if b=true then undef else .int .i64 op) (.int .i64 z))=some (if b=true then undef else .bool (decide (op=z))):=by
   intro b z;cases b with
   |true=>rfl
   |false=>simp
  have g3: ∀(b:Bool)(z:Int),xPick (.bool b) tt (if b=true then undef else .bool (decide (op=z)))=some (.bool (b||decide (op=z))):=by
   intro b z;cases b<;>rfl
  simp only[F112_7,xFld_p,Nat.zero_add,vb_some,a2,isB_f,gd_some',g1,vN_eq,g2,g3];refine Ret.lst1 st 0 rfl rfl (by simp) rfl fun h2 st2=>?_;have st2:Sl h0 h2 S m' ((x18,.row .own 1 [.bool ((p.null||decide (op=((4:Nat):Int)))||decide (op=((6:Nat):Int))),.slice (some ⟨b1,0,none⟩) N k1,.slice (some ⟨b2,0,none⟩) N k2])::(new++((x2,.row .own 1 c2)::(x1,AObj.row .own 1 (.int .i64 op::s))::rows))):=st2;have la:xLdA 3 (.pointer (some ⟨x18,0,none⟩)) h2=some (.agg ⟨[.bool ((p.null||decide (op=((4:Nat):Int)))||decide (op=((6:Nat):Int))),.slice (some ⟨b1,0,none⟩) N k1,.slice (some ⟨b2,0,none⟩) N k2]⟩):=st2.ldA (.head _) rfl (by simp);simp only[la,vb_some];have st3:=(st2.drop (List.sublist_cons_self _ _)).perm (rows':=(x2,.row .own 1 c2)::(new++((x1,AObj.row .own 1 (.int .i64 op::s))::rows))) List.perm_middle;refine Ret.lstA st3 0 rfl rfl rfl (by rw[h2l];decide) rfl fun h4 st4=>?_;rw[setsL_all (by rw[h2l];rfl)]at st4;have lb:xLdA 3 (.pointer (some ⟨x2,0,none⟩)) h4=some (.agg ⟨[.bool ((p.null||decide (op=((4:Nat):Int)))||decide (op=((6:Nat):Int))),.slice (some ⟨b1,0,none⟩) N k1,.slice (some ⟨b2,0,none⟩) N k2]⟩):=st4.ldA (.head _) rfl (by simp);simp only[lb,vb_some];have hnull:((p.null||decide (op=((4:Nat):Int)))||decide (op=((6:Nat):Int)))=(if 4<=op/\op<=6 then p.rep op else p).null:=by
   by_cases h4:4<=op/\op<=6
   ·rw[if_pos h4]
    show _=(if op=5 then p.null else true)
    by_cases h5:op=5
    ·subst h5;simp
    ·rw[if_neg h5];have:op=4\/op=6:=by omega
     rcases this with e|e<;>subst e<;>simp
   ·rw[if_neg h4];have e4: ¬ op=((4:Nat):Int):=by omega
    have e6: ¬ op=((6:Nat):Int):=by omega
    simp only[e4,e6,decide_false,Bool.or_false]
  have hfst:(if 4<=op/\op<=6 then p.rep op else p).fst=p.fst:=by split<;>rfl
  have hlst:(if 4<=op/\op<=6 then p.rep op else p).lst=p.lst:=by split<;>rfl
  refine Ret.of ⟨m',new,b1,b2,sv,st4.drop (.cons _ (List.Sublist.append (List.Sublist.refl _) (List.sublist_cons_self _ _))),mk.congr fun i _ j _=>by rw[hG],⟨⟨k1,k2,by rw[hnull]⟩,⟨md1,e1,by rw[hfst];exact r1⟩,⟨md2,e2,by rw[hlst];exact r2⟩,hp.ne⟩⟩
 have fld: ∀i:Nat,xLd (.pointer (some ⟨x18,i,none⟩)) h=[Value.bool p.null,.slice (some ⟨b1,0,none⟩) N k1,.slice (some ⟨b2,0,none⟩) N k2][i]?\/3<=i:=by
  intro i
  by_cases hi:i<3
  ·left
   rw[List.getElem?_eq_getElem (by simpa using hi)];exact st.ld (.head _) (List.getElem?_eq_getElem (by simpa using hi))
  ·right;omega
 have f1:xLd (.pointer (some ⟨x18,1,none⟩)) h=some (.slice (some ⟨b1,0,none⟩) N k1):=st.ld (.head _) rfl;have f2:xLd (.pointer (some ⟨x18,2,none⟩)) h=some (.slice (some ⟨b2,0,none⟩) N k2):=st.ld (.head _) rfl;have g1:gd (!decide (op=((4:Nat):Int))) (xLd (if(!decide (op=((4:Nat):Int)))=true then .pointer (some ⟨x1,0,none⟩)else undef) h)=some (if decide (op=((4:Nat):Int))=true then undef else .int .i64 op):=by
  cases decide (op=((4:Nat):Int))with
  |true=>rfl
  |false=>simp[a1]
 have g2:gd (!decide (op=((4:Nat):Int))) (xCmp ieq (if decide (op=((4:Nat):Int))=true then undef else .int .i64 op) (.int .i64 ((5:Nat):Int)))=some (if decide (op=((4:Nat):Int))=true then undef else .bool (decide (op=((5:Nat):Int)))):=by
  cases decide (op=((4:Nat):Int))with
  |true=>rfl
  |false=>simp
 have g3:xPick (.bool (decide (op=((4:Nat):Int)))) tt (if decide (op=((4:Nat):Int))=true then undef else .bool (decide (op=((5:Nat):Int))))=some (.bool (decide (op=((4:Nat):Int))||decide (op=((5:Nat):Int)))):=by
  cases decide (op=((4:Nat):Int))<;>rfl
 simp only[F112_10,xFld_p,Nat.zero_add,vb_some,a1,vN_eq,xEq_i,isB_f,gd_some',g1,g2,g3]
 by_cases h45:op=4\/op=5
 ·have e:(decide (op=((4:Nat):Int))||decide (op=((5:Nat):Int)))=true:=by
   rcases h45 with e|e<;>subst e<;>simp
  rw[e];simp only[bite_t,F112_8,xFld_p,Nat.zero_add,vb_some,f1,f2];refine Ret.hb (c136 hn hN st (.tail _ (List.mem_append_left _ r2)) (.tail _ (List.mem_append_left _ r1)) mk) fun v4 h4 ⟨m4,st4,mk4⟩=>?_;simp only[F112_9,ucons_cons];refine fin m4 h4 (fun i j=>p.fol i j||(p.lst i&&p.fst j)) st4 (mk4.congr fun i _ j _=>by simp[Bool.or_assoc]) fun i j=>?_;rw[if_pos (by omega)]
  show _=(p.fol i j||(decide (op≠6)&&(p.lst i&&p.fst j)))
  have:decide (op≠6)=true:=by simp;omega
  rw[this];simp
 ·have e:(decide (op=((4:Nat):Int))||decide (op=((5:Nat):Int)))=false:=by
   have e4: ¬ op=((4:Nat):Int):=by omega
   have e5: ¬ op=((5:Nat):Int):=by omega
   simp only[e4,e5,decide_false,Bool.or_false]
  rw[e];simp only[bite_f,F112_9,ucons_cons];refine fin m h p.fol st mk fun i j=>?_
  split
  ·show _=(p.fol i j||(decide (op≠6)&&(p.lst i&&p.fst j)))
   have:decide (op≠6)=false:=by simp;omega
   rw[this];simp
  ·rfl
end
theorem Re.ev_mk(op:Int)(s:List Int)(ks:List Re)(b:Nat):(Re.mk op s ks).ev b=if op=1 then Pt.one b else if op=2 then evCat ks (Pt.unit b)else if op=3 then(if ks.isEmpty then Pt.unit b else evAlt ks (Pt.zero b))else if 4<=op/\op<=6 then evOne op ks b else Pt.unit b:=by rw[Re.ev]
theorem fold_ev{op:Int}{s:List Int}{ks R:List Re}{x0:Re}{b:Nat}(h1: ¬ op=1)(hlk:looked op ks=x0::R):(if 4<=op/\op<=6 then(evFold op R (x0.ev b)).rep op else evFold op R (x0.ev b))=(Re.mk op s ks).ev b:=by
 rw[Re.ev_mk];unfold looked at hlk;rw[if_neg h1]
 by_cases h2:op=2
 ·rw[if_pos (.inl h2)]at hlk;subst hlk;rw[if_neg (by omega),if_pos h2];unfold evFold;rw[if_pos h2]
  show _=evCat R ((Pt.unit b).cat (x0.ev (Pt.unit b).cnt))
  rw[Pt.cat_unit];rfl
 ·by_cases h3:op=3
  ·rw[if_pos (.inr h3)]at hlk;subst hlk;rw[if_neg (by omega),if_neg h2,if_pos h3];unfold evFold;rw[if_neg h2]
   show _=evAlt R ((Pt.zero b).alt (x0.ev (Pt.zero b).cnt))
   rw[Pt.zero_alt];rfl
  ·rw[if_neg (by omega)]at hlk
   by_cases h4:4<=op/\op<=6
   ·rw[if_pos h4]at hlk ⊢;rw[if_neg h2,if_neg h3,if_pos h4];cases ks with
    |nil=>simp at hlk
    |cons k ks'=>
     simp at hlk;obtain⟨rfl,rfl⟩:=hlk;unfold evFold;rw[if_neg h2]
     rfl
   ·rw[if_neg h4]at hlk;cases hlk
section
variable {n:Nat}{cl:CL}{h h0:PH}{S:Vw}{m:OM}{rows:Rws}
theorem loop112{N bm x1 x2 x18:Nat}{fs:Nat->Nat}{fv kv:Value}{F0:Nat->Nat->Bool}{c2 es:List Value}{op:Int}{tl:List Value}{R:List Re}{Q:Value->PH->Prop}(hn:4611686018427387904<=n)(hN:N<1000000)(hR:R.length<4611686018427387904)(hes:es= .int .i64 op::tl)(hk:KidsV S R kv){pE:Pt}{sE:List (List Int)}(hE:sE.length<=N)
  (ih: ∀x∈R, ∀(h:PH)(m:OM)(rows:Rws)(sv:Value)(sets:List (List Int))(F:Nat->Nat->Bool)(es:List Value),Sl h0 h S m rows->Mk S m bm fs N sv fv sets F->sets.length+x.sets.length<=N->ReE S x es->Ret (cl 112 [.pointer (some ⟨bm,0,none⟩),.agg ⟨es⟩] h) fun v h'=> ∃m' new b1 b2 sv',Sl h0 h' S m' (new++rows)/\Mk S m' bm fs N sv' fv (sets++x.sets) (fun i j=>F i j||(x.ev sets.length).fol i j)/\PartV new N (x.ev sets.length) b1 b2 v)
  (fin: ∀(m:OM)(h:PH)(pc:List Value)(new:Rws)(b1 b2:Nat)(sv:Value),Sl h0 h S m ((x18,.row .own 1 pc)::(new++((x2,.row .own 1 c2)::(x1,.row .own 1 es)::rows)))->Mk S m bm fs N sv fv sE (fun i j=>F0 i j||pE.fol i j)->PartV new N pE b1 b2 (.agg ⟨pc⟩)->
   Ret (F112_10 n cl (.pointer (some ⟨x1,0,none⟩)) (.pointer (some ⟨x18,0,none⟩)) (.pointer (some ⟨bm,0,none⟩)) (.pointer (some ⟨x2,0,none⟩)) h (F112_9 n cl)) Q):
  ∀(k q i:Nat)(m:OM)(h:PH)(p:Pt)(pc:List Value)(new:Rws)(b1 b2:Nat)(sv:Value)(sets:List (List Int)),R.length-i<=k->k<q->i<=R.length->pE=evFold op (R.drop i) p->sE=sets++reSets (R.drop i)->p.cnt=sets.length->
   Sl h0 h S m ((x18,.row .own 1 pc)::(new++((x2,.row .own 1 c2)::(x1,.row .own 1 es)::rows)))->Mk S m bm fs N sv fv sets (fun i j=>F0 i j||p.fol i j)->PartV new N p b1 b2 (.agg ⟨pc⟩)->
   Ret (lp q (F112_12 n cl) [.pointer (some ⟨bm,0,none⟩),.pointer (some ⟨x1,0,none⟩),.pointer (some ⟨x2,0,none⟩),.pointer (some ⟨x18,0,none⟩),kv,.int .i64 R.length,.int .i64 i] h) Q:=by
 intro k
 induction k with
 |zero=>
  intro q i m h p pc new b1 b2 sv sets h1 h2 h3 hp hs hcnt st mk hpv;obtain⟨q,rfl⟩: ∃r,q=r+1:=⟨q-1,by omega⟩;have hi:i=R.length:=by omega
  subst hi;rw[List.drop_length]at hp hs;have hp:pE=p:=by rw[hp];unfold evFold;split<;>rfl
  have hs:sE=sets:=by rw[hs];simp[reSets]
  subst hp;subst hs;rw[lp_succ];have hc0:decide ((R.length:Int)<(R.length:Int))=false:=by simp
  simp only[F112_12,F112_11,ucons_cons,xLt_i,vb_some,hc0,bite_f,jn_eq];exact fin m h pc new b1 b2 sv st mk hpv
 |succ k ihk=>
  intro q i m h p pc new b1 b2 sv sets h1 h2 h3 hp hs hcnt st mk hpv
  by_cases hi:i<R.length
  ·obtain⟨q,rfl⟩: ∃r,q=r+1:=⟨q-1,by omega⟩;rw[lp_succ];generalize hL:lp q (F112_12 n cl)=LL;have hx:=List.getElem?_eq_getElem hi;have hd:R.drop i=R[i]::R.drop (i+1):=List.drop_eq_getElem_cons hi;generalize R[i]=x at hx hd;have hmem:=List.mem_of_getElem? hx;obtain⟨b,o,cs,xs,e1,e2,e3,e4,e5⟩:=hk.at hx;have ld:=st.ldSA e2 e3 e4;have hxs:=e5.len;rw[hd]at hp hs;have hs':sE=(sets++x.sets)++reSets (R.drop (i+1)):=by rw[hs];simp[reSets]
   have hlen:sets.length+x.sets.length<=N:=by
    rw[hs']at hE;simp only[List.length_append]at hE;omega
   have hc1:decide ((i:Int)<(R.length:Int))=true:=by simp;omega
   have hw2:IntKind.i64.wrap ((i:Int)+((1:Nat):Int))=((i+1:Nat):Int):=by rw[wrap_in (by omega) (by omega)];omega
   simp only[F112_12,F112_11,F112_6,ucons_cons,xLt_i,vb_some,hc1,bite_t,jn_eq,e1,ld];refine Ret.lalloc st zc85 fun h2 x57 st2=>?_;refine Ret.lstA st2 0 rfl rfl hxs (by rw[Nat.zero_add];exact Nat.le_refl _) e5.one fun h3 st3=>?_;rw[setsL_all hxs]at st3;have la:xLdA 6 (.pointer (some ⟨x57,0,none⟩)) h3=some (.agg ⟨xs⟩):=st3.ldA (.head _) (by rw[List.drop_zero, <-hxs,List.take_length]) (by omega);simp only[la,vb_some];refine Ret.hb (ih x hmem h3 m _ sv sets _ xs st3 mk hlen e5) fun v4 h4 ⟨m4,new2,d1,d2,sv',st4,mk4,hpv4⟩=>?_;refine Ret.lalloc st4 zc212 fun h5 x60 st5=>?_;obtain⟨pc2,k1,k2,rfl,rfl⟩:=hpv4.cells;refine Ret.lstA st5 0 rfl rfl rfl (by simp) rfl fun h6 st6=>?_;have st6:Sl h0 h6 S m4 ((x60,.row .own 1 [.bool (x.ev sets.length).null,.slice (some ⟨d1,0,none⟩) N k1,.slice (some ⟨d2,0,none⟩) N k2])::(new2++((x57,.row .own 1 xs)::(x18,.row .own 1 pc)::(new++((x2,.row .own 1 c2)::(x1,.row .own 1 es)::rows))))):=st6;have inx:(x18,AObj.row .own 1 pc)∈(x60,AObj.row .own 1 [.bool (x.ev sets.length).null,.slice (some ⟨d1,0,none⟩) N k1,.slice (some ⟨d2,0,none⟩) N k2])::(new2++((x57,.row .own 1 xs)::(x18,.row .own 1 pc)::(new++((x2,.row .own 1 c2)::(x1,.row .own 1 es)::rows)))):=.tail _ (List.mem_append_right _ (.tail _ (.head _)));have in1:(x1,AObj.row .own 1 es)∈(x60,AObj.row .own 1 [.bool (x.ev sets.length).null,.slice (some ⟨d1,0,none⟩) N k1,.slice (some ⟨d2,0,none⟩) N k2])::(new2++((x57,.row .own 1 xs)::(x18,.row .own 1 pc)::(new++((x2,.row .own 1 c2)::(x1,.row .own 1 es)::rows)))):=.tail _ (List.mem_append_right _ (.tail _ (.tail _ (List.mem_append_right _ (.tail _ (.head _))))));have a1:xLd (.pointer (some ⟨x1,0,none⟩)) h6=some (.int .i64 op):=st6.ld in1 (by rw[hes];rfl);obtain⟨_,j1,j2,e,rfl⟩:=hpv.cells;cases e;have lp1:xLdA 3 (.pointer (some ⟨x18,0,none⟩)) h6=some (.agg ⟨[.bool p.null,.slice (some ⟨b1,0,none⟩) N j1,.slice (some ⟨b2,0,none⟩) N j2]⟩):=st6.ldA inx rfl (by simp);have lp2:xLdA 3 (.pointer (some ⟨x60,0,none⟩)) h6=some (.agg ⟨[.bool (x.ev sets.length).null,.slice (some ⟨d1,0,none⟩) N k1,.slice (some ⟨d2,0,none⟩) N k2]⟩):=st6.ldA (.head _) rfl (by simp);have pva:=hpv.mono (rows':=(x60,AObj.row .own 1 [.bool (x.ev sets.length).null,.slice (some ⟨d1,0,none⟩) N k1,.slice (some ⟨d2,0,none⟩) N k2])::(new2++((x57,.row .own 1 xs)::(x18,.row .own 1 [.bool p.null,.slice (some ⟨b1,0,none⟩) N j1,.slice (some ⟨b2,0,none⟩) N j2])::(new++((x2,.row .own 1 c2)::(x1,.row .own 1 es)::rows))))) fun q hq=>.tail _ (List.mem_append_right _ (.tail _ (.tail _ (List.mem_append_left _ hq))));have pvb:=hpv4.mono (rows':=(x60,AObj.row .own 1 [.bool (x.ev sets.length).null,.slice (some ⟨d1,0,none⟩) N k1,.slice (some ⟨d2,0,none⟩) N k2])::(new2++((x57,.row .own 1 xs)::(x18,.row .own 1 [.bool p.null,.slice (some ⟨b1,0,none⟩) N j1,.slice (some ⟨b2,0,none⟩) N j2])::(new++((x2,.row .own 1 c2)::(x1,.row .own 1 es)::rows))))) fun q hq=>.tail _ (List.mem_append_left _ hq);have next: ∀(p':Pt)(m7:OM)(h7:PH)(new3:Rws)(g1 g2:Nat)(v7:Value),Sl h0 h7 S m7 (new3++((x60,AObj.row .own 1 [.bool (x.ev sets.length).null,.slice (some ⟨d1,0,none⟩) N k1,.slice (some ⟨d2,0,none⟩) N k2])::(new2++((x57,.row .own 1 xs)::(x18,.row .own 1 [.bool p.null,.slice (some ⟨b1,0,none⟩) N j1,.slice (some ⟨b2,0,none⟩) N j2])::(new++((x2,.row .own 1 c2)::(x1,.row .own 1 es)::rows))))))->Mk S m7 bm fs N sv' fv (sets++x.sets) (fun i j=>F0 i j||p'.fol i j)->PartV new3 N p' g1 g2 v7->pE=evFold op (R.drop (i+1)) p'->p'.cnt=(sets++x.sets).length->
     Ret (Go.Am.hb (xStA 3 (.pointer (some ⟨x18,0,none⟩)) v7 h7) fun _ h=>F112_5 n cl LL [.pointer (some ⟨bm,0,none⟩),.pointer (some ⟨x1,0,none⟩),.pointer (some ⟨x2,0,none⟩),.pointer (some ⟨x18,0,none⟩),kv,.int .i64 R.length,.int .i64 i] h) Q:=by
    intro p' m7 h7 new3 g1 g2 v7 st7 mk7 hpv7 hpE hcnt';obtain⟨pc7,q1,q2,rfl,rfl⟩:=hpv7.cells;have st8:=st7.drop (rows':=new3++((x18,.row .own 1 [.bool p.null,.slice (some ⟨b1,0,none⟩) N j1,.slice (some ⟨b2,0,none⟩) N j2])::((x2,.row .own 1 c2)::(x1,.row .own 1 es)::rows))) (List.Sublist.append (List.Sublist.refl _) (.cons _ ((List.Sublist.cons _ (List.Sublist.cons_cons _ (List.sublist_append_right new _))).trans (List.sublist_append_right new2 _))));have st9:=st8.perm (rows':=(x18,.row .own 1 [.bool p.null,.slice (some ⟨b1,0,none⟩) N j1,.slice (some ⟨b2,0,none⟩) N j2])::(new3++((x2,.row .own 1 c2)::(x1,.row .own 1 es)::rows))) List.perm_middle;refine Ret.lstA st9 0 rfl rfl rfl (by simp) rfl fun h10 st10=>?_;have st10:Sl h0 h10 S m7 ((x18,.row .own 1 [.bool p'.null,.slice (some ⟨g1,0,none⟩) N q1,.slice (some ⟨g2,0,none⟩) N q2])::(new3++((x2,.row .own 1 c2)::(x1,.row .own 1 es)::rows))):=st10;simp only[F112_5,F112_2,ucons_cons,vN_eq,xAdd_i,vb_some,hw2];have:=ihk q (i+1) m7 h10 p' _ new3 g1 g2 sv' (sets++x.sets) (by omega) (by omega) (by omega) hpE hs' hcnt' st10 mk7 hpv7;rw[hL]at this;exact this
   have hc3:(x.ev p.cnt).cnt=(sets++x.sets).length:=by rw[Re.cnt,hcnt,List.length_append]
   simp only[xFld_p,Nat.zero_add,a1,vN_eq,xEq_i,vb_some]
   by_cases h2:op=2
   ·have hd2:decide (op=((2:Nat):Int))=true:=by simp[h2]
    rw[hd2];simp only[bite_t,F112_3,lp1,lp2,vb_some];refine Ret.hb (c134 hn hN st6 pva pvb mk4) fun v7 h7 ⟨m7,new3,g1,g2,st7,mk7,hpv7⟩=>?_;refine next (p.cat (x.ev sets.length)) m7 h7 new3 g1 g2 v7 st7 (mk7.congr fun a _ b _=>?_) hpv7 ?_ ?_
    ·show(((F0 a b||p.fol a b)||(x.ev sets.length).fol a b)||(p.lst a&&(x.ev sets.length).fst b))=(F0 a b||((p.fol a b||(x.ev sets.length).fol a b)||(p.lst a&&(x.ev sets.length).fst b)))
     simp[Bool.or_assoc]
    ·rw[hp];unfold evFold;rw[if_pos h2,if_pos h2, <-hcnt];rfl
    ·rw[<-hcnt]at*;exact hc3
   ·have hd2:decide (op=((2:Nat):Int))=false:=by simp;omega
    rw[hd2];simp only[bite_f,F112_4,lp1,lp2,vb_some];refine Ret.hb (c135 hn hN st6 pva pvb) fun v7 h7 ⟨new3,g1,g2,st7,hpv7⟩=>?_;refine next (p.alt (x.ev sets.length)) m4 h7 new3 g1 g2 v7 st7 (mk4.congr fun a _ b _=>?_) hpv7 ?_ ?_
    ·show((F0 a b||p.fol a b)||(x.ev sets.length).fol a b)=(F0 a b||(p.fol a b||(x.ev sets.length).fol a b))
     simp[Bool.or_assoc]
    ·rw[hp];unfold evFold;rw[if_neg h2,if_neg h2, <-hcnt];rfl
    ·rw[<-hcnt]at*;exact hc3
  ·exact ihk q i m h p pc new b1 b2 sv sets (by omega) (by omega) h3 hp hs hcnt st mk hpv
theorem c112{N bm:Nat}{fs:Nat->Nat}{fv:Value}(hn:4611686018427387904<=n)(hN:N<1000000): ∀(d:Nat)(x:Re),x.deep<=d->x.size<4611686018427387904-> ∀(h:PH)(m:OM)(rows:Rws)(sv:Value)(sets:List (List Int))(F:Nat->Nat->Bool)(es:List Value),Sl h0 h S m rows->Mk S m bm fs N sv fv sets F->sets.length+x.sets.length<=N->ReE S x es->
  Ret (LV n d 112 [.pointer (some ⟨bm,0,none⟩),.agg ⟨es⟩] h) fun v h'=> ∃m' new b1 b2 sv',Sl h0 h' S m' (new++rows)/\Mk S m' bm fs N sv' fv (sets++x.sets) (fun i j=>F i j||(x.ev sets.length).fol i j)/\PartV new N (x.ev sets.length) b1 b2 v:=by
 intro d
 induction d with
 |zero=>intro x hx;have:=x.deep_pos;omega
 |succ d ihd=>
  intro x hx hsz h m rows sv sets F es st mk hle he;obtain⟨op,s,ks⟩:=x;rw[Re.deep_looked]at hx;obtain⟨kv,rfl,hs,hk⟩:=ReE_mk.1 he;have hes:=he.len;have hone:=he.one;rw[LV112];unfold F112;refine Ret.lbox st fun h1 x1 st1=>?_;refine Ret.lalloc st1 zc212 fun h2 x2 st2=>?_;have st2:Sl h0 h2 S m ((x2,.row .own 1 [.bool false,nils,nils])::(x1,.row .own 1 (.int .i64 op::(u64s s++[kv])))::rows):=st2;have la:xLdA 6 (.pointer (some ⟨x1,0,none⟩)) h2=some (.agg ⟨.int .i64 op::(u64s s++[kv])⟩):=st2.ldA (.tail _ (.head _)) (by rw[List.drop_zero, <-hes];exact List.take_length) (by rw[Nat.zero_add, <-hes];exact Nat.le_refl _);have:=st2.ok;simp only[la,vb_some];refine Ret.lfcall st2 (c131 (h:=h2.fzn) st2.leS hs hk) fun v h3 rows1 ⟨e1,hk'⟩ st3=>?_;subst e1;have st3:Sl h0 h3 S m ((x2,.row .own 1 [.bool false,nils,nils])::(x1,.row .own 1 (.int .i64 op::(u64s s++[kv])))::rows):=st3;have l0:xLd (.pointer (some ⟨x1,0,none⟩)) h3=some (.int .i64 op):=st3.ld (.tail _ (.head _)) rfl;have la3:xLdA 6 (.pointer (some ⟨x1,0,none⟩)) h3=some (.agg ⟨.int .i64 op::(u64s s++[kv])⟩):=st3.ldA (.tail _ (.head _)) (by rw[List.drop_zero, <-hes];exact List.take_length) (by rw[Nat.zero_add, <-hes];exact Nat.le_refl _);simp only[xFld_p,Nat.zero_add,vb_some,l0,vN_eq,xEq_i]
  by_cases h1':op=1
  ·subst h1';have hd:decide ((1:Int)=((1:Nat):Int))=true:=by simp
   have e1:(Re.mk 1 s ks).sets=[s]:=by unfold Re.sets;rw[if_pos rfl]
   have e2:(Re.mk 1 s ks).ev sets.length=Pt.one sets.length:=by unfold Re.ev;rw[if_pos rfl]
   rw[e1]at hle ⊢;rw[e2];simp only[hd,bite_t,F112_0,la3,vb_some];refine Ret.hb (c132 hn hN hs hk.one (by simp at hle;omega) st3 mk) fun v4 h4 ⟨m4,new,b1,b2,sv',st4,mk4,hpv⟩=>?_;obtain⟨pc,q1,q2,rfl,rfl⟩:=hpv.cells;have st5:=st4.perm (rows':=(x2,.row .own 1 [.bool false,nils,nils])::(new++((x1,.row .own 1 (.int .i64 1::(u64s s++[kv])))::rows))) List.perm_middle;refine Ret.lstA st5 0 rfl rfl rfl (by simp[nils]) rfl fun h6 st6=>?_;have st6:Sl h0 h6 S m4 ((x2,.row .own 1 [.bool (Pt.one sets.length).null,.slice (some ⟨b1,0,none⟩) N q1,.slice (some ⟨b2,0,none⟩) N q2])::(new++((x1,.row .own 1 (.int .i64 1::(u64s s++[kv])))::rows))):=st6;have lb:xLdA 3 (.pointer (some ⟨x2,0,none⟩)) h6=some (.agg ⟨[.bool (Pt.one sets.length).null,.slice (some ⟨b1,0,none⟩) N q1,.slice (some ⟨b2,0,none⟩) N q2]⟩):=st6.ldA (.head _) rfl (by simp);simp only[lb,vb_some];exact Ret.of ⟨m4,new,b1,b2,sv',st6.drop (.cons _ (List.Sublist.append (List.Sublist.refl _) (List.sublist_cons_self _ _))),mk4.congr fun i _ j _=>by simp[Pt.one],hpv⟩
  ·have hd:decide (op=((1:Nat):Int))=false:=by simp;exact h1'
   have hsets:(Re.mk op s ks).sets=reSets (looked op ks):=by rw[Re.sets_looked,if_neg h1']
   rw[hsets]at hle ⊢;simp only[hd,bite_f,F112_14,hk'.len,vb_some,xEq_i,vN_eq];cases hlk:looked op ks with
   |nil=>
    rw[hlk]at hk' hle;have hd0:decide ((([]:List Re).length:Int)=((0:Nat):Int))=true:=by simp
    have hev:(Re.mk op s ks).ev sets.length=Pt.unit sets.length:=by
     unfold Re.ev;unfold looked at hlk;rw[if_neg h1']
     by_cases h2:op=2
     ·rw[if_pos (.inl h2)]at hlk;subst hlk;rw[if_pos h2];rfl
     ·by_cases h3:op=3
      ·rw[if_pos (.inr h3)]at hlk;subst hlk;rw[if_neg h2,if_pos h3];rfl
      ·rw[if_neg (by omega)]at hlk;rw[if_neg h2,if_neg h3]
       by_cases h4:4<=op/\op<=6
       ·rw[if_pos h4]at hlk ⊢;cases ks with
        |nil=>rfl
        |cons k ks=>simp at hlk
       ·rw[if_neg h4]
    rw[hev];simp only[hd0,bite_t,F112_1];have hv:=vall_m (S:=S) (st3.base mk.main);have:=st3.ok;have hc:=c133 (n:=n) (cl:=LV n d) (h:=h3.fzn) (k:=0) st3.fz hv hN;refine Ret.lfcall st3 hc fun v6 h6 rows1 ⟨b1,b2,hr,hv6⟩ st6=>?_;subst hr;subst hv6;refine Ret.lstA st6 2 rfl rfl rfl (by simp[nils]) rfl fun h7 st7=>?_;have st7:Sl h0 h7 S m ((b2,.row .own 1 (fl N fun _=>false))::(b1,.row .own 1 (fl N fun _=>false))::(x2,.row .own 1 [.bool true,.slice (some ⟨b1,0,none⟩) N N,.slice (some ⟨b2,0,none⟩) N N])::(x1,.row .own 1 (.int .i64 op::(u64s s++[kv])))::rows):=st7;have lb:xLdA 3 (.pointer (some ⟨x2,0,none⟩)) h7=some (.agg ⟨[.bool true,.slice (some ⟨b1,0,none⟩) N N,.slice (some ⟨b2,0,none⟩) N N]⟩):=st7.ldA (.tail _ (.tail _ (.head _))) rfl (by simp);simp only[lb,vb_some];have hb12:b2≠b1:=by
     have:=st7.nd;rw[List.pairwise_cons]at this;exact this.1 _ (.head _)
    refine Ret.of ⟨m,[(b2,.row .own 1 (fl N (Pt.unit sets.length).lst)),(b1,.row .own 1 (fl N (Pt.unit sets.length).fst))],b1,b2,sv,st7.drop (.cons_cons _ (.cons_cons _ (.cons _ (.cons _ (List.Sublist.refl _))))),?_,⟨⟨N,N,rfl⟩,⟨_,_,.tail _ (.head _)⟩,⟨_,_,.head _⟩,fun e=>hb12 e.symm⟩⟩;have:sets++reSets []=sets:=by simp[reSets]
    rw[this];exact mk.congr fun i _ j _=>by simp[Pt.unit]
   |cons x0 R=>
    rw[hlk]at hk' hle hx;have hd0:decide (((x0::R).length:Int)=((0:Nat):Int))=false:=by simp;omega
    have hmem0: ∀y∈x0::R,y∈ks:=fun y hy=>looked_mem (by rw[hlk];exact hy);have hsz0: ∀y∈x0::R,y.size<4611686018427387904/\y.deep<=d:=fun y hy=>by
     have h1:=sizeL_mem (hmem0 y hy);have h2:=deepL_mem hy;have h3:sizeL ks+1<4611686018427387904:=hsz;omega
    have hRl:R.length<4611686018427387904:=by
     have h3:sizeL ks+1<4611686018427387904:=hsz;have h4:(x0::R).length<=ks.length:=by
      rw[<-hlk];unfold looked
      split
      ·exact Nat.le_refl _
      ·split
       ·exact List.length_take_le' _ _
       ·exact Nat.zero_le _
     have:=sizeL_len ks;simp at h4;omega
    obtain⟨b,o,cs,xs,e1,e2,e3,e4,e5⟩:=hk'.at (i:=0) rfl;have ld:=st3.ldSA e2 e3 e4;obtain⟨kv',ec,hkR⟩:=hk'.cut (lo:=some (.int .i64 1)) (hi:=none) (x:=1) (y:=(x0::R).length) (fun c _=>rfl) (bd_i (by omega) (by simp;omega)) (by simp) (Nat.le_refl _);rw[List.take_length]at hkR;have hkR:KidsV S R kv':=hkR;have e1:xIdxS 6 v (.int .i64 ((0:Nat):Int))=some (.pointer (some ⟨b,o,none⟩)):=e1;simp only[hd0,bite_f,F112_13,vN_eq,e1,ld,vb_some];have hle0:sets.length+x0.sets.length+(reSets R).length<=N:=by
     simp only[reSets,List.length_append]at hle;omega
    refine Ret.hb (ihd x0 (hsz0 x0 (.head _)).2 (hsz0 x0 (.head _)).1 h3 m _ sv sets F xs st3 mk (by omega) e5) fun v4 h4 ⟨m4,new,b1,b2,sv',st4,mk4,hpv⟩=>?_;refine Ret.lalloc st4 zc212 fun h5 x18 st5=>?_;obtain⟨pc,q1,q2,rfl,rfl⟩:=hpv.cells;refine Ret.lstA st5 0 rfl rfl rfl (by simp) rfl fun h6 st6=>?_;have st6:Sl h0 h6 S m4 ((x18,.row .own 1 [.bool (x0.ev sets.length).null,.slice (some ⟨b1,0,none⟩) N q1,.slice (some ⟨b2,0,none⟩) N q2])::(new++((x2,.row .own 1 [.bool false,nils,nils])::(x1,.row .own 1 (.int .i64 op::(u64s s++[kv])))::rows))):=st6;have ec':acut Tryz.prog 83 v (some (.int .i64 ((1:Nat):Int))) none none=some kv':=ec;simp only[ec',vb_some,hkR.len];have hfold:=fold_ev (b:=sets.length) (s:=s) h1' hlk;have hmk4:Mk S m4 bm fs N sv' fv (sets++x0.sets) (fun i j=>F i j||(x0.ev sets.length).fol i j):=mk4;refine loop112 (F0:=F) (tl:=u64s s++[kv]) hn hN hRl rfl hkR (pE:=evFold op R (x0.ev sets.length)) (sE:=sets++reSets (x0::R)) (by simp[reSets];omega) (fun y hy h m rows sv sets F es st mk hl he=>ihd y (hsz0 y (.tail _ hy)).2 (hsz0 y (.tail _ hy)).1 h m rows sv sets F es st mk hl he)
     (fun m h pc new b1 b2 sv st mk hp=>?_) R.length n 0 m4 h6 (x0.ev sets.length) _ new b1 b2 sv' (sets++x0.sets) (by omega) (by omega) (by omega) rfl (by simp[reSets]) (by rw[Re.cnt,List.length_append]) st6 hmk4 hpv
    have:=end112 (n:=n) (cl:=LV n d) (s:=u64s s++[kv]) (kv:=kv) (op:=op) hn hN rfl rfl st mk hp;rw[hfold]at this;refine Ret.mono this fun v h' ⟨m',new,b1,b2,sv',q1,q2,q3⟩=>⟨m',new,b1,b2,sv',q1,q2,q3⟩
end
theorem ai208:appInfo Tryz.prog #[208,208]=some (1,24):=by kernel_rfl
theorem bs208{b n c:Nat}:bsRow Tryz.prog 208 1 [(0,.slice (some ⟨b,0,none⟩) n c)]=some (1,[.slice (some ⟨b,0,none⟩) n c]):=by kernel_rfl
theorem ai74:appInfo Tryz.prog #[74,74]=some (1,24):=by kernel_rfl
theorem bs74{v:Value}(hv:v.oneCell'=true):bsRow Tryz.prog 74 1 [(0,v)]=some (1,[v]):=by
 cases v<;>first|(simp[Value.oneCell']at hv;done)|kernel_rfl
theorem zc90:zcells Tryz.prog 90=some [nils,.bool false,nils,nils,nils]:=by kernel_rfl
theorem ab90:abuild Tryz.prog 90 []=some (.agg ⟨[nils,.bool false,nils,nils,nils]⟩):=by kernel_rfl
theorem ab90'{a c d:Value}{b:Bool}(ha:a.oneCell'=true)(hc:c.oneCell'=true)(hd:d.oneCell'=true):abuild Tryz.prog 90 [(0,a),(1,.bool b),(2,c),(3,d)]=some (.agg ⟨[a,.bool b,c,d,nils]⟩):=by
 cases a<;>first|(simp[Value.oneCell']at ha;done)|(cases c<;>first|(simp[Value.oneCell']at hc;done)|(cases d<;>first|(simp[Value.oneCell']at hd;done)|kernel_rfl))
theorem ab210{k:Int}:abuild Tryz.prog 210 [(2,.int .i64 k)]=some (.agg ⟨[nils,nils,.int .i64 k]⟩):=by kernel_rfl
structure Po where
 sets:List (List Int)
 null:Bool
 first:List Nat
 last:List Nat
 follow:List (List Nat)
def poOf(x:Re):Po:=⟨x.sets,(x.ev 0).null,srt x.sets.length (x.ev 0).fst,srt x.sets.length (x.ev 0).lst,(List.range x.sets.length).map fun i=>srt x.sets.length ((x.ev 0).fol i)⟩
structure PoV(V:Vw)(po:Po)(es:List Value):Prop where
 h: ∃sv fv lv wv ws,es=[sv,.bool po.null,fv,lv,wv]/\SlC V 4 sv po.sets.length (po.sets.flatMap u64s)/\SlV V fv (ns po.first)/\SlV V lv (ns po.last)/\SlV V wv ws/\ws.length=po.follow.length/\ ∀(i:Nat) l,po.follow[i]?=some l-> ∃w,ws[i]?=some w/\SlV V w (ns l)
section
variable {n:Nat}{cl:CL}{h h0:PH}{S:Vw}{m:OM}{rows:Rws}
structure Mk0(m:OM)(bm:Nat)(fs:Nat->Nat)(N i:Nat)(fv:Value):Prop where
 main:m bm=some (.row .own 1 [nils,fv,.int .i64 N])
 rows: ∀j,j<i->m (fs j)=some (.row .own 1 (fl N fun _=>false))
 inj: ∀j k,j<i->k<i->fs j=fs k->j=k
 neb: ∀j,j<i->fs j≠bm
 out:Gs m 1 fv i ((List.range i).map fun j=>sl1 (fs j) N)
 od: ∀b,vBlk fv=some b->b≠bm/\ ∀j,j<i->fs j≠b
theorem Gs.set{sz k b:Nat}{v:Value}{cells:List Value}{o:AObj}(g:Gs m sz v k cells)(hb:vBlk v≠some b):Gs (m.upd b o) sz v k cells:=g.mono fun c o' hc ho=>by rw[OM.upd_ne (fun e=>hb (by rw[<-e];exact hc))];exact ho
theorem loop87a{N bm x1 x2:Nat}{c1 c2:List Value}{Q:Value->PH->Prop}(hN:N<=150)
  (fin: ∀(m:OM)(h:PH)(fs:Nat->Nat)(fv:Value),Sl h0 h S m ((x2,.row .own 1 c2)::(x1,.row .own 1 c1)::rows)->Mk0 m bm fs N N fv->Ret (F87_7 n cl (.pointer (some ⟨x1,0,none⟩)) (.pointer (some ⟨bm,0,none⟩)) (.pointer (some ⟨x2,0,none⟩)) h) Q):
  ∀(k q i:Nat)(m:OM)(h:PH)(fs:Nat->Nat)(fv:Value),N-i<=k->k<q->i<=N->Sl h0 h S m ((x2,.row .own 1 c2)::(x1,.row .own 1 c1)::rows)->Mk0 m bm fs N i fv->
  Ret (lp q (F87_9 n cl) [.pointer (some ⟨x1,0,none⟩),.pointer (some ⟨x2,0,none⟩),.int .i64 N,.pointer (some ⟨bm,0,none⟩),.int .i64 N,.int .i64 i] h) Q:=by
 intro k
 induction k with
 |zero=>
  intro q i m h fs fv h1 h2 h3 st mk;obtain⟨q,rfl⟩: ∃r,q=r+1:=⟨q-1,by omega⟩;have hi:i=N:=by omega
  subst hi;rw[lp_succ];have hc0:decide ((i:Int)<(i:Int))=false:=by simp
  simp only[F87_9,F87_8,ucons_cons,xLt_i,vb_some,hc0,bite_f];exact fin m h fs fv st mk
 |succ k ih=>
  intro q i m h fs fv h1 h2 h3 st mk
  by_cases hi:i<N
  ·obtain⟨q,rfl⟩: ∃r,q=r+1:=⟨q-1,by omega⟩;rw[lp_succ];generalize hL:lp q (F87_9 n cl)=LL;have hc1:decide ((i:Int)<(N:Int))=true:=by simp;omega
   have hw2:IntKind.i64.wrap ((i:Int)+((1:Nat):Int))=((i+1:Nat):Int):=by rw[wrap_in (by omega) (by omega)];omega
   have l1:xLd (.pointer (some ⟨bm,1,none⟩)) h=some fv:=st.ldB mk.main rfl;simp only[F87_9,F87_8,F87_2,ucons_cons,xLt_i,vb_some,hc1,bite_t,xNil_p,xFld_p,Nat.zero_add,l1];refine Ret.lmk st zi151 (by omega) (by omega) (by omega) (by omega) fun h2 b st2=>?_;rw[Int.toNat_natCast,fl_zrows]at st2;refine Ret.lbs st2 bs208 fun h3 b3 st3=>?_;rw[ai208];have hx:=st3.ptail (n:=1) (sz:=1) (c:=1) (.head _) rfl;refine Ret.lappB st3 mk.out hx rfl (by omega) rfl (sz_le (c:=150) (by omega) (by decide)) fun h4 m4 fv' st4 gr=>?_;have hod:vBlk fv≠some bm:=fun e=>(mk.od _ e).1 rfl;have k1:=gr.keep _ _ mk.main hod;refine Ret.lst1B st4 k1.1 rfl (by simp) gr.gs.one fun h5 st5=>?_;have st5:Sl h0 h5 S (m4.upd bm (.row .own 1 [nils,fv',.int .i64 N])) ((b3,.row .own 1 [.slice (some ⟨b,0,none⟩) (N:Int).toNat (N:Int).toNat])::(b,.row .own 1 (fl N fun _=>false))::(x2,.row .own 1 c2)::(x1,.row .own 1 c1)::rows):=st5;obtain⟨st6,hbn⟩:=st5.sink (i:=1) rfl;have st7:=st6.drop (rows':=(x2,.row .own 1 c2)::(x1,.row .own 1 c1)::rows) (List.sublist_cons_self _ _);simp only[vN_eq,xAdd_i,vb_some,hw2];have hbm:b≠bm:=fun e=>by rw[e,OM.upd_self]at hbn;cases hbn
   have hb4:m4 b=none:=by rw[OM.upd_ne hbm]at hbn;exact hbn
   have hbf: ∀j,j<i->fs j≠b:=fun j hj e=>by
    have:=(gr.keep _ _ (mk.rows j hj) (fun e=>(mk.od _ e).2 j hj rfl)).1;rw[e,hb4]at this;cases this
   have hbv:vBlk fv'≠some b:=fun e=>by
    obtain⟨o,ho⟩:=gr.gs.has e;rw[hb4]at ho;cases ho
   have mk':Mk0 ((m4.upd bm (.row .own 1 [nils,fv',.int .i64 N])).upd b (.row .own 1 (fl N fun _=>false))) bm (fun j=>if j=i then b else fs j) N (i+1) fv':=by
    refine⟨by rw[OM.upd_ne (fun e=>hbm e.symm),OM.upd_self],fun j hj=>?_,fun j k hj hk e=>?_,fun j hj=>?_,?_,fun c hc=>⟨fun e=>k1.2 (e▸hc),fun j hj e=>?_⟩⟩
    ·by_cases e:j=i
     ·subst e;rw[if_pos rfl,OM.upd_self]
     ·rw[if_neg e,OM.upd_ne (hbf j (by omega)),OM.upd_ne (mk.neb j (by omega))];exact(gr.keep _ _ (mk.rows j (by omega)) (fun e=>(mk.od _ e).2 j (by omega) rfl)).1
    ·by_cases e1:j=i
     ·by_cases e2:k=i
      ·omega
      ·rw[if_pos e1,if_neg e2]at e;exact absurd e.symm (hbf k (by omega))
     ·by_cases e2:k=i
      ·rw[if_neg e1,if_pos e2]at e;exact absurd e (hbf j (by omega))
      ·rw[if_neg e1,if_neg e2]at e;exact mk.inj j k (by omega) (by omega) e
    ·by_cases e:j=i
     ·rw[if_pos e];exact hbm
     ·rw[if_neg e];exact mk.neb j (by omega)
    ·have e:((List.range (i+1)).map fun j=>sl1 (if j=i then b else fs j) N)=((List.range i).map fun j=>sl1 (fs j) N)++[.slice (some ⟨b,0,none⟩) (N:Int).toNat (N:Int).toNat]:=by
      rw[List.range_succ,List.map_append]
      congr 1
      ·exact List.map_congr_left fun j hj=>by
        have:j<i:=by simpa using hj
        rw[if_neg (by omega)]
      ·simp[sl1]
     rw[e];exact(gr.gs.set k1.2).set hbv
    ·by_cases e1:j=i
     ·rw[if_pos e1]at e;exact hbv (by rw[e];exact hc)
     ·rw[if_neg e1]at e;exact(gr.keep _ _ (mk.rows j (by omega)) (fun e=>(mk.od _ e).2 j (by omega) rfl)).2 (by rw[e];exact hc)
   have:=ih q (i+1) _ h5 _ fv' (by omega) (by omega) (by omega) st7 mk';rw[hL]at this;exact this
  ·exact ih q i m h fs fv (by omega) (by omega) h3 st mk
end
mutual
theorem ReE.mono{V W:Vw}(hs:Vw.le V W): ∀{x:Re}{es:List Value},ReE V x es->ReE W x es
 | .mk op s ks,es,h=>by
  unfold ReE at h ⊢;obtain⟨kv,h1,h2,h3⟩:=h;refine⟨kv,h1,h2,?_⟩;rcases h3 with h3|⟨b,o,c,cs,q1,q2,q3,q4,q5⟩
  ·exact .inl h3
  ·exact .inr ⟨b,o,c,cs,q1,q2,hs _ _ q3,q4,KidsC.mono hs q5⟩
theorem KidsC.mono{V W:Vw}(hs:Vw.le V W): ∀{ks:List Re}{cs:List Value},KidsC V ks cs->KidsC W ks cs
 | [],cs,h=>by unfold KidsC;trivial
 |k::ks,cs,h=>by
  unfold KidsC at h ⊢;exact⟨ReE.mono hs h.1,KidsC.mono hs h.2⟩
end
section
variable {n:Nat}{cl:CL}{h h0:PH}{S:Vw}{m:OM}{rows:Rws}
theorem loop87b{N x2 xP:Nat}{fs:Nat->Nat}{fv:Value}{G:Nat->Nat->Bool}{sv nv f1 f2:Value}{c2:List Value}{Q:Value->PH->Prop}(hn:4611686018427387904<=n)(hN:N<=150)(h2l:c2.length=5)
  (fol:SlV S fv ((List.range N).map fun i=>sl1 (fs i) N)) (hrows: ∀i,i<N->m (fs i)=some (.row .own 1 (fl N (G i))))
  (h1c:nv.oneCell'=true/\sv.oneCell'=true/\f1.oneCell'=true/\f2.oneCell'=true)
  (fin: ∀(S':Vw)(h:PH)(wv:Value)(ws:List Value),Vw.le S S'->Sl h0 h S' m rows->SlV S' wv ws->ws.length=N->(∀(i:Nat),i<N-> ∃w,ws[i]?=some w/\SlV S' w (ns (srt N (G i))))->Q (.tuple ⟨[.agg ⟨[sv,nv,f1,f2,wv]⟩,.int .i64 0]⟩) h):
  ∀(k q i:Nat)(S':Vw)(h:PH)(wv:Value)(ws:List Value)(ex:Rws),N-i<=k->k<q->i<=N->Vw.le S S'->Sl h0 h S' m (ex++((xP,.row .own 1 [sv,nv,f1,f2,wv])::(x2,.row .own 1 c2)::rows))->Gl 1 wv i ws ex->ws.length=i->(∀(j:Nat),j<i-> ∃w,ws[j]?=some w/\SlV S' w (ns (srt N (G j))))->
  Ret (lp q (F87_6 n cl) [.pointer (some ⟨x2,0,none⟩),.pointer (some ⟨xP,0,none⟩),fv,.int .i64 N,.int .i64 i] h) Q:=by
 intro k
 induction k with
 |zero=>
  intro q i S' h wv ws ex h1 h2 h3 hS st g hwl hws;obtain⟨q,rfl⟩: ∃r,q=r+1:=⟨q-1,by omega⟩;have hi:i=N:=by omega
  subst hi;rw[lp_succ];have hc0:decide ((i:Int)<(i:Int))=false:=by simp
  have la:xLdA 5 (.pointer (some ⟨xP,0,none⟩)) h=some (.agg ⟨[sv,nv,f1,f2,wv]⟩):=st.ldA (List.mem_append_right _ (.head _)) rfl (by simp);simp only[F87_6,F87_5,F87_4,ucons_cons,xLt_i,vb_some,hc0,bite_f,la];have st2:=st.perm (rows':=(x2,.row .own 1 c2)::(ex++((xP,.row .own 1 [sv,nv,f1,f2,wv])::rows))) (by
   have e1:ex++((xP,AObj.row .own 1 [sv,nv,f1,f2,wv])::(x2,.row .own 1 c2)::rows)=(ex++[(xP,AObj.row .own 1 [sv,nv,f1,f2,wv])])++((x2,.row .own 1 c2)::rows):=by simp
   have e2:ex++((xP,AObj.row .own 1 [sv,nv,f1,f2,wv])::rows)=(ex++[(xP,AObj.row .own 1 [sv,nv,f1,f2,wv])])++rows:=by simp
   rw[e1,e2];exact List.perm_middle)
  have hone:oneCells [sv,nv,f1,f2,wv]=true:=by
   unfold oneCells;simp only[List.all_cons,List.all_nil,h1c.1,h1c.2.1,h1c.2.2.1,h1c.2.2.2,g.one];rfl
  refine Ret.lstA st2 0 rfl rfl rfl (by rw[h2l];decide) hone fun h4 st4=>?_;rw[setsL_all (by rw[h2l];rfl)]at st4;have lb:xLdA 5 (.pointer (some ⟨x2,0,none⟩)) h4=some (.agg ⟨[sv,nv,f1,f2,wv]⟩):=st4.ldA (.head _) rfl (by simp);simp only[lb,vb_some];have st4:Sl h0 h4 S' m ((x2,.row .own 1 [sv,nv,f1,f2,wv])::(ex++((xP,.row .own 1 [sv,nv,f1,f2,wv])::rows))):=st4;have st5:=(st4.drop (List.sublist_cons_self _ _)).drop (rows':=ex++rows) (List.Sublist.append (List.Sublist.refl _) (List.sublist_cons_self _ _));obtain⟨S2,le2,st6,hsl⟩:=Gl.settle st5 g;refine Ret.of ?_;have hw:SlV S2 wv ws:=hsl.slv;exact fin S2 h4 wv ws (hS.trans le2) st6 hw hwl fun j hj=>let⟨w,q1,q2⟩:=hws j hj;⟨w,q1,q2.mono le2⟩
 |succ k ih=>
  intro q i S' h wv ws ex h1 h2 h3 hS st g hwl hws
  by_cases hi:i<N
  ·obtain⟨q,rfl⟩: ∃r,q=r+1:=⟨q-1,by omega⟩;rw[lp_succ];generalize hL:lp q (F87_6 n cl)=LL;have hc1:decide ((i:Int)<(N:Int))=true:=by simp;omega
   have hw2:IntKind.i64.wrap ((i:Int)+((1:Nat):Int))=((i+1:Nat):Int):=by rw[wrap_in (by omega) (by omega)];omega
   obtain⟨b,o,cs,e1,e2,e3⟩:=(fol.mono hS).at (k:=.i64) (i:=i) (x:=sl1 (fs i) N) (by simp[hi]);have l3:=st.ldS e2 e3;have l4:xLd (.pointer (some ⟨xP,4,none⟩)) h=some wv:=st.ld (List.mem_append_right _ (.head _)) rfl;simp only[F87_6,F87_5,F87_3,ucons_cons,xLt_i,vb_some,hc1,bite_t,e1,l3,xFld_p,Nat.zero_add,l4];have:=st.ok;have hv:=vall_m (S:=S') (st.base (hrows i hi));have hc:=c113 (n:=n) (cl:=cl) (h:=h.fzn) (c:=N) hn st.fz hv (by omega);refine Ret.lfcall st hc fun w h2 rows1 gw st2=>?_;obtain⟨S2,le2,st3,hsl⟩:=Gl.settle st2 gw;have l5:xLd (.pointer (some ⟨xP,4,none⟩)) h2=some wv:=st3.ld (List.mem_append_right _ (.head _)) rfl;have hlk: ∀r:R,lchk (xLd (.pointer (some ⟨xP,4,none⟩)) h2) wv r=r:=fun r=>by rw[l5];exact lchk_t g.veq
   rw[hlk];refine Ret.gapp st3 g (bs74 hsl.one) ai74 rfl (by unfold oneCells;simp only[List.all_cons,List.all_nil,hsl.one];rfl) (sz_le (c:=150) (by omega) (by decide)) fun h4 wv' ex' st4 g4=>?_;have st5:=st4.perm (rows':=(xP,.row .own 1 [sv,nv,f1,f2,wv])::(ex'++((x2,.row .own 1 c2)::rows))) List.perm_middle;refine Ret.lst1 st5 0 rfl rfl (by simp) g4.one fun h6 st6=>?_;have st6:Sl h0 h6 S2 m ((xP,.row .own 1 [sv,nv,f1,f2,wv'])::(ex'++((x2,.row .own 1 c2)::rows))):=st6;have st7:=st6.perm (rows':=ex'++((xP,.row .own 1 [sv,nv,f1,f2,wv'])::(x2,.row .own 1 c2)::rows)) List.perm_middle.symm;simp only[vN_eq,xAdd_i,vb_some,hw2];have:=ih q (i+1) S2 h6 wv' (ws++[w]) ex' (by omega) (by omega) (by omega) (hS.trans le2) st7 g4 (by simp[hwl]) (fun j hj=>?_)
   ·rw[hL]at this;exact this
   ·by_cases e:j=i
    ·subst e;refine⟨w,by rw[List.getElem?_append_right (by omega),hwl,Nat.sub_self];rfl,hsl.slv⟩
    ·obtain⟨w',q1,q2⟩:=hws j (by omega);exact⟨w',by rw[List.getElem?_append_left (by omega)];exact q1,q2.mono le2⟩
  ·exact ih q i S' h wv ws ex (by omega) (by omega) h3 hS st g hwl hws
theorem c87(hn:4611686018427387904<=n){d:Nat}(h50: ∀v h,cl 111 [v] h=LV n d 111 [v] h)(h51: ∀u v h,cl 112 [u,v] h=LV n d 112 [u,v] h){x:Re}{es:List Value}(hd:x.deep<=d)(hsz:x.size<1099511627776)(st:Sl h0 h S OM.emp rows)(he:ReE S x es):
  Ret (F87 n cl (.agg ⟨es⟩) h) fun v h'=> ∃S' ps e,Vw.le S S'/\Sl h0 h' S' OM.emp rows/\v= .tuple ⟨[.agg ⟨ps⟩,.int .i64 e]⟩/\
   ((150<x.sets.length/\e=3/\ps=[nils,.bool false,nils,nils,nils])\/(x.sets.length<=150/\200<x.deep/\e=4/\ps=[nils,.bool false,nils,nils,nils])\/(x.sets.length<=150/\x.deep<=200/\e=0/\PoV S' (poOf x) ps)):=by
 have hes:=he.len;unfold F87;refine Ret.lbox st fun h1 x1 st1=>?_;refine Ret.lalloc st1 zc90 fun h2 x2 st2=>?_;have la:xLdA 6 (.pointer (some ⟨x1,0,none⟩)) h2=some (.agg ⟨es⟩):=st2.ldA (.tail _ (.head _)) (by rw[List.drop_zero];show es.take 6=es;rw[<-hes,List.take_length]) (by show 0+6<=es.length;omega);have:=st2.ok;have hp:pcall (cl 111 [.agg ⟨es⟩] h2.fzn)=some (.tuple ⟨[.int .i64 x.sets.length,.int .i64 x.deep]⟩):=by
  rw[h50];exact pcall_fr (c111 hn d x hd hsz h2.fzn (fun b cs e=>st2.leS b cs e) es he) rfl
 simp only[la,vb_some,hp,xExt_t',List.getElem?_cons_zero,List.getElem?_cons_succ,vN_eq,xGt_i];have st2:Sl h0 h2 S OM.emp ((x2,.row .own 1 [nils,.bool false,nils,nils,nils])::(x1,.row .own 1 es)::rows):=st2
 by_cases c1:150<x.sets.length
 ·have hd1:decide (((150:Nat):Int)<((x.sets.length:Nat):Int))=true:=by simp;omega
  simp only[hd1,bite_t,F87_0];refine Ret.vb ab90 ?_;refine Ret.lstA st2 0 rfl rfl rfl (by decide) rfl fun h3 st3=>?_;have st3:Sl h0 h3 S OM.emp ((x2,.row .own 1 [nils,.bool false,nils,nils,nils])::(x1,.row .own 1 es)::rows):=st3;have lb:xLdA 5 (.pointer (some ⟨x2,0,none⟩)) h3=some (.agg ⟨[nils,.bool false,nils,nils,nils]⟩):=st3.ldA (.head _) rfl (by simp);simp only[lb,vb_some,vN_eq];exact Ret.of ⟨S,_,3,Vw.le.refl _,st3.drop (.cons _ (.cons _ (List.Sublist.refl _))),rfl,.inl ⟨c1,rfl,rfl⟩⟩
 have hd1:decide (((150:Nat):Int)<((x.sets.length:Nat):Int))=false:=by simp;omega
 simp only[hd1,bite_f,F87_11,vN_eq,xGt_i,vb_some]
 by_cases c2:200<x.deep
 ·have hd2:decide (((200:Nat):Int)<((x.deep:Nat):Int))=true:=by simp;omega
  simp only[hd2,bite_t,F87_1];refine Ret.vb ab90 ?_;refine Ret.lstA st2 0 rfl rfl rfl (by decide) rfl fun h3 st3=>?_;have st3:Sl h0 h3 S OM.emp ((x2,.row .own 1 [nils,.bool false,nils,nils,nils])::(x1,.row .own 1 es)::rows):=st3;have lb:xLdA 5 (.pointer (some ⟨x2,0,none⟩)) h3=some (.agg ⟨[nils,.bool false,nils,nils,nils]⟩):=st3.ldA (.head _) rfl (by simp);simp only[lb,vb_some,vN_eq];exact Ret.of ⟨S,_,4,Vw.le.refl _,st3.drop (.cons _ (.cons _ (List.Sublist.refl _))),rfl,.inr (.inl ⟨by omega,c2,rfl,rfl⟩)⟩
 have hd2:decide (((200:Nat):Int)<((x.deep:Nat):Int))=false:=by simp;omega
 simp only[hd2,bite_f,F87_10];refine Ret.vb ab210 ?_;refine Ret.lbox st2 fun h3 bm st3=>?_;have st3:Sl h0 h3 S OM.emp ((bm,.row .own 1 [nils,nils,.int .i64 x.sets.length])::(x2,.row .own 1 [nils,.bool false,nils,nils,nils])::(x1,.row .own 1 es)::rows):=st3;obtain⟨st4,_⟩:=st3.sink (i:=0) rfl;have st4:Sl h0 h3 S (OM.emp.upd bm (.row .own 1 [nils,nils,.int .i64 x.sets.length])) ((x2,.row .own 1 [nils,.bool false,nils,nils,nils])::(x1,.row .own 1 es)::rows):=st4;generalize hNN:x.sets.length=N at*;simp only[vN_eq];refine loop87a (N:=N) (by omega) (fun m h fs fv st mk=>?_) N n 0 _ h3 (fun _=>0) nils (by omega) (by omega) (by omega) st4 ⟨OM.upd_self,fun j hj=>by omega,fun j k hj=>by omega,fun j hj=>by omega,Gs.nil,fun b hb=>by cases hb⟩;obtain⟨S1,m1,le1,st5,hsl,keep⟩:=Gs.settle st mk.out;have hod:vBlk fv≠some bm:=fun e=>(mk.od _ e).1 rfl;have mk1:Mk S1 m1 bm fs N nils fv [] fun _ _=>false:=
  ⟨keep _ _ mk.main hod,hsl.slv,fun i hi=>keep _ _ (mk.rows i hi) (fun e=>(mk.od _ e).2 i hi rfl),mk.inj,mk.neb,Gs.nil,fun b hb=>by cases hb⟩
 have la:xLdA 6 (.pointer (some ⟨x1,0,none⟩)) h=some (.agg ⟨es⟩):=st5.ldA (.tail _ (.head _)) (by rw[List.drop_zero, <-hes,List.take_length]) (by omega);simp only[F87_7,la,vb_some,h51];refine Ret.hb (c112 hn (by omega) d x hd (by omega) h m1 _ nils [] _ es st5 mk1 (by simp[hNN]) (he.mono le1)) fun v6 h6 ⟨m6,new,b1,b2,sv',st6,mk6,hpv⟩=>?_;obtain⟨pc,q1,q2,rfl,rfl⟩:=hpv.cells;obtain⟨md1,e1,r1⟩:=hpv.r1;obtain⟨md2,e2,r2⟩:=hpv.r2;have mk6:Mk S1 m6 bm fs N sv' fv x.sets (x.ev 0).fol:=by
  have:=mk6;simp only[List.nil_append,Bool.false_or,List.length_nil]at this;exact this
 have hpv0:x.ev ([]:List (List Int)).length=x.ev 0:=rfl;rw[hpv0]at*;refine Ret.lalloc st6 zc212 fun h7 x41 st7=>?_;refine Ret.lstA st7 0 rfl rfl rfl (by simp) rfl fun h8 st8=>?_;have st8:Sl h0 h8 S1 m6 ((x41,.row .own 1 [.bool (x.ev 0).null,.slice (some ⟨b1,0,none⟩) N q1,.slice (some ⟨b2,0,none⟩) N q2])::(new++((x2,.row .own 1 [nils,.bool false,nils,nils,nils])::(x1,.row .own 1 es)::rows))):=st8;refine Ret.lkp st8 fun h9 q st9 hq _=>?_;have st9:Sl h0 h9 S1 m6 ((q,.hole)::(x41,.row .own 1 [.bool (x.ev 0).null,.slice (some ⟨b1,0,none⟩) N q1,.slice (some ⟨b2,0,none⟩) N q2])::(new++((x2,.row .own 1 [nils,.bool false,nils,nils,nils])::(x1,.row .own 1 es)::rows))):=st9;have a1:xLd (.pointer (some ⟨bm,0,none⟩)) h9=some sv':=st9.ldB mk6.main rfl;have a2:xLd (.pointer (some ⟨x41,0,none⟩)) h9=some (.bool (x.ev 0).null):=st9.ld (.tail _ (.head _)) rfl;have a3:xLd (.pointer (some ⟨x41,1,none⟩)) h9=some (.slice (some ⟨b1,0,none⟩) N q1):=st9.ld (.tail _ (.head _)) rfl;have a4:xLd (.pointer (some ⟨x41,2,none⟩)) h9=some (.slice (some ⟨b2,0,none⟩) N q2):=st9.ld (.tail _ (.head _)) rfl;have lt1:b1<q:=over_lt st8 (.tail _ (List.mem_append_left _ r1)) hq;have lt2:b2<q:=over_lt st8 (.tail _ (List.mem_append_left _ r2)) hq;simp only[xNil_p,xFld_p,Nat.zero_add,vb_some,a1,a2,a3,a4,avk1 lt1];have:=st9.ok;have hv1:=vall_m (S:=S1) (st9.mem (.tail _ (.tail _ (List.mem_append_left _ r1))));have hc1:=c113 (n:=n) (cl:=cl) (h:=h9.fzn) (c:=q1) hn st9.fz hv1 (by omega);refine Ret.lfcall st9 hc1 fun f1 h10 rw1 g1 st10=>?_;obtain⟨S2,le2,st11,hf1⟩:=Gl.settle st10 g1;simp only[avk1 lt2];have:=st11.ok;have hv2:=vall_m (S:=S2) (st11.mem (.tail _ (.tail _ (List.mem_append_left _ r2))));have hc2:=c113 (n:=n) (cl:=cl) (h:=h10.fzn) (c:=q2) hn st11.fz hv2 (by omega);refine Ret.lfcall st11 hc2 fun f2 h12 rw2 g2 st12=>?_;obtain⟨S3,le3,st13,hf2⟩:=Gl.settle st12 g2;refine Ret.vb (ab90' mk6.sets.one hf1.one hf2.one) ?_;refine Ret.lfillAlloc st13 0 rfl zc90 fun h14 st14=>?_;have hone:oneCells [sv',.bool (x.ev 0).null,f1,f2,nils]=true:=by
  unfold oneCells;simp only[List.all_cons,List.all_nil,mk6.sets.one,hf1.one,hf2.one];rfl
 refine Ret.lstA st14 0 rfl rfl rfl (by simp) hone fun h15 st15=>?_;have st15:Sl h0 h15 S3 m6 ((q,.row .own 1 [sv',.bool (x.ev 0).null,f1,f2,nils])::(x41,.row .own 1 [.bool (x.ev 0).null,.slice (some ⟨b1,0,none⟩) N q1,.slice (some ⟨b2,0,none⟩) N q2])::(new++((x2,.row .own 1 [nils,.bool false,nils,nils,nils])::(x1,.row .own 1 es)::rows))):=st15;have a5:xLd (.pointer (some ⟨bm,1,none⟩)) h15=some fv:=st15.ldB mk6.main rfl;have hfl:xLenS fv=some (.int .i64 N):=by have:=mk6.fol.len;simpa using this
 simp only[a5,vb_some,hfl,vN_eq];have st16:=st15.drop (rows':=(q,.row .own 1 [sv',.bool (x.ev 0).null,f1,f2,nils])::(x2,.row .own 1 [nils,.bool false,nils,nils,nils])::rows) (.cons_cons _ (.cons _ ((List.Sublist.cons_cons _ (List.sublist_cons_self _ _)).trans (List.sublist_append_right _ _))));refine loop87b (S:=S3) (G:=(x.ev 0).fol) (nv:=.bool (x.ev 0).null) (c2:=[nils,.bool false,nils,nils,nils]) hn (by omega) rfl ((mk6.fol.mono le2).mono le3) mk6.rows ⟨rfl,mk6.sets.one,hf1.one,hf2.one⟩ (fun S4 h' wv ws le4 st17 hwv hwl hws=>?_) N n 0 S3 h15 nils [] [] (by omega) (by omega) (by omega) (Vw.le.refl _) st16 Gl.nil rfl (fun j hj=>by omega);obtain⟨S5,m5,le5,st18,hsets,_⟩:=Gs.settle st17 mk6.sets;have le:Vw.le S S5:=(((le1.trans le2).trans le3).trans le4).trans le5;refine⟨S5,_,0,le,st18.weakM (fun b o hb=>by cases hb),rfl,.inr (.inr ⟨by omega,by omega,rfl,⟨sv',f1,f2,wv,ws,rfl,hsets,?_,?_,hwv.mono le5,?_,?_⟩⟩)⟩
 ·have:=((hf1.mono le3).mono (le4.trans le5)).slv;unfold poOf;rw[hNN];exact this
 ·have:=(hf2.mono (le4.trans le5)).slv;unfold poOf;rw[hNN];exact this
 ·rw[hwl];unfold poOf;simp[hNN]
 ·intro i l hl;unfold poOf at hl;rw[hNN]at hl;simp only at hl;rw[List.getElem?_map]at hl
  by_cases hi:i<N
  ·rw[List.getElem?_range hi]at hl;cases hl;obtain⟨w,q1,q2⟩:=hws i hi;exact⟨w,q1,q2.mono le5⟩
  ·rw[List.getElem?_eq_none (by simpa using hi)]at hl;cases hl
end
def mrg:List Nat->List Nat->List Nat
 | [],b=>b
 |x::a,[]=>x::a
 |x::a,y::b=>if x<y then x::mrg a (y::b)else if y<x then y::mrg (x::a) b else x::mrg a b
termination_by a b=>a.length+b.length
theorem ns_get{l:List Nat}{i x:Nat}(h:l[i]?=some x):(ns l)[i]?=some (.int .i64 (x:Nat)):=by unfold ns;rw[List.getElem?_map,h];rfl
theorem ns_len{l:List Nat}:(ns l).length=l.length:=by simp[ns]
theorem srt_len{N:Nat}{P:Nat->Bool}:(srt N P).length<=N:=by
 have:=List.length_filter_le P (List.range N);rw[List.length_range]at this;exact this
section
variable {n:Nat}{cl:CL}{h h0:PH}{S:Vw}{m:OM}{rows:Rws}
end
section
variable {n:Nat}{cl:CL}{h h0:PH}{S:Vw}{m:OM}{rows:Rws}
structure Mr(S:Vw)(m:OM)(bm N:Nat)(sv wv:Value)(sets:List (List Int))(F:Nat->Nat->Bool):Prop where
 main:m bm=some (.row .own 1 [sv,.bool false,nils,nils,wv])
 st4:Gs m 4 sv sets.length (sets.flatMap u64s)
 fol: ∃ws,Gs m 1 wv sets.length ws/\ ∀i,i<sets.length-> ∃w,ws[i]?=some w/\SlV S w (ns (srt N (F i)))
 sd:vBlk sv≠some bm
 wd:vBlk wv≠some bm
 sw: ∀b,vBlk sv=some b->vBlk wv≠some b
end
theorem LV72{n d:Nat}{a b:Value}{h:PH}:LV n (d+1) 72 [a,b] h=F72 n (LV n d) a b h:=rfl
structure PrV(S:Vw)(N:Nat)(p:Pt)(fv lv:Value):Prop where
 f:SlV S fv (ns (srt N p.fst))
 l:SlV S lv (ns (srt N p.lst))
def Q54(h0:PH)(S:Vw)(rows:Rws)(bm N:Nat)(sets:List (List Int))(F:Nat->Nat->Bool)(p:Pt)(v:Value)(h':PH):Prop:=
 ∃S' m' sv' wv' fv lv,Vw.le S S'/\Sl h0 h' S' m' rows/\Mr S' m' bm N sv' wv' sets F/\v= .agg ⟨[.bool p.null,fv,lv]⟩/\PrV S' N p fv lv
section
variable {n:Nat}{cl:CL}{h h0:PH}{S:Vw}{m:OM}{rows:Rws}
def Ih54(n:Nat)(cl:CL)(h0:PH)(bm N:Nat)(x:Re):Prop:= ∀(h:PH)(S:Vw)(m:OM)(rows:Rws)(sv wv:Value)(sets:List (List Int))(F:Nat->Nat->Bool)(es:List Value),Sl h0 h S m rows->Mr S m bm N sv wv sets F->(∀i j,F i j=true->i<sets.length)->sets.length+x.sets.length<=N->ReE S x es->
 Ret (cl 72 [.pointer (some ⟨bm,0,none⟩),.agg ⟨es⟩] h) (Q54 h0 S rows bm N (sets++x.sets) (fun i j=>F i j||(x.ev sets.length).fol i j) (x.ev sets.length))
end
section
variable {n:Nat}{cl:CL}{h h0:PH}{S:Vw}{m:OM}{rows:Rws}
end
section
variable {n:Nat}{cl:CL}{h h0:PH}{S:Vw}{m:OM}{rows:Rws}
end
theorem LV71{n d:Nat}{v:Value}{h:PH}:LV n (d+1) 71 [v] h=F71 n (LV n d) v h:=rfl
theorem LV70{n d:Nat}{v:Value}{h:PH}:LV n (d+1) 70 [v] h=F70 n (LV n d) v h:=rfl
theorem pcall_ex{h:PH}{S:Vw}{r:R}{P:Value->Rws->Prop}(a:Fr h S r P)(hp: ∀v rows,P v rows->plainV v=true): ∃v rows,P v rows/\pcall r=some v:=by
 obtain⟨v,h1,rfl,rows,s,p⟩:=a;exact⟨v,rows,p,pcall_some (hp v rows p)⟩
section
variable {n:Nat}{cl:CL}{h h0:PH}{S:Vw}{m:OM}{rows:Rws}
theorem Sl.anyS{h:PH}(st:Sl h0 h S m rows):Vw.le S h.fzn.cells:=st.leS
def PlcOk(k w:Nat):Prop:=w<=k/\(k<=150->w=k)/\(150<k->150<w)
end
section
variable {n:Nat}{cl:CL}{h h0:PH}{S:Vw}{m:OM}{rows:Rws}
def LsV(S:Vw)(v:Value)(ls:List (List Nat)):Prop:= ∃ws,SlV S v ws/\ws.length=ls.length/\ ∀(i:Nat) l,ls[i]?=some l-> ∃w,ws[i]?=some w/\SlV S w (ns l)
theorem SlC.at{V:Vw}{sz k i:Nat}{v:Value}{cells:List Value}{kk:IntKind}(r:SlC V sz v k cells)(hi:i<k): ∃b o cs,xIdxS sz v (.int kk i)=some (.pointer (some ⟨b,o,none⟩))/\V b=some cs/\o+sz<=cs.length/\(cs.drop o).take sz=(cells.drop (i*sz)).take sz:=by
 rcases r with⟨rfl,_⟩|⟨b,o,c,cs,rfl,h1,h2,rfl⟩
 ·omega
 ·have hle:i*sz+sz<=k*sz:=by rw[<-Nat.succ_mul];exact Nat.mul_le_mul_right _ (by omega)
  refine⟨b,o+i*sz,cs,?_,h1,by omega,?_⟩
  ·have:=xIdxS_at (sz:=sz) (b:=b) (o:=o) (n:=k) (c:=c) (k:=kk) (i:=(i:Int)) (by omega) (by omega);simpa using this
  ·rw[List.drop_take,List.drop_drop,List.take_take,Nat.min_eq_left (by omega)]
theorem sets_at{sets:List (List Int)}(hs: ∀s∈sets,s.length=4){i:Nat}{s:List Int}(hi:sets[i]?=some s):((sets.flatMap u64s).drop (i*4)).take 4=u64s s:=by
 induction sets generalizing i with
 |nil=>simp at hi
 |cons x xs ih=>
  have hx:=hs x (.head _);have hxl:(u64s x).length=4:=by simp[u64s,hx]
  rw[List.flatMap_cons];cases i with
  |zero=>
   simp at hi;subst hi;rw[Nat.zero_mul,List.drop_zero,List.take_left' hxl]
  |succ i=>
   simp at hi;have e:(i+1)*4=(u64s x).length+i*4:=by rw[hxl];omega
   rw[e, <-List.drop_drop,List.drop_left];exact ih (fun s h=>hs s (.tail _ h)) hi
structure Po.In(po:Po):Prop where
 s4: ∀s∈po.sets,s.length=4
 sl:po.sets.length<1000000
 fl:po.first.length<1000000
 ll:po.last.length<1000000
 wl:po.follow.length<1000000
 wll: ∀l∈po.follow,l.length<1000000
end
def zs4:List Int:=[0,0,0,0]
def leaf1:Re:=.mk 1 zs4 []
theorem bs85{a:Int}{s0 s1 s2 s3:Int}{v:Value}(hv:v.oneCell'=true):bsRow Tryz.prog 83 1 [(0,.agg ⟨[.int .i64 a,.int .u64 s0,.int .u64 s1,.int .u64 s2,.int .u64 s3,v]⟩)]=some (6,[.int .i64 a,.int .u64 s0,.int .u64 s1,.int .u64 s2,.int .u64 s3,v]):=by
 cases v<;>first|(simp[Value.oneCell']at hv;done)|kernel_rfl
theorem ab85'{a:Int}{b n c:Nat}:abuild Tryz.prog 85 [(0,.int .i64 a),(2,.slice (some ⟨b,0,none⟩) n c)]=some (.agg ⟨[.int .i64 a,.int .u64 0,.int .u64 0,.int .u64 0,.int .u64 0,.slice (some ⟨b,0,none⟩) n c]⟩):=by kernel_rfl
theorem PoV.mono{V W:Vw}{po:Po}{ps:List Value}(hs:Vw.le V W)(h:PoV V po ps):PoV W po ps:=by
 obtain⟨sv,fv,lv,wv,ws,e,a1,a2,a3,a4,a5,a6⟩:=h;exact⟨sv,fv,lv,wv,ws,e,a1.mono hs,a2.mono hs,a3.mono hs,a4.mono hs,a5,fun i l hl=>let⟨w,q1,q2⟩:=a6 i l hl;⟨w,q1,q2.mono hs⟩⟩
def po0:Po:=⟨[],false,[],[],[]⟩
theorem PoV.ps{V:Vw}{po:Po}{ps:List Value}(h:PoV V po ps):ps.length=5/\oneCells ps=true:=by
 obtain⟨sv,fv,lv,wv,ws,rfl,q1,q2,q3,q4,_⟩:=h;refine⟨rfl,?_⟩;unfold oneCells;simp only[List.all_cons,List.all_nil,q1.one,q2.one,q3.one,q4.one];rfl
mutual
theorem ReE.s4{V:Vw}: ∀{x:Re}{es:List Value},ReE V x es-> ∀s∈x.sets,s.length=4
 | .mk op s ks,es,h=>by
  obtain⟨kv,_,hs,hk⟩:=ReE_mk.1 h;rw[Re.sets_looked]
  split
  ·intro t ht;simp at ht;subst ht;exact hs
  ·have key: ∀s∈reSets ks,s.length=4:=by
    rcases hk with⟨rfl,_⟩|⟨b,o,c,cs,_,_,_,_,hc⟩
    ·intro t ht;simp[reSets]at ht
    ·exact KidsC.s4 hc
   intro t ht;refine key t ?_;unfold looked at ht
   split at ht
   ·exact ht
   ·split at ht
    ·cases ks with
     |nil=>simp[reSets]at ht
     |cons k ks=>simp[reSets]at ht ⊢;exact .inl ht
    ·simp[reSets]at ht
theorem KidsC.s4{V:Vw}: ∀{ks:List Re}{cs:List Value},KidsC V ks cs-> ∀s∈reSets ks,s.length=4
 | [],cs,h=>by intro t ht;simp[reSets]at ht
 |k::ks,cs,h=>by
  unfold KidsC at h;intro t ht;unfold reSets at ht;rcases List.mem_append.1 ht with ht|ht
  ·exact ReE.s4 h.1 t ht
  ·exact KidsC.s4 h.2 t ht
end
theorem poOf_in{V:Vw}{x:Re}{es:List Value}(h:ReE V x es)(hs:x.sets.length<=150):(poOf x).In:=by
 have hl: ∀P:Nat->Bool,(srt x.sets.length P).length<=x.sets.length:=fun P=>srt_len;refine⟨h.s4,by unfold poOf;simp only;omega,by have:=hl (x.ev 0).fst;unfold poOf;simp only;omega,by have:=hl (x.ev 0).lst;unfold poOf;simp only;omega,by unfold poOf;simp;omega,fun l hm=>?_⟩;unfold poOf at hm;simp only[List.mem_map]at hm;obtain⟨i,_,rfl⟩:=hm;have:=hl ((x.ev 0).fol i);omega
def zv(l:List Int):List Value:=l.map fun z=>.int .i64 z
theorem zv_get{l:List Int}{i:Nat}{z:Int}(h:l[i]?=some z):(zv l)[i]?=some (.int .i64 z):=by simp[zv,h]
theorem zv_len(l:List Int):(zv l).length=l.length:=by simp[zv]
def Gc(v:Value):Prop:=v=nils\/ ∃b k,v= .slice (some ⟨b,0,none⟩) k openCap
theorem growR_v{sz b k o n:Nat}{kill:Bool}{cs new:List Value}{h h':PH}{v:Value}(hx:growR sz b k o kill cs new n h=some (v,h')): ∃b',v= .slice (some ⟨b',0,none⟩) n openCap:=by
 unfold growR at hx
 split at hx<;>try (cases hx;done)
 split at hx
 ·split at hx<;>try (cases hx;done)
  rw[seqN_eq]at hx;cases hx;exact⟨_,rfl⟩
 ·rw[seqN_eq]at hx;cases hx;exact⟨_,rfl⟩
theorem xApp_gc{ai:Option (Nat×Nat)}{v v' x:Value}{h h':PH}(g:Gc v)(e:xApp ai v x h=some (v',h')):Gc v':=by
 unfold xApp at e
 split at e<;>try (cases e;done)
 split at e<;>try (cases e;done)
 split at e<;>try (cases e;done)
 rcases g with rfl|⟨b,k,rfl⟩
 ·simp only[nils]at e
  split at e
  ·cases e;exact .inl rfl
  ·split at e<;>try (cases e;done)
   split at e<;>try (cases e;done)
   cases e;exact .inr ⟨_,_,rfl⟩
 ·simp only at e
  split at e
  ·split at e<;>try (cases e;done)
   cases e;exact .inr ⟨_,_,rfl⟩
  ·split at e<;>try (cases e;done)
   split at e<;>try (cases e;done)
   split at e<;>try (cases e;done)
   split at e
   ·split at e
    ·split at e<;>try (cases e;done)
     split at e<;>try (cases e;done)
     exact .inr ⟨_,_,(stayR_ok e).1⟩
    ·obtain⟨_,q⟩:=growR_v e;exact .inr ⟨_,_,q⟩
   ·split at e<;>try (cases e;done)
    split at e<;>try (cases e;done)
    split at e<;>try (cases e;done)
    split at e<;>try (cases e;done)
    split at e
    ·exact .inr ⟨_,_,(stayR_ok e).1⟩
    ·obtain⟨_,q⟩:=growR_v e;exact .inr ⟨_,_,q⟩
section
variable {Q:Value->PH->Prop}{n:Nat}{cl:CL}{h h0:PH}{S:Vw}{m:OM}{rows:Rws}{K2:Value->PH->R}
theorem KidsC.more{V:Vw}: ∀{ks:List Re}{cs:List Value}(k:Nat),KidsC V ks (cs.take k)->ks.length*6<=k->KidsC V ks cs
 | [],cs,k,h,_=>by simp[KidsC]
 |x::ks,cs,k,h,hk=>by
  unfold KidsC at h ⊢;have hk:(ks.length+1)*6<=k:=hk;rw[List.take_take,Nat.min_eq_left (by omega),List.drop_take]at h;exact⟨h.1,KidsC.more (k-6) h.2 (by omega)⟩
theorem SlC.kids{V:Vw}{ks:List Re}{v:Value}{k:Nat}{cells:List Value}(r:SlC V 6 v k cells)(gc:Gc v)(hk:ks.length=k)(hk':k<=4611686018427387904)(hc:KidsC V ks cells):KidsV V ks v:=by
 rcases r with⟨rfl,rfl,rfl⟩|⟨b,o,c,cs,rfl,h1,h2,rfl⟩
 ·have hks:ks=[]:=List.eq_nil_of_length_eq_zero hk;subst hks;exact .inl ⟨rfl,none,0,rfl,CapOk.self (by omega),rfl⟩
 ·rcases gc with e|⟨b,k,e⟩
  ·cases e
  ·cases e;subst hk;exact .inr ⟨b,0,openCap,cs,rfl,CapOk.opn hk',h1,h2,KidsC.more _ hc (Nat.le_refl _)⟩
end
theorem ai83:appInfo Tryz.prog #[83,83]=some (6,64):=by kernel_rfl
theorem KidsC.snoc'{V:Vw}{x:Re}{es:List Value}(hx:ReE V x es): ∀{ks:List Re}{cs:List Value},KidsC V ks cs->cs.length=ks.length*6->KidsC V (ks++[x]) (cs++es)
 | [],cs,_,hl=>by
  have:cs=[]:=List.eq_nil_of_length_eq_zero (by simpa using hl);subst this;rw[List.nil_append,List.nil_append];unfold KidsC;have:=hx.len;rw[List.take_of_length_le (by omega)];exact⟨hx,by unfold KidsC;trivial⟩
 |k::ks,cs,h,hl=>by
  unfold KidsC at h;rw[List.cons_append];unfold KidsC;have hl:cs.length=(ks.length+1)*6:=hl;rw[List.take_append_of_le_length (by omega),List.drop_append_of_le_length (by omega)];exact⟨h.1,KidsC.snoc' hx h.2 (by simp;omega)⟩
end Go.Am
namespace Go.Am
open Go Go.RowKit
abbrev Res:=Except Nat (Re×Nat)
def bt(t:ByteArray)(a:Nat):Nat:=if h:a<t.size then(t[a]'h).toNat else 256
theorem bt_lt{t:ByteArray}{a:Nat}:bt t a<256↔a<t.size:=by
 unfold bt
 by_cases h:a<t.size
 ·rw[dif_pos h];exact⟨fun _=>h,fun _=>(t[a]'h).toNat_lt⟩
 ·rw[dif_neg h];omega
theorem bt_ge{t:ByteArray}{a:Nat}(h:t.size<=a):bt t a=256:=by unfold bt;rw[dif_neg (by omega)]
def addS(s:List Int)(c:Nat):List Int:=s.set (c / 64) (IntKind.u64.wrap ((Nat.lor (bitN .u64 (s.getD (c / 64) 0)) (bitN .u64 (IntKind.u64.wrap (Int.mul 1 (.ofNat (Nat.pow 2 (c % 64)))))):Nat):Int))
theorem addS_len{s:List Int}{c:Nat}:(addS s c).length=s.length:=by unfold addS;simp
def rangeS(s:List Int)(lo:Nat):Nat->List Int
 |0=>s
 |k+1=>rangeS (addS s lo) (lo+1) k
def notW(x:Int):Int:=Go.bits .xor .u64 18446744073709551615 x
def turnS(s:List Int):List Int:=s.map notW
def memT(t:ByteArray)(a:Nat):Option (Nat×Nat):=
 if bt t a=92 then(if a+1<t.size then some (bt t (a+1),a+2)else none)
 else if a<t.size then some (bt t a,a+1)else none
def itemT(t:ByteArray)(s:List Int)(a:Nat):Option (List Int×Nat):=
 if bt t a=93 then none
 else match memT t a with
  |none=>none
  |some (lo,a1)=>
   if bt t a1=45/\a1+1<t.size/\bt t (a1+1)≠93 then
    match memT t (a1+1)with
    |none=>none
    |some (hi,a2)=>if hi<lo then none else some (rangeS s lo (hi+1-lo),a2)
   else some (rangeS s lo 1,a1)
section
variable {t:ByteArray}{s:List Int}{a a1 a2 lo hi:Nat}
theorem itemT_93(h:bt t a=93):itemT t s a=none:=by unfold itemT;rw[if_pos h]
theorem itemT_none(h93:bt t a≠93)(hm:memT t a=none):itemT t s a=none:=by unfold itemT;rw[if_neg h93,hm]
theorem itemT_one(h93:bt t a≠93)(hm:memT t a=some (lo,a1))(hno: ¬(bt t a1=45/\a1+1<t.size/\bt t (a1+1)≠93)):itemT t s a=some (rangeS s lo 1,a1):=by
 unfold itemT;rw[if_neg h93,hm];dsimp only;rw[if_neg hno]
theorem itemT_rngn(h93:bt t a≠93)(hm:memT t a=some (lo,a1))(hy:bt t a1=45/\a1+1<t.size/\bt t (a1+1)≠93)(hm2:memT t (a1+1)=none):itemT t s a=none:=by
 unfold itemT;rw[if_neg h93,hm];dsimp only;rw[if_pos hy,hm2]
theorem itemT_rng(h93:bt t a≠93)(hm:memT t a=some (lo,a1))(hy:bt t a1=45/\a1+1<t.size/\bt t (a1+1)≠93)(hm2:memT t (a1+1)=some (hi,a2)):itemT t s a=if hi<lo then none else some (rangeS s lo (hi+1-lo),a2):=by
 unfold itemT;rw[if_neg h93,hm];dsimp only;rw[if_pos hy,hm2]
end
def clsL(t:ByteArray):Nat->List Int->Nat->Option (List Int×Nat)
 |0,_,_=>none
 |f+1,s,a=>if bt t a=93 then some (s,a+1)else match itemT t s a with
  |none=>none
  |some (s',a')=>clsL t f s' a'
def clsF(t:ByteArray)(f:Nat)(s:List Int)(a:Nat):Option (List Int×Nat):=match itemT t s a with
 |none=>none
 |some (s',a')=>clsL t f s' a'
theorem clsL_succ{t:ByteArray}{f:Nat}{s:List Int}{a:Nat}:clsL t (f+1) s a=if bt t a=93 then some (s,a+1)else clsF t f s a:=rfl
def finT(nb:Bool)(p:List Int×Nat):List Int×Nat:=(if nb=true then turnS p.1 else p.1,p.2)
def clsT(t:ByteArray)(a:Nat):Option (List Int×Nat):=(clsF t (t.size+1) zs4 (if bt t a=94 then a+1 else a)).map (finT (decide (bt t a=94)))
def spcB(c:Nat):Bool:=c==124||c==42||c==43||c==63||c==40||c==41||c==91||c==93
def leafR(s:List Int):Re:=.mk 1 s []
def dotS:List Int:=turnS (addS zs4 10)
section
variable (t:ByteArray)(alt:Nat->Res)
def atomT(a:Nat):Res:=
 if bt t a=40 then match alt (a+1)with
  | .error e=>.error e
  | .ok (x,a2)=>if bt t a2=41 then .ok (x,a2+1)else .error 2
 else if bt t a=46 then .ok (leafR dotS,a+1)
 else if bt t a=92 then(if a+1<t.size then .ok (leafR (addS zs4 (bt t (a+1))),a+2)else .error 2)
 else if bt t a=91 then match clsT t (a+1)with
  |none=>.error 2
  |some (s,a')=>.ok (leafR s,a')
 else if spcB (bt t a)=true then .error 2
 else .ok (leafR (addS zs4 (bt t a)),a+1)
def starT:Nat->Re->Nat->Re×Nat
 |0,x,a=>(x,a)
 |f+1,x,a=>if bt t a=42 then starT f (.mk 4 zs4 [x]) (a+1)else if bt t a=43 then starT f (.mk 5 zs4 [x]) (a+1)else if bt t a=63 then starT f (.mk 6 zs4 [x]) (a+1)else(x,a)
def partT(a:Nat):Res:=match atomT t alt a with
 | .error e=>.error e
 | .ok (x,a')=>.ok (starT t (t.size+1) x a')
def manyT(op:Int):List Re->Re
 | []=>.mk 0 zs4 []
 | [x]=>x
 |l=>.mk op zs4 l
def seqL:Nat->List Re->Nat->Res
 |0,_,_=>.error 9
 |f+1,l,a=>if t.size<=a\/bt t a=124\/bt t a=41 then .ok (manyT 2 l,a)else match partT t alt a with
  | .error e=>.error e
  | .ok (x,a')=>seqL f (l++[x]) a'
def seqT(a:Nat):Res:=seqL t alt (t.size+1) [] a
def altL:Nat->List Re->Nat->Res
 |0,_,_=>.error 9
 |f+1,l,a=>match seqT t alt a with
  | .error e=>.error e
  | .ok (x,a')=>if bt t a'=124 then altL f (l++[x]) (a'+1)else .ok (manyT 3 (l++[x]),a')
def altB(a:Nat):Res:=altL t alt (t.size+1) [] a
end
def altT(t:ByteArray):Nat->Nat->Res
 |0,a=>altB t (fun _=>.error 4) a
 |k+1,a=>altB t (altT t k) a
def prsT(t:ByteArray):Except Nat Re:=
 if 200<t.size then .error 3 else match altT t 20 0 with
  | .error e=>.error e
  | .ok (x,a)=>if a<t.size then .error 2 else .ok x
end Go.Am
namespace Go.Am
open Go Go.RowKit Go.Proofs
def rdr(t:ByteArray)(a e b:Nat):AObj:=.row .own 1 [.string t,.int .i64 (a:Nat),.int .i64 (e:Nat),.int .i64 (b:Nat)]
def RM(br:Nat)(t:ByteArray)(a e b:Nat):OM:=OM.emp.upd br (rdr t a e b)
theorem RM_at{br:Nat}{t:ByteArray}{a e b:Nat}:RM br t a e b br=some (rdr t a e b):=OM.upd_self
theorem xLenT_s{t:ByteArray}:xLenT (.string t)=some (.int .i64 (t.size:Nat)):=by
 simp[xLenT,seqN_eq]
theorem xBit_ex{k:IntKind}{f:Nat->Nat->Nat}{x y:Int}:xBit f (.int k x) (.int k y)=some (.int k (k.wrap (f (bitN k x) (bitN k y):Nat))):=by
 have:kb k k=true:=by cases k<;>rfl
 simp only[xBit,this,mkI_eq,wr_eq];rfl
theorem xShl_ex{k k':IntKind}{x:Int}{s:Nat}(h:s<=k.bits):xShl (.int k x) (.int k' (s:Nat))=some (.int k (k.wrap (Int.mul x (.ofNat (Nat.pow 2 s))))):=by
 show(match Nat.ble s k.bits with|true=>mkI k (wr k (Int.mul x (.ofNat (Nat.pow 2 s))))|false=>none)=_
 rw[ble_t' h,mkI_eq,wr_eq]
theorem xShr_ex{k k':IntKind}{x s:Nat}(h:s<=k.bits):xShr (.int k (x:Nat)) (.int k' (s:Nat))=some (Value.int k ((x / 2 ^ s:Nat):Int)):=by
 show(match Nat.ble s k.bits with|true=>(match shN (.ofNat x) s with|some q=>some (Value.int k q)|none=>none)|false=>none)=_
 rw[ble_t' h]
 show(match seqN (Nat.shiftRight x s) fun q=>some (Int.ofNat q)with|some q=>some (Value.int k q)|none=>none)=_
 rw[seqN_eq]
 show some (Value.int k (Int.ofNat (x>>>s)))=_
 rw[Nat.shiftRight_eq_div_pow];rfl
theorem ai9{t:ByteArray}{a:Nat}(h:a<t.size):bt t a<256/\aindex Tryz.prog 9 (.string t) (.int .i64 (a:Nat))=some (.int .u8 (bt t a:Nat)):=by
 refine⟨bt_lt.2 h,?_⟩;unfold aindex;rw[Tryz.underlying9];simp[h,bt]
section
variable {n:Nat}{cl:CL}{h h0:PH}{S:Vw}{m:OM}{rows:Rws}{br a e b:Nat}{t:ByteArray}
theorem Sl.rd(st:Sl h0 h S (RM br t a e b) rows):h.fzn.cells br=some [.string t,.int .i64 (a:Nat),.int .i64 (e:Nat),.int .i64 (b:Nat)]:=
 st.fz br _ (vall_m (st.base RM_at))
theorem Ret.step{Q:Value->PH->Prop}{K2:Value->PH->R}(st:Sl h0 h S (RM br t a e b) rows){a':Nat}(hk: ∀h',Sl h0 h' S (RM br t a' e b) rows->Ret (K2 undef h') Q):Ret (Go.Am.hb (xSt1 (.pointer (some ⟨br,1,none⟩)) (.int .i64 (a':Nat)) h) K2) Q:=by
 refine Ret.lst1B st RM_at rfl (by simp) rfl fun h1 st1=>?_;rw[RM,OM.upd_upd]at st1;exact hk h1 st1
def MemV(t:ByteArray)(br:Nat)(h0:PH)(S:Vw)(rows:Rws)(a:Nat)(v:Value)(h':PH):Prop:=
 ∃a' e' b' c,Sl h0 h' S (RM br t a' e' b') rows/\v= .int .u8 ((c:Nat):Int)/\c<256/\a<=a'/\a'<=t.size/\((e'=0/\a<a'/\memT t a=some (c,a'))\/(e'=2/\memT t a=none))
end
theorem wr8{x:Nat}(h:x<256):IntKind.u8.wrap (x:Int)=(x:Nat):=by
 simp[IntKind.wrap,IntKind.signed,IntKind.bits];omega
theorem wr64u{x:Nat}(h:x<18446744073709551616):IntKind.u64.wrap (x:Int)=(x:Nat):=by
 simp[IntKind.wrap,IntKind.signed,IntKind.bits];omega
theorem xConvI_i'{k k':IntKind}{x:Int}:xConvI k (.int k' x)=some (.int k (k.wrap x)):=by simp only[xConvI,mkI_eq,wr_eq]
theorem xIdxA_at'{m sz b o j:Nat}{k:IntKind}(h:j<m):xIdxA m sz (.pointer (some ⟨b,o,none⟩)) (.int k j)=some (.pointer (some ⟨b,o+j*sz,none⟩)):=by
 show grd (Nat.blt j m) (addrK b (o+j*sz))=_
 have:Nat.blt j m=true:=Nat.ble_eq_true_of_le h;rw[this,addrK_eq];rfl
theorem plain_u64s{s:List Int}:plainV (.agg ⟨u64s s⟩)=true:=by
 show plainV.plainVs (u64s s)=true
 induction s with
 |nil=>rfl
 |cons x s ih=>exact ih
section
variable {n:Nat}{cl:CL}{h h0:PH}{S:Vw}{m:OM}{rows:Rws}
theorem adds4{s:List Int}(hs:s.length=4)(c:Nat):(addS s c).length=4:=by rw[addS_len];exact hs
theorem ab85s{s:List Int}(hs:s.length=4):abuild Tryz.prog 85 [(0,.int .i64 ((1:Nat):Int)),(1,.agg ⟨u64s s⟩)]=some (.agg ⟨.int .i64 ((1:Nat):Int)::(u64s s++[nils])⟩):=by
 obtain⟨s0,s1,s2,s3,rfl⟩: ∃a b c d,s=[a,b,c,d]:=by
  match s,hs with
  | [a,b,c,d],_=>exact⟨a,b,c,d,rfl⟩
 kernel_rfl
theorem leafS{V:Vw}{s:List Int}(hs:s.length=4):ReE V (.mk 1 s []) (.int .i64 ((1:Nat):Int)::(u64s s++[nils])):=
 ReE_mk.2 ⟨nils,rfl,hs,.inl ⟨rfl,none,0,rfl,CapOk.self (by omega),rfl⟩⟩
def dotN:Nat->List Int
 |0=>[0,0,0,0]
 |i+1=>if i=10 then dotN i else addS (dotN i) i
theorem dotN_len: ∀i,(dotN i).length=4
 |0=>rfl
 |i+1=>by
  unfold dotN
  split
  ·exact dotN_len i
  ·rw[addS_len];exact dotN_len i
theorem dotN_all:dotN 256=dotS:=by kernel_rfl
theorem dotS_len:dotS.length=4:=by rw[<-dotN_all];exact dotN_len _
theorem dcI{c k:Nat}:decide (((c:Nat):Int)=Int.ofNat k)=(c==k):=by
 rw[Bool.eq_iff_iff,decide_eq_true_eq,beq_iff_eq];exact⟨fun h=>Int.ofNat.inj h,fun h=>by rw[h];rfl⟩
end
theorem xUn_x{x:Int}:xUn Tryz.prog .xor (.int .u64 x)=some (.int .u64 (notW x)):=rfl
section
variable {Q:Value->PH->Prop}{n:Nat}{cl:CL}{h h0:PH}{S:Vw}{m:OM}{rows:Rws}{br a e b b1 b2:Nat}{t:ByteArray}
abbrev pt(b:Nat):Value:=.pointer (some ⟨b,0,none⟩)
def z6:List Value:=[.int .i64 0,.int .u64 0,.int .u64 0,.int .u64 0,.int .u64 0,nils]
def SetV(S:Vw)(t:ByteArray)(br:Nat)(h0:PH)(rows:Rws)(a:Nat)(v:Value)(h':PH):Prop:=
 ∃a' e' b' s,s.length=4/\Sl h0 h' S (RM br t a' e' b') rows/\v= .agg ⟨.int .i64 ((1:Nat):Int)::(u64s s++[nils])⟩/\a<=a'/\a'<=t.size+1/\(e'=0->a'<=t.size)/\((e'=0/\clsT t a=some (s,a'))\/(e'=2/\clsT t a=none))
end
section
variable {Q:Value->PH->Prop}{n:Nat}{cl:CL}{h h0:PH}{S:Vw}{m:OM}{rows:Rws}{br a e b b1 b2:Nat}{t:ByteArray}
def ItV(t:ByteArray)(s0:List Int)(a0 e':Nat)(s':List Int)(a':Nat):Prop:=(e'=0/\itemT t s0 a0=some (s',a'))\/(e'=2/\itemT t s0 a0=none)
end
section
variable {Q:Value->PH->Prop}{n:Nat}{cl:CL}{h h0:PH}{S:Vw}{m:OM}{rows:Rws}{br a e b b1 b2:Nat}{t:ByteArray}
def ClJ(t:ByteArray)(C:Option (List Int×Nat))(N:Nat)(s:List Int)(a:Nat):Prop:= ∃f,t.size<a+f/\(bt t a≠93->C=clsF t f s a)/\(bt t a=93->C=if N=0 then none else some (s,a+1))
end
mutual
def Re.wf:Re->Prop
 | .mk op _ ks=>wfL ks/\(((op=0\/op=1)/\ks=[])\/((op=2\/op=3)/\2<=ks.length)\/((4<=op/\op<=6)/\ks.length=1))
def wfL:List Re->Prop
 | []=>True
 |k::ks=>k.wf/\wfL ks
end
def EE(e:Nat):Nat:=if e=0 then 0 else 1
theorem EE_0:EE 0=0:=rfl
theorem EE_1{e:Nat}(h:e≠0):EE e=1:=by unfold EE;rw[if_neg h]
def VwN(h0:PH)(S S':Vw):Prop:=Vw.le S S'/\ ∀b cs,S' b=some cs->S b=some cs\/h0.n<=b
theorem VwN.refl{h0:PH}{S:Vw}:VwN h0 S S:=⟨Vw.le.refl _,fun _ _ h=>.inl h⟩
theorem VwN.trans{h0:PH}{S T U:Vw}(a:VwN h0 S T)(b:VwN h0 T U):VwN h0 S U:=⟨a.1.trans b.1,fun x cs h=>by
 rcases b.2 x cs h with h|h
 ·exact a.2 x cs h
 ·exact .inr h⟩
theorem VwN.put{h0:PH}{S:Vw}{b:Nat}{cs:List Value}(h:S b=none)(hb:h0.n<=b):VwN h0 S (S.put b cs):=⟨Vw.le_put h,fun x ys hx=>by
 unfold Vw.put at hx
 split at hx
 ·rename_i e;rw[e];exact .inr hb
 ·exact .inl hx⟩
theorem Gl.settleV{h0 h:PH}{S:Vw}{m:OM}{rows ex:Rws}{sz k:Nat}{v:Value}{cells:List Value}(s:Sl h0 h S m (ex++rows))(g:Gl sz v k cells ex): ∃S',VwN h0 S S'/\Sl h0 h S' m rows/\SlC S' sz v k cells:=by
 rcases g.h with⟨rfl,rfl,rfl,rfl⟩|⟨b,o,cap,all,rfl,rfl,rfl,h2,_⟩
 ·exact⟨S,VwN.refl,s,.inl ⟨rfl,rfl,rfl⟩⟩
 ·have hn:=(s.sm.own b _ (s.mem (.head _))).2;obtain⟨s1,hS⟩:=s.settle (i:=0) rfl;exact⟨_,VwN.put hS hn,s1,.inr ⟨b,o,cap,all,rfl,Vw.put_self,h2,rfl⟩⟩
def RR(res:Res)(e':Nat)(x:Re)(a':Nat):Prop:=(e'=0/\res= .ok (x,a'))\/(e'≠0/\res= .error e')
def altD(t:ByteArray)(d:Nat):Nat->Res:=if d<20 then altT t (19-d)else fun _=>.error 4
theorem altD_B{t:ByteArray}{d:Nat}(hd:d<=20)(a:Nat):altT t (20-d) a=altB t (altD t d) a:=by
 unfold altD
 by_cases h:d<20
 ·rw[if_pos h,show 20-d=(19-d)+1 by omega];rfl
 ·rw[if_neg h,show 20-d=0 by omega];rfl
def PR(S:Vw)(t:ByteArray)(br:Nat)(h0:PH)(rows:Rws)(a lim p k:Nat)(res:Res)(v:Value)(h':PH):Prop:=
 ∃S' a' e' b' x es,VwN h0 S S'/\Sl h0 h' S' (RM br t a' e' b') rows/\v= .agg ⟨es⟩/\ReE S' x es/\x.wf/\a<=a'/\a'<=lim/\(e'=0->a'<=t.size/\a+p<=a')/\x.size<=3*(a'-a)+k+EE e'/\RR res e' x a'
theorem wf_leaf{s:List Int}:(Re.mk 1 s []).wf:=by unfold Re.wf;exact⟨by simp[wfL],.inl ⟨.inr rfl,rfl⟩⟩
theorem wf_none:(Re.mk 0 zs4 []).wf:=by unfold Re.wf;exact⟨by simp[wfL],.inl ⟨.inl rfl,rfl⟩⟩
theorem size_leaf{o:Int}{s:List Int}:(Re.mk o s []).size=1:=by simp[Re.size,sizeL]
theorem noneE{V:Vw}:ReE V (.mk 0 zs4 []) z6:=ReE_mk.2 ⟨nils,rfl,rfl,.inl ⟨rfl,none,0,rfl,CapOk.self (by omega),rfl⟩⟩
theorem ab85n:abuild Tryz.prog 85 []=some (.agg ⟨z6⟩):=by kernel_rfl
section
variable {Q:Value->PH->Prop}{n:Nat}{cl:CL}{h h0:PH}{S:Vw}{m:OM}{rows:Rws}{br a e b b1 b2:Nat}{t:ByteArray}
theorem Ret.put6{pre:Rws}{cs es:List Value}(st:Sl h0 h S m (pre++(b1,.row .own 1 cs)::rows))(hcs:cs.length=6)(he:es.length=6)(hone:oneCells es=true)(hk: ∀h',Sl h0 h' S m rows->Q (.agg ⟨es⟩) h'):
  Ret (Go.Am.hb (xStA 6 (pt b1) (.agg ⟨es⟩) h) fun _ h=>Go.Am.vb (xLdA 6 (pt b1) h) fun v=>some (v,h)) Q:=by
 have st1:=st.perm (rows':=(b1,.row .own 1 cs)::(pre++rows)) List.perm_middle;refine Ret.lstA st1 0 rfl rfl he (by omega) hone fun h3 st3=>?_;rw[setsL_all (by omega)]at st3;have st3:Sl h0 h3 S m ((b1,.row .own 1 es)::(pre++rows)):=st3;have lb:xLdA 6 (pt b1) h3=some (.agg ⟨es⟩):=st3.ldA (.head _) (by rw[List.drop_zero, <-he,List.take_length]) (by omega);simp only[lb,vb_some];exact Ret.of (hk h3 (st3.drop ((List.sublist_append_right _ _).trans (List.sublist_cons_self _ _))))
theorem Ret.put6x{pre:Rws}{cs es:List Value}{x:Re}(st:Sl h0 h S m (pre++(b1,.row .own 1 cs)::rows))(hcs:cs.length=6)(he:ReE S x es)(hk: ∀h',Sl h0 h' S m rows->Q (.agg ⟨es⟩) h'):
  Ret (Go.Am.hb (xStA 6 (pt b1) (.agg ⟨es⟩) h) fun _ h=>Go.Am.vb (xLdA 6 (pt b1) h) fun v=>some (v,h)) Q:=Ret.put6 st hcs he.len he.one hk
end
theorem sizeL_snoc'{x:Re}: ∀(ks:List Re),sizeL (ks++[x])=sizeL ks+x.size
 | []=>by simp[sizeL]
 |k::ks=>by rw[List.cons_append];unfold sizeL;rw[sizeL_snoc' ks];omega
theorem wfL_snoc{x:Re}(hx:x.wf): ∀(ks:List Re),wfL ks->wfL (ks++[x])
 | [],_=>by simp[wfL,hx]
 |k::ks,h=>by rw[List.cons_append];unfold wfL at h ⊢;exact⟨h.1,wfL_snoc hx ks h.2⟩
theorem bsRe{V:Vw}{x:Re}{es:List Value}(he:ReE V x es):bsRow Tryz.prog 83 1 [(0,.agg ⟨es⟩)]=some (6,es):=by
 cases x with
 |mk op s ks=>
  obtain⟨kv,rfl,hs,hk⟩:=ReE_mk.1 he;obtain⟨s0,s1,s2,s3,rfl⟩: ∃a b c d,s=[a,b,c,d]:=by
   match s,hs with
   | [a,b,c,d],_=>exact⟨a,b,c,d,rfl⟩
  exact bs85 hk.one
theorem Ret.out{X:R}{P:Value->PH->Prop}(H:Ret (Go.Am.hb X fun v h=>some (v,h)) P): ∃v h,X=some (v,h)/\P v h:=by
 cases hX:X with
 |none=>rw[hX]at H;obtain⟨v,h,e,_⟩:=H;cases e
 |some p=>
  obtain⟨v,h⟩:=p;rw[hX]at H;obtain⟨v',h',e,q⟩:=H;cases e;exact⟨v,h,rfl,q⟩
section
variable {Q:Value->PH->Prop}{n:Nat}{cl:CL}{h h0:PH}{S:Vw}{m:OM}{rows:Rws}{K2:Value->PH->R}
def Ga(v:Value)(k:Nat)(cells:List Value)(ex:Rws):Prop:=(Gl 6 v k cells ex/\Gc v)\/(k=1/\ ∃b,v= .slice (some ⟨b,0,none⟩) 1 1/\ex=[(b,.row .own 6 cells)]/\cells.length=6)
theorem Ga.nil:Ga nils 0 [] []:=.inl ⟨Gl.nil,.inl rfl⟩
theorem Ga.length{v:Value}{k:Nat}{cells:List Value}{ex:Rws}(g:Ga v k cells ex):cells.length=k*6:=by
 rcases g with⟨g,_⟩|⟨rfl,b,_,_,h⟩
 ·exact g.length
 ·omega
theorem Ga.shape{v:Value}{k:Nat}{cells:List Value}{ex:Rws}(g:Ga v k cells ex)(hk:0<k): ∃b n c,v= .slice (some ⟨b,0,none⟩) n c:=by
 rcases g with⟨g,gc⟩|⟨rfl,b,rfl,_,h⟩
 ·rcases gc with rfl|⟨b,k,rfl⟩
  ·rcases g.h with⟨rfl,_⟩|⟨b,o,cap,all,e,_⟩
   ·omega
   ·cases e
  ·exact⟨_,_,_,rfl⟩
 ·exact⟨_,_,_,rfl⟩
theorem Ret.gappA{ex:Rws}(s:Sl h0 h S m (ex++rows)){v:Value}{k:Nat}{cells new:List Value}{parts:List (Nat×Value)}(g:Ga v k cells ex)
  (hb:bsRow Tryz.prog 83 1 parts=some (6,new)) (hl:new.length=6) (hone:oneCells new=true) (hk1:k<=1000)
  (hk: ∀h' v' ex',Sl h0 h' S m (ex'++rows)->Ga v' (k+1) (cells++new) ex'->Ret (K2 v' h') Q):Ret (Go.Am.hb (xBS 1 (bsRow Tryz.prog 83 1 parts) h) fun v1 h=>Go.Am.hb (xApp (appInfo Tryz.prog #[83,83]) v v1 h) K2) Q:=by
 have hsz:(2*(k+1)+512)*64<=281474976710656:=by omega
 refine Ret.lbs s hb fun h1 b st=>?_;rcases g with⟨g,gc⟩|⟨rfl,b0,rfl,rfl,hcl⟩
 ·have st1:=st.perm (rows':=ex++(b,.row .own 6 new)::rows) List.perm_middle.symm;have hx:=st1.ptail (n:=1) (sz:=6) (c:=1) (b:=b) (List.mem_append_right _ (.head _)) (by rw[hl]);rw[ai83];have H:Ret (Go.Am.hb (xApp (some (6,64)) v (.slice (some ⟨b,0,none⟩) 1 1) h1) fun v h=>some (v,h)) fun v' h'=> ∃ex',Sl h0 h' S m (ex'++rows)/\Gl 6 v' (k+1) (cells++new) ex':=by
   refine Ret.lapp st1 g hx (by rw[hl]) (by omega) hone hsz fun h' v' ex' st' g'=>?_;exact Ret.of ⟨ex',st'.drop (List.Sublist.append (List.Sublist.refl _) (List.sublist_cons_self _ _)),g'⟩
  obtain⟨v',h',e,ex',st',g'⟩:=Ret.out H;rw[e];exact hk h' v' ex' st' (.inl ⟨g',xApp_gc gc e⟩)
 ·have st:Sl h0 h1 S m ((b,.row .own 6 new)::(b0,.row .own 6 cells)::rows):=st;have hx:=st.ptail (n:=1) (sz:=6) (c:=1) (b:=b) (.head _) (by rw[hl]);rw[ai83];refine Ret.lappF st (st.mem (.tail _ (.head _))) (by omega) (by decide) hx (by omega) hone hsz fun h' b' st'=>?_;have e:(cells.drop 0).take (1*6)++new=cells++new:=by rw[List.drop_zero,List.take_of_length_le (by omega)]
  rw[e]at st';refine hk h' _ [(b',.row .opn 6 (cells++new))] (st'.drop (.cons_cons _ ((List.sublist_cons_self _ _).trans (List.sublist_cons_self _ _)))) (.inl ⟨⟨.inr ⟨b',0,openCap,cells++new,rfl,rfl,?_,?_,?_,Nat.le_refl _,by decide⟩⟩,.inr ⟨b',1+1,rfl⟩⟩)
  ·rw[List.drop_zero,List.take_of_length_le (by simp;omega)]
  ·simp;omega
  ·rw[Nat.sub_self,Nat.zero_mul]
theorem Ga.kids{ex:Rws}(s:Sl h0 h S m (ex++rows)){v:Value}{k:Nat}{cells:List Value}(g:Ga v k cells ex){xs:List Re}(hx:xs.length=k)(hk:k<=1000)(hc:KidsC S xs cells): ∃S',VwN h0 S S'/\Sl h0 h S' m rows/\KidsV S' xs v:=by
 rcases g with⟨g,gc⟩|⟨rfl,b0,rfl,rfl,hcl⟩
 ·obtain⟨S',le,st,hv⟩:=Gl.settleV s g;exact⟨S',le,st,hv.kids gc hx (by omega) (KidsC.mono le.1 hc)⟩
 ·have hn:=(s.sm.own b0 _ (s.mem (.head _))).2;obtain⟨st,hS⟩:=s.settle (i:=0) rfl;refine⟨_,VwN.put hS hn,st,.inr ⟨b0,0,1,cells,by rw[hx],by rw[hx];exact CapOk.self (by decide),Vw.put_self,by rw[hx];omega,?_⟩⟩;rw[List.drop_zero];exact KidsC.mono (Vw.le_put hS) hc
theorem wfL.one{x:Re}(h:wfL [x]):x.wf:=by unfold wfL at h;exact h.1
theorem KidsV.only{x:Re}{v:Value}(st:Sl h0 h S m rows)(hk:KidsV S [x] v): ∃p es,xIdxS 6 v (.int .i64 ((0:Nat):Int))=some p/\xLdA 6 p h=some (.agg ⟨es⟩)/\ReE S x es:=by
 obtain⟨b,o,cs,es,e1,e2,e3,e4,e5⟩:=hk.at (i:=0) (x:=x) rfl;exact⟨_,es,e1,st.ldSA e2 e3 e4,e5⟩
end
section
variable {Q:Value->PH->Prop}{n:Nat}{cl:CL}{h h0:PH}{S:Vw}{m:OM}{rows:Rws}{br a e b b1 b2:Nat}{t:ByteArray}
theorem EE_le(e:Nat):EE e<=1:=by unfold EE;split<;>omega
theorem wf_rep{x:Re}{o:Int}(h:x.wf)(ho:4<=o/\o<=6):(Re.mk o zs4 [x]).wf:=by
 unfold Re.wf;exact⟨by simp[wfL,h],.inr (.inr ⟨ho,rfl⟩)⟩
def StJ(t:ByteArray)(res:Res)(e:Nat)(x:Re)(a:Nat):Prop:=(e=0/\ ∃f,t.size<a+f/\res= .ok (starT t f x a))\/(e≠0/\res= .error e)
end
theorem wf_many{xs:List Re}{o:Int}(h:wfL xs)(ho:o=2\/o=3)(hl:2<=xs.length):(Re.mk o zs4 xs).wf:=by
 unfold Re.wf;exact⟨h,.inr (.inl ⟨ho,hl⟩)⟩
theorem manyT_many{xs:List Re}{o:Int}(hl:2<=xs.length):manyT o xs= .mk o zs4 xs:=by
 match xs,hl with
 |x::y::l,_=>rfl
theorem size_many{xs:List Re}{o:Int}{s:List Int}:(Re.mk o s xs).size=sizeL xs+1:=by unfold Re.size;rfl
section
variable {Q:Value->PH->Prop}{n:Nat}{cl:CL}{h h0:PH}{S:Vw}{m:OM}{rows:Rws}{br a e b b1 b2:Nat}{t:ByteArray}
def Ih(n:Nat)(cl:CL)(t:ByteArray)(br:Nat)(h0:PH)(d:Nat):Prop:=d<20-> ∀{S:Vw}{h:PH}{rows:Rws}{a b:Nat},a<=t.size->Sl h0 h S (RM br t a 0 b) rows->Ret (cl 67 [pt br,.int .i64 ((d+1:Nat):Int)] h) (PR S t br h0 rows a (t.size+22-(d+1)) 0 2 (altT t (20-(d+1)) a))
def SqJ(t:ByteArray)(alt:Nat->Res)(res:Res)(e:Nat)(xs:List Re)(a:Nat):Prop:=(e=0/\ ∃f,t.size<a+f/\res=seqL t alt f xs a)\/(e≠0/\res= .error e)
theorem seqL_stop{alt:Nat->Res}{g:Nat}{xs:List Re}(h:t.size<=a\/bt t a=124\/bt t a=41):seqL t alt (g+1) xs a= .ok (manyT 2 xs,a):=by
 show(if _ then _ else _)=_
 rw[if_pos h]
theorem seqL_go{alt:Nat->Res}{g:Nat}{xs:List Re}(h: ¬(t.size<=a\/bt t a=124\/bt t a=41)){x:Re}{a':Nat}(hp:partT t alt a= .ok (x,a')):seqL t alt (g+1) xs a=seqL t alt g (xs++[x]) a':=by
 show(if _ then _ else _)=_
 rw[if_neg h,hp]
theorem seqL_err{alt:Nat->Res}{g:Nat}{xs:List Re}(h: ¬(t.size<=a\/bt t a=124\/bt t a=41)){c:Nat}(hp:partT t alt a= .error c):seqL t alt (g+1) xs a= .error c:=by
 show(if _ then _ else _)=_
 rw[if_neg h,hp]
end
section
variable {Q:Value->PH->Prop}{n:Nat}{cl:CL}{h h0:PH}{S:Vw}{m:OM}{rows:Rws}{br a e b b1 b2:Nat}{t:ByteArray}
def AlJ(t:ByteArray)(alt:Nat->Res)(res:Res)(e:Nat)(xs:List Re)(a:Nat):Prop:=(e=0/\ ∃f,t.size<=a+f/\res=(if bt t a=124 then altL t alt f xs (a+1)else .ok (manyT 3 xs,a)))\/(e≠0/\res= .error e)
theorem altL_go{alt:Nat->Res}{g:Nat}{xs:List Re}{x:Re}{a':Nat}(hp:seqT t alt a= .ok (x,a')):altL t alt (g+1) xs a=(if bt t a'=124 then altL t alt g (xs++[x]) (a'+1)else .ok (manyT 3 (xs++[x]),a')):=by
 rw[altL,hp]
theorem altL_err{alt:Nat->Res}{g:Nat}{xs:List Re}{c:Nat}(hp:seqT t alt a= .error c):altL t alt (g+1) xs a= .error c:=by
 rw[altL,hp]
set_option maxRecDepth 100000 in
theorem LV67{n d:Nat}{u v:Value}{h:PH}:LV n (d+1) 67 [u,v] h=F67 n (LV n d) u v h:=rfl
theorem veq_i{k:IntKind}{x:Int}:veq (.int k x) (.int k x)=true:=by
 have h1:kb k k=true:=by cases k<;>rfl
 have h2:ieq x x=true:=by rw[ieq_eq];simp
 simp[veq,veq1,h1,h2]
end
def ParseV(S:Vw)(t:ByteArray)(h0:PH)(m:OM)(rows:Rws)(v:Value)(h':PH):Prop:=
 ∃S' x es p e,VwN h0 S S'/\Sl h0 h' S' m rows/\v= .tuple ⟨[.agg ⟨es⟩,.int .i64 p,.int .i64 ((e:Nat):Int)]⟩/\ReE S' x es/\x.wf/\x.size<=3*t.size+2/\(e=0->t.size<=200)/\((e=0/\prsT t= .ok x)\/(e≠0/\prsT t= .error e))
section
variable {Q:Value->PH->Prop}{n:Nat}{cl:CL}{h h0:PH}{S:Vw}{m:OM}{rows:Rws}{br a e b b1 b2:Nat}{t:ByteArray}
end
def fz(f:Nat->Int)(N:Nat):List Value:=(List.range N).map fun i=>.int .i64 (f i)
def fup(f:Nat->Int)(i:Nat)(x:Int):Nat->Int:=fun k=>if k=i then x else f k
def swp(f:Nat->Int)(i j:Nat):Nat->Int:=fun k=>if k=i then f j else if k=j then f i else f k
inductive Sw(a b:Nat):(Nat->Int)->(Nat->Int)->Prop where
 |refl {f}:Sw a b f f
 |step {f g:Nat->Int} {i j:Nat} (h:Sw a b f g) (hi:a<=i/\i<b) (hj:a<=j/\j<b):Sw a b f (swp g i j)
def Srt(a b:Nat)(f:Nat->Int):Prop:= ∀i j,a<=i->i<j->j<b->f i<=f j
def SM(b:Nat)(md:Mode)(pre post:List Value)(N:Nat)(f:Nat->Int):OM:=OM.emp.upd b (.row md 1 (pre++(fz f N++post)))
section
variable {Q:Value->PH->Prop}{n:Nat}{cl:CL}{h h0:PH}{S:Vw}{rows:Rws}{b N c:Nat}{md:Mode}{pre post:List Value}{f:Nat->Int}{K2:Value->PH->R}
abbrev sv(b:Nat)(pre:List Value)(N c:Nat):Value:=.slice (some ⟨b,pre.length,none⟩) N c
end
section
variable {Q:Value->PH->Prop}{n:Nat}{cl:CL}{h h0:PH}{S:Vw}{rows:Rws}{b N c:Nat}{md:Mode}{pre post:List Value}{f:Nat->Int}{K2:Value->PH->R}
def SR(S:Vw)(h0:PH)(rows:Rws)(b:Nat)(md:Mode)(pre post:List Value)(N a e:Nat)(f:Nat->Int)(P:(Nat->Int)->Value->Prop)(v:Value)(h':PH):Prop:=
 ∃g,Sw a e f g/\Sl h0 h' S (SM b md pre post N g) rows/\P g v
theorem wrapN{x:Nat}(h:x<4611686018427387904):IntKind.i64.wrap (((x:Nat):Int)+((1:Nat):Int))=((x+1:Nat):Int):=by rw[wrap_in (by omega) (by omega)];omega
end
def HeapAt(F:Nat->Int)(hi k:Nat):Prop:= ∀c,(c=2*k+1\/c=2*k+2)->c<hi->F c<=F k
structure HeapX(F:Nat->Int)(lo hi r:Nat):Prop where
 at': ∀k,lo<=k->k≠r->HeapAt F hi k
 up: ∀p,lo<=p->(r=2*p+1\/r=2*p+2)-> ∀c,(c=2*r+1\/c=2*r+2)->c<hi->F c<=F p
section
variable {Q:Value->PH->Prop}{n:Nat}{cl:CL}{h h0:PH}{S:Vw}{rows:Rws}{b N c:Nat}{md:Mode}{pre post:List Value}{f:Nat->Int}{K2:Value->PH->R}
end
theorem xQuo_n{x y:Nat}(hy:0<y)(hx:x<4611686018427387904):xQuo (.int .i64 (x:Nat)) (.int .i64 (y:Nat))=some (.int .i64 ((x / y:Nat):Int)):=by
 have h1:kb .i64 .i64=true:=rfl;have h2:ieq ((y:Nat):Int) 0=false:=by rw[ieq_eq];simp;omega
 have h3:Int.tdiv ((x:Nat):Int) ((y:Nat):Int)=((x / y:Nat):Int):=by simp[Int.tdiv]
 have h4:x / y<=x:=Nat.div_le_self _ _;simp only[xQuo,h1,h2,mkI_eq,wr_eq,h3];generalize x / y=z at h4;rw[wrap_in (by omega) (by omega)]
section
variable {Q:Value->PH->Prop}{n:Nat}{cl:CL}{h h0:PH}{S:Vw}{rows:Rws}{b N c:Nat}{md:Mode}{pre post:List Value}{f:Nat->Int}{K2:Value->PH->R}
end
structure Pinv(g:Nat->Int)(a e i j:Nat):Prop where
 lo:a+1<=i
 ij:i<=j+1
 je:j<e
 l: ∀k,a<k->k<i->g k<g a
 r: ∀k,j<k->k<e->g a<=g k
def Parted(a e:Nat)(g:Nat->Int)(mid:Nat):Prop:=a<=mid/\mid<e/\(∀k,a<=k->k<mid->g k<=g mid)/\(∀k,mid<k->k<e->g mid<=g k)
section
variable {Q:Value->PH->Prop}{n:Nat}{cl:CL}{h h0:PH}{S:Vw}{rows:Rws}{b N c:Nat}{md:Mode}{pre post:List Value}{f g:Nat->Int}{K2:Value->PH->R}
end
section
variable {Q:Value->PH->Prop}{n:Nat}{cl:CL}{h h0:PH}{S:Vw}{rows:Rws}{b N c:Nat}{md:Mode}{pre post:List Value}{f g:Nat->Int}{K2:Value->PH->R}
def PartP(a e:Nat)(g:Nat->Int)(v:Value):Prop:= ∃(mid:Nat) (bb:Bool),v= .tuple ⟨[.int .i64 (mid:Nat),.bool bb]⟩/\Parted a e g mid
end
structure Pine(g:Nat->Int)(a e i j:Nat):Prop where
 lo:a+1<=i
 ij:i<=j+1
 je:j<e
 l: ∀k,a<k->k<i->g k<=g a
 r: ∀k,j<k->k<e->g a<g k
def EqP(a e:Nat)(pv:Int)(g:Nat->Int)(v:Value):Prop:= ∃mid:Nat,v= .int .i64 (mid:Nat)/\g a=pv/\a<mid/\mid<=e/\(∀k,a<=k->k<mid->g k<=g a)/\(∀k,mid<=k->k<e->g a<g k)
section
variable {Q:Value->PH->Prop}{n:Nat}{cl:CL}{h h0:PH}{S:Vw}{rows:Rws}{b N c:Nat}{md:Mode}{pre post:List Value}{f g:Nat->Int}{K2:Value->PH->R}
end
section
variable {Q:Value->PH->Prop}{n:Nat}{cl:CL}{h h0:PH}{S:Vw}{rows:Rws}{b N c:Nat}{md:Mode}{pre post:List Value}{f g:Nat->Int}{K2:Value->PH->R}
def ChP(a e:Nat)(v:Value):Prop:= ∃p t:Nat,v= .tuple ⟨[.int .i64 (p:Nat),.int .i64 (t:Nat)]⟩/\a<=p/\p<e
end
def lenTab:ByteArray:= {data:= #[0,1,2,2,3,3,3,3,4,4,4,4,4,4,4,4,5,5,5,5,5,5,5,5,5,5,5,5,5,5,5,5,6,6,6,6,6,6,6,6,6,6,6,6,6,6,6,6,6,6,6,6,6,6,6,6,6,6,6,6,6,6,6,6,7,7,7,7,7,7,7,7,7,7,7,7,7,7,7,7,7,7,7,7,7,7,7,7,7,7,7,7,7,7,7,7,7,7,7,7,7,7,7,7,7,7,7,7,7,7,7,7,7,7,7,7,7,7,7,7,7,7,7,7,7,7,7,7,8,8,8,8,8,8,8,8,8,8,8,8,8,8,8,8,8,8,8,8,8,8,8,8,8,8,8,8,8,8,8,8,8,8,8,8,8,8,8,8,8,8,8,8,8,8,8,8,8,8,8,8,8,8,8,8,8,8,8,8,8,8,8,8,8,8,8,8,8,8,8,8,8,8,8,8,8,8,8,8,8,8,8,8,8,8,8,8,8,8,8,8,8,8,8,8,8,8,8,8,8,8,8,8,8,8,8,8,8,8,8,8,8,8,8,8,8,8,8,8,8,8,8,8,8,8,8,8]}
def BL(x L:Nat):Prop:=(x=0/\L=0)\/(0<L/\2 ^ (L-1)<=x/\x<2 ^ L)
instance(x L:Nat):Decidable (BL x L):=by unfold BL;exact inferInstance
section
variable {Q:Value->PH->Prop}{n:Nat}{cl:CL}{h h0:PH}{S:Vw}{rows:Rws}{b N c:Nat}{md:Mode}{pre post:List Value}{f g:Nat->Int}{K2:Value->PH->R}
end
section
variable {Q:Value->PH->Prop}{n:Nat}{cl:CL}{h h0:PH}{S:Vw}{m:OM}{rows:Rws}{b N c:Nat}{md:Mode}{pre post:List Value}{f g:Nat->Int}{K2:Value->PH->R}
end
theorem zi49:zinfo Tryz.prog 49=some (1,8,[.int .i64 0]):=by kernel_rfl
theorem u49: ∃inf,Tryz.prog.underlying 49=some (.slice 3)/\Tryz.prog.info? 3=some inf/\inf.size=1:=by
 have e2:(Tryz.prog.info? 3).map (·.size)=some 1:=by kernel_rfl
 rw[Option.map_eq_some_iff]at e2;obtain⟨inf,h1,h2⟩:=e2;exact⟨inf,by kernel_rfl,h1,h2⟩
section
variable {Q:Value->PH->Prop}{n:Nat}{cl:CL}{h h0:PH}{S:Vw}{m:OM}{rows:Rws}{b N c:Nat}{md:Mode}{pre post:List Value}{f g:Nat->Int}{K2:Value->PH->R}
def Once(N:Nat)(f:Nat->Int)(K:Nat)(g:Nat->Int):Prop:=(∀i j,i<j->j<K->g i<g j)/\(∀i,i<N-> ∃j,j<K/\g j=f i)/\(∀j,j<K-> ∃i,i<N/\g j=f i)
def CompV(S:Vw)(h0:PH)(rows:Rws)(b:Nat)(md:Mode)(pre:List Value)(N c:Nat)(f:Nat->Int)(v:Value)(h':PH):Prop:=
 ∃K g post',K<=N/\Once N f K g/\v=sv b pre K c/\Sl h0 h' S (SM b md pre post' K g) rows
end
def shrI(x:Int)(s:Nat):Int:=match x with
 | .ofNat m=>.ofNat (m>>>s)
 | .negSucc m=>.negSucc (m>>>s)
theorem xShr_is{k k':IntKind}{x:Int}{s:Nat}(h:s<=k.bits):xShr (.int k x) (.int k' (s:Nat))=some (.int k (shrI x s)):=by
 have h1:Nat.ble s k.bits=true:=ble_t' h;cases x with
 |ofNat m=>
  show(match Nat.ble s k.bits with|true=>(match shN (.ofNat m) s with|some q=>some (Value.int k q)|none=>none)|false=>none)=_
  rw[h1]
  show(match seqN (Nat.shiftRight m s) fun q=>some (Int.ofNat q)with|some q=>some (Value.int k q)|none=>none)=_
  rw[seqN_eq];rfl
 |negSucc m=>
  show(match Nat.ble s k.bits with|true=>(match shN (.negSucc m) s with|some q=>some (Value.int k q)|none=>none)|false=>none)=_
  rw[h1]
  show(match seqN (Nat.shiftRight m s) fun q=>some (Int.negSucc q)with|some q=>some (Value.int k q)|none=>none)=_
  rw[seqN_eq];rfl
def hasB(s:List Int)(c:Nat):Bool:=decide (IntKind.u64.wrap ((Nat.land (bitN .u64 (shrI (s.getD (c / 64) 0) (c % 64))) (bitN .u64 (.ofNat 1)):Nat):Int)= .ofNat 1)
theorem xRem_n{x y:Nat}(hy:0<y)(hx:x<4611686018427387904):xRem (.int .i64 (x:Nat)) (.int .i64 (y:Nat))=some (.int .i64 ((x % y:Nat):Int)):=by
 have h1:kb .i64 .i64=true:=rfl;have h2:ieq ((y:Nat):Int) 0=false:=by rw[ieq_eq];simp;omega
 have h3:Int.tmod ((x:Nat):Int) ((y:Nat):Int)=((x % y:Nat):Int):=by simp[Int.tmod]
 have h4:x % y<=x:=Nat.mod_le _ _;simp only[xRem,h1,h2,mkI_eq,wr_eq,h3]
section
variable {Q:Value->PH->Prop}{n:Nat}{cl:CL}{h h0:PH}{S:Vw}{m:OM}{rows:Rws}
theorem c156[OkH h]{s:List Int}(hs:s.length=4){c:Nat}(hc:c<256):pcall (F156 n cl (.agg ⟨u64s s⟩) (.int .i64 (c:Nat)) h)=some (.bool (hasB s c)):=by
 refine pcall_fr (h:=h) (S:=h.cells) ?_ rfl;unfold Fr F156;refine Ret.lbox (Sl.start h (Vw.le.refl _)) fun h1 b1 st1=>?_;have st1:Sl h h1 h.cells OM.emp [(b1,.row .own 1 (u64s s))]:=st1;have hj:c / 64<4:=by omega
 have hx:=List.getElem?_eq_getElem (l:=s) (i:=c / 64) (by omega);have hD:s.getD (c / 64) 0=s[c / 64]:=by simp[List.getD_eq_getElem?_getD,hx]
 have l1:xLd (.pointer (some ⟨b1,0+c / 64*1,none⟩)) h1=some (.int .u64 s[c / 64]):=st1.ld (.head _) (by rw[Nat.zero_add,Nat.mul_one];simp[u64s,hx]);have e1:=xQuo_n (x:=c) (y:=64) (by decide) (by omega);have e3:=xRem_n (x:=c) (y:=64) (by decide) (by omega);have e2:=xShr_is (k:=.u64) (k':=.i64) (x:=s[c / 64]) (s:=c % 64) (by show c % 64<=64;omega);simp only[vN_eq,e1,vb_some,xIdxA_at' hj,l1,e3,e2,xBit_ex,xEq_i];refine Fr.ret st1 ?_;unfold hasB;rw[hD]
theorem c139[OkH h]{s:List Int}(hs:s.length=4){c:Nat}(hc:c<256):pcall (F139 n cl (.agg ⟨u64s s⟩) (.int .u8 (c:Nat)) h)=some (.bool (hasB s c)):=by
 refine pcall_fr (h:=h) (S:=h.cells) ?_ rfl;unfold Fr F139;refine Ret.lbox (Sl.start h (Vw.le.refl _)) fun h1 b1 st1=>?_;have st1:Sl h h1 h.cells OM.emp [(b1,.row .own 1 (u64s s))]:=st1;have hl:(u64s s).length=4:=by simp[u64s,hs]
 have la:xLdA 4 (pt b1) h1=some (.agg ⟨u64s s⟩):=st1.ldA (.head _) (by rw[List.drop_zero, <-hl,List.take_length]) (by omega);have:=st1.ok;have hp:=c156 (n:=n) (cl:=cl) (h:=h1.fzn) hs hc;simp only[la,vb_some,xConvI_i',wrap_in (show -9223372036854775808<=((c:Nat):Int) by omega) (show((c:Nat):Int)<9223372036854775808 by omega),hp];exact Fr.ret st1 rfl
end
def takesB(po:Po)(c i:Nat):Bool:=decide (i<po.sets.length)&&hasB (po.sets.getD i []) c
def tk(po:Po)(c:Nat)(l:List Nat):List Nat:=l.filter fun i=>takesB po c i
section
variable {Q:Value->PH->Prop}{n:Nat}{cl:CL}{h h0:PH}{S:Vw}{m:OM}{rows:Rws}
end
section
variable {Q:Value->PH->Prop}{n:Nat}{cl:CL}{h h0:PH}{S:Vw}{m:OM}{rows:Rws}{K2:Value->PH->R}
def aft(po:Po)(l:List Nat):List Nat:=l.flatMap fun y=>po.follow.getD y []
end
def Rise(L cat:List Nat):Prop:=L.Pairwise (· < ·)/\ ∀y,y∈L↔y∈cat
section
variable {Q:Value->PH->Prop}{n:Nat}{cl:CL}{h h0:PH}{S:Vw}{m:OM}{rows:Rws}{K2:Value->PH->R}
end
section
variable {Q:Value->PH->Prop}{n:Nat}{cl:CL}{h h0:PH}{S:Vw}{m:OM}{rows:Rws}{K2:Value->PH->R}
end
section
variable {Q:Value->PH->Prop}{n:Nat}{cl cl':CL}{h h0:PH}{S:Vw}{m:OM}{rows:Rws}{K2:Value->PH->R}
end
def nowP(po:Po):(Nat->Prop)->List Nat->(Nat->Prop)
 |X,[]=>X
 |X,c::cs=>nowP po (fun i=>(∃y,X y/\i∈po.follow.getD y [])/\takesB po c i=true) cs
def bys(l:List Nat):List Value:=l.map fun c=>.int .u8 (c:Nat)
section
variable {Q:Value->PH->Prop}{n:Nat}{cl cl':CL}{h h0:PH}{S:Vw}{m:OM}{rows:Rws}{K2:Value->PH->R}
end
def takesP(po:Po):List Nat->Prop
 | []=>po.null=true
 |c::cs=> ∃y,nowP po (fun i=>i∈po.first/\takesB po c i=true) cs y/\y∈po.last
theorem u33: ∃inf,Tryz.prog.underlying 33=some (.slice 5)/\Tryz.prog.info? 5=some inf/\inf.size=1:=by
 have e2:(Tryz.prog.info? 5).map (·.size)=some 1:=by kernel_rfl
 rw[Option.map_eq_some_iff]at e2;obtain⟨inf,h1,h2⟩:=e2;exact⟨inf,by kernel_rfl,h1,h2⟩
section
variable {Q:Value->PH->Prop}{n:Nat}{cl cl':CL}{h h0:PH}{S:Vw}{m:OM}{rows:Rws}{K2:Value->PH->R}
end
section
variable {Q:Value->PH->Prop}{n:Nat}{cl cl':CL}{h h0:PH}{S:Vw}{m:OM}{rows:Rws}{K2:Value->PH->R}
end
section
variable {Q:Value->PH->Prop}{n:Nat}{cl cl':CL}{h h0:PH}{S S':Vw}{m:OM}{rows:Rws}{K2:Value->PH->R}
end
def refP(po:Po):(Nat->Prop)->List Nat->Prop
 |X,[]=>False
 |X,[c]=> ∃y,(X y/\takesB po c y=true)/\y∈po.last
 |X,c::c'::cs=>refP po (fun i=> ∃y,(X y/\takesB po c y=true)/\i∈po.follow.getD y []) (c'::cs)
section
variable {Q:Value->PH->Prop}{n:Nat}{cl cl':CL}{h h0:PH}{S:Vw}{m:OM}{rows:Rws}{K2:Value->PH->R}
end
section
variable {Q:Value->PH->Prop}{n:Nat}{cl cl':CL}{h h0:PH}{S:Vw}{m:OM}{rows:Rws}{K2:Value->PH->R}
end
theorem ai33:appInfo Tryz.prog #[33,33]=some (1,1):=by kernel_rfl
structure BysV(V:Vw)(v:Value)(bs:List Nat):Prop where
 slv:bs≠[]->SlV V v (bys bs)
 emp:bs=[]->v=nils\/ ∃b c,v= .slice (some ⟨b,0,none⟩) 0 c
 cap: ∀b n c,v= .slice (some b) n c->c=openCap
section
variable {Q:Value->PH->Prop}{n:Nat}{cl cl':CL}{h h0:PH}{S:Vw}{m:OM}{rows:Rws}{K2:Value->PH->R}
end
theorem abeq'{o1 o2:Operand}{a b:Bool}:abin Tryz.prog .eql 4 o1 o2 (.bool a) (.bool b)=some (.bool (a==b)):=by cases a<;>cases b<;>kernel_rfl
section
variable {n:Nat}{h h0:PH}{S:Vw}
end
end Go.Am
namespace Go.Am
open Go Go.RowKit Go.Proofs Go.ChangeShapes Go.WideShapes
theorem PH.abs_list{h:PH}{l:List AObj}(hn:h.n=l.length)(hz:h.fz=0)(hr: ∀b,h.raw b=l[b]?):h.abs=l:=by
 apply List.ext_getElem?
 intro i
 show((List.range h.n).map fun i=>frz (Nat.blt i h.fz) ((h.br.get i).getD .dead))[i]?=l[i]?
 rw[List.getElem?_map]
 by_cases hi:i<h.n
 ·have hl:l[i]?=some l[i]:=List.getElem?_eq_getElem (by omega);have hb:Nat.blt i h.fz=false:=by rw[hz];rfl
  have hg:h.br.get i=some l[i]:=by rw[<-PH.raw_lt hi,hr,hl]
  rw[List.getElem?_range hi,hl];simp only[Option.map_some,hb,hg,Option.getD_some,frz]
 ·rw[List.getElem?_eq_none (by simp;omega),List.getElem?_eq_none (by omega)];rfl
end Go.Am
