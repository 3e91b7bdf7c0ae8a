import Derived.Test.YtjomodhbneicmaaZS
import Derived.Test.YtjomodhbneicmaaZQ
import Derived.Test.YtjomodhbneicmaaZH
import Derived.Test.YtjomodhbneicmaaZW
set_option linter.unusedSimpArgs false
set_option linter.unusedVariables false
namespace Go.Am
open Go Go.RowKit Go.Proofs
def shrI(x:Int)(s:Nat):Int:=match x with
 | .ofNat m=>.ofNat (m>>>s)
 | .negSucc m=>.negSucc (m>>>s)
theorem xShr_is{k k':IntKind}{x:Int}{s:Nat}(h:s<=k.bits):xShr (.int k x) (.int k' (s:Nat))=some (.int k (shrI x s)):=by
 have h1:Nat.ble s k.bits=true:=ble_t' h;cases x with
 |ofNat m=>
  show(match Nat.ble s k.bits with|true=>(match shN (.ofNat m) s with|some q=>some (Value.int k q)|none=>none)|false=>none)=_
  rw[h1]
  show(match seqN (Nat.shiftRight m s) fun q=>some (Int.ofNat q)with|some q=>some (Value.int k q)|none=>none)=_
  rw[seqN_eq];rfl
 |negSucc m=>
  show(match Nat.ble s k.bits with|true=>(match shN (.negSucc m) s with|some q=>some (Value.int k q)|none=>none)|false=>none)=_
  rw[h1]
  show(match seqN (Nat.shiftRight m s) fun q=>some (Int.negSucc q)with|some q=>some (Value.int k q)|none=>none)=_
  rw[seqN_eq];rfl
def hasB(s:List Int)(c:Nat):Bool:=decide (IntKind.u64.wrap ((Nat.land (bitN .u64 (shrI (s.getD (c / 64) 0) (c % 64))) (bitN .u64 (.ofNat 1)):Nat):Int)= .ofNat 1)
theorem xRem_n{x y:Nat}(hy:0<y)(hx:x<4611686018427387904):xRem (.int .i64 (x:Nat)) (.int .i64 (y:Nat))=some (.int .i64 ((x % y:Nat):Int)):=by
 have h1:kb .i64 .i64=true:=rfl;have h2:ieq ((y:Nat):Int) 0=false:=by rw[ieq_eq];simp;omega
 have h3:Int.tmod ((x:Nat):Int) ((y:Nat):Int)=((x % y:Nat):Int):=by simp[Int.tmod]
 have h4:x % y<=x:=Nat.mod_le _ _;simp only[xRem,h1,h2,mkI_eq,wr_eq,h3]
section
variable {Q:Value->PH->Prop}{n:Nat}{cl:CL}{h h0:PH}{S:Vw}{m:OM}{rows:Rws}
theorem c103[OkH h]{s:List Int}(hs:s.length=4){c:Nat}(hc:c<256):pcall (F103 n cl (.agg ⟨u64s s⟩) (.int .i64 (c:Nat)) h)=some (.bool (hasB s c)):=by
 refine pcall_fr (h:=h) (S:=h.cells) ?_ rfl;unfold Fr F103;refine Ret.lbox (Sl.start h (Vw.le.refl _)) fun h1 b1 st1=>?_;have st1:Sl h h1 h.cells OM.emp [(b1,.row .own 1 (u64s s))]:=st1;have hj:c / 64<4:=by omega
 have hx:=List.getElem?_eq_getElem (l:=s) (i:=c / 64) (by omega);have hD:s.getD (c / 64) 0=s[c / 64]:=by simp[List.getD_eq_getElem?_getD,hx]
 have l1:xLd (.pointer (some ⟨b1,0+c / 64*1,none⟩)) h1=some (.int .u64 s[c / 64]):=st1.ld (.head _) (by rw[Nat.zero_add,Nat.mul_one];simp[u64s,hx]);have e1:=xQuo_n (x:=c) (y:=64) (by decide) (by omega);have e3:=xRem_n (x:=c) (y:=64) (by decide) (by omega);have e2:=xShr_is (k:=.u64) (k':=.i64) (x:=s[c / 64]) (s:=c % 64) (by show c % 64<=64;omega);simp only[vN_eq,e1,vb_some,xIdxA_at' hj,l1,e3,e2,xBit_ex,xEq_i];refine Fr.ret st1 ?_;unfold hasB;rw[hD]
theorem c84[OkH h]{s:List Int}(hs:s.length=4){c:Nat}(hc:c<256):pcall (F84 n cl (.agg ⟨u64s s⟩) (.int .u8 (c:Nat)) h)=some (.bool (hasB s c)):=by
 refine pcall_fr (h:=h) (S:=h.cells) ?_ rfl;unfold Fr F84;refine Ret.lbox (Sl.start h (Vw.le.refl _)) fun h1 b1 st1=>?_;have st1:Sl h h1 h.cells OM.emp [(b1,.row .own 1 (u64s s))]:=st1;have hl:(u64s s).length=4:=by simp[u64s,hs]
 have la:xLdA 4 (pt b1) h1=some (.agg ⟨u64s s⟩):=st1.ldA (.head _) (by rw[List.drop_zero, <-hl,List.take_length]) (by omega);have:=st1.ok;have hp:=c103 (n:=n) (cl:=cl) (h:=h1.fzn) hs hc;simp only[la,vb_some,xConvI_i',wrap_in (show -9223372036854775808<=((c:Nat):Int) by omega) (show((c:Nat):Int)<9223372036854775808 by omega),hp];exact Fr.ret st1 rfl
end
def takesB(po:Po)(c i:Nat):Bool:=decide (i<po.sets.length)&&hasB (po.sets.getD i []) c
def tk(po:Po)(c:Nat)(l:List Nat):List Nat:=l.filter fun i=>takesB po c i
section
variable {Q:Value->PH->Prop}{n:Nat}{cl:CL}{h h0:PH}{S:Vw}{m:OM}{rows:Rws}
end
section
variable {Q:Value->PH->Prop}{n:Nat}{cl:CL}{h h0:PH}{S:Vw}{m:OM}{rows:Rws}{K2:Value->PH->R}
def aft(po:Po)(l:List Nat):List Nat:=l.flatMap fun y=>po.follow.getD y []
end
def Rise(L cat:List Nat):Prop:=L.Pairwise (· < ·)/\ ∀y,y∈L↔y∈cat
section
variable {Q:Value->PH->Prop}{n:Nat}{cl:CL}{h h0:PH}{S:Vw}{m:OM}{rows:Rws}{K2:Value->PH->R}
end
section
variable {Q:Value->PH->Prop}{n:Nat}{cl:CL}{h h0:PH}{S:Vw}{m:OM}{rows:Rws}{K2:Value->PH->R}
end
section
variable {Q:Value->PH->Prop}{n:Nat}{cl cl':CL}{h h0:PH}{S:Vw}{m:OM}{rows:Rws}{K2:Value->PH->R}
end
def nowP(po:Po):(Nat->Prop)->List Nat->(Nat->Prop)
 |X,[]=>X
 |X,c::cs=>nowP po (fun i=>(∃y,X y/\i∈po.follow.getD y [])/\takesB po c i=true) cs
def bys(l:List Nat):List Value:=l.map fun c=>.int .u8 (c:Nat)
section
variable {Q:Value->PH->Prop}{n:Nat}{cl cl':CL}{h h0:PH}{S:Vw}{m:OM}{rows:Rws}{K2:Value->PH->R}
end
def takesP(po:Po):List Nat->Prop
 | []=>po.null=true
 |c::cs=> ∃y,nowP po (fun i=>i∈po.first/\takesB po c i=true) cs y/\y∈po.last
theorem bys_len(l:List Nat):(bys l).length=l.length:=by simp[bys]
section
variable {Q:Value->PH->Prop}{n:Nat}{cl cl':CL}{h h0:PH}{S:Vw}{m:OM}{rows:Rws}{K2:Value->PH->R}
end
section
variable {Q:Value->PH->Prop}{n:Nat}{cl cl':CL}{h h0:PH}{S:Vw}{m:OM}{rows:Rws}{K2:Value->PH->R}
end
section
variable {Q:Value->PH->Prop}{n:Nat}{cl cl':CL}{h h0:PH}{S S':Vw}{m:OM}{rows:Rws}{K2:Value->PH->R}
end
def refP(po:Po):(Nat->Prop)->List Nat->Prop
 |X,[]=>False
 |X,[c]=> ∃y,(X y/\takesB po c y=true)/\y∈po.last
 |X,c::c'::cs=>refP po (fun i=> ∃y,(X y/\takesB po c y=true)/\i∈po.follow.getD y []) (c'::cs)
section
variable {Q:Value->PH->Prop}{n:Nat}{cl cl':CL}{h h0:PH}{S:Vw}{m:OM}{rows:Rws}{K2:Value->PH->R}
end
section
variable {Q:Value->PH->Prop}{n:Nat}{cl cl':CL}{h h0:PH}{S:Vw}{m:OM}{rows:Rws}{K2:Value->PH->R}
end
theorem Ret.fcall0{Q:Value->PH->Prop}{h h0:PH}{S:Vw}{K2:Value->PH->R}(s:Sl h0 h S OM.emp []){r:R}{P:Value->Vw->Prop}
  (a:Ret r fun v h1=> ∃S',Vw.le S S'/\Sl h.fzn h1 S' OM.emp []/\P v S') (hk: ∀v h' S',Vw.le S S'->P v S'->Sl h0 h' S' OM.emp []->Ret (K2 v h') Q):Ret (Go.Am.hb (Go.Am.fcall h r) K2) Q:=by
 obtain⟨v,h1,rfl,S',le,s1,hp⟩:=a;have ok:=s.ok;have e:Go.Am.fcall h (some (v,h1))=some (v,h.back h1):=by
  show Bool.rec (motive:=fun _=>R) none (some (v,h.back h1)) (Nat.ble h.fz h.n)=_
  rw[Nat.ble_eq_true_of_le ok.fz]
 rw[e];have kp:=s1.sm.kp;have hle:h.n<=h1.n:=kp.le;have le0:=s.sm.kp.le;have hraw: ∀b,(h.back h1).raw b=h1.raw b:=fun b=>rfl;have hold: ∀b,b<h.n->h1.raw b=h.raw b:=fun b hb=>kp.raw b hb;refine hk v (h.back h1) S' le hp ⟨⟨⟨⟨by show h.fz<=h1.n;have:=ok.fz;omega,kp.ok.full⟩,by show h0.n<=h1.n;omega,s.sm.kp.fz,fun b hb=>?_,opK_of fun b hb=>?_⟩,s.sm.fz,fun b o hb=>?_,fun b cs hb=>?_⟩,.nil,fun p hp=>by cases hp⟩
 ·rw[hraw,hold b (by omega)];exact s.sm.kp.raw b hb
 ·rw[hraw,hold b (by omega)];exact s.sm.kp.raw b hb
 ·cases hb
 ·obtain⟨h2,h3⟩:=s1.sm.see b cs hb;refine⟨?_,rfl⟩;unfold PH.cells at h2 ⊢;rw[hraw];exact h2
theorem ai39:appInfo Try.prog #[39,39]=some (1,1):=by kernel_rfl
structure BysV(V:Vw)(v:Value)(bs:List Nat):Prop where
 slv:bs≠[]->SlV V v (bys bs)
 emp:bs=[]->v=nils\/ ∃b c,v= .slice (some ⟨b,0,none⟩) 0 c
 cap: ∀b n c,v= .slice (some b) n c->c=openCap
theorem BysV.mono{V W:Vw}{v:Value}{bs:List Nat}(hs:Vw.le V W)(h:BysV V v bs):BysV W v bs:=⟨fun e=>(h.slv e).mono hs,h.emp,h.cap⟩
theorem BysV.len{V:Vw}{v:Value}{bs:List Nat}(h:BysV V v bs):xLenS v=some (.int .i64 (bs.length:Nat)):=by
 by_cases e:bs=[]
 ·subst e;rcases h.emp rfl with rfl|⟨b,c,rfl⟩<;>simp[nils]
 ·have:=(h.slv e).len
  rwa [bys_len]at this
section
variable {Q:Value->PH->Prop}{n:Nat}{cl cl':CL}{h h0:PH}{S:Vw}{m:OM}{rows:Rws}{K2:Value->PH->R}
end
theorem clt104{n d:Nat}{u v w x:Value}{h:PH}:CLT n d 104 [u,v,w,x] h=CLV n d 104 [u,v,w,x] h:=rfl
theorem clt55{n d:Nat}{u v:Value}{h:PH}:CLT n d 55 [u,v] h=CLV n d 55 [u,v] h:=rfl
theorem clt61{n d:Nat}{u v:Value}{h:PH}:CLT n (d+1) 61 [u,v] h=F61 n (CLV n d) u v h:=rfl
theorem abeq'{o1 o2:Operand}{a b:Bool}:abin Try.prog .eql 4 o1 o2 (.bool a) (.bool b)=some (.bool (a==b)):=by cases a<;>cases b<;>kernel_rfl
section
variable {n:Nat}{h h0:PH}{S:Vw}
end
end Go.Am
namespace Go.Am
open Go Go.RowKit Go.Proofs Go.ChangeShapes Go.WideShapes
theorem wf8{z:Int}(h:(Lit.int .u8 z).wf=true):0<=z/\z<256:=by
 simp[Lit.wf,IntKind.min,IntKind.max,IntKind.signed,IntKind.bits]at h;omega
theorem opens_bytes{P:Program}{T e:TypeId}(hu:P.underlying T=some (.slice e))(hsz:P.cellsOf e=1)(he:P.underlying e=some (.int .u8)){H:Type}{enc:TypeId×Value->H}{w:World}{ρ:RMap}{l:Heap}{fuel:Nat}{v:Value}{y:DataW H×List MemPlace}(m:Im w ρ l)(ht:DataW.trod enc P w 0 (fun _=>true) true fuel T [v]=some y):
  ∃(ρ':RMap) (ext:Heap) (v':Value) (bs:List Nat),Im w ρ' (l++ext)/\ρ.le ρ'/\VR ρ' v' v/\BysV (vl (l++ext)) v' bs/\ ∀c∈bs,c<256:=by
 have hmx:maxLen=9223372036854775807:=rfl;have op:Opens P e (rI .u8) (fun z=>(Lit.int .u8 z).wf=true):=opens_int he;rcases Deep.open_slice hu ht with⟨hcs,_⟩|⟨a,len,cap,mm,n,D,Pl,hcs,_,hlc,hm,hmm,_,hcell⟩
 ·cases hcs;exact⟨ρ,[],nils,[],by rw[List.append_nil];exact m,RMap.le_refl _,.snil _ _,⟨fun h=>absurd rfl h,fun _=>.inl rfl,fun b n c e=>by cases e⟩,by simp⟩
 ·cases hcs;simp only[if_true]at hmm;rw[hsz]at hcell;cases hc0:cap with
  |zero=>
   have hl0:len=0:=by omega
   subst hl0;exact⟨ρ,[],.slice (some ⟨0,0,none⟩) 0 openCap,[],by rw[List.append_nil];exact m,RMap.le_refl _,.slz m.zero (by decide) rfl,⟨fun h=>absurd rfl h,fun _=>.inr ⟨_,_,rfl⟩,fun b n c e=>by cases e;rfl⟩,by simp⟩
  |succ cap'=>
   obtain⟨cs0,hc,_⟩:=hcell 0 (by omega);obtain⟨_,hlen0,hat0⟩:=World.cells?_some hc;have hat0:=hat0 0 (by omega);have hx0:=List.getElem?_eq_getElem (l:=cs0) (i:=0) (by omega);obtain⟨hb,hs⟩:=cell_lt (v:=cs0[0]'(by omega)) (by rw[hat0];exact hx0);have hb:a.block<w.heap.size:=by simpa[Addr.add]using hb
   have hs:a.spot=none:=by simpa[Addr.add]using hs
   have ea:a=⟨a.block,a.off,none⟩:=by cases a;simp_all
   obtain⟨ρ1,ext,xs,cs,m1,le1,h1,h2,h3,h4,h5⟩:=Im.rowsK op m hs (fun i hi=>let⟨c,q1,q2⟩:=hcell i (by omega);⟨c,q1,_,q2⟩) len (Nat.le_refl _);have h2:cs.length=len*1:=h2;have m':=m1.row 1 a.block a.off cap cs hb h3;have hnew:vl (l++(ext++[.row .ro 1 cs])) (l++ext).length=some cs:=by
    unfold vl;rw[<-List.append_assoc,List.getElem?_append_right (Nat.le_refl _),Nat.sub_self];simp
   refine⟨_,ext++[.row .ro 1 cs],.slice (some ⟨(l++ext).length,0,none⟩) len openCap,xs.map Int.toNat,by rw[<-List.append_assoc];exact m',RMap.le_trans le1 (upR_le m1 _),?_,⟨fun _=>.inr ⟨(l++ext).length,0,openCap,cs,by rw[bys_len,List.length_map,h1],hnew,by rw[bys_len,List.length_map,h1,h2];omega,fun i x hx=>?_⟩,fun e=>.inr ⟨(l++ext).length,openCap,?_⟩,fun b n c e=>by cases e;rfl⟩,?_⟩
   ·rw[ea];have e:upR ρ1 (l++ext).length ⟨a.block,a.off,cap⟩ (l++ext).length=some ⟨a.block,a.off,cap⟩:=by unfold upR;rw[if_pos rfl]
    rw[<-hc0];exact VR.slo e (by decide) (Nat.add_comm _ _) hlc
   ·unfold bys at hx;rw[List.map_map,List.getElem?_map,Option.map_eq_some_iff]at hx;obtain⟨z,hz,rfl⟩:=hx;have hlt:=(List.getElem?_eq_some_iff.1 hz).1;have q:=h4 i z hz;have q:(cs.drop (i*1)).take 1=[.int .u8 z]:=q;have hw:=wf8 (h5 z (List.mem_of_getElem? hz));rw[Nat.mul_one,List.drop_eq_getElem_cons (by omega),List.take_succ_cons,List.take_zero]at q;rw[Nat.zero_add,List.getElem?_eq_getElem (by omega)];refine congrArg some ((List.cons.inj q).1.trans ?_)
    show Value.int .u8 z= .int .u8 ((z.toNat:Nat):Int)
    rw[Int.toNat_of_nonneg hw.1]
   ·have:xs.length=0:=by simpa using congrArg List.length e
    have hl:len=0:=by omega
    rw[hl]
   ·intro c hc;rw[List.mem_map]at hc;obtain⟨z,hz,rfl⟩:=hc;have:=wf8 (h5 z hz);omega
theorem PH.abs_list{h:PH}{l:List AObj}(hn:h.n=l.length)(hz:h.fz=0)(hr: ∀b,h.raw b=l[b]?):h.abs=l:=by
 apply List.ext_getElem?
 intro i
 show((List.range h.n).map fun i=>frz (Nat.blt i h.fz) ((h.br.get i).getD .dead))[i]?=l[i]?
 rw[List.getElem?_map]
 by_cases hi:i<h.n
 ·have hl:l[i]?=some l[i]:=List.getElem?_eq_getElem (by omega);have hb:Nat.blt i h.fz=false:=by rw[hz];rfl
  have hg:h.br.get i=some l[i]:=by rw[<-PH.raw_lt hi,hr,hl]
  rw[List.getElem?_range hi,hl];simp only[Option.map_some,hb,hg,Option.getD_some,frz]
 ·rw[List.getElem?_eq_none (by simp;omega),List.getElem?_eq_none (by omega)];rfl
end Go.Am
