import Derived.Test.YtjfbmdhdcpdcbaaGreatZX
import Derived.Below
import Derived.WalkKit
import Derived.ProofKit
import Derived.OpenShut
import Derived.Carry
set_option linter.unusedSimpArgs false
set_option linter.unusedVariables false
namespace Go.Am
open Go Go.RowKit
abbrev CL:=FuncId->List Value->PH->R
def OkCL(P:Program)(cl:CL):Prop:= ∀f args h v h',cl f args h=some (v,h')->(enterable P f=true/\ACall P f args h.abs (fun u k=>u=v/\k=h'.abs))/\Inv h h'
def xUn(P:Program)(op:UnOp)(a:Value):Option Value:=if plainV a then prun P (Op.unary op a)else none
def xConv(P:Program)(s d:TypeId)(a:Value):Option Value:=if plainV a then prun P (convert s d a)else none
def xExt(i:Nat)(v:Value):Option Value:=match v with
 | .tuple ⟨vs⟩=>vs[i]?
 |_=>none
def xNil(v:Value):Option Value:=match v with
 | .pointer (some a)=>some (.pointer (some a))
 | .func (.func f) a b=>some (.func (.func f) a b)
 |_=>none
def xLenS(v:Value):Option Value:=match v with
 | .slice _ n _=>seqN n fun n=>some (.int .i64 (.ofNat n))
 |_=>none
def xLenT(v:Value):Option Value:=match v with
 | .string s=>seqN s.size fun n=>some (.int .i64 (.ofNat n))
 |_=>none
def xConvI(k:IntKind)(a:Value):Option Value:=match a with
 | .int _ x=>mkI k (wr k x)
 |_=>none
def intD(P:Program)(s d:TypeId):Option IntKind:=match P.underlying s with
 |some (.int _)=>match P.underlying d with
  |some (.int k)=>some k
  |_=>none
 |_=>none
theorem pureRun_underlying{P:Program}{T:TypeId}{d:TypeDesc}{α:Type}{f:TypeDesc->Sem α}(h:P.underlying T=some d):pureRun P (underlying T>>=f)=pureRun P (f d):=by
 have:pureRun P (underlying T>>=f)=pureRun P ((match P.underlying T with
  |some d=>pure d
  |none=>stuck "no such type" :Sem TypeDesc)>>=f):=by
  conv=>lhs;unfold pureRun
  rfl
 rw[this,h];rfl
theorem xConvI_ok{P:Program}{s d:TypeId}{k:IntKind}{a v:Value}(hk:intD P s d=some k)(hx:xConvI k a=some v):xConv P s d a=some v:=by
 unfold xConvI at hx
 split at hx<;>try (cases hx;done)
 rename_i k' x;rw[mkI_eq,wr_eq]at hx;cases hx;unfold intD at hk
 split at hk<;>try (cases hk;done)
 rename_i k1 hs
 split at hk<;>cases hk
 rename_i hd;unfold xConv;rw[if_pos (show plainV (Value.int k' x)=true from rfl)];refine prun_of ?_ rfl;unfold convert;rw[pureRun_underlying hs,pureRun_underlying hd]
 rfl
def bytes8:List Value->Option (List UInt8)
 | []=>some []
 | .int .u8 n::xs=>match bytes8 xs with
  |some ns=>some (UInt8.ofNat n.toNat::ns)
  |none=>none
 |_=>none
theorem foldl_bytes(ns:List Int)(acc:ByteArray):ns.foldl (fun r n=>r.push (UInt8.ofNat n.toNat)) acc=⟨⟨acc.data.toList++ns.map fun n=>UInt8.ofNat n.toNat⟩⟩:=by
 induction ns generalizing acc with
 |nil=>simp
 |cons n ns ih=>
  rw[List.foldl_cons,ih];simp[ByteArray.push]
theorem bytes8_ok{l:List Value}{r:List UInt8}(h:bytes8 l=some r): ∃ns,bytesOf l=some ns/\(Value.string ⟨⟨r⟩⟩:Value)= .string (ns.foldl (fun r n=>r.push (UInt8.ofNat n.toNat)) ByteArray.empty):=by
 have key: ∃ns,bytesOf l=some ns/\r=ns.map fun n=>UInt8.ofNat n.toNat:=by
  induction l generalizing r with
  |nil=>cases h;exact⟨[],rfl,rfl⟩
  |cons x xs ih=>
   cases x with
   |int k n=>
    cases k<;>try (simp[bytes8]at h;done)
    simp only[bytes8]at h
    split at h<;>try (cases h;done)
    rename_i ns hns;cases h;obtain⟨ms,h1,h2⟩:=ih hns;exact⟨n::ms,by simp only[bytesOf,h1],by rw[h2];rfl⟩
   |_=>simp[bytes8]at h
 obtain⟨ns,h1,h2⟩:=key;refine⟨ns,h1,?_⟩;rw[foldl_bytes,h2];rfl
def u8s:List UInt8->List UInt8->Bool
 | [],[]=>true
 |x::xs,y::ys=>match Nat.beq x.toNat y.toNat with
  |true=>u8s xs ys
  |false=>false
 |_,_=>false
theorem u8s_eq: ∀(a b:List UInt8),u8s a b=decide (a=b)
 | [],[]=>rfl
 | [],y::ys=>by simp[u8s]
 |x::xs,[]=>by simp[u8s]
 |x::xs,y::ys=>by
  unfold u8s;cases h:Nat.beq x.toNat y.toNat with
  |true=>
   have:=UInt8.toNat_inj.1 (Nat.eq_of_beq_eq_true h);dsimp only;rw[u8s_eq xs ys,this];simp
  |false=>
   have:x≠y:=fun e=>by rw[e]at h;simp at h
   simp[this]
def findS(k:List UInt8):List MapEntry->Nat->Option (Option (Nat×Value))
 | [],_=>some none
 |e::es,i=>match e.key with
  | .string s=>match u8s k s.data.toList with
   |true=>some (some (i,e.val))
   |false=>findS k es (.succ i)
  |_=>none
theorem findS_ok{k:ByteArray}: ∀{es:List MapEntry}{i:Nat}{r:Option (Nat×Value)},findS k.data.toList es i=some r->Instr.findNow .string (.string k) es i=some r
 | [],i,r,h=>h
 |e::es,i,r,h=>by
  unfold findS at h
  split at h<;>try (cases h;done)
  rename_i s hs;have heq:u8s k.data.toList s.data.toList=(k==s):=by
   have hb:(k==s)=(k.data==s.data):=by cases k;cases s;rfl
   rw[u8s_eq,hb,Bool.eq_iff_iff,decide_eq_true_eq,beq_iff_eq];exact⟨fun h=>Array.ext' h,fun h=>by rw[h]⟩
  unfold Instr.findNow;rw[hs];simp only[Instr.sameNow, <-heq];cases hq:u8s k.data.toList s.data.toList with
  |true=>rw[hq]at h;exact h
  |false=>rw[hq]at h;exact findS_ok h
def afindQ(P:Program)(kt:TypeId)(k:Value)(es:List MapEntry):Option (Option (Nat×Value)):=match k with
 | .string s=>match P.underlying kt with
  |some .string=>match findS s.data.toList es 0 with
   |some r=>some r
   |none=>afind P kt k es
  |_=>afind P kt k es
 |k=>afind P kt k es
theorem afindQ_eq(P:Program)(kt:TypeId)(k:Value)(es:List MapEntry):afindQ P kt k es=afind P kt k es:=by
 unfold afindQ
 split
 ·split
  ·rename_i hu
   split
   ·rename_i r hr;unfold afind;simp only[hu,findS_ok hr]
   ·rfl
  ·rfl
 ·rfl
noncomputable def xB2S(x:Value)(h:PH):Option Value:=match x with
 | .slice (some ⟨b,o,none⟩) n _=>match Nat.beq n 0 with
  |true=>some (.string ByteArray.empty)
  |false=>match h.raw b with
   |some (.row _ _ cs)=>match Nat.ble (Nat.add o n) cs.length with
    |true=>match bytes8 ((cs.drop o).take n)with
     |some ns=>some (.string ⟨⟨ns⟩⟩)
     |none=>none
    |false=>none
   |_=>none
 | .slice none _ _=>some (.string ByteArray.empty)
 |_=>none
noncomputable def xS2B(x:Value)(h:PH):R:=match x with
 | .string str=>match h.push (.row .opn 1 (str.data.toList.map fun b=>.int .u8 b.toNat))with
  |some h'=>some (.slice (some ⟨h.n,0,none⟩) str.size openCap,h')
  |none=>none
 |_=>none
def convK(P:Program)(s d:TypeId):Nat:=match P.underlying s,P.underlying d with
 |some (.slice e),some .string=>match P.underlying e,P.info? e with
  |some (.int .u8),some _=>1
  |_,_=>0
 |some .string,some (.slice e)=>match P.underlying e with
  |some (.int .u8)=>2
  |_=>0
 |some (.slice _),some (.slice e)=>match P.underlying e with
  |some (.int .u8)=>match Nat.beq s d with
   |true=>3
   |false=>0
  |_=>0
 |_,_=>0
noncomputable def xMark(x:Value)(h:PH):R:=match x with
 | .slice (some ⟨b,o,none⟩) n c=>match Nat.blt 0 c with
  |true=>match Nat.blt c 4611686018427387904 with
   |true=>match h.get b with
    |some (.row m _ _)=>match mro m with
     |false=>some (.slice (some ⟨b,o,none⟩) n c,h)
     |true=>none
    |_=>none
   |false=>none
  |false=>none
 |_=>none
theorem xMark_ok{P:Program}{s d e1 e:TypeId}{x v:Value}{h h':PH}(hs:P.underlying s=some (.slice e1))(hd:P.underlying d=some (.slice e))(he:P.underlying e=some (.int .u8))(hsd:s=d)(hx:xMark x h=some (v,h')):
  astrBytes P s d x h.abs=some (v,h'.abs)/\h'=h:=by
 unfold xMark at hx
 split at hx<;>try (cases hx;done)
 rename_i b o n c
 split at hx<;>try (cases hx;done)
 rename_i h0
 split at hx<;>try (cases hx;done)
 rename_i h1
 split at hx<;>try (cases hx;done)
 rename_i m e2 cs hg
 split at hx<;>try (cases hx;done)
 rename_i hm;cases hx;have h0:0<c:=Nat.le_of_ble_eq_true h0;have h1:c<4611686018427387904:=Nat.le_of_ble_eq_true h1;have hm':m≠ .ro:=by rintro rfl;cases hm
 have hg':=PH.get_abs hg;refine⟨?_,rfl⟩;unfold astrBytes;simp only[hs,hd,he,hg'];rw[if_pos ⟨hsd,hm',h0,h1⟩]
noncomputable def phMap(x:Value)(h:PH):Option (Nat×List MapEntry×Nat):=match x with
 | .map (some b)=>match h.get b with
  |some (.map es c)=>some (b,es,c)
  |_=>none
 |_=>none
def lkE(P:Program)(kt et:TypeId)(k:Value)(ok:Bool)(es:List MapEntry):Option Value:=
 if plainV k&&keysPlain es then
  match pureRun P (Instr.checkKey es.isEmpty 10000 kt k)with
  |none=>none
  |some _=>match afindQ P kt k es with
   |none=>none
   |some (some (_,v))=>some (if ok then .tuple ⟨[v,.bool true]⟩else v)
   |some none=>match P.info? et with
    |some i=>match i.zero with
     |some z=>if plainV z then some (if ok then .tuple ⟨[z,.bool false]⟩else z)else none
     |none=>none
    |none=>none
 else none
def mapT(P:Program)(T:TypeId):Option (TypeId×TypeId):=match P.underlying T with
 |some (.map kt et)=>some (kt,et)
 |_=>none
noncomputable def xLkp(P:Program)(kt et:TypeId)(ok:Bool)(x k:Value)(h:PH):Option Value:=match x with
 | .map none=>lkE P kt et k ok []
 |_=>match phMap x h with
  |some (_,es,_)=>lkE P kt et k ok es
  |none=>none
noncomputable def xMLen(x:Value)(h:PH):Option Value:=match x with
 | .map none=>some (.int .i64 0)
 |_=>match phMap x h with
  |some (_,es,_)=>seqN es.length fun n=>some (.int .i64 (.ofNat n))
  |none=>none
noncomputable def pset(h:PH)(b:Nat)(o:AObj)(v:Value):R:=match h.set b o with
 |some h'=>some (v,h')
 |none=>none
noncomputable def xMUpd(P:Program)(kt:TypeId)(x k v:Value)(h:PH):R:=match phMap x h with
 |some (b,es,clock)=>
  if plainV k&&keysPlain es then
   match pureRun P (Instr.checkKey false 10000 kt k)with
   |none=>none
   |some _=>match afindQ P kt k es with
    |none=>none
    |some (some (i,_))=>if Instr.sameBits 10000 (((es[i]?).map (·.key)).getD k) k then pset h b (.map (es.modify i fun e=> {e with key:=k,val:=v}) clock) undef else none
    |some none=>pset h b (.map (es++[⟨k,v,clock⟩]) (clock+1)) undef
  else none
 |none=>none
noncomputable def xMDel(P:Program)(kt:TypeId)(x k:Value)(h:PH):R:=match phMap x h with
 |some (b,es,clock)=>
  if plainV k&&keysPlain es then
   match pureRun P (Instr.checkKey es.isEmpty 10000 kt k)with
   |none=>none
   |some _=>match afindQ P kt k es with
    |none=>none
    |some (some (i,_))=>pset h b (.map (es.eraseIdx i) clock) (.tuple #[])
    |some none=>pset h b (.map es clock) (.tuple #[])
  else none
 |none=>none
noncomputable def xMMk(h:PH):R:=match h.push (.map [] 0)with
 |some h'=>some (.map (some h.n),h')
 |none=>none
theorem phMap_ok{x:Value}{h:PH}{b c:Nat}{es:List MapEntry}(hp:phMap x h=some (b,es,c)):x= .map (some b)/\h.abs[b]?=some (.map es c):=by
 unfold phMap at hp
 split at hp<;>try (cases hp;done)
 split at hp<;>try (cases hp;done)
 rename_i hg;cases hp;exact⟨rfl,PH.get_abs hg⟩
theorem pset_ok{h h':PH}{b:Nat}{o:AObj}{v u:Value}(hp:pset h b o v=some (u,h')):u=v/\h'.abs=h.abs.set b o:=by
 unfold pset at hp
 split at hp<;>try (cases hp;done)
 rename_i hs;cases hp;exact⟨rfl,PH.set_abs hs⟩
theorem mapT_ok{P:Program}{T kt et:TypeId}(h:mapT P T=some (kt,et)):P.underlying T=some (.map kt et):=by
 unfold mapT at h
 split at h<;>(cases h;try assumption)
theorem xLkp_ok{P:Program}{T kt et:TypeId}{ok:Bool}{x k v:Value}{h:PH}(hT:mapT P T=some (kt,et))(hx:xLkp P kt et ok x k h=some v):alookup P T x k ok h.abs=some v:=by
 unfold xLkp lkE at hx;simp only[afindQ_eq]at hx;unfold alookup;simp only[mapT_ok hT]
 split at hx
 ·exact hx
 ·split at hx<;>try (cases hx;done)
  rename_i hp;obtain⟨rfl,h2⟩:=phMap_ok hp;simp only[h2];exact hx
theorem xMUpd_ok{P:Program}{T kt et:TypeId}{x k v u:Value}{h h':PH}(hT:mapT P T=some (kt,et))(hx:xMUpd P kt x k v h=some (u,h')):u=undef/\amapUpdate P T x k v h.abs=some h'.abs:=by
 unfold xMUpd at hx;simp only[afindQ_eq]at hx
 split at hx<;>try (cases hx;done)
 rename_i b es clock hp;obtain⟨rfl,h2⟩:=phMap_ok hp;unfold amapUpdate;simp only[mapT_ok hT,h2]
 split at hx
 rotate_left
 ·cases hx
 rename_i hc;rw[if_pos hc]
 split at hx
 ·cases hx
 rename_i hk;simp only[hk]
 split at hx
 ·cases hx
 ·rename_i hf;simp only[hf]
  split at hx
  ·rename_i hsb;rw[if_pos hsb];obtain⟨rfl,h3⟩:=pset_ok hx;exact⟨rfl,by rw[h3]⟩
  ·cases hx
 ·rename_i hf;simp only[hf];obtain⟨rfl,h3⟩:=pset_ok hx;exact⟨rfl,by rw[h3]⟩
noncomputable def xClear(zi:Option (Nat×Nat×List Value))(x:Value)(h:PH):R:=match zi with
 |some (sz,_,z)=>match x with
  | .slice none _ _=>some (.tuple ⟨[]⟩,h)
  | .slice (some ⟨b,o,none⟩) n _=>match Nat.beq n 0 with
   |true=>some (.tuple ⟨[]⟩,h)
   |false=>match Nat.blt 0 sz with
    |true=>match oneCells (zrows z n)with
     |true=>match h.get b with
      |some (.row m esz cs)=>match mro m with
       |false=>stsK cs o (zrows z n) fun cs=>match h.set b (.row m esz cs)with
        |some h'=>some (.tuple ⟨[]⟩,h')
        |none=>none
       |true=>none
      |_=>none
     |false=>none
    |false=>none
  |_=>none
 |none=>none
theorem xClear_ok{P:Program}{T:TypeId}{ats:Array TypeId}(h0:ats[0]?=some T){x u:Value}{h h':PH}(hx:xClear (zinfo P T) x h=some (u,h')):aclear P ats [x] h.abs=some (u,h'.abs):=by
 unfold xClear at hx
 split at hx<;>try (cases hx;done)
 rename_i sz bt z hz;unfold zinfo at hz
 split at hz<;>try (cases hz;done)
 split at hz<;>try (cases hz;done)
 split at hz<;>try (cases hz;done)
 split at hz<;>try (cases hz;done)
 rename_i e hu _ i hi _ zz hzz hc;cases hz;simp only[Bool.and_eq_true,decide_eq_true_eq]at hc;unfold aclear;simp only[h0,hu]
 split at hx<;>try (cases hx;done)
 ·cases hx;rfl
 ·rename_i b o n c
  split at hx
  ·rename_i hn;have hn:=Nat.eq_of_beq_eq_true hn;subst hn;cases hx;rfl
  ·rename_i hn;have hn0:n≠0:=by rintro rfl;cases hn
   split at hx<;>try (cases hx;done)
   rename_i hsz;have hsz:0<i.size:=Nat.le_of_ble_eq_true hsz
   split at hx<;>try (cases hx;done)
   rename_i hone
   split at hx<;>try (cases hx;done)
   rename_i m esz cs hg
   split at hx<;>try (cases hx;done)
   rename_i hm;obtain⟨h2,h3⟩:=stsK_ok hx
   split at h3<;>try (cases h3;done)
   rename_i h'' hset;cases h3;have hlen:(zrows (cellsL zz) n).length=n*(cellsL zz).length:=zrows_length _ _;have hne:zrows (cellsL zz) n≠[]:=by
    intro hq;rw[hq]at hlen;rw[hc.2]at hlen;have:0<n*i.size:=Nat.mul_pos (by omega) hsz;simp at hlen;omega
   have h2:=h2 hne;rw[hlen]at h2;have hcl:cellsL zz≠[]:=by
    intro hq;rw[hq]at hc;simp at hc;omega
   obtain⟨k,rfl⟩: ∃k,n=k+1:=⟨n-1,by omega⟩;simp only[hi,hzz,PH.get_abs hg,zrows_eq];rw[if_pos ⟨hc.1,mro_ok hm,h2,hone,hcl⟩,PH.set_abs hset]
theorem xMDel_ok{P:Program}{T kt et:TypeId}{ats:Array TypeId}(h0:ats[0]?=some T){x k u:Value}{h h':PH}(hT:mapT P T=some (kt,et))(hx:xMDel P kt x k h=some (u,h')):adelete P ats [x,k] h.abs=some (u,h'.abs):=by
 unfold xMDel at hx;simp only[afindQ_eq]at hx
 split at hx<;>try (cases hx;done)
 rename_i b es clock hp;obtain⟨rfl,h2⟩:=phMap_ok hp;unfold adelete;simp only[h0,mapT_ok hT,h2]
 split at hx
 rotate_left
 ·cases hx
 rename_i hc;rw[if_pos hc]
 split at hx
 ·cases hx
 rename_i hk;simp only[hk]
 split at hx
 ·cases hx
 ·rename_i hf;simp only[hf];obtain⟨rfl,h3⟩:=pset_ok hx;rw[h3]
 ·rename_i hf;simp only[hf];obtain⟨rfl,h3⟩:=pset_ok hx;rw[h3]
noncomputable def opV(P:Program)(pu:List Nat)(cl:CL)(o:Op)(ty:TypeId)(t:Tm)(h:PH):Option Value:=
 match o with
 | .move x=>ev t x
 | .assign x=>ev t x
 | .pick c a b=>match ev t c,ev t a,ev t b with
  |some c,some a,some b=>xPick c a b
  |_,_,_=>none
 | .build T parts=>match evp t parts.toList with
  |some ps=>abuild P T ps
  |none=>none
 | .nilCheck x=>match ev t x with
  |some a=>xNil a
  |none=>none
 | .binOp op T x y _=>match ev t x,ev t y with
  |some a,some b=>match intT P T,ibin op with
   |true,some f=>f a b
   |_,_=>abin P op T x y a b
  |_,_=>none
 | .unOp op _ x=>match ev t x with
  |some a=>match op with
   | .not=>xNot a
   |op=>xUn P op a
  |none=>none
 | .convert s d x=>match ev t x with
  |some a=>match convK P s d with
   |0=>match intD P s d with
    |some k=>xConvI k a
    |none=>xConv P s d a
   |1=>xB2S a h
   |_=>none
  |none=>none
 | .makeFunc fn first captured=>match evs t first.toList,evs t captured.toList with
  |some f,some c=>some (.func fn ⟨f⟩ ⟨c⟩)
  |_,_=>none
 | .slice T x lo hi mx=>match ev t x,evo t lo,evo t hi,evo t mx with
  |some v,some l,some h,some m=>acut P T v l h m
  |_,_,_,_=>none
 | .fieldAddr S x f=>match ev t x,fieldOff P S f with
  |some v,some n=>xFld n v
  |_,_=>none
 | .field S x f=>match ev t x with
  |some v=>afield P S v f
  |none=>none
 | .indexAddr T x ix=>match ev t x,ev t ix with
  |some v,some i=>match sliceSz P T with
   |some sz=>xIdxS sz v i
   |none=>match arrSz P T with
    |some (n,sz)=>xIdxA n sz v i
    |none=>none
  |_,_=>none
 | .index T x ix=>match ev t x,ev t ix with
  |some v,some i=>aindex P T v i
  |_,_=>none
 | .extract x i=>match ev t x with
  |some v=>xExt i v
  |none=>none
 | .load T x=>match ev t x with
  |some v=>match scal P T with
   |true=>xLd v h
   |false=>match aggSz P T with
    |some (.succ n)=>xLdA (.succ n) v h
    |_=>none
  |none=>none
 | .lookup T x k ok=>match ev t x,ev t k with
  |some v,some k=>match mapT P T with
   |some (kt,et)=>xLkp P kt et ok v k h
   |none=>none
  |_,_=>none
 | .call ⟨.builtin .len,args,ats⟩=>match evs t args.toList,ats[0]? with
  |some [v],some T=>match sliceSz P T with
   |some _=>xLenS v
   |none=>match strT P T with
    |true=>xLenT v
    |false=>match mapT P T with
     |some _=>xMLen v h
     |none=>alen P ats [v]
  |_,_=>none
 | .call ⟨.builtin .cap,args,ats⟩=>match evs t args.toList with
  |some vs=>acap P ats vs
  |none=>none
 | .call ⟨.builtin .min,args,ats⟩=>match evs t args.toList with
  |some vs=>if plainV.plainVs vs then prun P (Builtin.min_ ats ty ⟨vs⟩)else none
  |none=>none
 | .call ⟨.builtin .max,args,ats⟩=>match evs t args.toList with
  |some vs=>if plainV.plainVs vs then prun P (Builtin.max_ ats ty ⟨vs⟩)else none
  |none=>none
 | .call ⟨.value (.func g),args,_⟩=>match evs t args.toList with
  |some as=>pcall (cl g as h.fzn)
  |none=>none
 |_=>none
def memN:List Nat->Nat->Bool
 | [],_=>false
 |x::xs,g=>match Nat.beq x g with
  |true=>true
  |false=>memN xs g
def isV(P:Program)(pu:List Nat)(o:Op):Bool:=match o with
 | .box .. | .alloc .. | .buildSlice .. | .makeSlice .. | .makeMap .. | .store .. | .mapUpdate .. | .insert .. =>false
 | .convert s d _=>match convK P s d with
  |2=>false
  |3=>false
  |_=>true
 | .call ⟨.builtin .len,_,_⟩| .call ⟨.builtin .cap,_,_⟩| .call ⟨.builtin .min,_,_⟩| .call ⟨.builtin .max,_,_⟩=>true
 | .call ⟨.value (.func g),_,_⟩=>memN pu g
 | .call _=>false
 |_=>true
def xCall(cl:CL)(f:Value)(args:List Value)(h:PH):R:=match f with
 | .func (.func g) ⟨first⟩ ⟨captured⟩=>cl g (first++args++captured) h
 |_=>none
noncomputable def xAdd64(as:List Value)(h:PH):R:=match as with
 | [.pointer (some ⟨b,o,none⟩),.int .i64 d]=>match h.get b with
  |some (.row m esz cs)=>match nth cs o with
   |some (.int .i64 x)=>match mro m with
    |false=>match mkI .i64 (wr .i64 (Int.add x d))with
     |some v=>stK cs o v fun cs'=>match h.set b (.row m esz cs')with
      |some h'=>some (v,h')
      |none=>none
     |none=>none
    |true=>none
   |_=>none
  |_=>none
 |_=>none
theorem xAdd64_ok{P:Program}{g:FuncId}(hg:isAdd64 P g=true){as:List Value}{u:Value}{h h':PH}(hx:xAdd64 as h=some (u,h')):aadd64 P g as h.abs=some (u,h'.abs)/\Inv h h':=by
 unfold xAdd64 at hx
 split at hx<;>try (cases hx;done)
 rename_i b o d
 split at hx<;>try (cases hx;done)
 rename_i m esz cs hr
 split at hx<;>try (cases hx;done)
 rename_i x hc
 split at hx<;>try (cases hx;done)
 rename_i hm;rw[mkI_eq,wr_eq]at hx;obtain⟨_,h3⟩:=stK_ok hx
 split at h3<;>try (cases h3;done)
 rename_i h2 hs;cases h3;rw[nth_eq]at hc;refine⟨?_,PH.set_inv hs ?_⟩
 ·unfold aadd64;simp only[PH.get_abs hr,hc];rw[if_pos ⟨hg,mro_ok hm⟩,PH.set_abs hs]
  rfl
 ·cases m<;>first|rfl|cases hm
noncomputable def opH(P:Program)(fr am:List Nat)(cl:CL)(o:Op)(t:Tm)(h:PH):R:=
 match o with
 | .box _ x=>match ev t x with
  |some v=>xBox v h
  |none=>none
 | .alloc T=>xAlloc (zcells P T) h
 | .buildSlice T len parts=>match evp t parts.toList with
  |some ps=>xBS len (bsRow P T len ps) h
  |none=>none
 | .makeSlice T l c=>match ev t l,ev t c with
  |some l,some c=>xMk (zinfo P T) l c h
  |_,_=>none
 | .makeMap T r=>match r with
  |none=>xMMk h
  |some _=>none
 | .store T a x=>match ev t a,ev t x with
  |some a,some v=>match infoSz P T with
   |some (.succ 0)=>match scal P T with
    |true=>xSt1 a v h
    |false=>xStA 1 a v h
   |some (.succ (.succ n))=>xStA (.succ (.succ n)) a v h
   |_=>none
  |_,_=>none
 | .mapUpdate T m k x=>match ev t m,ev t k,ev t x with
  |some m,some k,some v=>match mapT P T with
   |some (kt,_)=>xMUpd P kt m k v h
   |none=>none
  |_,_,_=>none
 | .insert T m k x=>match ev t m,ev t k,ev t x with
  |some m,some k,some v=>match mapT P T with
   |some (kt,_)=>xMUpd P kt m k v h
   |none=>none
  |_,_,_=>none
 | .convert s d x=>match ev t x with
  |some v=>match convK P s d with
   |2=>xS2B v h
   |3=>xMark v h
   |_=>none
  |none=>none
 | .call ⟨.builtin .append,args,ats⟩=>match evs t args.toList with
  |some [s,x]=>xApp (appInfo P ats) s x h
  |_=>none
 | .call ⟨.builtin .delete,args,ats⟩=>match evs t args.toList,ats[0]? with
  |some [m,k],some T=>match mapT P T with
   |some (kt,_)=>xMDel P kt m k h
   |none=>none
  |_,_=>none
 | .call ⟨.builtin .clear,args,ats⟩=>match evs t args.toList,ats[0]? with
  |some [x],some T=>xClear (zinfo P T) x h
  |_,_=>none
 | .call ⟨.value (.func g),args,_⟩=>match evs t args.toList with
  |some as=>match memN fr g with
   |true=>fcall h (cl g as h.fzn)
   |false=>match memN am g with
    |true=>match isAdd64 P g with
     |true=>xAdd64 as h
     |false=>none
    |false=>cl g as h
  |none=>none
 | .call ⟨.value f,args,_⟩=>match ev t f,evs t args.toList with
  |some f,some as=>xCall cl f as h
  |_,_=>none
 |_=>none
theorem opV_ok{P:Program}{pu:List Nat}{cl:CL}(hcl:OkCL P cl){d:Option Tmp}{op:Op}{ty:TypeId}{pos:String}{aft:Array Edge}{g:Option (Nat×Bool)}{t:Tm}{h:PH}{v:Value}(hx:opV P pu cl op ty t h=some v):
  (apure P ⟨d,op,ty,pos,aft,g⟩ t=some v\/aread P ⟨d,op,ty,pos,aft,g⟩ t h.abs=some v)\/ ∃f args,acallee P ⟨d,op,ty,pos,aft,g⟩ t=some (f,args)/\ACall P f args h.abs (fun u k=>u=v/\k=h.abs):=by
 unfold opV at hx
 split at hx
 ·exact .inl (.inl hx)
 ·exact .inl (.inl hx)
 ·left;left
  split at hx<;>try (cases hx;done)
  rename_i hc ha hb;rcases xPick_ok hx with⟨rfl,rfl⟩|⟨rfl,rfl⟩<;>simp[apure,hc,ha,hb]
 ·exact .inl (.inl hx)
 ·left;left
  split at hx<;>try (cases hx;done)
  rename_i ha;unfold xNil at hx
  split at hx<;>(try (cases hx;done))<;>(cases hx;simp[apure,ha])
 ·left;left
  split at hx<;>try (cases hx;done)
  rename_i ha hb;simp only[apure,ha,hb]
  split at hx
  ·rename_i hf;exact ibin_ok hf hx
  ·exact hx
 ·left;left
  split at hx<;>try (cases hx;done)
  rename_i ha;simp only[apure,ha]
  split at hx
  ·obtain⟨b,rfl,rfl⟩:=xNot_ok hx;cases b<;>rfl
  ·exact hx
 ·split at hx<;>try (cases hx;done)
  rename_i a ha
  split at hx
  ·left;left;simp only[apure,ha]
   split at hx
   ·exact xConvI_ok (by assumption) hx
   ·exact hx
  ·left;right
   rename_i hk;unfold xB2S at hx;unfold convK at hk
   split at hk<;>try (cases hk;done)
   rotate_left
   ·split at hk<;>cases hk
   ·split at hk<;>try (cases hk;done)
    split at hk<;>cases hk
   rename_i e hs hd
   split at hk<;>try (cases hk;done)
   rename_i he hi
   split at hx<;>try (cases hx;done)
   ·split at hx
    ·rename_i h0;cases hx;simp only[aread,ha,abytesStr,hs,hd,he,hi];exact if_pos (Nat.eq_of_beq_eq_true h0)
    rename_i h0
    split at hx<;>try (cases hx;done)
    split at hx<;>try (cases hx;done)
    split at hx<;>try (cases hx;done)
    rename_i hg _ hle _ ns8 hns8;obtain⟨ns,hns,e8⟩:=bytes8_ok hns8;rw[e8]at hx;cases hx;obtain⟨m',hg⟩:=PH.raw_row hg;simp only[aread,ha,abytesStr,hs,hd,he,hi,hg];rw[if_neg (fun e=>by rw[e]at h0;cases h0)];refine(if_pos (Nat.le_of_ble_eq_true hle)).trans ?_;rw[hns]
   ·cases hx;simp only[aread,ha,abytesStr,hs,hd,he,hi]
  ·cases hx
 ·exact .inl (.inl hx)
 ·exact .inl (.inl hx)
 ·left;left
  split at hx<;>try (cases hx;done)
  rename_i ha hf;simp only[apure,ha];exact xFld_ok hf hx
 ·exact .inl (.inl hx)
 ·left;left
  split at hx<;>try (cases hx;done)
  rename_i ha hi;simp only[apure,ha,hi]
  split at hx
  ·rename_i hs;exact xIdxS_ok hs hx
  ·split at hx<;>try (cases hx;done)
   rename_i hs;exact xIdxA_ok hs hx
 ·exact .inl (.inl hx)
 ·left;left
  split at hx<;>try (cases hx;done)
  rename_i ha;unfold xExt at hx
  split at hx<;>try (cases hx;done)
  simp only[apure,ha];exact hx
 ·left;right
  split at hx<;>try (cases hx;done)
  rename_i ha;simp only[aread,ha]
  split at hx
  ·rename_i hs;exact xLd_ok hs hx
  ·split at hx<;>try (cases hx;done)
   rename_i hs;exact xLdA_ok hs (Nat.succ_pos _) hx
 ·left;right
  split at hx<;>try (cases hx;done)
  rename_i ha hk;simp only[aread,ha,hk]
  split at hx<;>try (cases hx;done)
  rename_i hT;exact xLkp_ok hT hx
 ·split at hx<;>try (cases hx;done)
  rename_i args ats v0 T ha hT
  split at hx
  ·left;left
   rename_i hs;unfold xLenS at hx
   split at hx<;>try (cases hx;done)
   rw[seqN_eq]at hx;cases hx;unfold sliceSz at hs
   split at hs<;>try (cases hs;done)
   rename_i hu;simp[apure,ha,alen,hT,hu]
  ·split at hx
   ·left;left
    rename_i hs;unfold xLenT at hx
    split at hx<;>try (cases hx;done)
    rw[seqN_eq]at hx;cases hx;unfold strT at hs
    split at hs<;>try (cases hs;done)
    rename_i hu;simp[apure,ha,alen,hT,hu]
   ·split at hx
    ·rename_i hm;have hm:=mapT_ok hm;unfold xMLen at hx
     split at hx
     ·left;left
      cases hx;simp[apure,ha,alen,hT,hm]
     ·left;right
      split at hx<;>try (cases hx;done)
      rename_i hp;rw[seqN_eq]at hx;cases hx;obtain⟨rfl,h2⟩:=phMap_ok hp;simp[aread,ha,amapLen,hT,hm,h2]
    ·left;left
     simp only[apure,ha];exact hx
 ·exact .inl (.inl hx)
 ·exact .inl (.inl hx)
 ·exact .inl (.inl hx)
 ·right
  split at hx<;>try (cases hx;done)
  rename_i ha;obtain⟨h',hx,hp⟩:=pcall_ok hx;obtain⟨⟨h1,h2⟩,hinv⟩:=hcl _ _ _ _ _ hx;rw[PH.fzn_abs]at h2;have h3:=ACall.frozen (h2.mono fun _ _ hq=>hq.1) hp;exact⟨_,_,by simp only[acallee,ev,ha,h1];simp,h3⟩
 ·cases hx
theorem notro_ok{o:AObj}(h:notro o=true):notroA o:=by
 cases o with
 |row m a b=>cases m<;>first|trivial|cases h
 |_=>trivial
theorem opH_ok{P:Program}{fr am:List Nat}{cl:CL}(hcl:OkCL P cl){d:Option Tmp}{op:Op}{ty:TypeId}{pos:String}{aft:Array Edge}{g:Option (Nat×Bool)}{t:Tm}{h h':PH}{v:Value}(hx:opH P fr am cl op t h=some (v,h')):
  aeff P ⟨d,op,ty,pos,aft,g⟩ t h.abs=some (v,h'.abs)\/ ∃f args,acallee P ⟨d,op,ty,pos,aft,g⟩ t=some (f,args)/\ACall P f args h.abs (fun u k=>u=v/\k=h'.abs):=by
 unfold opH at hx
 split at hx
 ·left
  split at hx<;>try (cases hx;done)
  rename_i ha;simp only[aeff,ha];exact xBox_ok hx
 ·left;simp only[aeff];exact xAlloc_ok hx
 ·left
  split at hx<;>try (cases hx;done)
  rename_i ha;simp only[aeff,ha];exact xBS_ok hx
 ·left
  split at hx<;>try (cases hx;done)
  rename_i ha hb;simp only[aeff,ha,hb];exact xMk_ok hx
 ·left
  split at hx<;>try (cases hx;done)
  unfold xMMk at hx
  split at hx<;>try (cases hx;done)
  rename_i hp;cases hx;simp[aeff,evo,amakeMap,PH.push_abs hp,PH.length]
 ·left
  split at hx<;>try (cases hx;done)
  rename_i ha hb;simp only[aeff,ha,hb]
  split at hx
  ·split at hx
   ·rename_i hs _ _;obtain⟨rfl,h2⟩:=xSt1_ok hs hx;simp[h2]
   ·rename_i hs _ _;obtain⟨rfl,h2⟩:=xStA_ok hs (by omega) hx;simp[h2]
  ·rename_i hs;obtain⟨rfl,h2⟩:=xStA_ok hs (by omega) hx;simp[h2]
  ·cases hx
 ·left
  split at hx<;>try (cases hx;done)
  rename_i ha hb hc;simp only[aeff,ha,hb,hc]
  split at hx<;>try (cases hx;done)
  rename_i hT;obtain⟨rfl,h2⟩:=xMUpd_ok hT hx;simp[h2]
 ·left
  split at hx<;>try (cases hx;done)
  rename_i ha hb hc;simp only[aeff,ha,hb,hc]
  split at hx<;>try (cases hx;done)
  rename_i hT;obtain⟨rfl,h2⟩:=xMUpd_ok hT hx;simp[h2]
 ·left
  split at hx<;>try (cases hx;done)
  rename_i ha
  split at hx
  ·rename_i hk;unfold xS2B at hx
   split at hx<;>try (cases hx;done)
   split at hx<;>try (cases hx;done)
   rename_i hp;cases hx;unfold convK at hk
   split at hk
   ·split at hk<;>cases hk
   ·rename_i e hs hd
    split at hk<;>try (cases hk;done)
    rename_i he;simp[aeff,ha,astrBytes,hs,hd,he,PH.push_abs hp,PH.length]
   ·split at hk<;>try (cases hk;done)
    split at hk<;>cases hk
   ·cases hk
  ·rename_i hk;unfold convK at hk
   split at hk
   ·split at hk<;>cases hk
   ·split at hk<;>cases hk
   ·rename_i e1 e hs hd
    split at hk<;>try (cases hk;done)
    rename_i he
    split at hk<;>try (cases hk;done)
    rename_i hsd;simp only[aeff,ha];exact(xMark_ok hs hd he (Nat.eq_of_beq_eq_true hsd) hx).1
   ·cases hk
  ·cases hx
 ·left
  split at hx<;>try (cases hx;done)
  rename_i ha;simp only[aeff,ha];exact xApp_ok hx
 ·left
  split at hx<;>try (cases hx;done)
  rename_i ha h0
  split at hx<;>try (cases hx;done)
  rename_i hT;simp only[aeff,ha];exact xMDel_ok h0 hT hx
 ·left
  split at hx<;>try (cases hx;done)
  rename_i ha h0;simp only[aeff,ha];exact xClear_ok h0 hx
 ·skip
  split at hx<;>try (cases hx;done)
  rename_i ha
  split at hx
  ·obtain⟨k1,hx1,rfl,hz⟩:=fcall_ok hx;obtain⟨⟨h1,h2⟩,hinv⟩:=hcl _ _ _ _ _ hx1;obtain⟨news,e1,e2,e3⟩:=PH.back_abs hinv hz;rw[PH.fzn_abs,e1]at h2;have h3:=ACall.frozenNew h2 (fun o ho=>notro_ok (e3 o ho));rw[<-e2]at h3;exact .inr ⟨_,_,by simp only[acallee,ev,ha,h1];simp,h3⟩
  ·split at hx
   ·split at hx<;>try (cases hx;done)
    rename_i hat
    left
    simp only[aeff,ev,ha];exact(xAdd64_ok hat hx).1
   ·obtain⟨⟨h1,h2⟩,hinv⟩:=hcl _ _ _ _ _ hx;exact .inr ⟨_,_,by simp only[acallee,ev,ha,h1];simp,h2⟩
 ·right
  split at hx<;>try (cases hx;done)
  rename_i hf ha;unfold xCall at hx
  split at hx<;>try (cases hx;done)
  obtain⟨⟨h1,h2⟩,hinv⟩:=hcl _ _ _ _ _ hx;exact⟨_,_,by simp only[acallee,hf,ha,h1];simp,h2⟩
 ·cases hx
theorem xNewP_inv{cs:List Value}{h h':PH}{v:Value}(hx:xNewP cs h=some (v,h')):Inv h h':=by
 unfold xNewP at hx
 split at hx<;>try (cases hx;done)
 rename_i hp;cases hx;exact PH.push_inv hp rfl
theorem xBS_inv{n:Nat}{row:Option (Nat×List Value)}{h h':PH}{v:Value}(hx:xBS n row h=some (v,h')):Inv h h':=by
 unfold xBS at hx
 split at hx<;>try (cases hx;done)
 split at hx<;>try (cases hx;done)
 rename_i hp;cases hx;exact PH.push_inv hp rfl
theorem xMk_inv{zi:Option (Nat×Nat×List Value)}{l c:Value}{h h':PH}{v:Value}(hx:xMk zi l c h=some (v,h')):Inv h h':=by
 unfold xMk at hx
 split at hx<;>try (cases hx;done)
 split at hx<;>try (cases hx;done)
 split at hx<;>try (cases hx;done)
 split at hx<;>try (cases hx;done)
 split at hx<;>try (cases hx;done)
 split at hx<;>try (cases hx;done)
 split at hx<;>try (cases hx;done)
 rename_i hp;cases hx;exact PH.push_inv hp rfl
theorem mro_notro{m:Mode}{esz:Nat}{cs:List Value}(h:mro m=false):notro (.row m esz cs)=true:=by cases m<;>first|rfl|cases h
theorem xSt1_inv{x v u:Value}{h h':PH}(hx:xSt1 x v h=some (u,h')):Inv h h':=by
 unfold xSt1 at hx
 split at hx<;>try (cases hx;done)
 split at hx<;>try (cases hx;done)
 split at hx<;>try (cases hx;done)
 split at hx<;>try (cases hx;done)
 rename_i hm;obtain⟨_,h3⟩:=stK_ok hx
 split at h3<;>try (cases h3;done)
 rename_i hs;cases h3;exact PH.set_inv hs (mro_notro hm)
theorem xStA_inv{sz:Nat}{x v u:Value}{h h':PH}(hx:xStA sz x v h=some (u,h')):Inv h h':=by
 unfold xStA at hx
 split at hx<;>try (cases hx;done)
 split at hx<;>try (cases hx;done)
 split at hx<;>try (cases hx;done)
 split at hx<;>try (cases hx;done)
 split at hx<;>try (cases hx;done)
 split at hx<;>try (cases hx;done)
 rename_i hm;obtain⟨_,h3⟩:=stsK_ok hx
 split at h3<;>try (cases h3;done)
 rename_i hs;cases h3;exact PH.set_inv hs (mro_notro hm)
theorem growR_inv{sz b k o n:Nat}{kill:Bool}{cs new:List Value}{h h':PH}{v:Value}(hx:growR sz b k o kill cs new n h=some (v,h')):Inv h h':=by
 unfold growR at hx
 split at hx<;>try (cases hx;done)
 rename_i h1 hp;have hi:=growH_inv hp;cases kill with
 |true=>
  dsimp only at hx
  split at hx<;>try (cases hx;done)
  rename_i h2 hs;rw[seqN_eq]at hx;cases hx;exact hi.trans (PH.set_inv hs rfl)
 |false=>
  dsimp only at hx;rw[seqN_eq]at hx;cases hx;exact hi
theorem stayR_inv{b o sz sLen sCap n esz:Nat}{m:Mode}{cs new:List Value}{h h':PH}{v:Value}(hm:notro (.row m esz [])=true)(hx:stayR b o sz sLen sCap n m esz cs new h=some (v,h')):Inv h h':=by
 unfold stayR at hx;obtain⟨_,h2⟩:=stsK_ok hx
 split at h2<;>try (cases h2;done)
 rename_i hs;rw[seqN_eq]at h2;cases h2;exact PH.set_inv hs (by cases m<;>first|rfl|cases hm)
theorem xApp_inv{ai:Option (Nat×Nat)}{s x u:Value}{h h':PH}(hx:xApp ai s x h=some (u,h')):Inv h h':=by
 unfold xApp at hx
 split at hx<;>try (cases hx;done)
 split at hx<;>try (cases hx;done)
 split at hx<;>try (cases hx;done)
 split at hx
 ·split at hx
  ·cases hx;exact Inv.refl _
  ·split at hx<;>try (cases hx;done)
   split at hx<;>try (cases hx;done)
   rename_i hp;cases hx;exact PH.push_inv hp rfl
 ·split at hx
  ·split at hx<;>try (cases hx;done)
   cases hx;exact Inv.refl _
  ·split at hx<;>try (cases hx;done)
   split at hx<;>try (cases hx;done)
   split at hx<;>try (cases hx;done)
   split at hx
   ·split at hx
    ·split at hx<;>try (cases hx;done)
     rename_i hm
     split at hx<;>try (cases hx;done)
     exact stayR_inv (mro_notro hm) hx
    ·exact growR_inv hx
   ·split at hx<;>try (cases hx;done)
    rename_i hm
    split at hx<;>try (cases hx;done)
    split at hx<;>try (cases hx;done)
    split at hx<;>try (cases hx;done)
    split at hx
    ·exact stayR_inv (by unfold modn at hm;split at hm<;>first|rfl|cases hm) hx
    ·exact growR_inv hx
 ·cases hx
theorem pset_inv{h h':PH}{b:Nat}{o:AObj}{v u:Value}(ho:notro o=true)(hx:pset h b o v=some (u,h')):Inv h h':=by
 unfold pset at hx
 split at hx<;>try (cases hx;done)
 rename_i hs;cases hx;exact PH.set_inv hs ho
theorem xMUpd_inv{P:Program}{kt:TypeId}{x k v u:Value}{h h':PH}(hx:xMUpd P kt x k v h=some (u,h')):Inv h h':=by
 unfold xMUpd at hx
 split at hx<;>try (cases hx;done)
 split at hx<;>try (cases hx;done)
 split at hx<;>try (cases hx;done)
 split at hx<;>try (cases hx;done)
 ·split at hx<;>try (cases hx;done)
  exact pset_inv rfl hx
 ·exact pset_inv rfl hx
theorem xMDel_inv{P:Program}{kt:TypeId}{x k u:Value}{h h':PH}(hx:xMDel P kt x k h=some (u,h')):Inv h h':=by
 unfold xMDel at hx
 split at hx<;>try (cases hx;done)
 split at hx<;>try (cases hx;done)
 split at hx<;>try (cases hx;done)
 split at hx<;>try (cases hx;done)
 ·exact pset_inv rfl hx
 ·exact pset_inv rfl hx
theorem xClear_inv{zi:Option (Nat×Nat×List Value)}{x u:Value}{h h':PH}(hx:xClear zi x h=some (u,h')):Inv h h':=by
 unfold xClear at hx
 split at hx<;>try (cases hx;done)
 split at hx<;>try (cases hx;done)
 ·cases hx;exact Inv.refl _
 ·split at hx
  ·cases hx;exact Inv.refl _
  ·split at hx<;>try (cases hx;done)
   split at hx<;>try (cases hx;done)
   split at hx<;>try (cases hx;done)
   split at hx<;>try (cases hx;done)
   rename_i hm;obtain⟨_,h3⟩:=stsK_ok hx
   split at h3<;>try (cases h3;done)
   rename_i hs;cases h3;exact PH.set_inv hs (mro_notro hm)
theorem opH_inv{P:Program}{fr am:List Nat}{cl:CL}(hcl:OkCL P cl){op:Op}{t:Tm}{h h':PH}{v:Value}(hx:opH P fr am cl op t h=some (v,h')):Inv h h':=by
 unfold opH at hx
 split at hx
 ·split at hx<;>try (cases hx;done)
  exact xNewP_inv hx
 ·unfold xAlloc at hx
  split at hx<;>try (cases hx;done)
  exact xNewP_inv hx
 ·split at hx<;>try (cases hx;done)
  exact xBS_inv hx
 ·split at hx<;>try (cases hx;done)
  exact xMk_inv hx
 ·split at hx<;>try (cases hx;done)
  unfold xMMk at hx
  split at hx<;>try (cases hx;done)
  rename_i hp;cases hx;exact PH.push_inv hp rfl
 ·split at hx<;>try (cases hx;done)
  split at hx
  ·split at hx
   ·exact xSt1_inv hx
   ·exact xStA_inv hx
  ·exact xStA_inv hx
  ·cases hx
 ·split at hx<;>try (cases hx;done)
  split at hx<;>try (cases hx;done)
  exact xMUpd_inv hx
 ·split at hx<;>try (cases hx;done)
  split at hx<;>try (cases hx;done)
  exact xMUpd_inv hx
 ·split at hx<;>try (cases hx;done)
  split at hx
  ·unfold xS2B at hx
   split at hx<;>try (cases hx;done)
   split at hx<;>try (cases hx;done)
   rename_i hp;cases hx;exact PH.push_inv hp rfl
  ·unfold xMark at hx
   split at hx<;>try (cases hx;done)
   split at hx<;>try (cases hx;done)
   split at hx<;>try (cases hx;done)
   split at hx<;>try (cases hx;done)
   split at hx<;>try (cases hx;done)
   cases hx;exact Inv.refl _
  ·cases hx
 ·split at hx<;>try (cases hx;done)
  exact xApp_inv hx
 ·split at hx<;>try (cases hx;done)
  split at hx<;>try (cases hx;done)
  exact xMDel_inv hx
 ·split at hx<;>try (cases hx;done)
  exact xClear_inv hx
 ·split at hx<;>try (cases hx;done)
  split at hx
  ·obtain⟨k1,hx1,rfl,hz⟩:=fcall_ok hx;exact PH.back_inv (hcl _ _ _ _ _ hx1).2 hz
  ·split at hx
   ·split at hx<;>try (cases hx;done)
    rename_i hat;exact(xAdd64_ok hat hx).2
   ·exact(hcl _ _ _ _ _ hx).2
 ·split at hx<;>try (cases hx;done)
  unfold xCall at hx
  split at hx<;>try (cases hx;done)
  exact(hcl _ _ _ _ _ hx).2
 ·cases hx
def lset{α:Type}:Tm->Nat->Value->(Tm->α)->α
 | [],_,_,K=>K []
 |x::xs,d,v,K=>match d with
  |0=>K (some v::xs)
  | .succ d=>lset xs d v fun ys=>K (x::ys)
theorem lset_eq{α:Type}{K:Tm->α}{t:Tm}{d:Nat}{v:Value}:lset t d v K=K (t.set d (some v)):=by
 induction t generalizing d K with
 |nil=>simp[lset]
 |cons x xs ih=>cases d with
  |zero=>simp[lset]
  |succ d=>simp[lset,ih]
def putK{α:Type}(t:Tm)(d:Option Tmp)(v:Value)(K:Tm->α):α:=match d with
 |some d=>lset t d v K
 |none=>K t
theorem putK_eq{α:Type}{K:Tm->α}{t:Tm}{d:Option Tmp}{v:Value}:putK t d v K=K (aput t d v):=by
 cases d<;>simp[putK,aput,lset_eq]
def gval(ops:Array Oper)(t:Tm)(j:Nat):Option Value:=match ops[j]? with
 |some o=>match o.dst with
  |some d=>tget t d
  |none=>none
 |none=>none
def isMv:Op->Option Operand
 | .move x=>some x
 | .assign x=>some x
 |_=>none
noncomputable def exOpG(vc:Bool)(mv:Option Operand)(fV:Option Value)(fH:R)(ops:Array Oper)(o:Oper)(K:Tm->PH->R)(t:Tm)(h:PH):R:=
 match vc with
 |true=>match o.guard with
  |none=>match mv with
   |some x=>match ev t x with
    |some v=>putK t o.dst v fun t=>K t h
    |none=>none
   |none=>vb fV fun v=>putK t o.dst v fun t=>K t h
  |some (j,w)=>match gval ops t j with
   |some g=>vb (gd (isB w g) fV) fun v=>putK t o.dst v fun t=>K t h
   |none=>none
 |false=>match o.guard with
  |none=>hb fH fun v h=>putK t o.dst v fun t=>K t h
  |some (j,w)=>match gval ops t j with
   |some g=>hb (gh (isB w g) h fH) fun v h=>putK t o.dst v fun t=>K t h
   |none=>none
structure Tab where
 pu:List Nat
 fr:List Nat
 live:List (Nat×List Nat)
 ords:List (Nat×List Nat)
 fl:List (Nat×List Nat)
 dd:List Nat
 fi:List (Nat×List Nat)
 am:List Nat
noncomputable def exOp(P:Program)(tab:Tab)(cl:CL)(ops:Array Oper)(o:Oper)(K:Tm->PH->R)(t:Tm)(h:PH):R:=
 exOpG (isV P tab.pu o.op) (isMv o.op) (opV P tab.pu cl o.op o.type t h) (opH P tab.fr tab.am cl o.op t h) ops o K t h
def aeq(a b:Option Addr):Bool:=match a,b with
 |none,none=>true
 |some ⟨b,o,none⟩,some ⟨b',o',none⟩=>match Nat.beq b b' with
  |true=>Nat.beq o o'
  |false=>false
 |_,_=>false
theorem aeq_ok{a b:Option Addr}(h:aeq a b=true):a=b:=by
 unfold aeq at h
 split at h
 ·rfl
 ·split at h
  ·rename_i e;rw[Nat.eq_of_beq_eq_true e,Nat.eq_of_beq_eq_true h]
  ·cases h
 ·cases h
def veq1(a b:Value):Bool:=match a,b with
 | .bool x,.bool y=>x==y
 | .int k x,.int k' y=>match kb k k' with
  |true=>ieq x y
  |false=>false
 | .pointer x,.pointer y=>aeq x y
 | .slice x l c,.slice y l' c'=>match Nat.beq l l' with
  |true=>match Nat.beq c c' with
   |true=>aeq x y
   |false=>false
  |false=>false
 | .map (some r),.map (some r')=>Nat.beq r r'
 | .map none,.map none=>true
 | .nilFunc,.nilFunc=>true
 | .nilIface,.nilIface=>true
 | .tuple ⟨[]⟩,.tuple ⟨[]⟩=>true
 |_,_=>false
theorem veq1_ok{a b:Value}(h:veq1 a b=true):a=b:=by
 unfold veq1 at h
 split at h<;>try (first|rfl|cases h;done)
 ·rw[eq_of_beq h]
 ·split at h
  ·rename_i e;rw[ieq_eq]at h;rw[kb_ok e,of_decide_eq_true h]
  ·cases h
 ·rw[aeq_ok h]
 ·split at h
  ·rename_i e;split at h
   ·rename_i e2;rw[Nat.eq_of_beq_eq_true e,Nat.eq_of_beq_eq_true e2,aeq_ok h]
   ·cases h
  ·cases h
 ·rw[Nat.eq_of_beq_eq_true h]
def veqs:List Value->List Value->Bool
 | [],[]=>true
 |x::xs,y::ys=>match veq1 x y with
  |true=>veqs xs ys
  |false=>false
 |_,_=>false
theorem veqs_ok: ∀{xs ys:List Value},veqs xs ys=true->xs=ys
 | [],[],_=>rfl
 |x::xs,y::ys,h=>by
  unfold veqs at h
  split at h
  ·rename_i e;rw[veq1_ok e,veqs_ok h]
  ·cases h
 | [],y::ys,h=>by cases h
 |x::xs,[],h=>by cases h
def veq(a b:Value):Bool:=match a,b with
 | .agg ⟨xs⟩,.agg ⟨ys⟩=>veqs xs ys
 | .func (.func g) ⟨xs⟩ ⟨us⟩,.func (.func g') ⟨ys⟩ ⟨ws⟩=>match Nat.beq g g' with
  |true=>match veqs xs ys with
   |true=>veqs us ws
   |false=>false
  |false=>false
 |_,_=>veq1 a b
theorem veq_ok{a b:Value}(h:veq a b=true):a=b:=by
 unfold veq at h
 split at h
 ·rw[veqs_ok h]
 ·split at h
  ·rename_i e;split at h
   ·rename_i e2;rw[Nat.eq_of_beq_eq_true e,veqs_ok e2,veqs_ok h]
   ·cases h
  ·cases h
 ·exact veq1_ok h
noncomputable def lchk(o:Option Value)(v:Value)(r:R):R:=Option.rec (motive:=fun _=>R) none (fun u=>Bool.rec (motive:=fun _=>R) none r (veq u v)) o
theorem lchk_ok{o:Option Value}{v:Value}{r:R}{r':Value×PH}(h:lchk o v r=some r'):o=some v/\r=some r':=by
 cases o with
 |none=>cases h
 |some u=>
  have h:Bool.rec (motive:=fun _=>R) none r (veq u v)=some r':=h;cases hq:veq u v with
  |false=>rw[hq]at h;cases h
  |true=>rw[hq]at h;rw[veq_ok hq];exact⟨rfl,h⟩
abbrev CK:=PH->R->R
def isL(op:Op):Bool:=match op with
 | .load _ _=>true
 |_=>false
def isE(op:Op):Bool:=match op with
 | .call ⟨.builtin .len,_,_⟩=>false
 | .call _=>true
 | .store .. | .mapUpdate .. | .insert .. =>true
 |_=>false
noncomputable def exOpsE(P:Program)(tab:Tab)(cl:CL)(ops:Array Oper)(ck:CK):List FOp->(Tm->PH->R)->Tm->PH->R
 | [],K=>K
 |o::rest,K=>match o.2 with
  |false=>exOp P tab cl ops o.1 (exOpsE P tab cl ops ck rest K)
  |true=>match isE o.1.op with
   |true=>exOp P tab cl ops o.1 (fun t h=>ck h (exOpsE P tab cl ops ck rest K t h))
   |false=>fun _ _=>none
noncomputable def exOpsF(P:Program)(tab:Tab)(cl:CL)(ops:Array Oper):List FOp->CK->(Tm->PH->R)->Tm->PH->R
 | [],_,K=>K
 |o::rest,ck,K=>match o.2 with
  |false=>exOp P tab cl ops o.1 (exOpsF P tab cl ops rest ck K)
  |true=>match isE o.1.op with
   |true=>exOp P tab cl ops o.1 (fun t h=>ck h (exOpsE P tab cl ops ck rest K t h))
   |false=>match isL o.1.op with
    |false=>fun _ _=>none
    |true=>fun t h=>match o.1.guard with
     |none=>vb (opV P tab.pu cl o.1.op o.1.type t h) fun v=>putK t o.1.dst v fun t'=>exOpsF P tab cl ops rest (fun h r=>ck h (lchk (opV P tab.pu cl o.1.op o.1.type t h) v r)) K t' h
     |some (j,w)=>match gval ops t j with
      |some g=>vb (gd (isB w g) (opV P tab.pu cl o.1.op o.1.type t h)) fun v=>putK t o.1.dst v fun t'=>exOpsF P tab cl ops rest (fun h r=>ck h (lchk (gd (isB w g) (opV P tab.pu cl o.1.op o.1.type t h)) v r)) K t' h
      |none=>none
noncomputable def exOps(P:Program)(tab:Tab)(cl:CL)(ops:Array Oper):List Oper->(Tm->PH->R)->Tm->PH->R
 | [],K=>K
 |o::rest,K=>exOp P tab cl ops o (exOps P tab cl ops rest K)
theorem isB_ok{ops:Array Oper}{o:Oper}{t:Tm}{j:Nat}{w:Bool}{g:Value}(hg:o.guard=some (j,w))(hv:gval ops t j=some g):gok ops o t=true/\Region.wanted o (ayielded ops t)=isB w g:=by
 unfold gval at hv
 split at hv<;>try (cases hv;done)
 rename_i o' ho
 split at hv<;>try (cases hv;done)
 rename_i d hd;refine⟨by simp[gok,hg,ho,hd,hv],?_⟩;unfold Region.wanted;rw[hg];simp only[ayielded,ho,hd,hv];unfold isB;cases g<;>try (cases w<;>rfl)
 rename_i b;cases w<;>cases b<;>rfl
theorem exOpG_ok{vc:Bool}{mv:Option Operand}{fV:Option Value}{fH:R}{ops:Array Oper}{o:Oper}{K:Tm->PH->R}{t:Tm}{h:PH}{r:Value×PH}(hmv: ∀x v,mv=some x->ev t x=some v->vc=true->fV=some v)
  (hx:exOpG vc mv fV fH ops o K t h=some r):
  gok ops o t=true/\((Region.wanted o (ayielded ops t)=true/\((vc=true/\ ∃v,fV=some v/\K (aput t o.dst v) h=some r)\/(vc=false/\ ∃v h',fH=some (v,h')/\K (aput t o.dst v) h'=some r)))\/
   (Region.wanted o (ayielded ops t)=false/\K (aput t o.dst undef) h=some r)):=by
 obtain⟨dst,op,ty,pos,aft,grd⟩:=o;unfold exOpG at hx;dsimp only at hx ⊢;cases vc with
 |true=>
  dsimp only at hx;cases grd with
  |none=>
   dsimp only at hx;refine⟨rfl,.inl ⟨rfl,.inl ⟨rfl,?_⟩⟩⟩
   split at hx
   ·rename_i x
    split at hx<;>try (cases hx;done)
    rename_i v hv;rw[putK_eq]at hx;exact⟨v,hmv x v rfl hv rfl,hx⟩
   ·obtain⟨v,hv,hx⟩:=vb_ok hx;rw[putK_eq]at hx;exact⟨v,hv,hx⟩
  |some q=>
   obtain⟨j,w⟩:=q;dsimp only at hx
   split at hx<;>try (cases hx;done)
   rename_i g hg;obtain⟨g1,g2⟩:=isB_ok (o:=⟨dst,op,ty,pos,aft,some (j,w)⟩) (w:=w) rfl hg;obtain⟨v,hv,hx⟩:=vb_ok hx;rw[putK_eq]at hx;refine⟨g1,?_⟩;cases hb:isB w g with
   |true=>rw[hb]at hv;exact .inl ⟨g2.trans hb,.inl ⟨rfl,v,hv,hx⟩⟩
   |false=>rw[hb]at hv;cases hv;exact .inr ⟨g2.trans hb,hx⟩
 |false=>
  dsimp only at hx;cases grd with
  |none=>
   dsimp only at hx;obtain⟨v,h',hv,hx⟩:=hb_ok hx;rw[putK_eq]at hx;exact⟨rfl,.inl ⟨rfl,.inr ⟨rfl,v,h',hv,hx⟩⟩⟩
  |some q=>
   obtain⟨j,w⟩:=q;dsimp only at hx
   split at hx<;>try (cases hx;done)
   rename_i g hg;obtain⟨g1,g2⟩:=isB_ok (o:=⟨dst,op,ty,pos,aft,some (j,w)⟩) (w:=w) rfl hg;obtain⟨v,h',hv,hx⟩:=hb_ok hx;rw[putK_eq]at hx;refine⟨g1,?_⟩;cases hb:isB w g with
   |true=>rw[hb]at hv;exact .inl ⟨g2.trans hb,.inr ⟨rfl,v,h',hv,hx⟩⟩
   |false=>rw[hb]at hv;cases hv;exact .inr ⟨g2.trans hb,hx⟩
theorem isMv_ok{P:Program}{pu:List Nat}{cl:CL}{op:Op}{ty:TypeId}{t:Tm}{h:PH}{x:Operand}{v:Value}(hm:isMv op=some x)(hv:ev t x=some v):opV P pu cl op ty t h=some v:=by
 unfold isMv at hm
 split at hm<;>cases hm<;>exact hv
theorem exOp_one{P:Program}{tab:Tab}{cl:CL}(hcl:OkCL P cl){ops:Array Oper}{o:Oper}{K:Tm->PH->R}{t:Tm}{h:PH}{r:Value×PH}(hx:exOp P tab cl ops o K t h=some r):
  ∃t' h',K t' h'=some r/\Inv h h'/\(∃d,t'=aput t o.dst d)/\ ∀K':Tm->Heap->Prop,K' t' h'.abs->AOp P ops o K' t h.abs:=by
 obtain⟨hg,hc⟩:=exOpG_ok (fun x v hm hv _=>isMv_ok hm hv) hx;rcases hc with⟨hw,hc⟩|⟨hw,hk⟩
 ·rcases hc with⟨_,v,hv,hk⟩|⟨_,v,h',hv,hk⟩
  ·refine⟨_,h,hk,Inv.refl h,⟨v,rfl⟩,fun K' hK'=>⟨hg,?_⟩⟩;rw[if_pos hw];rcases opV_ok hcl (d:=o.dst) (pos:=o.pos) (aft:=o.after) (g:=o.guard) hv with(h1|h1)|⟨f,args,h1,h2⟩
   ·exact .inl ⟨v,h1,hK'⟩
   ·exact .inr (.inl ⟨v,h1,hK'⟩)
   ·refine .inr (.inr (.inr ⟨f,args,_,h1,h2,?_⟩));rintro u k ⟨rfl,rfl⟩;exact hK'
  ·refine⟨_,h',hk,opH_inv hcl hv,⟨v,rfl⟩,fun K' hK'=>⟨hg,?_⟩⟩;rw[if_pos hw];rcases opH_ok hcl (d:=o.dst) (ty:=o.type) (pos:=o.pos) (aft:=o.after) (g:=o.guard) hv with h1|⟨f,args,h1,h2⟩
   ·exact .inr (.inr (.inl ⟨v,_,h1,hK'⟩))
   ·refine .inr (.inr (.inr ⟨f,args,_,h1,h2,?_⟩));rintro u k ⟨rfl,rfl⟩;exact hK'
 ·refine⟨_,h,hk,Inv.refl h,⟨_,rfl⟩,fun K' hK'=>⟨hg,?_⟩⟩;rw[if_neg (by simp[hw])];exact hK'
theorem exOp_ok{P:Program}{tab:Tab}{cl:CL}(hcl:OkCL P cl){ops:Array Oper}{o:Oper}{K:Tm->PH->R}{t:Tm}{h:PH}{r:Value×PH}(hx:exOp P tab cl ops o K t h=some r):
  AOp P ops o (fun t' k=> ∃h',h'.abs=k/\Inv h h'/\(∃d,t'=aput t o.dst d)/\K t' h'=some r) t h.abs:=by
 obtain⟨t',h',hk,hi,hd,hK⟩:=exOp_one hcl hx;exact hK _ ⟨h',rfl,hi,hd,hk⟩
theorem no_read{P:Program}{o:Oper}{t:Tm}{h:Heap}(hc:isE o.op=true):aread P o t h=none:=by
 obtain⟨dst,op,ty,pos,aft,grd⟩:=o;dsimp only at hc;unfold aread;dsimp only;cases op with
 |call c=>
  obtain⟨callee,args,ats⟩:=c;cases callee with
  |builtin b=>cases b<;>first|rfl|((simp[isE]at hc))
  |_=>rfl
 |_=>first|rfl|((simp[isE]at hc))
theorem AOpF.ofU{P:Program}{ops:Array Oper}{S:Heap->Prop}{o:Oper}{K:Tm->Heap->Prop}{t:Tm}{h:Heap}(ho:AOp P ops o K t h):AOpF P ops S (o,false) K t h:=by
 unfold AOp at ho;unfold AOpF;refine⟨ho.1,?_⟩
 replace ho:=ho.2
 dsimp only
 split
 ·rename_i hw;rw[if_pos hw]at ho;rcases ho with⟨v,h1,h2⟩|⟨v,h1,h2⟩|⟨v,h',h1,h2⟩|⟨f,args,R,h1,h2,h3⟩
  ·exact .inl ⟨v,h1,h2⟩
  ·exact .inr (.inl ⟨v,h1,(fun hf=>by cases hf),h2⟩)
  ·exact .inr (.inr (.inl ⟨v,h',h1,(fun hf=>by cases hf),h2⟩))
  ·exact .inr (.inr (.inr ⟨f,args,R,h1,h2,fun v h' hr=>⟨(fun hf=>by cases hf),h3 v h' hr⟩⟩))
 ·rename_i hw;rw[if_neg hw]at ho;exact ho
theorem AOpF.ofE{P:Program}{ops:Array Oper}{S:Heap->Prop}{o:Oper}{K K':Tm->Heap->Prop}{t:Tm}{h:Heap}(he:isE o.op=true)(hS: ∀t k,K t k->S k/\K' t k)(ho:AOp P ops o K t h):AOpF P ops S (o,true) K' t h:=by
 unfold AOp at ho;unfold AOpF;refine⟨ho.1,?_⟩
 replace ho:=ho.2
 dsimp only
 split
 ·rename_i hw;rw[if_pos hw]at ho;rcases ho with⟨v,h1,h2⟩|⟨v,h1,h2⟩|⟨v,h',h1,h2⟩|⟨f,args,R,h1,h2,h3⟩
  ·exact .inl ⟨v,h1,(hS _ _ h2).2⟩
  ·rw[no_read he]at h1;cases h1
  ·exact .inr (.inr (.inl ⟨v,h',h1,(fun _=>(hS _ _ h2).1),(hS _ _ h2).2⟩))
  ·exact .inr (.inr (.inr ⟨f,args,R,h1,h2,fun v h' hr=>⟨(fun _=>(hS _ _ (h3 v h' hr)).1),(hS _ _ (h3 v h' hr)).2⟩⟩))
 ·rename_i hw;rw[if_neg hw]at ho;exact(hS _ _ ho).2
theorem aput_length(t:Tm)(d:Option Tmp)(v:Value):(aput t d v).length=t.length:=by cases d<;>simp[aput]
theorem exOps_ok{P:Program}{tab:Tab}{cl:CL}(hcl:OkCL P cl){ops:Array Oper}{K:Tm->PH->R}{r:Value×PH}: ∀{l:List Oper}{t:Tm}{h:PH},exOps P tab cl ops l K t h=some r->
  AOps P ops (fun t' k=>t'.length=t.length/\ ∃h',h'.abs=k/\K t' h'=some r) l t h.abs:=by
 intro l
 induction l with
 |nil=>intro t h hx;exact⟨rfl,h,rfl,hx⟩
 |cons o l ih=>
  intro t h hx;refine AOp.mono ?_ (exOp_ok hcl hx);rintro t' k ⟨h',rfl,_,⟨d,rfl⟩,hk⟩;have:=ih hk;rw[aput_length]at this;exact this
theorem exOpsE_ok{P:Program}{tab:Tab}{cl:CL}(hcl:OkCL P cl){ops:Array Oper}{ck:CK}{S:Heap->Prop}{K:Tm->PH->R}{r:Value×PH}(hck: ∀h q r',ck h q=some r'->q=some r'/\S h.abs): ∀{l:List FOp}{t:Tm}{h:PH},exOpsE P tab cl ops ck l K t h=some r->
  AOpsF P ops S (fun t' k=>t'.length=t.length/\ ∃h',h'.abs=k/\K t' h'=some r) l t h.abs:=by
 intro l
 induction l with
 |nil=>intro t h hx;exact⟨rfl,h,rfl,hx⟩
 |cons o l ih=>
  intro t h hx;obtain⟨o,f⟩:=o;unfold exOpsE at hx;dsimp only at hx;cases f with
  |false=>
   dsimp only at hx;refine AOpF.ofU (AOp.mono ?_ (exOp_ok hcl hx));rintro t' k ⟨h',rfl,_,⟨d,rfl⟩,hk⟩;have:=ih hk;rw[aput_length]at this;exact this
  |true=>
   dsimp only at hx;cases he:isE o.op with
   |false=>rw[he]at hx;cases hx
   |true=>
    rw[he]at hx;refine AOpF.ofE he ?_ (exOp_ok hcl hx);rintro t' k ⟨h',rfl,_,⟨d,rfl⟩,hk⟩;obtain⟨hk,hS⟩:=hck _ _ _ hk;have:=ih hk;rw[aput_length]at this;exact⟨hS,this⟩
def stay(P:Program)(L:List (Oper×Tm×Value))(k:Heap):Prop:= ∀e∈L,aread P e.1 e.2.1 k=some e.2.2
theorem aread_load{P:Program}{pu:List Nat}{cl:CL}(hcl:OkCL P cl){o:Oper}{t:Tm}{h:PH}{v:Value}(hl:isL o.op=true)(hx:opV P pu cl o.op o.type t h=some v):aread P o t h.abs=some v:=by
 rcases opV_ok hcl (d:=o.dst) (pos:=o.pos) (aft:=o.after) (g:=o.guard) hx with(h1|h1)|⟨f,args,h1,h2⟩
 ·have:apure P o t=none:=by
   obtain⟨dst,op,ty,pos,aft,grd⟩:=o;cases op<;>first|rfl|(simp[isL]at hl)
  have h1:apure P o t=some v:=h1;rw[this]at h1;cases h1
 ·exact h1
 ·have:acallee P o t=none:=by
   obtain⟨dst,op,ty,pos,aft,grd⟩:=o;cases op<;>first|rfl|(simp[isL]at hl)
  have h1:acallee P o t=some (f,args):=h1;rw[this]at h1;cases h1
theorem exOpsF_ok{P:Program}{tab:Tab}{cl:CL}(hcl:OkCL P cl){ops:Array Oper}{K:Tm->PH->R}{r:Value×PH}: ∀{l:List FOp}{ck:CK}{L:List (Oper×Tm×Value)}{t:Tm}{h:PH},(∀h q r',ck h q=some r'->q=some r'/\stay P L h.abs)->exOpsF P tab cl ops l ck K t h=some r->
  ∃L',(∀e∈L,e∈L')/\AOpsF P ops (stay P L') (fun t' k=>t'.length=t.length/\ ∃h',h'.abs=k/\K t' h'=some r) l t h.abs:=by
 intro l
 induction l with
 |nil=>intro ck L t h _ hx;exact⟨L,fun _ h=>h,rfl,h,rfl,hx⟩
 |cons o l ih=>
  intro ck L t h hck hx;obtain⟨o,f⟩:=o;unfold exOpsF at hx;dsimp only at hx;cases f with
  |false=>
   dsimp only at hx;obtain⟨t',h',hk,_,⟨d,rfl⟩,hK⟩:=exOp_one hcl hx;obtain⟨L',h1,h2⟩:=ih hck hk;rw[aput_length]at h2;exact⟨L',h1,AOpF.ofU (hK _ h2)⟩
  |true=>
   dsimp only at hx;cases he:isE o.op with
   |true=>
    rw[he]at hx;refine⟨L,fun _ h=>h,AOpF.ofE he ?_ (exOp_ok hcl hx)⟩;rintro t' k ⟨h',rfl,_,⟨d,rfl⟩,hk⟩;obtain⟨hk,hS⟩:=hck _ _ _ hk;have:=exOpsE_ok hcl hck hk;rw[aput_length]at this;exact⟨hS,this⟩
   |false=>
    rw[he]at hx;dsimp only at hx;cases hl:isL o.op with
    |false=>rw[hl]at hx;cases hx
    |true=>
     rw[hl]at hx;dsimp only at hx;cases hgd:o.guard with
     |none=>
      rw[hgd]at hx;dsimp only at hx;obtain⟨v,hv,hx⟩:=vb_ok hx;rw[putK_eq]at hx;have hv':=aread_load hcl hl hv;obtain⟨L',h1,h2⟩:=ih (L:=(o,t,v)::L) (fun h q r' hq=>by
       obtain⟨q1,q2⟩:=hck _ _ _ hq;obtain⟨q3,q4⟩:=lchk_ok q1;refine⟨q4,fun e he=>?_⟩;rcases List.mem_cons.1 he with rfl|he
       ·exact aread_load hcl hl q3
       ·exact q2 e he) hx
      rw[aput_length]at h2;refine⟨L',fun e he=>h1 e (.tail _ he),?_⟩;unfold AOpsF AOpF;dsimp only;refine⟨by simp[gok,hgd],?_⟩;rw[if_pos (by simp[Region.wanted,hgd])];exact .inr (.inl ⟨v,hv',fun _ k hk=>hk _ (h1 _ (.head _)),h2⟩)
     |some q=>
      obtain⟨j,w⟩:=q;rw[hgd]at hx;dsimp only at hx
      split at hx<;>try (cases hx;done)
      rename_i g hg;obtain⟨g1,g2⟩:=isB_ok hgd hg;obtain⟨v,hv,hx⟩:=vb_ok hx;rw[putK_eq]at hx;cases hb:isB w g with
      |true=>
       rw[hb]at hv g2;have hv:opV P tab.pu cl o.op o.type t h=some v:=hv;have hv':=aread_load hcl hl hv;obtain⟨L',h1,h2⟩:=ih (L:=(o,t,v)::L) (fun h q r' hq=>by
        obtain⟨q1,q2⟩:=hck _ _ _ hq;rw[hb]at q1;obtain⟨q3,q4⟩:=lchk_ok q1;refine⟨q4,fun e he=>?_⟩;rcases List.mem_cons.1 he with rfl|he
        ·exact aread_load (pu:=tab.pu) hcl hl q3
        ·exact q2 e he) hx
       rw[aput_length]at h2;refine⟨L',fun e he=>h1 e (.tail _ he),?_⟩;unfold AOpsF AOpF;dsimp only;refine⟨g1,?_⟩;rw[if_pos g2];exact .inr (.inl ⟨v,hv',fun _ k hk=>hk _ (h1 _ (.head _)),h2⟩)
      |false=>
       rw[hb]at hv g2;cases hv;obtain⟨L',h1,h2⟩:=ih (L:=L) (fun h q r' hq=>by
        obtain⟨q1,q2⟩:=hck _ _ _ hq;exact⟨(lchk_ok q1).2,q2⟩) hx
       rw[aput_length]at h2;refine⟨L',h1,?_⟩;unfold AOpsF AOpF;dsimp only;refine⟨g1,?_⟩;rw[if_neg (by simp[g2])];exact h2
def Leaves(K:Tm->PH->R):Prop:= ∀t h r,K t h=some r->Inv h r.2
theorem exOpG_inv{vc:Bool}{mv:Option Operand}{fV:Option Value}{fH:R}{ops:Array Oper}{o:Oper}{K:Tm->PH->R}{t:Tm}{h:PH}{r:Value×PH}(hK:Leaves K)(hH: ∀v h',fH=some (v,h')->Inv h h')(hx:exOpG vc mv fV fH ops o K t h=some r):Inv h r.2:=by
 unfold exOpG at hx
 split at hx
 ·split at hx
  ·split at hx
   ·split at hx<;>try (cases hx;done)
    rw[putK_eq]at hx;exact hK _ _ _ hx
   ·obtain⟨v,hv,hx⟩:=vb_ok hx;rw[putK_eq]at hx;exact hK _ _ _ hx
  ·split at hx<;>try (cases hx;done)
   obtain⟨v,hv,hx⟩:=vb_ok hx;rw[putK_eq]at hx;exact hK _ _ _ hx
 ·split at hx
  ·obtain⟨v,h',hv,hx⟩:=hb_ok hx;rw[putK_eq]at hx;exact(hH _ _ hv).trans (hK _ _ _ hx)
  ·split at hx<;>try (cases hx;done)
   obtain⟨v,h',hv,hx⟩:=hb_ok hx;rw[putK_eq]at hx;generalize isB _ _=bb at hv;cases bb with
   |true=>exact(hH _ _ hv).trans (hK _ _ _ hx)
   |false=>cases hv;exact hK _ _ _ hx
theorem exOp_inv{P:Program}{tab:Tab}{cl:CL}(hcl:OkCL P cl){ops:Array Oper}{o:Oper}{K:Tm->PH->R}(hK:Leaves K):Leaves (exOp P tab cl ops o K):=
 fun t h r hx=>exOpG_inv hK (fun v h' hv=>opH_inv hcl hv) hx
theorem exOps_inv{P:Program}{tab:Tab}{cl:CL}(hcl:OkCL P cl){ops:Array Oper}{K:Tm->PH->R}(hK:Leaves K): ∀l,Leaves (exOps P tab cl ops l K)
 | []=>hK
 |o::l=>exOp_inv hcl (exOps_inv hcl hK l)
theorem exOpsE_inv{P:Program}{tab:Tab}{cl:CL}(hcl:OkCL P cl){ops:Array Oper}{ck:CK}(hck: ∀h q r',ck h q=some r'->q=some r'){K:Tm->PH->R}(hK:Leaves K): ∀l,Leaves (exOpsE P tab cl ops ck l K)
 | []=>hK
 |(o,false)::l=>exOp_inv hcl (exOpsE_inv hcl hck hK l)
 |(o,true)::l=>by
  unfold exOpsE;dsimp only;cases isE o.op with
  |false=>intro t h r hx;cases hx
  |true=>exact exOp_inv hcl fun t h r hx=>exOpsE_inv hcl hck hK l _ _ _ (hck _ _ _ hx)
theorem exOpsF_inv{P:Program}{tab:Tab}{cl:CL}(hcl:OkCL P cl){ops:Array Oper}{K:Tm->PH->R}(hK:Leaves K): ∀(l:List FOp)(ck:CK),(∀h q r',ck h q=some r'->q=some r')->Leaves (exOpsF P tab cl ops l ck K)
 | [],_,_=>hK
 |(o,false)::l,ck,hck=>exOp_inv hcl (exOpsF_inv hcl hK l ck hck)
 |(o,true)::l,ck,hck=>by
  unfold exOpsF;dsimp only;cases isE o.op with
  |true=>exact exOp_inv hcl fun t h r hx=>exOpsE_inv hcl hck hK l _ _ _ (hck _ _ _ hx)
  |false=>
   cases isL o.op with
   |false=>intro t h r hx;cases hx
   |true=>
    intro t h r hx;dsimp only at hx
    split at hx
    ·obtain⟨v,hv,hx⟩:=vb_ok hx;rw[putK_eq]at hx;exact exOpsF_inv hcl hK l _ (fun h q r' hq=>(lchk_ok (hck _ _ _ hq)).2) _ _ _ hx
    ·split at hx<;>try (cases hx;done)
     obtain⟨v,hv,hx⟩:=vb_ok hx;rw[putK_eq]at hx;exact exOpsF_inv hcl hK l _ (fun h q r' hq=>(lchk_ok (hck _ _ _ hq)).2) _ _ _ hx
noncomputable def kpN:Nat->PH->(PH->R)->R
 |0,h,K=>K h
 | .succ m,h,K=>match h.push .hole with
  |some h=>kpN m h K
  |none=>none
noncomputable def kp(m:Nat)(h:PH)(K:Nat->PH->R):R:=seqN h.n fun b=>kpN m h fun h=>K b h
theorem kpN_ok{m:Nat}: ∀{h:PH}{K:PH->R}{r:Value×PH},kpN m h K=some r-> ∃h',h'.abs=h.abs++List.replicate m .hole/\Inv h h'/\K h'=some r:=by
 induction m with
 |zero=>intro h K r hx;exact⟨h,by simp,Inv.refl h,hx⟩
 |succ m ih=>
  intro h K r hx;unfold kpN at hx
  split at hx<;>try (cases hx;done)
  rename_i h1 hp;obtain⟨h',e1,e2,e3⟩:=ih hx;exact⟨h',by rw[e1,PH.push_abs hp,List.append_assoc,List.replicate_succ];rfl,(PH.push_inv hp rfl).trans e2,e3⟩
theorem kp_ok{m:Nat}{h:PH}{K:Nat->PH->R}{r:Value×PH}(hx:kp m h K=some r): ∃h',h'.abs=h.abs++List.replicate m .hole/\Inv h h'/\K h.abs.length h'=some r:=by
 unfold kp at hx;rw[seqN_eq]at hx;rw[PH.length];exact kpN_ok hx
def atB(b:Nat)(v:Value):Option Value:=seqN b fun b=>match v with
 | .pointer _=>some (.pointer (some ⟨b,0,none⟩))
 | .slice _ l c=>some (.slice (some ⟨b,0,none⟩) l c)
 | .map _=>some (.map (some b))
 |_=>none
theorem atB_new(F:NewF)(b c:Nat):atB b (F.at c)=some (F.at b):=by
 unfold atB;rw[seqN_eq];cases F<;>rfl
def hE:PH:=⟨0,0,.leaf⟩
noncomputable def xfill(b:Nat)(h:PH)(r:R):R:=match r with
 |some (v,h1)=>match h1.br.get 0 with
  |some A=>match atB b v with
   |some v=>match h.raw b with
    |some .hole=>match h.set b A with
     |some h=>some (v,h)
     |none=>none
    |_=>none
   |none=>none
  |none=>none
 |none=>none
theorem xfill_ok{b:Nat}{h h':PH}{r:R}{v:Value}(hx:xfill b h r=some (v,h')): ∃v1 h1 A,r=some (v1,h1)/\h1.br.get 0=some A/\atB b v1=some v/\h.abs[b]?=some .hole/\h.set b A=some h':=by
 unfold xfill at hx
 split at hx<;>try (cases hx;done)
 rename_i v1 h1
 split at hx<;>try (cases hx;done)
 rename_i A hA
 split at hx<;>try (cases hx;done)
 rename_i v2 hv
 split at hx<;>try (cases hx;done)
 rename_i hr
 split at hx<;>try (cases hx;done)
 rename_i h2 hs;cases hx;refine⟨v1,h1,A,rfl,hA,hv,?_,hs⟩;have:=PH.raw_abs hr;rw[this];cases Nat.blt b h.fz<;>rfl
theorem owned_notro{A:AObj}(h:A.owned=true):notro A=true:=by
 cases A with
 |row m a b=>cases m<;>first|rfl|cases h
 |_=>rfl
theorem fill_new{P:Program}{fr am:List Nat}{cl:CL}(hcl:OkCL P cl){o:Oper}{t:Tm}{b:Nat}{h h':PH}{v:Value}(hc:cls P o.op=2)(hx:xfill b h (opH P fr am cl o.op t hE)=some (v,h')):
  ∃F A,New P o t F A/\v=F.at b/\h.abs[b]?=some .hole/\h'.abs=h.abs.set b A/\Inv h h':=by
 obtain⟨v1,h1,A,e1,e2,e3,e4,e5⟩:=xfill_ok hx;rcases opH_ok hcl (d:=o.dst) (ty:=o.type) (pos:=o.pos) (aft:=o.after) (g:=o.guard) e1 with h2|⟨f,args,h2,_⟩
 ·have h2:aeff P o t hE.abs=some (v1,h1.abs):=h2;obtain⟨F,A',hn,g1,g2⟩:=new_of hc h2;have hl:hE.abs=[]:=rfl;rw[hl]at g1 g2;have hlen:h1.n=1:=by rw[<-PH.length,g2];rfl
  have hfz:h1.fz=0:=(opH_inv hcl e1).fz;have hAA:A=A':=by
   have h3:h1.abs[0]?=some A:=by
    have hr:h1.raw 0=some A:=by
     unfold PH.raw;rw[hlen];exact e2
    have:=PH.raw_abs hr;rw[hfz]at this;exact this
   rw[g2]at h3;simpa using h3.symm
  subst hAA;rw[g1,atB_new]at e3;cases e3;exact⟨F,A,hn,rfl,e4,PH.set_abs e5,PH.set_inv e5 (owned_notro hn.2.1)⟩
 ·have h2:acallee P o t=some (f,args):=h2;have:=call4 h2;omega
def av1(b m x:Nat):Bool:=match Nat.blt x b with
 |true=>true
 |false=>Nat.ble (Nat.add b m) x
theorem av1_ok{b m x:Nat}(h:av1 b m x=true):notIn b m x=true:=by
 unfold av1 at h;unfold notIn inR2
 split at h
 ·rename_i e;have:x<b:=Nat.le_of_ble_eq_true e;simp;omega
 ·have:=Nat.le_of_ble_eq_true h;have:b+m<=x:=this;simp;omega
def avV0(b m:Nat):Value->Bool
 | .pointer (some ⟨x,_,none⟩)=>av1 b m x
 | .pointer none=>true
 | .slice (some ⟨x,_,none⟩) _ _=>av1 b m x
 | .slice none _ _=>true
 | .map (some x)=>av1 b m x
 | .map none=>true
 | .int _ _=>true
 | .bool _=>true
 | .string _=>true
 | .nilFunc=>true
 | .nilIface=>true
 | .tuple ⟨[]⟩=>true
 |_=>false
def avL0(b m:Nat):List Value->Bool
 | []=>true
 |x::xs=>match avV0 b m x with
  |true=>avL0 b m xs
  |false=>false
def avV(b m:Nat)(v:Value):Bool:=match v with
 | .agg ⟨xs⟩=>avL0 b m xs
 | .func _ ⟨xs⟩ ⟨ys⟩=>match avL0 b m xs with
  |true=>avL0 b m ys
  |false=>false
 |v=>avV0 b m v
def avL(b m:Nat):List Value->Bool
 | []=>true
 |x::xs=>match avV b m x with
  |true=>avL b m xs
  |false=>false
theorem avV0_ok{b m:Nat}{v:Value}(h:avV0 b m v=true):avoid (notIn b m) v=true:=by
 unfold avV0 at h
 split at h<;>first|(cases h;done)|(simp only[avoid];exact av1_ok h)|simp[avoid,avoid.avoids]
theorem avL0_ok{b m:Nat}{xs:List Value}(h:avL0 b m xs=true):avoid.avoids (notIn b m) xs=true:=by
 induction xs with
 |nil=>rfl
 |cons x xs ih=>
  unfold avL0 at h
  split at h<;>try (cases h;done)
  rename_i e;simp only[avoid.avoids,avV0_ok e,ih h];rfl
theorem avV_ok{b m:Nat}{v:Value}(h:avV b m v=true):avoid (notIn b m) v=true:=by
 unfold avV at h
 split at h
 ·simp only[avoid];exact avL0_ok h
 ·split at h<;>try (cases h;done)
  rename_i e;simp only[avoid,avL0_ok e,avL0_ok h];rfl
 ·exact avV0_ok h
theorem avL_ok{b m:Nat}{xs:List Value}(h:avL b m xs=true):avoid.avoids (notIn b m) xs=true:=by
 induction xs with
 |nil=>rfl
 |cons x xs ih=>
  unfold avL at h
  split at h<;>try (cases h;done)
  rename_i e;simp only[avoid.avoids,avV_ok e,ih h];rfl
noncomputable def avk(b m:Nat)(xs:List Value)(r:R):R:=Bool.rec (motive:=fun _=>R) none r (avL b m xs)
theorem avk_ok{b m:Nat}{xs:List Value}{r:R}{q:Value×PH}(h:avk b m xs r=some q):avL b m xs=true/\r=some q:=by
 unfold avk at h;cases hq:avL b m xs with
 |false=>rw[hq]at h;cases h
 |true=>rw[hq]at h;exact⟨rfl,h⟩
def isFr(tab:Tab)(o:Op):Bool:=match o with
 | .call ⟨.value (.func g),_,_⟩=>match memN tab.pu g with
  |true=>true
  |false=>memN tab.fr g
 |_=>false
def cargs(o:Op)(t:Tm):Option (List Value):=match o with
 | .call ⟨_,args,_⟩=>evs t args.toList
 |_=>none
def isApN(o:Op):Bool:=match o with
 | .call ⟨.builtin .append,args,_⟩=>match args.toList with
  | .const (.slice none 0 0)::_=>true
  |_=>false
 |_=>false
theorem isApN_app{o:Op}(h:isApN o=true):isApp o=true:=by
 unfold isApN at h
 split at h
 ·rfl
 ·cases h
def callsK(tab:Tab):Nat->List Oper->List (Nat×Kd)
 |_,[]=>[]
 |i,o::rest=>match isFr tab o.op with
  |true=>(i,.call)::callsK tab (.succ i) rest
  |false=>match isApN o.op with
   |true=>(i,.call)::callsK tab (.succ i) rest
   |false=>callsK tab (.succ i) rest
def fillsK:Nat->List Nat->List (Nat×Kd)
 |_,[]=>[]
 |j,i::l=>(i,.fill j)::fillsK (.succ j) l
def kds(tab:Tab)(ops:Array Oper)(fs:List Nat):List (Nat×Kd):=fillsK 0 fs++callsK tab 0 ops.toList
def lenN{α:Type}:List α->Nat
 | []=>0
 |_::l=>.succ (lenN l)
inductive Ph|one|two|late
def Ph.md:Ph->Bool
 | .late=>false
 |_=>true
noncomputable def exOpsG(P:Program)(tab:Tab)(cl:CL)(ops:Array Oper)(b m:Nat):List GOp->Ph->(Tm->PH->R)->Tm->PH->R
 | [],_,K=>K
 |o::rest,ph,K=>match o.2 with
  | .fill j=>match ph with
   | .late=>fun _ _=>none
   |_=>match Nat.beq (cls P o.1.op) 2 with
    |true=>match Nat.blt j m with
     |true=>fun t h=>exOpG false none none (xfill (Nat.add b j) h (opH P tab.fr tab.am cl o.1.op t hE)) ops o.1 (exOpsG P tab cl ops b m rest .two K) t h
     |false=>fun _ _=>none
    |false=>fun _ _=>none
  | .call=>match ph with
   | .one=>match isFr tab o.1.op with
    |true=>fun t h=>match cargs o.1.op t with
     |some as=>avk b m as (exOp P tab cl ops o.1 (exOpsG P tab cl ops b m rest .one K) t h)
     |none=>none
    |false=>match isApN o.1.op with
     |true=>fun t h=>match cargs o.1.op t with
      |some as=>avk b m as (exOpG false none none (fcall h (opH P tab.fr tab.am cl o.1.op t h.fzn)) ops o.1 (exOpsG P tab cl ops b m rest .one K) t h)
      |none=>none
     |false=>fun _ _=>none
   |_=>fun _ _=>none
  | .norm=>match Nat.beq (cls P o.1.op) 0 with
   |true=>match isV P tab.pu o.1.op with
    |true=>exOp P tab cl ops o.1 (exOpsG P tab cl ops b m rest ph K)
    |false=>fun _ _=>none
   |false=>match Nat.beq (cls P o.1.op) 1 with
    |true=>match ph with
     | .two=>fun _ _=>none
     |ph=>match isV P tab.pu o.1.op with
      |true=>exOp P tab cl ops o.1 (exOpsG P tab cl ops b m rest ph K)
      |false=>fun _ _=>none
    |false=>match isV P tab.pu o.1.op with
     |true=>fun _ _=>none
     |false=>exOp P tab cl ops o.1 (exOpsG P tab cl ops b m rest .late K)
theorem exOp_oneG{P:Program}{tab:Tab}{cl:CL}(hcl:OkCL P cl){ops:Array Oper}{o:Oper}{K:Tm->PH->R}{t:Tm}{h:PH}{r:Value×PH}{b m:Nat}{md:Bool}(hrd:md=true->hide b m h.abs=h.abs\/cls P o.op=0\/isV P tab.pu o.op=false)(hx:exOp P tab cl ops o K t h=some r):
  ∃t' h',K t' h'=some r/\(isV P tab.pu o.op=true->h'=h)/\(∃d,t'=aput t o.dst d)/\ ∀K':Bool->Tm->Heap->Prop,K' (nxm P md (o,.norm)) t' h'.abs->AOpG P ops b m (o,.norm) K' md t h.abs:=by
 obtain⟨hg,hc⟩:=exOpG_ok (fun x v hm hv _=>isMv_ok hm hv) hx;rcases hc with⟨hw,hc⟩|⟨hw,hk⟩
 ·rcases hc with⟨hV,v,hv,hk⟩|⟨hV,v,h',hv,hk⟩
  ·refine⟨_,h,hk,fun _=>rfl,⟨v,rfl⟩,fun K' hK'=>⟨hg,?_⟩⟩;rw[if_pos hw];rcases opV_ok hcl (d:=o.dst) (pos:=o.pos) (aft:=o.after) (g:=o.guard) hv with(h1|h1)|⟨f,args,h1,h2⟩
   ·exact .inl ⟨v,h1,hK'⟩
   ·refine .inr (.inl ⟨v,?_,hK'⟩);have h1:aread P o t h.abs=some v:=h1;cases md with
    |false=>exact h1
    |true=>
     rw[if_pos rfl];rcases hrd rfl with h2|h2|h2
     ·rw[h2];exact h1
     ·exact absurd h2 (read0 h1).1
     ·rw[hV]at h2;cases h2
   ·refine .inr (.inr (.inr (.inr ⟨rfl,.inr ⟨f,args,_,h1,h2,?_⟩⟩)));rintro u k ⟨rfl,rfl⟩;exact hK'
  ·refine⟨_,h',hk,(fun hq=>by rw[hV]at hq;cases hq),⟨v,rfl⟩,fun K' hK'=>⟨hg,?_⟩⟩;rw[if_pos hw];rcases opH_ok hcl (d:=o.dst) (ty:=o.type) (pos:=o.pos) (aft:=o.after) (g:=o.guard) hv with h1|⟨f,args,h1,h2⟩
   ·exact .inr (.inr (.inr (.inr ⟨rfl,.inl ⟨v,_,h1,hK'⟩⟩)))
   ·refine .inr (.inr (.inr (.inr ⟨rfl,.inr ⟨f,args,_,h1,h2,?_⟩⟩)));rintro u k ⟨rfl,rfl⟩;exact hK'
 ·refine⟨_,h,hk,fun _=>rfl,⟨_,rfl⟩,fun K' hK'=>⟨hg,?_⟩⟩;rw[if_neg (by simp[hw])];exact hK'
theorem map_freeze2(h:Heap):(h.map freeze).map freeze=h.map freeze:=by
 rw[List.map_map];apply List.map_congr_left;intro o _;exact freeze_freeze o
theorem callF{P:Program}{tab:Tab}{cl:CL}(hcl:OkCL P cl){ops:Array Oper}{o:Oper}{K:Tm->PH->R}{t:Tm}{h:PH}{r:Value×PH}{b m:Nat}{as:List Value}(hf:isFr tab o.op=true)(ha:cargs o.op t=some as)(hav:avL b m as=true)
  (hh:hide b m h.abs=h.abs) (hl:b+m<=h.abs.length) (hx:exOp P tab cl ops o K t h=some r):
  ∃t' h' news,K t' h'=some r/\h'.abs=h.abs++news/\(∃d,t'=aput t o.dst d)/\ ∀K':Bool->Tm->Heap->Prop,K' true t' h'.abs->AOpG P ops b m (o,.call) K' true t h.abs:=by
 obtain⟨dst,op,ty,pos,aft,grd⟩:=o;dsimp only at hf ha;unfold isFr at hf
 split at hf
 rotate_left
 ·cases hf
 rename_i g args ats;have ha:evs t args.toList=some as:=ha;obtain⟨hg,hc⟩:=exOpG_ok (fun x v hm hv _=>isMv_ok hm hv) hx;rcases hc with⟨hw,hc⟩|⟨hw,hk⟩
 ·rcases hc with⟨hV,v,hv,hk⟩|⟨hV,v,h',hv,hk⟩
  ·refine⟨_,h,[],hk,by simp,⟨v,rfl⟩,fun K' hK'=>⟨hg,?_⟩⟩;rw[if_pos hw];simp only[opV,ha]at hv;obtain⟨h2,hx2,hp⟩:=pcall_ok hv;obtain⟨⟨h3,h4⟩,hinv⟩:=hcl _ _ _ _ _ hx2;rw[PH.fzn_abs]at h4;have h5:ACall P g as (h.abs.map freeze) (fun u k=>u=v/\k=h.abs.map freeze):=
    ACall.frozen (by rw[map_freeze2];exact h4.mono fun _ _ hq=>hq.1) hp
   refine .inr (.inr (.inl ⟨rfl,rfl,v,[],hl,.inl ⟨g,as,by simp only[acallee,ev,ha,h3];simp,avL_ok hav,by rw[hh];simpa using h5,fun o ho=>by cases ho⟩,?_⟩));rw[List.append_nil];exact hK'
  ·simp only[isV]at hV;rw[hV]at hf;dsimp only at hf;simp only[opH,ha]at hv;rw[hf]at hv;obtain⟨k1,hx1,rfl,hz⟩:=fcall_ok hv;obtain⟨⟨h3,h4⟩,hinv⟩:=hcl _ _ _ _ _ hx1;obtain⟨news,e1,e2,e3⟩:=PH.back_abs hinv hz;rw[PH.fzn_abs,e1]at h4;refine⟨_,_,news,hk,e2,⟨v,rfl⟩,fun K' hK'=>⟨hg,?_⟩⟩;rw[if_pos hw];refine .inr (.inr (.inl ⟨rfl,rfl,v,news,hl,.inl ⟨g,as,by simp only[acallee,ev,ha,h3];simp,avL_ok hav,by rw[hh];exact h4,fun o ho=>notro_ok (e3 o ho)⟩,?_⟩));rw[<-e2];exact hK'
 ·refine⟨_,h,[],hk,by simp,⟨_,rfl⟩,fun K' hK'=>⟨hg,?_⟩⟩;rw[if_neg (by simp[hw])];exact hK'
theorem appF{P:Program}{tab:Tab}{cl:CL}(hcl:OkCL P cl){ops:Array Oper}{o:Oper}{K:Tm->PH->R}{t:Tm}{h:PH}{r:Value×PH}{b m:Nat}{as:List Value}(hf:isApp o.op=true)(ha:cargs o.op t=some as)(hav:avL b m as=true)
  (hh:hide b m h.abs=h.abs) (hl:b+m<=h.abs.length) (hx:exOpG false none none (fcall h (opH P tab.fr tab.am cl o.op t h.fzn)) ops o K t h=some r):
  ∃t' h' news,K t' h'=some r/\h'.abs=h.abs++news/\(∃d,t'=aput t o.dst d)/\ ∀K':Bool->Tm->Heap->Prop,K' true t' h'.abs->AOpG P ops b m (o,.call) K' true t h.abs:=by
 have ha:evs t (argsOf o.op)=some as:=by
  unfold cargs at ha
  split at ha
  ·rename_i e;simpa[argsOf,e]using ha
  ·cases ha
 obtain⟨hg,hc⟩:=exOpG_ok (fun x v hm=>by cases hm) hx;rcases hc with⟨hw,⟨hV,_⟩|⟨hV,v,h',hv,hk⟩⟩|⟨hw,hk⟩
 ·cases hV
 ·obtain⟨k1,hx1,rfl,hz⟩:=fcall_ok hv;obtain⟨news,e1,e2,e3⟩:=PH.back_abs (opH_inv hcl hx1) hz;refine⟨_,_,news,hk,e2,⟨v,rfl⟩,fun K' hK'=>⟨hg,?_⟩⟩;rw[if_pos hw];rcases opH_ok hcl (d:=o.dst) (ty:=o.type) (pos:=o.pos) (aft:=o.after) (g:=o.guard) hx1 with h1|⟨f,args,h1,_⟩
  ·have h1:aeff P o t h.fzn.abs=some (v,k1.abs):=h1;rw[PH.fzn_abs,e1]at h1;refine .inr (.inr (.inl ⟨rfl,rfl,v,news,hl,.inr ⟨as,hf,ha,avL_ok hav,by rw[hh];exact h1,fun o ho=>notro_ok (e3 o ho)⟩,?_⟩));rw[<-e2];exact hK'
  ·have h1:acallee P o t=some (f,args):=h1;have:=call4 h1;rw[isApp_cls hf]at this;cases this
 ·refine⟨_,h,[],hk,by simp,⟨_,rfl⟩,fun K' hK'=>⟨hg,?_⟩⟩;rw[if_neg (by simp[hw])];exact hK'
theorem exOpsG_ok{P:Program}{tab:Tab}{cl:CL}(hcl:OkCL P cl){ops:Array Oper}{K:Tm->PH->R}{r:Value×PH}{b m:Nat}: ∀{l:List GOp}{ph:Ph}{t:Tm}{h:PH},(ph= .one->hide b m h.abs=h.abs/\b+m<=h.abs.length)->exOpsG P tab cl ops b m l ph K t h=some r->
  AOpsG P ops b m (fun _ t' k=>t'.length=t.length/\ ∃h',h'.abs=k/\K t' h'=some r) l ph.md t h.abs:=by
 intro l
 induction l with
 |nil=>intro ph t h _ hx;exact⟨rfl,h,rfl,hx⟩
 |cons o l ih=>
  intro ph t h hph hx;obtain⟨o,kd⟩:=o;unfold exOpsG at hx;dsimp only at hx;have low: ∀{ph':Ph},ph'.md=nxm P ph.md (o,.norm)->(ph'= .one->ph= .one/\isV P tab.pu o.op=true)->(ph.md=true->hide b m h.abs=h.abs\/cls P o.op=0\/isV P tab.pu o.op=false)->exOp P tab cl ops o (exOpsG P tab cl ops b m l ph' K) t h=some r->
    AOpsG P ops b m (fun _ t' k=>t'.length=t.length/\ ∃h',h'.abs=k/\K t' h'=some r) ((o,.norm)::l) ph.md t h.abs:=by
   intro ph' e1 e2 e3 hx;obtain⟨t',h',hk,hs,⟨d,rfl⟩,hK⟩:=exOp_oneG hcl e3 hx;refine hK _ ?_;have:=ih (ph:=ph') (fun hq=>by
    obtain⟨q1,q2⟩:=e2 hq;rw[hs q2];exact hph q1) hk
   rw[aput_length,e1]at this;exact this
  cases kd with
  |fill j=>
   have key:ph.md=true->(match Nat.beq (cls P o.op) 2 with
    |true=>match Nat.blt j m with
     |true=>fun t h=>exOpG false none none (xfill (Nat.add b j) h (opH P tab.fr tab.am cl o.op t hE)) ops o (exOpsG P tab cl ops b m l .two K) t h
     |false=>fun _ _=>none
    |false=>fun(_:Tm) (_:PH)=>(none:R)) t h=some r->AOpsG P ops b m (fun _ t' k=>t'.length=t.length/\ ∃h',h'.abs=k/\K t' h'=some r) ((o,.fill j)::l) ph.md t h.abs:=by
    intro hmd hx;rw[hmd];cases hc:Nat.beq (cls P o.op) 2 with
    |false=>rw[hc]at hx;cases hx
    |true=>
    rw[hc]at hx;have hc:=Nat.eq_of_beq_eq_true hc;cases hj:Nat.blt j m with
    |false=>rw[hj]at hx;cases hx
    |true=>
    rw[hj]at hx;have hjm:j<m:=Nat.le_of_ble_eq_true hj;obtain⟨hg,hc2⟩:=exOpG_ok (fun x v hm=>by cases hm) hx;rcases hc2 with⟨hw,⟨hV,_⟩|⟨hV,v,h',hv,hk⟩⟩|⟨hw,hk⟩
    ·cases hV
    ·obtain⟨F,A,hn,rfl,e1,e2,e3⟩:=fill_new hcl hc hv;have:=ih (ph:=.two) (fun hq=>by cases hq) hk;rw[aput_length,e2]at this;refine⟨hg,?_⟩;rw[if_pos hw];exact .inr (.inr (.inr (.inl ⟨rfl,j,F,A,rfl,hjm,e1,hn,this⟩)))
    ·have:=ih (ph:=.two) (fun hq=>by cases hq) hk;rw[aput_length]at this;refine⟨hg,?_⟩;rw[if_neg (by simp[hw])];exact this
   cases ph with
   |late=>cases hx
   |one=>exact key rfl hx
   |two=>exact key rfl hx
  |call=>
   cases ph with
   |late=>cases hx
   |two=>cases hx
   |one=>
    dsimp only at hx;cases hf:isFr tab o.op with
    |false=>
     rw[hf]at hx;dsimp only at hx;cases hn:isApN o.op with
     |false=>rw[hn]at hx;cases hx
     |true=>
     rw[hn]at hx;dsimp only at hx
     split at hx<;>try (cases hx;done)
     rename_i as has;obtain⟨hav,hx⟩:=avk_ok hx;obtain⟨p1,p2⟩:=hph rfl;obtain⟨t',h',news,hk,e1,⟨d,rfl⟩,hK⟩:=appF hcl (isApN_app hn) has hav p1 p2 hx;refine hK _ ?_;have:=ih (ph:=.one) (fun _=>by rw[e1,hide_app p2,p1,List.length_append];exact⟨rfl,by omega⟩) hk;rw[aput_length]at this;exact this
    |true=>
    rw[hf]at hx;dsimp only at hx
    split at hx<;>try (cases hx;done)
    rename_i as has;obtain⟨hav,hx⟩:=avk_ok hx;obtain⟨p1,p2⟩:=hph rfl;obtain⟨t',h',news,hk,e1,⟨d,rfl⟩,hK⟩:=callF hcl hf has hav p1 p2 hx;refine hK _ ?_;have:=ih (ph:=.one) (fun _=>by rw[e1,hide_app p2,p1,List.length_append];exact⟨rfl,by omega⟩) hk;rw[aput_length]at this;exact this
  |norm=>
   dsimp only at hx;cases h0:Nat.beq (cls P o.op) 0 with
   |true=>
    rw[h0]at hx;dsimp only at hx;have hc:=Nat.eq_of_beq_eq_true h0;cases hV:isV P tab.pu o.op with
    |false=>rw[hV]at hx;cases hx
    |true=>
    rw[hV]at hx;exact low (by unfold nxm;dsimp only;rw[hc];simp) (fun hq=>⟨hq,hV⟩) (fun _=>.inr (.inl hc)) hx
   |false=>
    rw[h0]at hx;dsimp only at hx;have hc0:=Nat.ne_of_beq_eq_false h0;cases h1:Nat.beq (cls P o.op) 1 with
    |true=>
     rw[h1]at hx;dsimp only at hx;have hc:=Nat.eq_of_beq_eq_true h1;cases hV:isV P tab.pu o.op with
     |false=>rw[hV]at hx;cases ph<;>cases hx
     |true=>
     rw[hV]at hx;cases ph with
     |two=>cases hx
     |one=>exact low (by unfold nxm;dsimp only;rw[hc];rfl) (fun hq=>⟨rfl,hV⟩) (fun _=>.inl (hph rfl).1) hx
     |late=>exact low (by unfold nxm;dsimp only;rw[hc];rfl) (fun hq=>by cases hq) (fun hq=>by cases hq) hx
    |false=>
     rw[h1]at hx;dsimp only at hx;have hc1:=Nat.ne_of_beq_eq_false h1;cases hV:isV P tab.pu o.op with
     |true=>rw[hV]at hx;cases hx
     |false=>
     rw[hV]at hx;exact low (ph':=.late) (nxm_eff rfl hc0 hc1).symm (fun hq=>by cases hq) (fun _=>.inr (.inr hV)) hx
theorem exOpsG_inv{P:Program}{tab:Tab}{cl:CL}(hcl:OkCL P cl){ops:Array Oper}{b m:Nat}{K:Tm->PH->R}(hK:Leaves K): ∀(l:List GOp)(ph:Ph),Leaves (exOpsG P tab cl ops b m l ph K):=by
 intro l
 induction l with
 |nil=>intro ph;exact hK
 |cons o l ih=>
  intro ph t h r hx;obtain⟨o,kd⟩:=o;unfold exOpsG at hx;dsimp only at hx;cases kd with
  |fill j=>
   have key:(match Nat.beq (cls P o.op) 2 with
    |true=>match Nat.blt j m with
     |true=>fun t h=>exOpG false none none (xfill (Nat.add b j) h (opH P tab.fr tab.am cl o.op t hE)) ops o (exOpsG P tab cl ops b m l .two K) t h
     |false=>fun _ _=>none
    |false=>fun(_:Tm) (_:PH)=>(none:R)) t h=some r->Inv h r.2:=by
    intro hx;cases hc:Nat.beq (cls P o.op) 2 with
    |false=>rw[hc]at hx;cases hx
    |true=>
    rw[hc]at hx;have hc:=Nat.eq_of_beq_eq_true hc;cases hj:Nat.blt j m with
    |false=>rw[hj]at hx;cases hx
    |true=>
    rw[hj]at hx;refine exOpG_inv (ih .two) (fun v h' hv=>?_) hx;obtain⟨F,A,_,_,_,_,hi⟩:=fill_new hcl hc hv;exact hi
   cases ph with
   |late=>cases hx
   |one=>exact key hx
   |two=>exact key hx
  |call=>
   cases ph with
   |late=>cases hx
   |two=>cases hx
   |one=>
    dsimp only at hx;cases hf:isFr tab o.op with
    |false=>
     rw[hf]at hx;dsimp only at hx;cases hn:isApN o.op with
     |false=>rw[hn]at hx;cases hx
     |true=>
     rw[hn]at hx;dsimp only at hx
     split at hx<;>try (cases hx;done)
     obtain⟨_,hx⟩:=avk_ok hx;refine exOpG_inv (ih .one) (fun v h' hv=>?_) hx;obtain⟨k1,hx1,rfl,hz⟩:=fcall_ok hv;exact PH.back_inv (opH_inv hcl hx1) hz
    |true=>
    rw[hf]at hx;dsimp only at hx
    split at hx<;>try (cases hx;done)
    obtain⟨_,hx⟩:=avk_ok hx;exact exOp_inv hcl (ih .one) _ _ _ hx
  |norm=>
   dsimp only at hx;cases h0:Nat.beq (cls P o.op) 0 with
   |true=>
    rw[h0]at hx;dsimp only at hx;cases hV:isV P tab.pu o.op with
    |false=>rw[hV]at hx;cases hx
    |true=>rw[hV]at hx;exact exOp_inv hcl (ih _) _ _ _ hx
   |false=>
    rw[h0]at hx;dsimp only at hx;cases h1:Nat.beq (cls P o.op) 1 with
    |true=>
     rw[h1]at hx;dsimp only at hx;cases hV:isV P tab.pu o.op with
     |false=>rw[hV]at hx;cases ph<;>cases hx
     |true=>
     rw[hV]at hx;cases ph with
     |two=>cases hx
     |one=>exact exOp_inv hcl (ih _) _ _ _ hx
     |late=>exact exOp_inv hcl (ih _) _ _ _ hx
    |false=>
     rw[h1]at hx;dsimp only at hx;cases hV:isV P tab.pu o.op with
     |true=>rw[hV]at hx;cases hx
     |false=>rw[hV]at hx;exact exOp_inv hcl (ih .late) _ _ _ hx
def pickOps(ops:Array Oper)(l:List Nat):List Oper:=l.filterMap fun i=>ops[i]?
theorem AOpsF.of{P:Program}{ops:Array Oper}{K:Tm->Heap->Prop}(l:List Nat): ∀{t:Tm}{h:Heap},AOps P ops K (pickOps ops l) t h->AOpsF P ops (fun _=>True) K (fops ops [] l) t h:=by
 induction l with
 |nil=>intro t h hk;exact hk
 |cons i l ih=>
  intro t h hk;simp only[pickOps,fops,List.filterMap_cons,fop]at hk ih ⊢;cases ho:ops[i]? with
  |none=>rw[ho]at hk;exact ih hk
  |some o=>
   rw[ho]at hk;dsimp only at hk ⊢;have hk:AOp P ops o (AOps P ops K (l.filterMap fun i=>ops[i]?)) t h:=hk
   show AOpF P ops (fun _=>True) (o,List.contains [] i) _ t h
   unfold AOp at hk;unfold AOpF;refine⟨hk.1,?_⟩
   replace hk:=hk.2
   split
   ·rename_i hw;rw[if_pos hw]at hk;rcases hk with⟨v,h1,h2⟩|⟨v,h1,h2⟩|⟨v,h',h1,h2⟩|⟨f,args,R,h1,h2,h3⟩
    ·exact .inl ⟨v,h1,ih h2⟩
    ·exact .inr (.inl ⟨v,h1,fun hf=>by simp at hf,ih h2⟩)
    ·exact .inr (.inr (.inl ⟨v,h',h1,fun hf=>by simp at hf,ih h2⟩))
    ·exact .inr (.inr (.inr ⟨f,args,R,h1,h2,fun v h' hr=>⟨fun hf=>by simp at hf,ih (h3 v h' hr)⟩⟩))
   ·rename_i hw;rw[if_neg hw]at hk;exact ih hk
def nE:Code->Nat->Nat
 | .exit j,i=>match Nat.beq i j with
  |true=>1
  |false=>0
 | .seq a b,i=>nE a i+nE b i
 | .cond _ x y,i=>nE x i+nE y i
 | .block _ c,i=>nE c i
 | .loop c,i=>nE c i
 |_,_=>0
def nN:Code->Nat
 | .skip=>1
 | .region .. =>1
 | .seq a b=>match nN a with
  |0=>0
  |_=>nN b
 | .cond _ x y=>nN x+nN y
 | .block i c=>nN c+nE c i
 |_=>0
def keyC:Code->Option Nat
 | .region i _ _=>some i
 | .seq a b=>match keyC a with
  |some i=>some i
  |none=>keyC b
 | .cond _ x y=>match keyC x with
  |some i=>some i
  |none=>keyC y
 | .block _ c=>keyC c
 | .loop c=>keyC c
 |_=>none
def lk:List (Nat×List Nat)->Nat->List Nat
 | [],_=>[]
 |(j,l)::xs,i=>match Nat.beq i j with
  |true=>l
  |false=>lk xs i
def jkey(a b:Code):Option Nat:=match nN a with
 |0=>none
 |1=>none
 |_=>keyC b
def pickK:List Nat->Tm->(List Value->R)->R
 | [],_,K=>K []
 |l::ls,t,K=>match tget t l with
  |some v=>pickK ls t fun vs=>K (v::vs)
  |none=>none
noncomputable def reload:List Nat->List Value->Tm->(Tm->R)->R
 | [],_,t,K=>K t
 |l::ls,ys,t,K=>ucons ys fun y ys=>lset t l y fun t=>reload ls ys t K
def rep:Nat->Tm
 |0=>[]
 | .succ n=>none::rep n
abbrev KE:=Exit->Tm->PH->R
def Kseq(kb:Tm->PH->R)(K:KE):KE:=fun e=>match e with
 | .normal=>kb
 |e=>K e
def Kblk(i:Nat)(K:KE):KE:=fun e=>match e with
 | .exit j=>match Nat.beq j i with
  |true=>K .normal
  |false=>K (.exit j)
 |e=>K e
def chkO(P:Program)(ops:Array Oper)(fl ord:List Nat):Bool:=chkD P ops fl ord
def nb(h:PH)(K:Nat->R):R:=K h.n
noncomputable def ex(P:Program)(n:Nat)(cl:CL)(tab:Tab)(nt:Nat):Code->KE->Tm->PH->R
 | .skip,K=>K .normal
 | .exit i,K=>K (.exit i)
 | .ret,K=>K .ret
 | .region i ops d,K=>match memN tab.dd i with
  |true=>fun _ _=>none
  |false=>match d with
   |false=>exOps P tab cl ops ops.toList (K .normal)
   |true=>match lk tab.fi i with
    | []=>match chkO P ops (lk tab.fl i) (lk tab.ords i)with
     |true=>match lk tab.fl i with
      | []=>exOps P tab cl ops (pickOps ops (lk tab.ords i)) (K .normal)
      |_=>exOpsF P tab cl ops (fops ops (lk tab.fl i) (lk tab.ords i)) (fun _ r=>r) (K .normal)
     |false=>fun _ _=>none
    |_=>match chkG P ops (kds tab ops (lk tab.fi i)) (lk tab.ords i)with
     |true=>fun t h=>kp (lenN (lk tab.fi i)) h fun b h=>exOpsG P tab cl ops b (lenN (lk tab.fi i)) (gopsr ops (kds tab ops (lk tab.fi i)) (lk tab.ords i)) .one (K .normal) t h
     |false=>fun _ _=>none
 | .seq a b,K=>match jkey a b with
  |none=>ex P n cl tab nt a (Kseq (ex P n cl tab nt b K) K)
  |some i=>fun t h=>jn (fun ys h=>reload (lk tab.live i) ys (rep nt) fun t=>ex P n cl tab nt b K t h)
    fun k=>ex P n cl tab nt a (Kseq (fun t h=>pickK (lk tab.live i) t fun ys=>k ys h) K) t h
 | .cond c x y,K=>fun t h=>match ev t c with
  |some v=>bite v (ex P n cl tab nt x K t h) (ex P n cl tab nt y K t h)
  |none=>none
 | .block i c,K=>ex P n cl tab nt c (Kblk i K)
 | .loop c,K=>match keyC c with
  |some i=>fun t h=>pickK (lk tab.live i) t fun ys=>lp n (fun rec ys h=>reload (lk tab.live i) ys (rep nt) fun t=>ex P n cl tab nt c (Kseq (fun t h=>pickK (lk tab.live i) t fun ys=>rec ys h) K) t h) ys h
  |none=>fun _ _=>none
 |_,_=>fun _ _=>none
theorem rep_length(n:Nat):(rep n).length=n:=by induction n<;>simp_all [rep]
theorem rep_get(n i:Nat)(v:Value):(rep n)[i]?≠some (some v):=by
 induction n generalizing i with
 |zero=>simp[rep]
 |succ n ih=>cases i with
  |zero=>simp[rep]
  |succ i=>simpa[rep]using ih i
theorem pickK_ok{r:Value×PH}{t:Tm}: ∀{L:List Nat}, ∀{K:List Value->R},pickK L t K=some r-> ∃ys,L.map (tget t)=ys.map some/\K ys=some r:=by
 intro L
 induction L with
 |nil=>intro K h;exact⟨[],rfl,h⟩
 |cons l L ih=>
  intro K h;simp only[pickK]at h
  split at h<;>try (cases h;done)
  rename_i v hv;obtain⟨ys,h1,h2⟩:=ih h;exact⟨v::ys,by simp[hv,h1],h2⟩
theorem reload_ok{t:Tm}{K:Tm->R}{r:Value×PH}: ∀{L:List Nat}{ys:List Value}{t0:Tm},L.map (tget t)=ys.map some->reload L ys t0 K=some r->
  t0.length=t.length->(∀(i:Nat) v,t0[i]?=some (some v)->t[i]?=some (some v))->
  ∃t',t'.length=t.length/\(∀(i:Nat) v,t'[i]?=some (some v)->t[i]?=some (some v))/\K t'=some r:=by
 intro L
 induction L with
 |nil=>intro ys t0 _ h hl hs;exact⟨t0,hl,hs,h⟩
 |cons l L ih=>
  intro ys t0 hm h hl hs;cases ys with
  |nil=>simp at hm
  |cons y ys=>
   simp only[List.map_cons,List.cons.injEq]at hm;simp only[reload,ucons,lset_eq]at h;refine ih hm.2 h (by simp[hl]) fun i v hv=>?_
   by_cases hli:l=i
   ·subst hli;have hlt:l<t0.length:=by
     have:=(List.getElem?_eq_some_iff.1 hv).1;simpa using this
    rw[List.getElem?_set_self hlt]at hv;cases hv;have h1:=hm.1;unfold tget at h1
    split at h1<;>simp at h1
    subst h1
    assumption
   ·rw[List.getElem?_set_ne hli]at hv;exact hs i v hv
theorem ex_ok{P:Program}{n:Nat}{cl:CL}{tab:Tab}{nt:Nat}(hcl:OkCL P cl)(hm:P.follows .mixedOrders=true)(c:Code): ∀{K:KE}{t:Tm}{h:PH}{r:Value×PH},t.length=nt->ex P n cl tab nt c K t h=some r->
  AWp P c (fun e t' k=>t'.length=nt/\ ∃h',h'.abs=k/\K e t' h'=some r) t h.abs:=by
 induction c with
 |skip=>intro K t h r hl hx;exact AWp.skip ⟨hl,h,rfl,hx⟩
 |exit i=>intro K t h r hl hx;exact AWp.exit ⟨hl,h,rfl,hx⟩
 |ret=>intro K t h r hl hx;exact AWp.ret ⟨hl,h,rfl,hx⟩
 |region i ops d=>
  intro K t h r hl hx;simp only[ex]at hx;cases hdd:memN tab.dd i with
  |true=>rw[hdd]at hx;cases hx
  |false=>
  rw[hdd]at hx;dsimp only at hx;cases d with
  |false=>
   refine AWp.region ?_;have:=exOps_ok hcl hx;rw[hl]at this;exact this
  |true=>
   dsimp only at hx;cases hfi:lk tab.fi i with
   |cons z zs=>
    rw[hfi]at hx;dsimp only at hx;cases hchk:chkG P ops (kds tab ops (z::zs)) (lk tab.ords i)with
    |false=>rw[hchk]at hx;cases hx
    |true=>
    rw[hchk]at hx;obtain⟨h1,e1,e2,hx⟩:=kp_ok hx;have:=exOpsG_ok hcl (fun _=>by rw[e1];exact⟨hide_keep _ _,by simp⟩) hx;rw[hl,e1]at this;exact AWp.drawnG _ _ _ hm hchk this
   |nil=>
   rw[hfi]at hx;dsimp only at hx;cases hchk:chkO P ops (lk tab.fl i) (lk tab.ords i)with
   |false=>rw[hchk]at hx;cases hx
   |true=>
   rw[hchk]at hx;dsimp only at hx;cases hfl:lk tab.fl i with
   |nil=>
    rw[hfl]at hx hchk;have:=exOps_ok hcl hx;rw[hl]at this;exact AWp.drawn [] _ (fun _=>True) hm hchk (AOpsF.of _ this)
   |cons z zs=>
    rw[hfl]at hx hchk;obtain⟨L,_,this⟩:=exOpsF_ok hcl (L:=[]) (fun h q r' hq=>⟨hq,fun e he=>by cases he⟩) hx;rw[hl]at this;exact AWp.drawn (z::zs) _ _ hm hchk this
 |seq a b iha ihb=>
  intro K t h r hl hx;simp only[ex]at hx;refine AWp.seq ?_;cases hj:jkey a b with
  |none=>
   rw[hj]at hx;refine AWp.mono (iha hl hx) ?_;rintro e t' k ⟨hl',h',rfl,hk⟩;cases e with
   |normal=>exact ihb hl' hk
   |_=>exact⟨hl',h',rfl,hk⟩
  |some i=>
   rw[hj]at hx;refine AWp.mono (iha hl hx) ?_;rintro e t' k ⟨hl',h',rfl,hk⟩;cases e with
   |normal=>
    simp only[Kseq]at hk;obtain⟨ys,h1,h2⟩:=pickK_ok hk;obtain⟨t2,h3,h4,h5⟩:=reload_ok h1 h2 (by rw[rep_length,hl']) (fun i v hv=>absurd hv (rep_get _ _ _));exact AWp.weak h3 h4 (ihb (h3.trans hl') h5)
   |_=>exact⟨hl',h',rfl,hk⟩
 |cond c x y ihx ihy=>
  intro K t h r hl hx;simp only[ex]at hx
  split at hx<;>try (cases hx;done)
  rename_i v hv;rcases bite_ok hx with⟨rfl,hx⟩|⟨rfl,hx⟩
  ·exact AWp.cond (b:=true) hv (ihx hl hx)
  ·exact AWp.cond (b:=false) hv (ihy hl hx)
 |block i c ih=>
  intro K t h r hl hx;simp only[ex]at hx;refine AWp.block (AWp.mono (ih hl hx) ?_);rintro e t' k ⟨hl',h',rfl,hk⟩;cases e with
  |exit j=>
   simp only[Kblk]at hk;unfold blockQ;dsimp only;cases hj:Nat.beq j i with
   |true=>
    rw[hj]at hk;rw[if_pos (Nat.eq_of_beq_eq_true hj)];exact⟨hl',h',rfl,hk⟩
   |false=>
    rw[hj]at hk;rw[if_neg (Nat.ne_of_beq_eq_false hj)];exact⟨hl',h',rfl,hk⟩
  |_=>exact⟨hl',h',rfl,hk⟩
 |loop c ih=>
  intro K t h r hl hx;simp only[ex]at hx;cases hi:keyC c with
  |none=>rw[hi]at hx;cases hx
  |some i=>
  rw[hi]at hx;dsimp only at hx;generalize hL:lk tab.live i=L at hx;generalize hbody:(fun(rec:Kt) (ys:List Value) (h:PH)=>reload L ys (rep nt) fun t=>ex P n cl tab nt c (Kseq (fun t h=>pickK L t fun ys=>rec ys h) K) t h)=body at hx;have hx:pickK L t (fun ys=>lp n body ys h)=some r:=hx;refine AWp.loop (fun m t' k=>t'.length=nt/\ ∃h',h'.abs=k/\pickK L t' (fun ys=>lp m body ys h')=some r) n ⟨hl,h,rfl,hx⟩ ?_;rintro m t' k ⟨hl',h',rfl,hk⟩;obtain⟨ys,h1,h2⟩:=pickK_ok hk;cases m with
  |zero=>cases h2
  |succ m=>
   have h2:body (lp m body) ys h'=some r:=h2;rw[<-hbody]at h2;dsimp only at h2;obtain⟨t2,h3,h4,h5⟩:=reload_ok h1 h2 (by rw[rep_length,hl']) (fun i v hv=>absurd hv (rep_get _ _ _));refine AWp.weak h3 h4 (AWp.mono (ih (h3.trans hl') h5) ?_);rintro e t3 k ⟨hl3,h6,rfl,hk3⟩;cases e with
   |normal=>
    simp only[Kseq]at hk3;rw[hbody]at hk3;exact⟨m,Nat.lt_succ_self m,hl3,h6,rfl,hk3⟩
   |_=>exact⟨hl3,h6,rfl,hk3⟩
 |_=>intro K t h r hl hx;simp[ex]at hx
theorem pickK_leaves{L:List Nat}{t:Tm}{h:PH}{r:Value×PH}{K:List Value->R}(hK: ∀ys,K ys=some r->Inv h r.2)(hx:pickK L t K=some r):Inv h r.2:=by
 obtain⟨ys,_,h2⟩:=pickK_ok hx;exact hK ys h2
theorem reload_leaves{h:PH}{r:Value×PH}: ∀{L:List Nat}{ys:List Value}{t:Tm}{K:Tm->R},(∀t,K t=some r->Inv h r.2)->reload L ys t K=some r->Inv h r.2:=by
 intro L
 induction L with
 |nil=>intro ys t K hK hx;exact hK t hx
 |cons l L ih=>
  intro ys t K hK hx;cases ys with
  |nil=>cases hx
  |cons y ys=>
   simp only[reload,ucons,lset_eq]at hx;exact ih hK hx
theorem ex_inv{P:Program}{n:Nat}{cl:CL}{tab:Tab}{nt:Nat}(hcl:OkCL P cl)(c:Code): ∀{K:KE},(∀e,Leaves (K e))->Leaves (ex P n cl tab nt c K):=by
 induction c with
 |skip=>intro K hK;exact hK _
 |exit i=>intro K hK;exact hK _
 |ret=>intro K hK;exact hK _
 |region i ops d=>
  intro K hK t h r hx;simp only[ex]at hx;cases hdd:memN tab.dd i with
  |true=>rw[hdd]at hx;cases hx
  |false=>
  rw[hdd]at hx;dsimp only at hx;cases d with
  |false=>exact exOps_inv hcl (hK _) _ t h r hx
  |true=>
   dsimp only at hx;cases hfi:lk tab.fi i with
   |cons z zs=>
    rw[hfi]at hx;dsimp only at hx;cases hchk:chkG P ops (kds tab ops (z::zs)) (lk tab.ords i)with
    |false=>rw[hchk]at hx;cases hx
    |true=>
    rw[hchk]at hx;obtain⟨h1,e1,e2,hx⟩:=kp_ok hx;exact e2.trans (exOpsG_inv hcl (hK _) _ _ _ _ _ hx)
   |nil=>
   rw[hfi]at hx;dsimp only at hx;cases hchk:chkO P ops (lk tab.fl i) (lk tab.ords i)with
   |false=>rw[hchk]at hx;cases hx
   |true=>
   rw[hchk]at hx;dsimp only at hx;cases hfl:lk tab.fl i with
   |nil=>rw[hfl]at hx;exact exOps_inv hcl (hK _) _ t h r hx
   |cons z zs=>rw[hfl]at hx;exact exOpsF_inv hcl (hK _) _ _ (fun _ _ _ h=>h) t h r hx
 |seq a b iha ihb=>
  intro K hK t h r hx;simp only[ex]at hx;cases hj:jkey a b with
  |none=>
   rw[hj]at hx;refine iha (fun e=>?_) t h r hx;cases e with
   |normal=>exact ihb hK
   |_=>exact hK _
  |some i=>
   rw[hj]at hx;refine iha (fun e=>?_) t h r hx;cases e with
   |normal=>exact fun t h r hx=>pickK_leaves (fun ys hy=>reload_leaves (fun t ht=>ihb hK t h r ht) hy) hx
   |_=>exact hK _
 |cond c x y ihx ihy=>
  intro K hK t h r hx;simp only[ex]at hx
  split at hx<;>try (cases hx;done)
  rcases bite_ok hx with⟨rfl,hx⟩|⟨rfl,hx⟩
  ·exact ihx hK t h r hx
  ·exact ihy hK t h r hx
 |block i c ih=>
  intro K hK t h r hx;simp only[ex]at hx;refine ih (fun e=>?_) t h r hx;cases e with
  |exit j=>
   simp only[Kblk];cases Nat.beq j i<;>exact hK _
  |_=>exact hK _
 |loop c ih=>
  intro K hK t h r hx;simp only[ex]at hx;cases hi:keyC c with
  |none=>rw[hi]at hx;cases hx
  |some i=>
  rw[hi]at hx;dsimp only at hx;refine pickK_leaves (fun ys hy=>?_) hx
  clear hx
  revert hy
  generalize hbody:(fun(rec:Kt) (ys:List Value) (h:PH)=>reload (lk tab.live i) ys (rep nt) fun t=>ex P n cl tab nt c (Kseq (fun t h=>pickK (lk tab.live i) t fun ys=>rec ys h) K) t h)=body;have key: ∀m ys h r,lp m body ys h=some r->Inv h r.2:=by
   intro m
   induction m with
   |zero=>intro ys h r hx;cases hx
   |succ m ihm=>
    intro ys h r hx;have hx:body (lp m body) ys h=some r:=hx;rw[<-hbody]at hx;dsimp only at hx;rw[hbody]at hx;refine reload_leaves (fun t ht=>ih (fun e=>?_) t h r ht) hx;cases e with
    |normal=>exact fun t h r hx=>pickK_leaves (fun ys hy=>ihm ys h r hy) hx
    |_=>exact hK _
  intro hy;exact key n ys h r hy
 |_=>intro K hK t h r hx;simp[ex]at hx
noncomputable def fin1(P:Program)(t:Tm)(h:PH):ResultVar->Option Value
 | .tmp i=>tget t i
 | .cell a T=>match tget t a with
  |some v=>match scal P T with
   |true=>xLd v h
   |false=>match aggSz P T with
    |some (.succ n)=>xLdA (.succ n) v h
    |_=>none
  |none=>none
noncomputable def finL(P:Program)(t:Tm)(h:PH):List ResultVar->(List Value->R)->R
 | [],K=>K []
 | .tmp i::rs,K=>match tget t i with
  |some v=>finL P t h rs fun vs=>K (v::vs)
  |none=>none
 |r::rs,K=>vb (fin1 P t h r) fun v=>finL P t h rs fun vs=>K (v::vs)
def fin2(h:PH)(vs:List Value):R:=match vs with
 | [v]=>some (v,h)
 |vs=>some (.tuple ⟨vs⟩,h)
noncomputable def Kfin(P:Program)(fn:Func):KE:=fun e t h=>match e with
 | .normal=>finL P t h fn.results.toList (fin2 h)
 | .ret=>finL P t h fn.results.toList (fin2 h)
 |_=>none
def frame:List Value->Nat->Tm
 | [],n=>rep n
 |x::xs,n=>match n with
  |0=>[]
  | .succ n=>some x::frame xs n
noncomputable def exF(P:Program)(n:Nat)(cl:CL)(tab:Tab)(fn:Func)(args:List Value)(h:PH):R:=match fn.body with
 |some c=>match Nat.ble args.length fn.ntmps with
  |true=>ex P n cl tab fn.ntmps c (Kfin P fn) (frame args fn.ntmps) h
  |false=>none
 |none=>none
theorem frame_eq(xs:List Value)(n:Nat)(h:xs.length<=n):frame xs n=xs.map some++List.replicate (n-xs.length) none:=by
 induction xs generalizing n with
 |nil=>
  simp only[frame,List.map_nil,List.nil_append,List.length_nil,Nat.sub_zero]
  induction n with
  |zero=>rfl
  |succ n ih=>simp[rep,List.replicate_succ];exact ih (Nat.zero_le _)
 |cons x xs ih=>
  cases n with
  |zero=>simp at h
  |succ n=>simp[frame];exact ih n (by simpa using h)
theorem fin1_ok{P:Program}{t:Tm}{h:PH}{rv:ResultVar}{v:Value}(hx:fin1 P t h rv=some v):aresult1 P t h.abs rv=some v:=by
 cases rv with
 |tmp i=>exact hx
 |cell a T=>
  simp only[fin1]at hx;simp only[aresult1]
  split at hx<;>try (cases hx;done)
  rename_i hv;simp only[hv]
  split at hx
  ·exact xLd_ok ‹_› hx
  ·split at hx<;>try (cases hx;done)
   exact xLdA_ok ‹_› (Nat.succ_pos _) hx
theorem finL_ok{P:Program}{t:Tm}{h:PH}{r:Value×PH}: ∀{rs:List ResultVar}{K:List Value->R},finL P t h rs K=some r-> ∃vs,aresultL P t h.abs rs=some vs/\K vs=some r:=by
 intro rs
 induction rs with
 |nil=>intro K hx;exact⟨[],rfl,hx⟩
 |cons rv rs ih=>
  intro K hx;have: ∃v,fin1 P t h rv=some v/\(finL P t h rs fun vs=>K (v::vs))=some r:=by
   cases rv with
   |tmp i=>
    simp only[finL]at hx
    split at hx<;>try (cases hx;done)
    rename_i v hv;exact⟨v,hv,hx⟩
   |cell a T=>exact vb_ok hx
  obtain⟨v,hv,hx⟩:=this;obtain⟨vs,h1,h2⟩:=ih hx;exact⟨v::vs,by simp[aresultL,fin1_ok hv,h1],h2⟩
theorem finL_leaves{P:Program}{t:Tm}{h:PH}{r:Value×PH}: ∀{rs:List ResultVar}{K:List Value->R},(∀vs,K vs=some r->Inv h r.2)->finL P t h rs K=some r->Inv h r.2:=by
 intro rs K hK hx;obtain⟨vs,_,h2⟩:=finL_ok hx;exact hK vs h2
theorem fin2_leaves{h:PH}{vs:List Value}{r:Value×PH}(hx:fin2 h vs=some r):Inv h r.2:=by
 unfold fin2 at hx
 split at hx<;>(cases hx;exact Inv.refl h)
theorem Kfin_leaves(P:Program)(fn:Func)(e:Exit):Leaves (Kfin P fn e):=by
 intro t h r hx;cases e with
 |normal=>exact finL_leaves (fun vs=>fin2_leaves) hx
 |ret=>exact finL_leaves (fun vs=>fin2_leaves) hx
 |_=>cases hx
theorem exF_ok{P:Program}{n:Nat}{cl:CL}{tab:Tab}(hcl:OkCL P cl)(hm:P.follows .mixedOrders=true){f:FuncId}{fn:Func}(hf:P.funcs[f]?=some fn)(hnm:(fn.name== "runtime.NumGoroutine")=false){args:List Value}{h h':PH}{v:Value}
  (hx:exF P n cl tab fn args h=some (v,h')):(enterable P f=true/\ACall P f args h.abs (fun u k=>u=v/\k=h'.abs))/\Inv h h':=by
 unfold exF at hx
 split at hx<;>try (cases hx;done)
 rename_i c hb
 split at hx<;>try (cases hx;done)
 rename_i hle;have hle:=Nat.le_of_ble_eq_true hle;refine⟨⟨by simp[enterable,hf,hb,hnm],ACall.of hf hb ?_⟩,ex_inv hcl c (Kfin_leaves P fn) _ _ _ hx⟩;rw[<-frame_eq _ _ hle];refine AWp.mono (ex_ok hcl hm c (by rw[frame_eq _ _ hle];simp;omega) hx) ?_;rintro e t' k ⟨hl,h2,rfl,hk⟩;have fin:finL P t' h2 fn.results.toList (fin2 h2)=some (v,h')-> ∃u,aresults P fn t' h2.abs=some u/\u=v/\h2.abs=h'.abs:=by
  intro hk;obtain⟨vs,h1,h3⟩:=finL_ok hk;unfold aresults;rw[h1];unfold fin2 at h3
  split at h3
  ·cases h3;exact⟨_,rfl,rfl,rfl⟩
  ·rename_i hne;cases h3
   match vs,hne with
   | [],_=>exact⟨_,rfl,rfl,rfl⟩
   | [a],hne=>exact absurd rfl (hne a)
   |a::b::l,_=>exact⟨_,rfl,rfl,rfl⟩
 cases e with
 |normal=>exact fin hk
 |ret=>exact fin hk
 |_=>simp[Kfin]at hk
def vN(n:Nat):Value:=.int .i64 (.ofNat n)
def vM(n:Nat):Value:=.int .i64 (.negSucc n)
def tt:Value:=.bool true
def ff:Value:=.bool false
def nils:Value:=.slice none 0 0
def fnV(f:Nat)(a b:List Value):Value:=.func (.func f) ⟨a⟩ ⟨b⟩
noncomputable def sw(g k:Nat)(x y:R):R:=Bool.rec (motive:=fun _=>R) y x (Nat.beq g k)
theorem sw_ok{g k:Nat}{x y:R}{r:Value×PH}(h:sw g k x y=some r):(g=k/\x=some r)\/y=some r:=by
 unfold sw at h;cases hb:Nat.beq g k with
 |true=>rw[hb]at h;exact .inl ⟨Nat.eq_of_beq_eq_true hb,h⟩
 |false=>rw[hb]at h;exact .inr h
def u0(as:List Value)(x:R):R:=match as with
 | []=>x
 |_=>none
theorem ucons_ok{as:List Value}{K:Value->List Value->R}{r:Value×PH}(h:ucons as K=some r): ∃a bs,as=a::bs/\K a bs=some r:=by
 cases as with
 |nil=>cases h
 |cons a bs=>exact⟨a,bs,rfl,h⟩
theorem u0_ok{as:List Value}{x:R}{r:Value×PH}(h:u0 as x=some r):as=[]/\x=some r:=by
 cases as with
 |nil=>exact⟨rfl,h⟩
 |cons a bs=>cases h
end Go.Am
namespace Go.Am
open Go Go.RowKit Go.ChangeShapes Go.WideShapes Go.ChangeAt
def h00:PH:=⟨0,0,.leaf⟩
def CNo:CL:=fun _ _ _=>none
theorem CNo_ok(P:Program):OkCL P CNo:=fun _ _ _ _ _ hx=>by cases hx
noncomputable def u3(y:List Value)(K:Value->Value->Value->R):R:=ucons y fun a0 y=>ucons y fun a1 y=>ucons y fun a2 y=>K a0 a1 a2
noncomputable def u4(y:List Value)(K:Value->Value->Value->Value->R):R:=ucons y fun a0 y=>ucons y fun a1 y=>ucons y fun a2 y=>ucons y fun a3 y=>K a0 a1 a2 a3
noncomputable def u5(y:List Value)(K:Value->Value->Value->Value->Value->R):R:=ucons y fun a0 y=>ucons y fun a1 y=>ucons y fun a2 y=>ucons y fun a3 y=>ucons y fun a4 y=>K a0 a1 a2 a3 a4
noncomputable def u6(y:List Value)(K:Value->Value->Value->Value->Value->Value->R):R:=ucons y fun a0 y=>ucons y fun a1 y=>ucons y fun a2 y=>ucons y fun a3 y=>ucons y fun a4 y=>ucons y fun a5 y=>K a0 a1 a2 a3 a4 a5
noncomputable def u7(y:List Value)(K:Value->Value->Value->Value->Value->Value->Value->R):R:=ucons y fun a0 y=>ucons y fun a1 y=>ucons y fun a2 y=>ucons y fun a3 y=>ucons y fun a4 y=>ucons y fun a5 y=>ucons y fun a6 y=>K a0 a1 a2 a3 a4 a5 a6
noncomputable def u8(y:List Value)(K:Value->Value->Value->Value->Value->Value->Value->Value->R):R:=ucons y fun a0 y=>ucons y fun a1 y=>ucons y fun a2 y=>ucons y fun a3 y=>ucons y fun a4 y=>ucons y fun a5 y=>ucons y fun a6 y=>ucons y fun a7 y=>K a0 a1 a2 a3 a4 a5 a6 a7
noncomputable def u9(y:List Value)(K:Value->Value->Value->Value->Value->Value->Value->Value->Value->R):R:=ucons y fun a0 y=>ucons y fun a1 y=>ucons y fun a2 y=>ucons y fun a3 y=>ucons y fun a4 y=>ucons y fun a5 y=>ucons y fun a6 y=>ucons y fun a7 y=>ucons y fun a8 y=>K a0 a1 a2 a3 a4 a5 a6 a7 a8
noncomputable def u10(y:List Value)(K:Value->Value->Value->Value->Value->Value->Value->Value->Value->Value->R):R:=ucons y fun a0 y=>ucons y fun a1 y=>ucons y fun a2 y=>ucons y fun a3 y=>ucons y fun a4 y=>ucons y fun a5 y=>ucons y fun a6 y=>ucons y fun a7 y=>ucons y fun a8 y=>ucons y fun a9 y=>K a0 a1 a2 a3 a4 a5 a6 a7 a8 a9
noncomputable def u11(y:List Value)(K:Value->Value->Value->Value->Value->Value->Value->Value->Value->Value->Value->R):R:=ucons y fun a0 y=>ucons y fun a1 y=>ucons y fun a2 y=>ucons y fun a3 y=>ucons y fun a4 y=>ucons y fun a5 y=>ucons y fun a6 y=>ucons y fun a7 y=>ucons y fun a8 y=>ucons y fun a9 y=>ucons y fun a10 y=>K a0 a1 a2 a3 a4 a5 a6 a7 a8 a9 a10
noncomputable def u12(y:List Value)(K:Value->Value->Value->Value->Value->Value->Value->Value->Value->Value->Value->Value->R):R:=ucons y fun a0 y=>ucons y fun a1 y=>ucons y fun a2 y=>ucons y fun a3 y=>ucons y fun a4 y=>ucons y fun a5 y=>ucons y fun a6 y=>ucons y fun a7 y=>ucons y fun a8 y=>ucons y fun a9 y=>ucons y fun a10 y=>ucons y fun a11 y=>K a0 a1 a2 a3 a4 a5 a6 a7 a8 a9 a10 a11
noncomputable def u13(y:List Value)(K:Value->Value->Value->Value->Value->Value->Value->Value->Value->Value->Value->Value->Value->R):R:=ucons y fun a0 y=>ucons y fun a1 y=>ucons y fun a2 y=>ucons y fun a3 y=>ucons y fun a4 y=>ucons y fun a5 y=>ucons y fun a6 y=>ucons y fun a7 y=>ucons y fun a8 y=>ucons y fun a9 y=>ucons y fun a10 y=>ucons y fun a11 y=>ucons y fun a12 y=>K a0 a1 a2 a3 a4 a5 a6 a7 a8 a9 a10 a11 a12
noncomputable def u14(y:List Value)(K:Value->Value->Value->Value->Value->Value->Value->Value->Value->Value->Value->Value->Value->Value->R):R:=ucons y fun a0 y=>ucons y fun a1 y=>ucons y fun a2 y=>ucons y fun a3 y=>ucons y fun a4 y=>ucons y fun a5 y=>ucons y fun a6 y=>ucons y fun a7 y=>ucons y fun a8 y=>ucons y fun a9 y=>ucons y fun a10 y=>ucons y fun a11 y=>ucons y fun a12 y=>ucons y fun a13 y=>K a0 a1 a2 a3 a4 a5 a6 a7 a8 a9 a10 a11 a12 a13
def OkF(P:Program)(f:FuncId)(c:List Value->PH->R):Prop:= ∀args h v h',c args h=some (v,h')->(enterable P f=true/\ACall P f args h.abs (fun u k=>u=v/\k=h'.abs))/\Inv h h'
noncomputable def svc(g:Nat)(c:List Value->PH->R)(cl:CL):CL:=fun f xs h=>sw f g (c xs h) (cl f xs h)
theorem svc_ok{P:Program}{g:Nat}{c:List Value->PH->R}{cl:CL}(hc:OkF P g c)(hcl:OkCL P cl):OkCL P (svc g c cl):=fun f args h v h' hx=>by
 rcases sw_ok hx with⟨rfl,hy⟩|hy
 ·exact hc _ _ _ _ hy
 ·exact hcl _ _ _ _ _ hy
section
variable {P:Program}(n:Nat){cl:CL}(tab:Tab){f:FuncId}{fn:Func}(hcl:OkCL P cl)(hm:P.follows .mixedOrders=true)(hf:P.funcs[f]?=some fn)(hnm:(fn.name== "runtime.NumGoroutine")=false)
include hcl hm hf hnm
noncomputable def A0(F:PH->R):List Value->PH->R:=fun xs h=>u0 xs (F h)
theorem exA0{F:PH->R}(e: ∀h,exF P n cl tab fn [] h=F h):OkF P f (A0 F):=fun args h v h' hx=>by
 obtain⟨rfl,g⟩:=u0_ok hx;exact exF_ok hcl hm hf hnm ((e h).trans g)
noncomputable def A1(F:Value->PH->R):List Value->PH->R:=fun xs h=>ucons xs fun a0 xs=>u0 xs (F a0 h)
theorem exA1{F:Value->PH->R}(e: ∀a0 h,exF P n cl tab fn [a0] h=F a0 h):OkF P f (A1 F):=fun args h v h' hx=>by
 obtain⟨a0,l0,rfl,g0⟩:=ucons_ok hx;obtain⟨rfl,g⟩:=u0_ok g0;exact exF_ok hcl hm hf hnm ((e a0 h).trans g)
noncomputable def A2(F:Value->Value->PH->R):List Value->PH->R:=fun xs h=>ucons xs fun a0 xs=>ucons xs fun a1 xs=>u0 xs (F a0 a1 h)
theorem exA2{F:Value->Value->PH->R}(e: ∀a0 a1 h,exF P n cl tab fn [a0,a1] h=F a0 a1 h):OkF P f (A2 F):=fun args h v h' hx=>by
 obtain⟨a0,l0,rfl,g0⟩:=ucons_ok hx;obtain⟨a1,l1,rfl,g1⟩:=ucons_ok g0;obtain⟨rfl,g⟩:=u0_ok g1;exact exF_ok hcl hm hf hnm ((e a0 a1 h).trans g)
noncomputable def A3(F:Value->Value->Value->PH->R):List Value->PH->R:=fun xs h=>ucons xs fun a0 xs=>ucons xs fun a1 xs=>ucons xs fun a2 xs=>u0 xs (F a0 a1 a2 h)
theorem exA3{F:Value->Value->Value->PH->R}(e: ∀a0 a1 a2 h,exF P n cl tab fn [a0,a1,a2] h=F a0 a1 a2 h):OkF P f (A3 F):=fun args h v h' hx=>by
 obtain⟨a0,l0,rfl,g0⟩:=ucons_ok hx;obtain⟨a1,l1,rfl,g1⟩:=ucons_ok g0;obtain⟨a2,l2,rfl,g2⟩:=ucons_ok g1;obtain⟨rfl,g⟩:=u0_ok g2;exact exF_ok hcl hm hf hnm ((e a0 a1 a2 h).trans g)
noncomputable def A4(F:Value->Value->Value->Value->PH->R):List Value->PH->R:=fun xs h=>ucons xs fun a0 xs=>ucons xs fun a1 xs=>ucons xs fun a2 xs=>ucons xs fun a3 xs=>u0 xs (F a0 a1 a2 a3 h)
theorem exA4{F:Value->Value->Value->Value->PH->R}(e: ∀a0 a1 a2 a3 h,exF P n cl tab fn [a0,a1,a2,a3] h=F a0 a1 a2 a3 h):OkF P f (A4 F):=fun args h v h' hx=>by
 obtain⟨a0,l0,rfl,g0⟩:=ucons_ok hx;obtain⟨a1,l1,rfl,g1⟩:=ucons_ok g0;obtain⟨a2,l2,rfl,g2⟩:=ucons_ok g1;obtain⟨a3,l3,rfl,g3⟩:=ucons_ok g2;obtain⟨rfl,g⟩:=u0_ok g3;exact exF_ok hcl hm hf hnm ((e a0 a1 a2 a3 h).trans g)
noncomputable def A5(F:Value->Value->Value->Value->Value->PH->R):List Value->PH->R:=fun xs h=>ucons xs fun a0 xs=>ucons xs fun a1 xs=>ucons xs fun a2 xs=>ucons xs fun a3 xs=>ucons xs fun a4 xs=>u0 xs (F a0 a1 a2 a3 a4 h)
noncomputable def A6(F:Value->Value->Value->Value->Value->Value->PH->R):List Value->PH->R:=fun xs h=>ucons xs fun a0 xs=>ucons xs fun a1 xs=>ucons xs fun a2 xs=>ucons xs fun a3 xs=>ucons xs fun a4 xs=>ucons xs fun a5 xs=>u0 xs (F a0 a1 a2 a3 a4 a5 h)
noncomputable def A7(F:Value->Value->Value->Value->Value->Value->Value->PH->R):List Value->PH->R:=fun xs h=>ucons xs fun a0 xs=>ucons xs fun a1 xs=>ucons xs fun a2 xs=>ucons xs fun a3 xs=>ucons xs fun a4 xs=>ucons xs fun a5 xs=>ucons xs fun a6 xs=>u0 xs (F a0 a1 a2 a3 a4 a5 a6 h)
noncomputable def A8(F:Value->Value->Value->Value->Value->Value->Value->Value->PH->R):List Value->PH->R:=fun xs h=>ucons xs fun a0 xs=>ucons xs fun a1 xs=>ucons xs fun a2 xs=>ucons xs fun a3 xs=>ucons xs fun a4 xs=>ucons xs fun a5 xs=>ucons xs fun a6 xs=>ucons xs fun a7 xs=>u0 xs (F a0 a1 a2 a3 a4 a5 a6 a7 h)
end
theorem OkF.c0{P:Program}{f:FuncId}{F:PH->R}(s:OkF P f (A0 F)){h h':PH}{v:Value}(hx:F h=some (v,h')):(enterable P f=true/\ACall P f [] h.abs (fun u k=>u=v/\k=h'.abs))/\Inv h h':=s [] _ _ _ hx
theorem OkF.c1{P:Program}{f:FuncId}{F:Value->PH->R}(s:OkF P f (A1 F)){a0:Value}{h h':PH}{v:Value}(hx:F a0 h=some (v,h')):(enterable P f=true/\ACall P f [a0] h.abs (fun u k=>u=v/\k=h'.abs))/\Inv h h':=s [a0] _ _ _ hx
noncomputable def isT(r:R):Bool:=Option.rec (motive:=fun _=>Bool) false (fun p=>isB true p.1) r
noncomputable def allR(lo n:Nat)(f:Nat->Bool):Bool:=Nat.rec (motive:=fun _=>Bool) true (fun m ih=>Bool.rec (motive:=fun _=>Bool) false ih (seqN (Nat.add lo m) f)) n
theorem rel0(w:World)(g:Glob w.heap.size w):Rel w.heap.size w (fun _=>none) [] w where
 below:=Below.refl _ _
 base:=Nat.le_refl _
 fin:=fun b L hb=>by cases hb
 lt:=fun b L o hb=>by cases hb
 obj':=fun b o ho=>by simp at ho
 void:=fun b ho=>by simp at ho
 sep:=fun b b' o o' L L' _ ho=>by simp at ho
 gl:=g
theorem post_of_below{P:Program}{H:Type}{enc:TypeId×Value->H}{f:Func}{s:ChangeSpec}{apart fresh handsOn again:Bool}{W W':World}{args:Array Value}{v:Value}{ds gs:List (DataW H)}{before pa pv:List MemPlace}
  (hW:DataW.Whole enc P f.params.toList s.vars apart W args.toList ds gs before)
  (hres: ∀(b:Nat)(sp:Nat->Bool)(hd:Bool),DataW.TrodAll enc P W' b sp hd f.resultTypes.toList (v.resultList f.resultTypes.size) (s.fn H (ds++gs)).results [])
  (hargs: ∀sp:Nat->Bool,(∀p∈before,sp p.block=true)->DataW.TrodAll enc P W' 0 sp true f.params.toList args.toList (s.fn H (ds++gs)).args pa)
  (hvars: ∀sp:Nat->Bool,(∀p∈before,sp p.block=true)->DataW.TrodVars enc P W' sp s.vars (s.fn H (ds++gs)).vars pv)
  (hps:before=pa++pv) (hb:Below W.heap.size W W')
  (hok: ∀(j:Nat)(t:TypeId)(r:Value),f.resultTypes[j]?=some t->(v.resultList f.resultTypes.size)[j]?=some r->Value.okWide P W' .any 0 t r):
  s.post enc P f apart fresh handsOn again W args v W':=by
 have hlt: ∀p∈before,p.block<W.heap.size:=fun p hp=>hW.lt p hp;have hsp: ∀p∈before,(fun b=>decide (b<W.heap.size)) p.block=true:=fun p hp=>by simpa using hlt p hp
 refine⟨ds,gs,before,[],pa,pv,hW,hres _ _ _,hargs _ hsp,hvars _ hsp,World.keptBut_mono (fun p hp=>⟨hp,?_⟩) (hb.frame _),fun _=>?_⟩
 ·rw[hps,List.mem_append]at hp;exact Or.inr hp
 ·obtain⟨_,_,_,_,_,hz,hn⟩:=hW;refine⟨hok,_,_,([]++pa)++pv,⟨[]++pa,pv,trodAll_append (hargs _ (fun _ _=>rfl)) (hres _ _ _),hvars _ (fun _ _=>rfl),rfl,?_,?_⟩,?_⟩
  ·intro b off hp;have hp:MemPlace.cell b off∈before:=by rw[hps];simpa using hp
   rw[hb.frozen (p:=⟨b,off,none⟩) (hlt _ hp)];exact hz b off hp
  ·intro ha;have:=hn ha;rw[hps]at this;simpa using this
  ·intro p hp _;rw[hps];simpa using hp
end Go.Am
namespace Go.Am
open Go Go.RowKit
section
variable {K:Value->R}{K2:Value->PH->R}{h:PH}{v:Value}
@[simp] theorem vb_some:vb (some v) K=K v:=Eq.trans rfl rfl
@[simp] theorem vb_none:vb none K=none:=Eq.trans rfl rfl
@[simp] theorem hb_some:hb (some (v,h)) K2=K2 v h:=Eq.trans rfl rfl
@[simp] theorem hb_none:hb none K2=none:=Eq.trans rfl rfl
@[simp] theorem gd_true{o:Option Value}:gd true o=o:=Eq.trans rfl rfl
@[simp] theorem gd_false{o:Option Value}:gd false o=some undef:=Eq.trans rfl rfl
@[simp] theorem gh_true{o:R}:gh true h o=o:=Eq.trans rfl rfl
@[simp] theorem gh_false{o:R}:gh false h o=some (undef,h):=Eq.trans rfl rfl
@[simp] theorem isB_t(b:Bool):isB true (.bool b)=b:=Eq.trans rfl rfl
@[simp] theorem isB_f(b:Bool):isB false (.bool b)=!b:=by cases b<;>exact Eq.trans rfl rfl
@[simp] theorem bite_t{x y:R}:bite (.bool true) x y=x:=Eq.trans rfl rfl
@[simp] theorem bite_f{x y:R}:bite (.bool false) x y=y:=Eq.trans rfl rfl
@[simp] theorem ucons_cons:(∀{y:Value}{ys:List Value}{K:Value->List Value->R},ucons (y::ys) K=K y ys)/\(∀{a0 a1 a2:Value}{K:Value->Value->Value->R},u3 [a0,a1,a2] K=K a0 a1 a2)/\(∀{a0 a1 a2 a3:Value}{K:Value->Value->Value->Value->R},u4 [a0,a1,a2,a3] K=K a0 a1 a2 a3)/\(∀{a0 a1 a2 a3 a4:Value}{K:Value->Value->Value->Value->Value->R},u5 [a0,a1,a2,a3,a4] K=K a0 a1 a2 a3 a4)/\(∀{a0 a1 a2 a3 a4 a5:Value}{K:Value->Value->Value->Value->Value->Value->R},u6 [a0,a1,a2,a3,a4,a5] K=K a0 a1 a2 a3 a4 a5)/\(∀{a0 a1 a2 a3 a4 a5 a6:Value}{K:Value->Value->Value->Value->Value->Value->Value->R},u7 [a0,a1,a2,a3,a4,a5,a6] K=K a0 a1 a2 a3 a4 a5 a6)/\(∀{a0 a1 a2 a3 a4 a5 a6 a7:Value}{K:Value->Value->Value->Value->Value->Value->Value->Value->R},u8 [a0,a1,a2,a3,a4,a5,a6,a7] K=K a0 a1 a2 a3 a4 a5 a6 a7)/\(∀{a0 a1 a2 a3 a4 a5 a6 a7 a8:Value}{K:Value->Value->Value->Value->Value->Value->Value->Value->Value->R},u9 [a0,a1,a2,a3,a4,a5,a6,a7,a8] K=K a0 a1 a2 a3 a4 a5 a6 a7 a8)/\(∀{a0 a1 a2 a3 a4 a5 a6 a7 a8 a9:Value}{K:Value->Value->Value->Value->Value->Value->Value->Value->Value->Value->R},u10 [a0,a1,a2,a3,a4,a5,a6,a7,a8,a9] K=K a0 a1 a2 a3 a4 a5 a6 a7 a8 a9)/\(∀{a0 a1 a2 a3 a4 a5 a6 a7 a8 a9 a10:Value}{K:Value->Value->Value->Value->Value->Value->Value->Value->Value->Value->Value->R},u11 [a0,a1,a2,a3,a4,a5,a6,a7,a8,a9,a10] K=K a0 a1 a2 a3 a4 a5 a6 a7 a8 a9 a10)/\(∀{a0 a1 a2 a3 a4 a5 a6 a7 a8 a9 a10 a11:Value}{K:Value->Value->Value->Value->Value->Value->Value->Value->Value->Value->Value->Value->R},u12 [a0,a1,a2,a3,a4,a5,a6,a7,a8,a9,a10,a11] K=K a0 a1 a2 a3 a4 a5 a6 a7 a8 a9 a10 a11)/\(∀{a0 a1 a2 a3 a4 a5 a6 a7 a8 a9 a10 a11 a12:Value}{K:Value->Value->Value->Value->Value->Value->Value->Value->Value->Value->Value->Value->Value->R},u13 [a0,a1,a2,a3,a4,a5,a6,a7,a8,a9,a10,a11,a12] K=K a0 a1 a2 a3 a4 a5 a6 a7 a8 a9 a10 a11 a12)/\(∀{a0 a1 a2 a3 a4 a5 a6 a7 a8 a9 a10 a11 a12 a13:Value}{K:Value->Value->Value->Value->Value->Value->Value->Value->Value->Value->Value->Value->Value->Value->R},u14 [a0,a1,a2,a3,a4,a5,a6,a7,a8,a9,a10,a11,a12,a13] K=K a0 a1 a2 a3 a4 a5 a6 a7 a8 a9 a10 a11 a12 a13):=⟨Eq.trans rfl rfl,Eq.trans rfl rfl,Eq.trans rfl rfl,Eq.trans rfl rfl,Eq.trans rfl rfl,Eq.trans rfl rfl,Eq.trans rfl rfl,Eq.trans rfl rfl,Eq.trans rfl rfl,Eq.trans rfl rfl,Eq.trans rfl rfl,Eq.trans rfl rfl,Eq.trans rfl rfl⟩
theorem jn_eq{k:Kt}{b:Kt->R}:jn k b=b k:=Eq.trans rfl rfl
theorem lp_succ{n:Nat}{b:Kt->Kt}:lp (n+1) b=b (lp n b):=Eq.trans rfl rfl
@[simp] theorem nb_eq{K:Nat->R}:nb h K=K h.n:=Eq.trans rfl rfl
@[simp] theorem xPick_t{a b:Value}:xPick (.bool true) a b=some a:=Eq.trans rfl rfl
@[simp] theorem xPick_f{a b:Value}:xPick (.bool false) a b=some b:=Eq.trans rfl rfl
@[simp] theorem xNot_b(b:Bool):xNot (.bool b)=some (.bool !b):=by cases b<;>exact Eq.trans rfl rfl
@[simp] theorem pcall_some{p:Value×PH}(hp:plainV p.1=true):pcall (some p)=some p.1:=by
 show Bool.rec (motive:=fun _=>Option Value) none (some p.1) (plainV p.1)=_
 rw[hp]
@[simp] theorem kb_self(k:IntKind):kb k k=true:=by cases k<;>rfl
@[simp] theorem xAdd_i{k:IntKind}{a b:Int}:xAri Int.add (.int k a) (.int k b)=some (.int k (k.wrap (a+b))):=by
 simp only[xAri,two_i,mkI_eq,wr_eq];rfl
@[simp] theorem xSub_i{k:IntKind}{a b:Int}:xAri Int.sub (.int k a) (.int k b)=some (.int k (k.wrap (a-b))):=by
 simp only[xAri,two_i,mkI_eq,wr_eq];rfl
@[simp] theorem xMul_i{k:IntKind}{a b:Int}:xAri Int.mul (.int k a) (.int k b)=some (.int k (k.wrap (a*b))):=by
 simp only[xAri,two_i,mkI_eq,wr_eq];rfl
@[simp] theorem xLt_i{k:IntKind}{a b:Int}:xCmp ilt (.int k a) (.int k b)=some (.bool (decide (a<b))):=by
 simp only[xCmp,two_i,ilt_eq]
@[simp] theorem xLe_i{k:IntKind}{a b:Int}:xCmp ile (.int k a) (.int k b)=some (.bool (decide (a<=b))):=by
 simp only[xCmp,two_i,ile_eq]
@[simp] theorem xGt_i{k:IntKind}{a b:Int}:xCmp (fun x y=>ilt y x) (.int k a) (.int k b)=some (.bool (decide (b<a))):=by
 simp only[xCmp,two_i,ilt_eq]
@[simp] theorem xGe_i{k:IntKind}{a b:Int}:xCmp (fun x y=>ile y x) (.int k a) (.int k b)=some (.bool (decide (b<=a))):=by
 simp only[xCmp,two_i,ile_eq]
@[simp] theorem xEq_i{k:IntKind}{a b:Int}:xCmp ieq (.int k a) (.int k b)=some (.bool (decide (a=b))):=by
 simp only[xCmp,two_i,ieq_eq]
@[simp] theorem xNe_i{k:IntKind}{a b:Int}:xCmp ine (.int k a) (.int k b)=some (.bool (!decide (a=b))):=by
 simp only[xCmp,two_i,ine_eq]
end
@[simp] theorem vN_eq(n:Nat):vN n= .int .i64 n:=Eq.trans rfl rfl
@[simp] theorem vM_eq(n:Nat):vM n= .int .i64 (Int.negSucc n):=Eq.trans rfl rfl
@[simp] theorem tt_eq:tt= .bool true:=Eq.trans rfl rfl
@[simp] theorem ff_eq:ff= .bool false:=Eq.trans rfl rfl
end Go.Am
