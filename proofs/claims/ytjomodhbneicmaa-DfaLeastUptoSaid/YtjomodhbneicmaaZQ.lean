import Derived.Test.YtjomodhbneicmaaZH
set_option linter.unusedSimpArgs false
set_option linter.unusedVariables false
namespace Go.Am
open Go Go.RowKit Go.Proofs
def rdr(t:ByteArray)(a e b:Nat):AObj:=.row .own 1 [.string t,.int .i64 (a:Nat),.int .i64 (e:Nat),.int .i64 (b:Nat)]
def RM(br:Nat)(t:ByteArray)(a e b:Nat):OM:=OM.emp.upd br (rdr t a e b)
theorem RM_at{br:Nat}{t:ByteArray}{a e b:Nat}:RM br t a e b br=some (rdr t a e b):=OM.upd_self
theorem xLenT_s{t:ByteArray}:xLenT (.string t)=some (.int .i64 (t.size:Nat)):=by
 simp[xLenT,seqN_eq]
theorem xBit_ex{k:IntKind}{f:Nat->Nat->Nat}{x y:Int}:xBit f (.int k x) (.int k y)=some (.int k (k.wrap (f (bitN k x) (bitN k y):Nat))):=by
 have:kb k k=true:=by cases k<;>rfl
 simp only[xBit,this,mkI_eq,wr_eq];rfl
theorem xShl_ex{k k':IntKind}{x:Int}{s:Nat}(h:s<=k.bits):xShl (.int k x) (.int k' (s:Nat))=some (.int k (k.wrap (Int.mul x (.ofNat (Nat.pow 2 s))))):=by
 show(match Nat.ble s k.bits with|true=>mkI k (wr k (Int.mul x (.ofNat (Nat.pow 2 s))))|false=>none)=_
 rw[ble_t' h,mkI_eq,wr_eq]
theorem xShr_ex{k k':IntKind}{x s:Nat}(h:s<=k.bits):xShr (.int k (x:Nat)) (.int k' (s:Nat))=some (Value.int k ((x / 2 ^ s:Nat):Int)):=by
 show(match Nat.ble s k.bits with|true=>(match shN (.ofNat x) s with|some q=>some (Value.int k q)|none=>none)|false=>none)=_
 rw[ble_t' h]
 show(match seqN (Nat.shiftRight x s) fun q=>some (Int.ofNat q)with|some q=>some (Value.int k q)|none=>none)=_
 rw[seqN_eq]
 show some (Value.int k (Int.ofNat (x>>>s)))=_
 rw[Nat.shiftRight_eq_div_pow];rfl
theorem ai9{t:ByteArray}{a:Nat}(h:a<t.size): ∃c:Nat,c<256/\aindex Try.prog 9 (.string t) (.int .i64 (a:Nat))=some (.int .u8 (c:Nat)):=by
 refine⟨(t[a]'h).toNat,(t[a]'h).toNat_lt,?_⟩;unfold aindex;rw[Try.underlying9];simp[h]
section
variable {n:Nat}{cl:CL}{h h0:PH}{S:Vw}{m:OM}{rows:Rws}{br a e b:Nat}{t:ByteArray}
theorem Sl.rd(st:Sl h0 h S (RM br t a e b) rows):h.fzn.cells br=some [.string t,.int .i64 (a:Nat),.int .i64 (e:Nat),.int .i64 (b:Nat)]:=
 st.fz br _ (vall_m (st.base RM_at))
theorem c56[OkH h](hr:h.cells br=some [.string t,.int .i64 (a:Nat),.int .i64 (e:Nat),.int .i64 (b:Nat)]):pcall (F56 n cl (.pointer (some ⟨br,0,none⟩)) h)=some (.bool (decide (t.size<=a))):=by
 refine pcall_fr (h:=h) (S:=h.cells) ?_ rfl;unfold Fr F56;have st:=Sl.start h (S:=h.cells) (Vw.le.refl _);have l1:xLd (.pointer (some ⟨br,1,none⟩)) h=some (.int .i64 (a:Nat)):=st.ldS hr rfl;have l0:xLd (.pointer (some ⟨br,0,none⟩)) h=some (.string t):=st.ldS hr rfl;simp only[xNil_p,xFld_p,Nat.zero_add,vb_some,l1,l0,xLenT_s];have hc:xCmp (fun x y=>ile y x) (.int .i64 (a:Nat)) (.int .i64 (t.size:Nat))=some (.bool (decide (t.size<=a))):=by
  rw[xGe_i];congr 2;simp
 rw[hc];exact Fr.ret st rfl
theorem c83[OkH h](hr:h.cells br=some [.string t,.int .i64 (a:Nat),.int .i64 (e:Nat),.int .i64 (b:Nat)]){c:Int}: ∃bb:Bool,pcall (F83 n cl (.pointer (some ⟨br,0,none⟩)) (.int .u8 c) h)=some (.bool bb)/\(bb=true->a<t.size):=by
 have st:=Sl.start h (S:=h.cells) (Vw.le.refl _);have l1:xLd (.pointer (some ⟨br,1,none⟩)) h=some (.int .i64 (a:Nat)):=st.ldS hr rfl;have l0:xLd (.pointer (some ⟨br,0,none⟩)) h=some (.string t):=st.ldS hr rfl;have h2:=c56 (n:=n) (cl:=cl) (h:=h.fzn) hr
 by_cases ha:t.size<=a
 ·refine⟨false,?_,fun h=>by cases h⟩;refine pcall_fr (h:=h) (S:=h.cells) ?_ rfl;unfold Fr F83;have d:decide (t.size<=a)=true:=by simp[ha]
  simp[h2,d,ha];exact Ret.of ⟨⟨[],st⟩,rfl⟩
 ·obtain⟨c',hc',hi⟩:=ai9 (t:=t) (a:=a) (by omega);refine⟨decide ((c':Int)=c),?_,fun _=>by omega⟩;refine pcall_fr (h:=h) (S:=h.cells) ?_ rfl;unfold Fr F83;simp[h2,ha,l1,l0,hi];exact Ret.of ⟨⟨[],st⟩,rfl⟩
theorem c57(st:Sl h0 h S (RM br t a e b) rows){e1 x:Nat}(he1:e1≠0):Ret (F57 n cl (.pointer (some ⟨br,0,none⟩)) (.int .i64 (e1:Nat)) (.int .i64 (x:Nat)) h) fun v h'=> ∃e' b',e'≠0/\Sl h0 h' S (RM br t a e' b') rows:=by
 have l2:xLd (.pointer (some ⟨br,2,none⟩)) h=some (.int .i64 (e:Nat)):=st.ldB RM_at rfl;unfold F57;simp only[xNil_p,xFld_p,Nat.zero_add,vb_some,l2,vN_eq,xEq_i]
 by_cases hz:e=0
 ·have d:decide (((e:Nat):Int)=((0:Nat):Int))=true:=by simp[hz]
  simp only[d,bite_t,F57_0,xNil_p,xFld_p,Nat.zero_add,vb_some];refine Ret.lst1B st RM_at rfl (by simp) rfl fun h1 st1=>?_;rw[RM,OM.upd_upd]at st1;refine Ret.lst1B st1 OM.upd_self rfl (by simp) rfl fun h2 st2=>?_;rw[OM.upd_upd]at st2;exact Ret.of ⟨e1,x,he1,st2⟩
 ·have d:decide (((e:Nat):Int)=((0:Nat):Int))=false:=by simp[hz]
  simp only[d,bite_f];exact Ret.of ⟨e,b,hz,st⟩
theorem Ret.step{Q:Value->PH->Prop}{K2:Value->PH->R}(st:Sl h0 h S (RM br t a e b) rows){a':Nat}(hk: ∀h',Sl h0 h' S (RM br t a' e b) rows->Ret (K2 undef h') Q):Ret (Go.Am.hb (xSt1 (.pointer (some ⟨br,1,none⟩)) (.int .i64 (a':Nat)) h) K2) Q:=by
 refine Ret.lst1B st RM_at rfl (by simp) rfl fun h1 st1=>?_;rw[RM,OM.upd_upd]at st1;exact hk h1 st1
theorem c134(ht:t.size<1000000)(st:Sl h0 h S (RM br t a e b) rows)(ha:a<=t.size):
  Ret (F134 n cl (.pointer (some ⟨br,0,none⟩)) h) fun v h'=> ∃a' e' b' c,Sl h0 h' S (RM br t a' e' b') rows/\v= .int .u8 (c:Nat)/\c<256/\a<=a'/\a'<=t.size/\((e'=e/\a<a')\/e'≠0):=by
 have tail: ∀(a1:Nat)(h:PH),Sl h0 h S (RM br t a1 e b) rows->a<=a1->a1<=t.size->Ret (F134_2 n cl (.pointer (some ⟨br,0,none⟩)) h) fun v h'=> ∃a' e' b' c,Sl h0 h' S (RM br t a' e' b') rows/\v= .int .u8 (c:Nat)/\c<256/\a<=a'/\a'<=t.size/\((e'=e/\a<a')\/e'≠0):=by
  intro a1 h st h1 h2;have:=st.ok;have hp:=c56 (n:=n) (cl:=cl) (h:=h.fzn) st.rd;have l1:xLd (.pointer (some ⟨br,1,none⟩)) h=some (.int .i64 (a1:Nat)):=st.ldB RM_at rfl;simp only[F134_2,hp,vb_some]
  by_cases c:t.size<=a1
  ·have d:decide (t.size<=a1)=true:=by simp[c]
   simp only[d,bite_t,F134_0,xNil_p,xFld_p,Nat.zero_add,vb_some,l1,vN_eq];refine Ret.hb (c57 st (by decide)) fun v h' ⟨e',b',he,st'⟩=>?_;exact Ret.of ⟨a1,e',b',0,st',rfl,by decide,h1,h2,.inr he⟩
  ·have d:decide (t.size<=a1)=false:=by simp[c]
   have hw:IntKind.i64.wrap ((a1:Int)+((1:Nat):Int))=((a1+1:Nat):Int):=by rw[wrap_in (by omega) (by omega)];omega
   have hw2:IntKind.i64.wrap (((a1+1:Nat):Int)-((1:Nat):Int))=((a1:Nat):Int):=by rw[wrap_in (by omega) (by omega)];omega
   simp only[d,bite_f,F134_1,xNil_p,xFld_p,Nat.zero_add,vb_some,l1,vN_eq,xAdd_i,hw];refine Ret.step st fun h2 st2=>?_;have l1':xLd (.pointer (some ⟨br,1,none⟩)) h2=some (.int .i64 ((a1+1:Nat):Int)):=st2.ldB RM_at rfl;have l0':xLd (.pointer (some ⟨br,0,none⟩)) h2=some (.string t):=st2.ldB RM_at rfl;obtain⟨c',hc',hi⟩:=ai9 (t:=t) (a:=a1) (by omega);simp only[l1',l0',vb_some,xSub_i,hw2,hi];exact Ret.of ⟨a1+1,e,b,c',st2,rfl,hc',by omega,by omega,.inl ⟨rfl,by omega⟩⟩
 have:=st.ok;obtain⟨bb,hp,hbb⟩:=c83 (n:=n) (cl:=cl) (h:=h.fzn) st.rd (c:=.ofNat 92);unfold F134;simp only[jn_eq,F134_4,hp,vb_some];cases bb with
 |true=>
  have:=hbb rfl;have l1:xLd (.pointer (some ⟨br,1,none⟩)) h=some (.int .i64 (a:Nat)):=st.ldB RM_at rfl;have hw:IntKind.i64.wrap ((a:Int)+((1:Nat):Int))=((a+1:Nat):Int):=by rw[wrap_in (by omega) (by omega)];omega
  simp only[bite_t,F134_3,xNil_p,xFld_p,Nat.zero_add,vb_some,l1,vN_eq,xAdd_i,hw];refine Ret.step st fun h2 st2=>?_;simp only[ucons_cons];exact tail (a+1) h2 st2 (by omega) (by omega)
 |false=>
  simp only[bite_f,ucons_cons];exact tail a h st (Nat.le_refl _) ha
end
theorem zc54':zcells Try.prog 54=some [.int .u64 0,.int .u64 0,.int .u64 0,.int .u64 0]:=by kernel_rfl
theorem wr8{x:Nat}(h:x<256):IntKind.u8.wrap (x:Int)=(x:Nat):=by
 simp[IntKind.wrap,IntKind.signed,IntKind.bits];omega
theorem wr64u{x:Nat}(h:x<18446744073709551616):IntKind.u64.wrap (x:Int)=(x:Nat):=by
 simp[IntKind.wrap,IntKind.signed,IntKind.bits];omega
theorem xConvI_i'{k k':IntKind}{x:Int}:xConvI k (.int k' x)=some (.int k (k.wrap x)):=by simp only[xConvI,mkI_eq,wr_eq]
theorem xIdxA_at'{m sz b o j:Nat}{k:IntKind}(h:j<m):xIdxA m sz (.pointer (some ⟨b,o,none⟩)) (.int k j)=some (.pointer (some ⟨b,o+j*sz,none⟩)):=by
 show grd (Nat.blt j m) (addrK b (o+j*sz))=_
 have:Nat.blt j m=true:=Nat.ble_eq_true_of_le h;rw[this,addrK_eq];rfl
theorem orS{b:Bool}{k:IntKind}{x y:Int}{K:Value->R}:(vb (gd (isB false (.bool b)) (some (.int k x))) fun v2=>vb (gd (isB false (.bool b)) (xCmp ieq v2 (.int k y))) fun v3=>vb (xPick (.bool b) tt v3) K)=K (.bool (b||decide (x=y))):=by
 cases b<;>simp[gd_some']
theorem xBit63{c:Nat}(hc:c<256):xBit Nat.land (.int .u8 (c:Nat)) (.int .u8 (.ofNat 63))=some (.int .u8 ((c % 64:Nat):Int)):=by
 have e1:bitN .u8 (c:Nat)=c:=by
  rw[bitN_eq]
  show(BitVec.ofInt 8 (c:Nat)).toNat=c
  rw[BitVec.toNat_ofInt];omega
 have e2:bitN .u8 (.ofNat 63)=63:=by rfl
 have e3: ∀x:Nat,Nat.land x 63=x % 64:=fun x=>Nat.and_two_pow_sub_one_eq_mod x 6;rw[xBit_ex,e1,e2,e3,wr8 (by omega)]
theorem plain_u64s{s:List Int}:plainV (.agg ⟨u64s s⟩)=true:=by
 show plainV.plainVs (u64s s)=true
 induction s with
 |nil=>rfl
 |cons x s ih=>exact ih
section
variable {n:Nat}{cl:CL}{h h0:PH}{S:Vw}{m:OM}{rows:Rws}
theorem f133[OkH h](hS:Vw.le S h.cells){s:List Int}(hs:s.length=4){c:Nat}(hc:c<256):Fr h S (F133 n cl (.agg ⟨u64s s⟩) (.int .u8 (c:Nat)) h) fun v _=> ∃s':List Int,s'.length=4/\v= .agg ⟨u64s s'⟩:=by
 unfold Fr F133;refine Ret.lbox (Sl.start h hS) fun h1 b1 st1=>?_;have st1:Sl h h1 S OM.emp [(b1,.row .own 1 (u64s s))]:=st1;refine Ret.lalloc st1 zc54' fun h2 b2 st2=>?_;have e1:xShr (.int .u8 (c:Nat)) (.int .u64 (.ofNat 6))=some (.int .u8 ((c / 64:Nat):Int)):=by
  have:=xShr_ex (k:=.u8) (k':=.u64) (x:=c) (s:=6) (by decide);exact this
 have hj:c / 64<4:=by omega
 have hx:=List.getElem?_eq_getElem (l:=s) (i:=c / 64) (by omega);have l1:xLd (.pointer (some ⟨b1,0+c / 64*1,none⟩)) h2=some (.int .u64 s[c / 64]):=st2.ld (.tail _ (.head _)) (by rw[Nat.zero_add,Nat.mul_one];simp[u64s,hx]);have e2:=xShl_ex (k:=.u64) (k':=.u64) (x:=.ofNat 1) (s:=c % 64) (by show c % 64<=64;omega);simp only[e1,vb_some,xIdxA_at' hj,l1,xBit63 hc,xConvI_i',wr64u (show c % 64<18446744073709551616 by omega),e2,xBit_ex];refine Ret.lst1 st2 1 rfl rfl (by simp[u64s,hs];omega) rfl fun h3 st3=>?_;rw[Nat.zero_add,Nat.mul_one]at st3;generalize IntKind.u64.wrap _=y at st3;have e3:(u64s s).set (c / 64) (.int .u64 y)=u64s (s.set (c / 64) y):=by unfold u64s;rw[List.map_set]
 have st3:Sl h h3 S OM.emp [(b2,.row .own 1 [.int .u64 0,.int .u64 0,.int .u64 0,.int .u64 0]),(b1,.row .own 1 ((u64s s).set (c / 64) (.int .u64 y)))]:=st3;rw[e3]at st3;have hl:(s.set (c / 64) y).length=4:=by simp[hs]
 generalize s.set (c / 64) y=s' at st3 hl;have hl':(u64s s').length=4:=by simp[u64s,hl]
 have la:xLdA 4 (.pointer (some ⟨b1,0,none⟩)) h3=some (.agg ⟨u64s s'⟩):=st3.ldA (.tail _ (.head _)) (by rw[List.drop_zero, <-hl',List.take_length]) (by omega);simp only[la,vb_some];refine Ret.lstA st3 0 rfl rfl hl' (by simp) (oneCells_u64s _) fun h4 st4=>?_;rw[setsL_all (by rw[hl'];rfl)]at st4;have st4:Sl h h4 S OM.emp [(b2,.row .own 1 (u64s s')),(b1,.row .own 1 (u64s s'))]:=st4;have lb:xLdA 4 (.pointer (some ⟨b2,0,none⟩)) h4=some (.agg ⟨u64s s'⟩):=st4.ldA (.head _) (by rw[List.drop_zero, <-hl',List.take_length]) (by omega);simp only[lb,vb_some];exact Fr.ret st4 ⟨s',hl,rfl⟩
theorem c133[OkH h]{s:List Int}(hs:s.length=4){c:Nat}(hc:c<256): ∃s':List Int,s'.length=4/\pcall (F133 n cl (.agg ⟨u64s s⟩) (.int .u8 (c:Nat)) h)=some (.agg ⟨u64s s'⟩):=by
 obtain⟨v,rows,⟨s',h1,rfl⟩,h2⟩:=pcall_ex (f133 (n:=n) (cl:=cl) (h:=h) (Vw.le.refl _) hs hc) (fun v rows ⟨s',_,e⟩=>by rw[e];exact plain_u64s);exact⟨s',h1,h2⟩
theorem ab57s{s:List Int}(hs:s.length=4):abuild Try.prog 57 [(0,.int .i64 ((1:Nat):Int)),(1,.agg ⟨u64s s⟩)]=some (.agg ⟨.int .i64 ((1:Nat):Int)::(u64s s++[nils])⟩):=by
 obtain⟨s0,s1,s2,s3,rfl⟩: ∃a b c d,s=[a,b,c,d]:=by
  match s,hs with
  | [a,b,c,d],_=>exact⟨a,b,c,d,rfl⟩
 kernel_rfl
theorem leafS{V:Vw}{s:List Int}(hs:s.length=4):ReE V (.mk 1 s []) (.int .i64 ((1:Nat):Int)::(u64s s++[nils])):=
 ReE_mk.2 ⟨nils,rfl,hs,.inl ⟨rfl,none,0,rfl,CapOk.self (by omega),rfl⟩⟩
theorem f124[OkH h](hS:Vw.le S h.cells){c:Nat}(hc:c<256):Fr h S (F124 n cl (.int .u8 (c:Nat)) h) fun v _=> ∃s':List Int,s'.length=4/\v= .agg ⟨.int .i64 ((1:Nat):Int)::(u64s s'++[nils])⟩:=by
 unfold Fr F124;refine Ret.lalloc (Sl.start h hS) zc57 fun h1 b1 st1=>?_;refine Ret.lalloc st1 zc54' fun h2 b2 st2=>?_;have la:xLdA 4 (.pointer (some ⟨b2,0,none⟩)) h2=some (.agg ⟨u64s [0,0,0,0]⟩):=st2.ldA (.head _) rfl (by simp);have:=st2.ok;obtain⟨s',hs',hp⟩:=c133 (n:=n) (cl:=cl) (h:=h2.fzn) (s:=[0,0,0,0]) rfl hc;simp only[la,vb_some,hp,vN_eq];have hab:=ab57s hs';simp only[hab,vb_some];have hl:(Value.int .i64 ((1:Nat):Int)::(u64s s'++[nils])).length=6:=by simp[u64s,hs']
 have hone:oneCells (Value.int .i64 ((1:Nat):Int)::(u64s s'++[nils]))=true:=(leafS (V:=S) hs').one;refine Ret.lstA st2 1 rfl rfl hl (by simp) hone fun h3 st3=>?_;rw[setsL_all (by rw[hl];rfl)]at st3;have st3:Sl h h3 S OM.emp [(b2,.row .own 1 [.int .u64 0,.int .u64 0,.int .u64 0,.int .u64 0]),(b1,.row .own 1 (.int .i64 ((1:Nat):Int)::(u64s s'++[nils])))]:=st3;have lb:xLdA 6 (.pointer (some ⟨b1,0,none⟩)) h3=some (.agg ⟨.int .i64 ((1:Nat):Int)::(u64s s'++[nils])⟩):=st3.ldA (.tail _ (.head _)) (by rw[List.drop_zero, <-hl,List.take_length]) (by omega);simp only[lb,vb_some];exact Fr.ret st3 ⟨s',hs',rfl⟩
theorem loop123{b1 b2:Nat}: ∀(k q i:Nat)(s:List Int)(h:PH),256-i<=k->k<q->i<=256->s.length=4->Sl h0 h S OM.emp [(b2,.row .own 1 (u64s s)),(b1,.row .own 1 (u64s [0,0,0,0]))]->
  Ret (lp q (F123_6 n cl) [.pointer (some ⟨b1,0,none⟩),.pointer (some ⟨b2,0,none⟩),.int .i64 (i:Nat)] h) fun v h'=> ∃rows,Sl h0 h' S OM.emp rows/\ ∃s':List Int,s'.length=4/\v= .agg ⟨u64s s'⟩:=by
 intro k
 induction k with
 |zero=>
  intro q i s h h1 h2 h3 hs st;obtain⟨q,rfl⟩: ∃r,q=r+1:=⟨q-1,by omega⟩;obtain rfl:i=256:=by omega
  rw[lp_succ];have hl:(u64s s).length=4:=by simp[u64s,hs]
  have la:xLdA 4 (.pointer (some ⟨b2,0,none⟩)) h=some (.agg ⟨u64s s⟩):=st.ldA (.head _) (by rw[List.drop_zero, <-hl,List.take_length]) (by omega);have d:decide (((256:Nat):Int)<((256:Nat):Int))=false:=by simp
  simp only[F123_6,F123_5,ucons_cons,vN_eq,xLt_i,vb_some,d,bite_f,F123_4,la];refine Ret.lstA st 1 rfl rfl hl (by simp[u64s]) (oneCells_u64s _) fun h3 st3=>?_;rw[setsL_all (by rw[hl];rfl)]at st3;have st3:Sl h0 h3 S OM.emp [(b2,.row .own 1 (u64s s)),(b1,.row .own 1 (u64s s))]:=st3;have lb:xLdA 4 (.pointer (some ⟨b1,0,none⟩)) h3=some (.agg ⟨u64s s⟩):=st3.ldA (.tail _ (.head _)) (by rw[List.drop_zero, <-hl,List.take_length]) (by omega);simp only[lb,vb_some];exact Fr.ret st3 ⟨s,hs,rfl⟩
 |succ k ih=>
  intro q i s h h1 h2 h3 hs st
  by_cases hi:i<256
  ·obtain⟨q,rfl⟩: ∃r,q=r+1:=⟨q-1,by omega⟩;rw[lp_succ];generalize hL:lp q (F123_6 n cl)=LL;have d:decide (((i:Nat):Int)<((256:Nat):Int))=true:=by simp;omega
   have hw:IntKind.i64.wrap ((i:Int)+((1:Nat):Int))=((i+1:Nat):Int):=by rw[wrap_in (by omega) (by omega)];omega
   have hl:(u64s s).length=4:=by simp[u64s,hs]
   have la:xLdA 4 (.pointer (some ⟨b2,0,none⟩)) h=some (.agg ⟨u64s s⟩):=st.ldA (.head _) (by rw[List.drop_zero, <-hl,List.take_length]) (by omega);simp only[F123_6,F123_5,ucons_cons,vN_eq,xLt_i,vb_some,d,bite_t,jn_eq,F123_3,xNe_i]
   by_cases c:i=10
   ·subst c;have d2:(!decide (((10:Nat):Int)=((10:Nat):Int)))=false:=by simp
    simp only[d2,bite_f,F123_2,ucons_cons,F123_0,vN_eq,xAdd_i,hw,vb_some];rw[<-hL];exact ih q 11 s h (by omega) (by omega) (by omega) hs st
   ·have d2:(!decide (((i:Nat):Int)=((10:Nat):Int)))=true:=by simp;omega
    have:=st.ok;obtain⟨s',hs',hp⟩:=c133 (n:=n) (cl:=cl) (h:=h.fzn) hs hi;simp only[d2,bite_t,F123_1,la,vb_some,xConvI_i',wr8 hi,hp];have hl':(u64s s').length=4:=by simp[u64s,hs']
    refine Ret.lstA st 0 rfl rfl hl' (by omega) (oneCells_u64s _) fun h3 st3=>?_;rw[setsL_all (by rw[hl',hl])]at st3;have st3:Sl h0 h3 S OM.emp [(b2,.row .own 1 (u64s s')),(b1,.row .own 1 (u64s [0,0,0,0]))]:=st3;simp only[F123_2,ucons_cons,F123_0,vN_eq,xAdd_i,hw,vb_some];rw[<-hL];exact ih q (i+1) s' h3 (by omega) (by omega) (by omega) hs' st3
  ·exact ih q i s h (by omega) (by omega) h3 hs st
theorem c123[OkH h](hn:4611686018427387904<=n): ∃s':List Int,s'.length=4/\pcall (F123 n cl h)=some (.agg ⟨u64s s'⟩):=by
 have key:Fr h h.cells (F123 n cl h) fun v _=> ∃s':List Int,s'.length=4/\v= .agg ⟨u64s s'⟩:=by
  unfold Fr F123;refine Ret.lalloc (Sl.start h (Vw.le.refl _)) zc54' fun h1 b1 st1=>?_;refine Ret.lalloc st1 zc54' fun h2 b2 st2=>?_;exact loop123 256 n 0 [0,0,0,0] h2 (by omega) (by omega) (by omega) rfl st2
 obtain⟨v,rows,⟨s',h1,rfl⟩,h2⟩:=pcall_ex key (fun v rows ⟨s',_,e⟩=>by rw[e];exact plain_u64s);exact⟨s',h1,h2⟩
theorem c126[OkH h]{c:Nat}: ∃bb:Bool,pcall (F126 n cl (.int .u8 (c:Nat)) h)=some (.bool bb):=by
 have key: ∃bb:Bool,F126 n cl (.int .u8 (c:Nat)) h=some (.bool bb,h):=by
  unfold F126;simp only[xEq_i,vb_some,orS];exact⟨_,rfl⟩
 obtain⟨bb,hb⟩:=key;exact⟨bb,by rw[hb];rfl⟩
end
theorem xUn_x{x:Int}: ∃y:Int,xUn Try.prog .xor (.int .u64 x)=some (.int .u64 y):=⟨_,rfl⟩
section
variable {Q:Value->PH->Prop}{n:Nat}{cl:CL}{h h0:PH}{S:Vw}{m:OM}{rows:Rws}{br a e b b1 b2:Nat}{t:ByteArray}
abbrev pt(b:Nat):Value:=.pointer (some ⟨b,0,none⟩)
def z6:List Value:=[.int .i64 0,.int .u64 0,.int .u64 0,.int .u64 0,.int .u64 0,nils]
theorem loop125s{N:Int}{pv nv:Value}{K:Kt}{hi:Nat}(hhi:hi<256)(hw:IntKind.i64.wrap (N+((1:Nat):Int))=N+((1:Nat):Int))(hk: ∀h' (s':List Int),s'.length=4->Sl h0 h' S m ((b2,.row .own 1 (u64s s'))::rows)->Ret (K [pv,pt b1,pt b2,nv,.int .i64 (N+((1:Nat):Int))] h') Q):
  ∀(k q i:Nat)(s:List Int)(h:PH),hi+1-i<=k->k<q->i<=256->s.length=4->Sl h0 h S m ((b2,.row .own 1 (u64s s))::rows)->
  Ret (lp q (F125_9 n cl K) [pv,pt b1,pt b2,nv,.int .i64 N,.int .u8 (hi:Nat),.int .i64 (i:Nat)] h) Q:=by
 have hwh:IntKind.i64.wrap ((hi:Nat):Int)=((hi:Nat):Int):=wrap_in (by omega) (by omega);intro k
 induction k with
 |zero=>
  intro q i s h h1 h2 h3 hs st;obtain⟨q,rfl⟩: ∃r,q=r+1:=⟨q-1,by omega⟩;rw[lp_succ];have d:decide (((i:Nat):Int)<=((hi:Nat):Int))=false:=by simp;omega
  simp only[F125_9,F125_8,ucons_cons,xConvI_i',hwh,xLe_i,vb_some,d,bite_f,F125_7,vN_eq,xAdd_i,hw];exact hk h s hs st
 |succ k ih=>
  intro q i s h h1 h2 h3 hs st
  by_cases hi':i<=hi
  ·obtain⟨q,rfl⟩: ∃r,q=r+1:=⟨q-1,by omega⟩;rw[lp_succ];generalize hL:lp q (F125_9 n cl K)=LL;have d:decide (((i:Nat):Int)<=((hi:Nat):Int))=true:=by simp;omega
   have hw1:IntKind.i64.wrap ((i:Int)+((1:Nat):Int))=((i+1:Nat):Int):=by rw[wrap_in (by omega) (by omega)];omega
   have hl:(u64s s).length=4:=by simp[u64s,hs]
   have la:xLdA 4 (pt b2) h=some (.agg ⟨u64s s⟩):=st.ldA (.head _) (by rw[List.drop_zero, <-hl,List.take_length]) (by omega);have:=st.ok;obtain⟨s',hs',hp⟩:=c133 (n:=n) (cl:=cl) (h:=h.fzn) hs (c:=i) (by omega);have w8:IntKind.u8.wrap ((i:Nat):Int)=((i:Nat):Int):=wr8 (by omega);simp only[F125_9,F125_8,ucons_cons,xConvI_i',hwh,xLe_i,vb_some,d,bite_t,F125_6,la,w8,hp];have hl':(u64s s').length=4:=by simp[u64s,hs']
   refine Ret.lstA st 0 rfl rfl hl' (by omega) (oneCells_u64s _) fun h3 st3=>?_;rw[setsL_all (by rw[hl',hl])]at st3;have st3:Sl h0 h3 S m ((b2,.row .own 1 (u64s s'))::rows):=st3;simp only[vN_eq,xAdd_i,hw1,vb_some];rw[<-hL];exact ih q (i+1) s' h3 (by omega) (by omega) (by omega) hs' st3
  ·exact ih q i s h (by omega) (by omega) h3 hs st
theorem loop125n{K:Kt}(hk: ∀h' (s':List Int),s'.length=4->Sl h0 h' S m ((b2,.row .own 1 (u64s s'))::rows)->Ret (K [pt b1,pt b2] h') Q):
  ∀(k q i:Nat)(s:List Int)(h:PH),4-i<=k->k<q->i<=4->s.length=4->Sl h0 h S m ((b2,.row .own 1 (u64s s))::rows)->
  Ret (lp q (F125_3 n cl K) [pt b1,pt b2,.int .i64 (i:Nat)] h) Q:=by
 intro k
 induction k with
 |zero=>
  intro q i s h h1 h2 h3 hs st;obtain⟨q,rfl⟩: ∃r,q=r+1:=⟨q-1,by omega⟩;obtain rfl:i=4:=by omega
  rw[lp_succ];have d:decide (((4:Nat):Int)<((4:Nat):Int))=false:=by simp
  simp only[F125_3,F125_2,ucons_cons,vN_eq,xLt_i,vb_some,d,bite_f];exact hk h s hs st
 |succ k ih=>
  intro q i s h h1 h2 h3 hs st
  by_cases hi':i<4
  ·obtain⟨q,rfl⟩: ∃r,q=r+1:=⟨q-1,by omega⟩;rw[lp_succ];generalize hL:lp q (F125_3 n cl K)=LL;have d:decide (((i:Nat):Int)<((4:Nat):Int))=true:=by simp;omega
   have hw1:IntKind.i64.wrap ((i:Int)+((1:Nat):Int))=((i+1:Nat):Int):=by rw[wrap_in (by omega) (by omega)];omega
   have hx:=List.getElem?_eq_getElem (l:=s) (i:=i) (by omega);have l1:xLd (.pointer (some ⟨b2,0+i*1,none⟩)) h=some (.int .u64 s[i]):=st.ld (.head _) (by rw[Nat.zero_add,Nat.mul_one];simp[u64s,hx]);obtain⟨y,hy⟩:=xUn_x (x:=s[i]);simp only[F125_3,F125_2,ucons_cons,vN_eq,xLt_i,vb_some,d,bite_t,F125_1,xIdxA_at' hi',l1,hy];refine Ret.lst1 st 0 rfl rfl (by simp[u64s,hs];omega) rfl fun h3 st3=>?_;have e3:(u64s s).set i (.int .u64 y)=u64s (s.set i y):=by unfold u64s;rw[List.map_set]
   rw[Nat.zero_add,Nat.mul_one,e3]at st3;simp only[vN_eq,xAdd_i,hw1,vb_some];rw[<-hL];exact ih q (i+1) _ h3 (by omega) (by omega) (by omega) (by simp[hs]) st3
  ·exact ih q i s h (by omega) (by omega) h3 hs st
def SetV(S:Vw)(t:ByteArray)(br:Nat)(h0:PH)(rows:Rws)(a:Nat)(v:Value)(h':PH):Prop:=
 ∃a' e' b' s,s.length=4/\Sl h0 h' S (RM br t a' e' b') rows/\v= .agg ⟨.int .i64 ((1:Nat):Int)::(u64s s++[nils])⟩/\a<=a'/\a'<=t.size+1/\(e'=0->a'<=t.size)
theorem end125(ht:t.size<1000000)(hn:4611686018427387904<=n){nb:Bool}{a1:Nat}{s:List Int}(hs:s.length=4)(h1:a<=a1)(h2:a1<=t.size)(h3:e=0->a1<t.size)
  (st:Sl h0 h S (RM br t a1 e b) ((b2,.row .own 1 (u64s s))::(b1,.row .own 1 z6)::rows)):Ret (F125_19 n cl [pt br,pt b1,pt b2,.bool nb] h) (SetV S t br h0 rows a):=by
 have l1:xLd (.pointer (some ⟨br,1,none⟩)) h=some (.int .i64 (a1:Nat)):=st.ldB RM_at rfl;have hw:IntKind.i64.wrap ((a1:Int)+((1:Nat):Int))=((a1+1:Nat):Int):=by rw[wrap_in (by omega) (by omega)];omega
 simp only[F125_19,F125_4,ucons_cons,xNil_p,xFld_p,Nat.zero_add,vb_some,l1,vN_eq,xAdd_i,hw];refine Ret.step st fun h4 st4=>?_;have fin: ∀h' (s':List Int),s'.length=4->Sl h0 h' S (RM br t (a1+1) e b) ((b2,.row .own 1 (u64s s'))::(b1,.row .own 1 z6)::rows)->
   Ret ((fun y30 h=>ucons y30 fun v32 y33=>ucons y33 fun v34 y35=>F125_0 n cl v34 v32 h) [pt b1,pt b2] h') (SetV S t br h0 rows a):=by
  intro h' s' hs' st';have hl':(u64s s').length=4:=by simp[u64s,hs']
  have la:xLdA 4 (pt b2) h'=some (.agg ⟨u64s s'⟩):=st'.ldA (.head _) (by rw[List.drop_zero, <-hl',List.take_length]) (by omega);have hab:=ab57s hs';simp only[ucons_cons,F125_0,la,vb_some,vN_eq,hab];have hl:(Value.int .i64 ((1:Nat):Int)::(u64s s'++[nils])).length=6:=by simp[u64s,hs']
  have hone:oneCells (Value.int .i64 ((1:Nat):Int)::(u64s s'++[nils]))=true:=(leafS (V:=S) hs').one;refine Ret.lstA st' 1 rfl rfl hl (by simp[z6]) hone fun h5 st5=>?_;rw[setsL_all (by rw[hl];rfl)]at st5;have st5:Sl h0 h5 S (RM br t (a1+1) e b) ((b2,.row .own 1 (u64s s'))::(b1,.row .own 1 (.int .i64 ((1:Nat):Int)::(u64s s'++[nils])))::rows):=st5;have lb:xLdA 6 (pt b1) h5=some (.agg ⟨.int .i64 ((1:Nat):Int)::(u64s s'++[nils])⟩):=st5.ldA (.tail _ (.head _)) (by rw[List.drop_zero, <-hl,List.take_length]) (by omega);simp only[lb,vb_some];exact Ret.of ⟨a1+1,e,b,s',hs',st5.drop ((List.sublist_cons_self _ _).trans (List.sublist_cons_self _ _)),rfl,by omega,by omega,fun he=>by have:=h3 he;omega⟩
 simp only[jn_eq];cases nb with
 |true=>
  simp only[bite_t];exact loop125n (K:=fun y30 h=>ucons y30 fun v32 y33=>ucons y33 fun v34 y35=>F125_0 n cl v34 v32 h) fin 4 n 0 s h4 (by omega) (by omega) (by omega) hs st4
 |false=>
  simp only[bite_f];exact fin h4 s hs st4
end
section
variable {Q:Value->PH->Prop}{n:Nat}{cl:CL}{h h0:PH}{S:Vw}{m:OM}{rows:Rws}{br a e b b1 b2:Nat}{t:ByteArray}
theorem mid125(ht:t.size<1000000)(hn:4611686018427387904<=n){nb:Bool}{K54:Kt}{a0 a N c:Nat}{s:List Int}(hc:c<256)(hs:s.length=4)(hN:N<1000000)(ha:a<=t.size)(hp:e=0->a0<a)
  (st:Sl h0 h S (RM br t a e b) ((b2,.row .own 1 (u64s s))::rows))
  (hk: ∀h' (s':List Int) a' e' b',s'.length=4->a<=a'->a'<=t.size->(e'=0->a0<a')->Sl h0 h' S (RM br t a' e' b') ((b2,.row .own 1 (u64s s'))::rows)->Ret (K54 [pt br,pt b1,pt b2,.bool nb,.int .i64 (((N:Nat):Int)+((1:Nat):Int))] h') Q):
  Ret (F125_14 n cl (pt br) (.int .u8 (c:Nat)) (pt b1) (pt b2) (.bool nb) (.int .i64 (N:Nat)) h (F125_13 n cl K54)) Q:=by
 have hwN:IntKind.i64.wrap (((N:Nat):Int)+((1:Nat):Int))=((N:Nat):Int)+((1:Nat):Int):=by rw[wrap_in (by omega) (by omega)]
 have tail: ∀h' a' e' b' hi,hi<256->a<=a'->a'<=t.size->(e'=0->a0<a')->Sl h0 h' S (RM br t a' e' b') ((b2,.row .own 1 (u64s s))::rows)->
   Ret (F125_13 n cl K54 [pt br,pt b1,pt b2,.bool nb,.int .i64 (N:Nat),.int .u8 (c:Nat),.int .u8 (hi:Nat)] h') Q:=by
  intro h' a' e' b' hi hhi h1 h2 h3 st';have hwc:IntKind.i64.wrap ((c:Nat):Int)=((c:Nat):Int):=wrap_in (by omega) (by omega);simp only[F125_13,ucons_cons,F125_10,xConvI_i',hwc,vb_some];exact loop125s hhi hwN (fun h'' s' hs' st''=>hk h'' s' a' e' b' hs' h1 h2 h3 st'') 257 n c s h' (by omega) (by omega) (by omega) hs st'
 have skip:=tail h a e b c hc (Nat.le_refl _) ha hp st;have l2:xLd (.pointer (some ⟨br,2,none⟩)) h=some (.int .i64 (e:Nat)):=st.ldB RM_at rfl;have l1:xLd (.pointer (some ⟨br,1,none⟩)) h=some (.int .i64 (a:Nat)):=st.ldB RM_at rfl;have l0:xLd (.pointer (some ⟨br,0,none⟩)) h=some (.string t):=st.ldB RM_at rfl;have:=st.ok;obtain⟨bb,hpc,hbb⟩:=c83 (n:=n) (cl:=cl) (h:=h.fzn) st.rd (c:=.ofNat 45);simp only[F125_14,xNil_p,xFld_p,Nat.zero_add,vb_some,l2,vN_eq,xEq_i]
 by_cases he:e=0
 ·have d:decide (((e:Nat):Int)=((0:Nat):Int))=true:=by simp[he]
  simp only[d,isB_t,gd_true,vb_some,hpc,xPick_t];cases bb with
  |false=>
   simpa[gd_some']using skip
  |true=>
   have hlt:=hbb rfl;have hw:IntKind.i64.wrap ((a:Int)+((1:Nat):Int))=((a+1:Nat):Int):=by rw[wrap_in (by omega) (by omega)];omega
   simp only[isB_t,gd_true,vb_some,xNil_p,xFld_p,Nat.zero_add,l1,l0,vN_eq,xAdd_i,hw,xLenT_s,xLt_i,xPick_t]
   by_cases h3:a+1<t.size
   ·have d3:decide (((a+1:Nat):Int)<((t.size:Nat):Int))=true:=by simp;omega
    obtain⟨c3,hc3,hi3⟩:=ai9 (t:=t) (a:=a+1) h3;simp only[d3,isB_t,gd_true,vb_some,xNil_p,xFld_p,Nat.zero_add,l1,l0,vN_eq,xAdd_i,hw,hi3,xNe_i,xPick_t];cases hq:(!decide (((c3:Nat):Int)=Int.ofNat 93))with
    |false=>
     simp only[bite_f];exact skip
    |true=>
     simp only[bite_t,F125_12,xNil_p,xFld_p,Nat.zero_add,vb_some,l1,vN_eq,xAdd_i,hw];refine Ret.step st fun h4 st4=>?_;have l1':xLd (.pointer (some ⟨br,1,none⟩)) h4=some (.int .i64 ((a+1:Nat):Int)):=st4.ldB RM_at rfl;simp only[l1',vb_some];refine Ret.hb (c134 ht st4 (by omega)) fun v h5 ⟨a5,e5,b5,c5,st5,hv,hc5,h51,h52,h53⟩=>?_;subst hv;have l2':xLd (.pointer (some ⟨br,2,none⟩)) h5=some (.int .i64 (e5:Nat)):=st5.ldB RM_at rfl;simp only[xNil_p,xFld_p,Nat.zero_add,vb_some,l2',vN_eq,xEq_i];have go:=tail h5 a5 e5 b5 c5 hc5 (by omega) (by omega) (fun h=>by have:=hp he;omega) st5
     by_cases he5:e5=0
     ·have d5:decide (((e5:Nat):Int)=((0:Nat):Int))=true:=by simp[he5]
      simp only[d5,isB_t,gd_true,vb_some,xLt_i,xPick_t];cases hq2:decide (((c5:Nat):Int)<((c:Nat):Int))with
      |false=>simp only[bite_f];exact go
      |true=>
       simp only[bite_t,F125_11,vN_eq];refine Ret.hb (c57 st5 (by decide)) fun v h6 ⟨e6,b6,he6,st6⟩=>?_;exact tail h6 a5 e6 b6 c5 hc5 (by omega) (by omega) (fun h=>absurd h he6) st6
     ·have d5:decide (((e5:Nat):Int)=((0:Nat):Int))=false:=by simp[he5]
      simp[d5,gd_some',he5];exact go
   ·have d3:decide (((a+1:Nat):Int)<((t.size:Nat):Int))=false:=by simp;omega
    simp only[d3];simpa[gd_some']using skip
 ·have d:decide (((e:Nat):Int)=((0:Nat):Int))=false:=by simp[he]
  simp only[d];simpa[gd_some']using skip
end
section
variable {Q:Value->PH->Prop}{n:Nat}{cl:CL}{h h0:PH}{S:Vw}{m:OM}{rows:Rws}{br a e b b1 b2:Nat}{t:ByteArray}
theorem loop125(ht:t.size<1000000)(hn:4611686018427387904<=n){nb:Bool}{a0:Nat}:
  ∀(k q a e b N:Nat)(s:List Int)(h:PH),(e=0->t.size-a+1<=k)->k<q->s.length=4->a0<=a->a<=t.size->N<=t.size+1->(e=0->N<=a)->Sl h0 h S (RM br t a e b) ((b2,.row .own 1 (u64s s))::(b1,.row .own 1 z6)::rows)->
  Ret (lp q (F125_18 n cl (F125_19 n cl)) [pt br,pt b1,pt b2,.bool nb,.int .i64 (N:Nat)] h) (SetV S t br h0 rows a0):=by
 intro k
 induction k with
 |zero=>
  intro q a e b N s h h1 h2 hs h3 h4 h5 h6 st;obtain⟨q,rfl⟩: ∃r,q=r+1:=⟨q-1,by omega⟩;have he:e≠0:=fun h=>by have:=h1 h;omega
  rw[lp_succ];have l2:xLd (.pointer (some ⟨br,2,none⟩)) h=some (.int .i64 (e:Nat)):=st.ldB RM_at rfl;have d:decide (((e:Nat):Int)=((0:Nat):Int))=false:=by simp[he]
  have:=end125 (n:=n) (cl:=cl) (nb:=nb) ht hn hs h3 h4 (fun h=>absurd h he) st;simp only[F125_18,F125_17,ucons_cons,xNil_p,xFld_p,Nat.zero_add,vb_some,l2,vN_eq,xEq_i,d];simpa[gd_some']using this
 |succ k ih=>
  intro q a e b N s h h1 h2 hs h3 h4 h5 h6 st;obtain⟨q,rfl⟩: ∃r,q=r+1:=⟨q-1,by omega⟩;rw[lp_succ];generalize hL:lp q (F125_18 n cl (F125_19 n cl))=LL;have l2:xLd (.pointer (some ⟨br,2,none⟩)) h=some (.int .i64 (e:Nat)):=st.ldB RM_at rfl
  by_cases he:e=0
  ·have d:decide (((e:Nat):Int)=((0:Nat):Int))=true:=by simp[he]
   have:=st.ok;obtain⟨bb,hpc,hbb⟩:=c83 (n:=n) (cl:=cl) (h:=h.fzn) st.rd (c:=.ofNat 93);have stop:bb=true->Ret (F125_19 n cl [pt br,pt b1,pt b2,.bool nb] h) (SetV S t br h0 rows a0):=fun hb=>end125 (n:=n) (cl:=cl) (nb:=nb) ht hn hs h3 h4 (fun _=>hbb hb) st;have l1:xLd (.pointer (some ⟨br,1,none⟩)) h=some (.int .i64 (a:Nat)):=st.ldB RM_at rfl;have fail:Ret (F125_5 n cl (pt br) (F125_19 n cl) (pt b1) (pt b2) (.bool nb) h) (SetV S t br h0 rows a0):=by
    simp only[F125_5,xNil_p,xFld_p,Nat.zero_add,vb_some,l1,vN_eq];refine Ret.hb (c57 st (by decide)) fun v h6 ⟨e6,b6,he6,st6⟩=>?_;exact end125 ht hn hs h3 h4 (fun h=>absurd h he6) st6
   have go:bb=false->Ret (F125_16 n cl (pt br) (F125_19 n cl) (pt b1) (pt b2) (.bool nb) LL (.int .i64 (N:Nat)) h) (SetV S t br h0 rows a0):=by
    intro hb;subst hb;have hov:=c56 (n:=n) (cl:=cl) (h:=h.fzn) st.rd;simp only[F125_16,hpc,vb_some,isB_f,Bool.not_false,gd_true,hov,xPick_f]
    by_cases hsz:t.size<=a
    ·have d2:decide (t.size<=a)=true:=by simp[hsz]
     simp only[d2,bite_t];exact fail
    ·have d2:decide (t.size<=a)=false:=by simp[hsz]
     simp only[d2,bite_f,F125_15];refine Ret.hb (c134 ht st h4) fun v h7 ⟨a7,e7,b7,c7,st7,hv,hc7,h71,h72,h73⟩=>?_;subst hv;simp only[jn_eq];refine mid125 ht hn (a0:=a) hc7 hs (by omega) h72 (fun h=>by rcases h73 with h|h<;>omega) st7 fun h8 s8 a8 e8 b8 hs8 h81 h82 h83 st8=>?_;rw[<-hL];have hc1:((N:Nat):Int)+((1:Nat):Int)=((N+1:Nat):Int):=by omega
     rw[hc1];exact ih q a8 e8 b8 (N+1) s8 h8 (fun h=>by have:=h1 he;have:=h83 h;omega) (by omega) hs8 (by omega) h82 (by have:=h6 he;omega) (fun h=>by have:=h6 he;have:=h83 h;omega) st8
   simp only[F125_18,F125_17,ucons_cons,xNil_p,xFld_p,Nat.zero_add,vb_some,l2,vN_eq,xEq_i,d,isB_t,gd_true,hpc];cases bb with
   |false=>
    simpa[gd_some']using go rfl
   |true=>
    simp only[isB_t,gd_true,vb_some,xGt_i,xPick_t,xNot_b];cases hq:decide (((0:Nat):Int)<((N:Nat):Int))with
    |true=>
     simp only[Bool.not_true,bite_f];exact stop rfl
    |false=>
     simp only[Bool.not_false,bite_t,F125_16,hpc,vb_some];simpa[gd_some']using fail
  ·have d:decide (((e:Nat):Int)=((0:Nat):Int))=false:=by simp[he]
   have:=end125 (n:=n) (cl:=cl) (nb:=nb) ht hn hs h3 h4 (fun h=>absurd h he) st;simp only[F125_18,F125_17,ucons_cons,xNil_p,xFld_p,Nat.zero_add,vb_some,l2,vN_eq,xEq_i,d];simpa[gd_some']using this
theorem c125(ht:t.size<1000000)(hn:4611686018427387904<=n)(ha:a<=t.size)(st:Sl h0 h S (RM br t a 0 b) rows):Ret (F125 n cl (pt br) h) (SetV S t br h0 rows a):=by
 unfold F125;refine Ret.lalloc st zc57 fun h1 b1 st1=>?_;refine Ret.lalloc st1 zc54' fun h2 b2 st2=>?_;have st2:Sl h0 h2 S (RM br t a 0 b) ((b2,.row .own 1 (u64s [0,0,0,0]))::(b1,.row .own 1 z6)::rows):=st2;have:=st2.ok;obtain⟨bb,hpc,hbb⟩:=c83 (n:=n) (cl:=cl) (h:=h2.fzn) st2.rd (c:=.ofNat 94);simp only[hpc,vb_some,jn_eq];have main: ∀(a1:Nat)(h:PH),a<=a1->a1<=t.size->Sl h0 h S (RM br t a1 0 b) ((b2,.row .own 1 (u64s [0,0,0,0]))::(b1,.row .own 1 z6)::rows)->Ret (F125_21 n cl [pt br,pt b1,pt b2,.bool bb] h) (SetV S t br h0 rows a):=by
  intro a1 h q1 q2 st;simp only[F125_21,ucons_cons,jn_eq,vN_eq];exact loop125 ht hn (t.size+1) n a1 0 b 0 [0,0,0,0] h (fun _=>by omega) (by omega) rfl q1 q2 (by omega) (fun _=>by omega) st
 cases bb with
 |false=>
  simp only[bite_f];exact main a h2 (Nat.le_refl _) ha st2
 |true=>
  have hlt:=hbb rfl;have l1:xLd (.pointer (some ⟨br,1,none⟩)) h2=some (.int .i64 (a:Nat)):=st2.ldB RM_at rfl;have hw:IntKind.i64.wrap ((a:Int)+((1:Nat):Int))=((a+1:Nat):Int):=by rw[wrap_in (by omega) (by omega)];omega
  simp only[bite_t,F125_20,xNil_p,xFld_p,Nat.zero_add,vb_some,l1,vN_eq,xAdd_i,hw];refine Ret.step st2 fun h3 st3=>?_;exact main (a+1) h3 (by omega) (by omega) st3
end
mutual
def Re.wf:Re->Prop
 | .mk op _ ks=>wfL ks/\(((op=0\/op=1)/\ks=[])\/((op=2\/op=3)/\2<=ks.length)\/((4<=op/\op<=6)/\ks.length=1))
def wfL:List Re->Prop
 | []=>True
 |k::ks=>k.wf/\wfL ks
end
def EE(e:Nat):Nat:=if e=0 then 0 else 1
theorem EE_0:EE 0=0:=rfl
theorem EE_1{e:Nat}(h:e≠0):EE e=1:=by unfold EE;rw[if_neg h]
def VwN(h0:PH)(S S':Vw):Prop:=Vw.le S S'/\ ∀b cs,S' b=some cs->S b=some cs\/h0.n<=b
theorem VwN.refl{h0:PH}{S:Vw}:VwN h0 S S:=⟨Vw.le.refl _,fun _ _ h=>.inl h⟩
theorem VwN.trans{h0:PH}{S T U:Vw}(a:VwN h0 S T)(b:VwN h0 T U):VwN h0 S U:=⟨a.1.trans b.1,fun x cs h=>by
 rcases b.2 x cs h with h|h
 ·exact a.2 x cs h
 ·exact .inr h⟩
theorem VwN.put{h0:PH}{S:Vw}{b:Nat}{cs:List Value}(h:S b=none)(hb:h0.n<=b):VwN h0 S (S.put b cs):=⟨Vw.le_put h,fun x ys hx=>by
 unfold Vw.put at hx
 split at hx
 ·rename_i e;rw[e];exact .inr hb
 ·exact .inl hx⟩
theorem Gl.settleV{h0 h:PH}{S:Vw}{m:OM}{rows ex:Rws}{sz k:Nat}{v:Value}{cells:List Value}(s:Sl h0 h S m (ex++rows))(g:Gl sz v k cells ex): ∃S',VwN h0 S S'/\Sl h0 h S' m rows/\SlC S' sz v k cells:=by
 rcases g.h with⟨rfl,rfl,rfl,rfl⟩|⟨b,o,cap,all,rfl,rfl,rfl,h2,_⟩
 ·exact⟨S,VwN.refl,s,.inl ⟨rfl,rfl,rfl⟩⟩
 ·have hn:=(s.sm.own b _ (s.mem (.head _))).2;obtain⟨s1,hS⟩:=s.settle (i:=0) rfl;exact⟨_,VwN.put hS hn,s1,.inr ⟨b,o,cap,all,rfl,Vw.put_self,h2,rfl⟩⟩
def PR(S:Vw)(t:ByteArray)(br:Nat)(h0:PH)(rows:Rws)(a lim p k:Nat)(v:Value)(h':PH):Prop:=
 ∃S' a' e' b' x es,VwN h0 S S'/\Sl h0 h' S' (RM br t a' e' b') rows/\v= .agg ⟨es⟩/\ReE S' x es/\x.wf/\a<=a'/\a'<=lim/\(e'=0->a'<=t.size/\a+p<=a')/\x.size<=3*(a'-a)+k+EE e'
theorem wf_leaf{s:List Int}:(Re.mk 1 s []).wf:=by unfold Re.wf;exact⟨by simp[wfL],.inl ⟨.inr rfl,rfl⟩⟩
theorem wf_none:(Re.mk 0 zs4 []).wf:=by unfold Re.wf;exact⟨by simp[wfL],.inl ⟨.inl rfl,rfl⟩⟩
theorem size_leaf{o:Int}{s:List Int}:(Re.mk o s []).size=1:=by simp[Re.size,sizeL]
theorem noneE{V:Vw}:ReE V (.mk 0 zs4 []) z6:=ReE_mk.2 ⟨nils,rfl,rfl,.inl ⟨rfl,none,0,rfl,CapOk.self (by omega),rfl⟩⟩
theorem ab57n:abuild Try.prog 57 []=some (.agg ⟨z6⟩):=by kernel_rfl
section
variable {Q:Value->PH->Prop}{n:Nat}{cl:CL}{h h0:PH}{S:Vw}{m:OM}{rows:Rws}{br a e b b1 b2:Nat}{t:ByteArray}
theorem Ret.put6{pre:Rws}{cs es:List Value}(st:Sl h0 h S m (pre++(b1,.row .own 1 cs)::rows))(hcs:cs.length=6)(he:es.length=6)(hone:oneCells es=true)(hk: ∀h',Sl h0 h' S m rows->Q (.agg ⟨es⟩) h'):
  Ret (Go.Am.hb (xStA 6 (pt b1) (.agg ⟨es⟩) h) fun _ h=>Go.Am.vb (xLdA 6 (pt b1) h) fun v=>some (v,h)) Q:=by
 have st1:=st.perm (rows':=(b1,.row .own 1 cs)::(pre++rows)) List.perm_middle;refine Ret.lstA st1 0 rfl rfl he (by omega) hone fun h3 st3=>?_;rw[setsL_all (by omega)]at st3;have st3:Sl h0 h3 S m ((b1,.row .own 1 es)::(pre++rows)):=st3;have lb:xLdA 6 (pt b1) h3=some (.agg ⟨es⟩):=st3.ldA (.head _) (by rw[List.drop_zero, <-he,List.take_length]) (by omega);simp only[lb,vb_some];exact Ret.of (hk h3 (st3.drop ((List.sublist_append_right _ _).trans (List.sublist_cons_self _ _))))
theorem Ret.put6x{pre:Rws}{cs es:List Value}{x:Re}(st:Sl h0 h S m (pre++(b1,.row .own 1 cs)::rows))(hcs:cs.length=6)(he:ReE S x es)(hk: ∀h',Sl h0 h' S m rows->Q (.agg ⟨es⟩) h'):
  Ret (Go.Am.hb (xStA 6 (pt b1) (.agg ⟨es⟩) h) fun _ h=>Go.Am.vb (xLdA 6 (pt b1) h) fun v=>some (v,h)) Q:=Ret.put6 st hcs he.len he.one hk
theorem c110(ht:t.size<1000000)(hn:4611686018427387904<=n){d:Nat}(hd:d<=20)(hlt:a<t.size)
  (ih:d<20-> ∀{h:PH}{rows:Rws}{a b:Nat},a<=t.size->Sl h0 h S (RM br t a 0 b) rows->Ret (cl 55 [pt br,.int .i64 ((d+1:Nat):Int)] h) (PR S t br h0 rows a (t.size+22-(d+1)) 0 2))
  (st:Sl h0 h S (RM br t a 0 b) rows):Ret (F110 n cl (pt br) (.int .i64 (d:Nat)) h) (PR S t br h0 rows a (t.size+22-d) 1 0):=by
 unfold F110;refine Ret.lalloc st zc57 fun h1 b1 st1=>?_;have st1:Sl h0 h1 S (RM br t a 0 b) ([]++(b1,.row .own 1 z6)::rows):=st1;have l1:xLd (.pointer (some ⟨br,1,none⟩)) h1=some (.int .i64 (a:Nat)):=st1.ldB RM_at rfl;have l0:xLd (.pointer (some ⟨br,0,none⟩)) h1=some (.string t):=st1.ldB RM_at rfl;obtain⟨c,hc,hi⟩:=ai9 (t:=t) (a:=a) hlt;have hw:IntKind.i64.wrap ((a:Int)+((1:Nat):Int))=((a+1:Nat):Int):=by rw[wrap_in (by omega) (by omega)];omega
 have bad: ∀(e1 x:Nat),e1≠0-> ∀a1 (h:PH),a<=a1->a1<=t.size->Sl h0 h S (RM br t a1 0 b) ([]++(b1,.row .own 1 z6)::rows)->
   Ret (Go.Am.hb (F57 n cl (pt br) (.int .i64 (e1:Nat)) (.int .i64 (x:Nat)) h) fun _ h=>vb (abuild Try.prog 57 []) fun v12=>Go.Am.hb (xStA 6 (pt b1) v12 h) fun _ h=>vb (xLdA 6 (pt b1) h) fun v13=>some (v13,h)) (PR S t br h0 rows a (t.size+22-d) 1 0):=by
  intro e1 x he1 a1 h q1 q2 st;refine Ret.hb (c57 st he1) fun v h2 ⟨e2,b2,he2,st2⟩=>?_;simp only[ab57n,vb_some];refine Ret.put6x st2 rfl noneE fun h3 st3=>?_;exact⟨S,a1,e2,b2,.mk 0 zs4 [],z6,VwN.refl,st3,rfl,noneE,wf_none,q1,by omega,fun h=>absurd h he2,by rw[size_leaf,EE_1 he2];omega⟩
 have one: ∀(c1:Nat),c1<256-> ∀a1 (h:PH),a+1<=a1->a1<=t.size->Sl h0 h S (RM br t a1 0 b) ([]++(b1,.row .own 1 z6)::rows)->
   Ret (Go.Am.hb (fcall h (F124 n cl (.int .u8 (c1:Nat)) (h.fzn))) fun v110 h=>Go.Am.hb (xStA 6 (pt b1) v110 h) fun _ h=>vb (xLdA 6 (pt b1) h) fun v111=>some (v111,h)) (PR S t br h0 rows a (t.size+22-d) 1 0):=by
  intro c1 hc1 a1 h q1 q2 st;have:=st.ok;refine Ret.lfcall st (f124 (n:=n) (cl:=cl) (h:=h.fzn) (Vw.le.refl _) hc1) fun v h2 rows1 ⟨s',hs',hv⟩ st2=>?_;subst hv;have st2:Sl h0 h2 S (RM br t a1 0 b) (rows1++(b1,.row .own 1 z6)::rows):=st2;refine Ret.put6x st2 rfl (leafS hs') fun h3 st3=>?_;exact⟨S,a1,0,b,.mk 1 s' [],_,VwN.refl,st3,rfl,leafS hs',wf_leaf,by omega,by omega,fun _=>⟨q2,q1⟩,by rw[size_leaf,EE_0];omega⟩
 simp only[xNil_p,xFld_p,Nat.zero_add,vb_some,l1,l0,hi,xEq_i];cases h40:decide (((c:Nat):Int)=Int.ofNat 40)with
 |true=>
  simp only[bite_t,F110_6,vN_eq,xGe_i,vb_some]
  by_cases hd2:d=20
  ·have dd:decide (((20:Nat):Int)<=((d:Nat):Int))=true:=by simp;omega
   simp only[dd,bite_t,F110_0,vN_eq];exact bad 4 a (by decide) a h1 (Nat.le_refl _) (by omega) st1
  ·have dd:decide (((20:Nat):Int)<=((d:Nat):Int))=false:=by simp;omega
   have hwd:IntKind.i64.wrap ((d:Int)+((1:Nat):Int))=((d+1:Nat):Int):=by rw[wrap_in (by omega) (by omega)];omega
   simp only[dd,bite_f,F110_5,xNil_p,xFld_p,Nat.zero_add,vb_some,l1,vN_eq,xAdd_i,hw];refine Ret.step st1 fun h2 st2=>?_;simp only[hwd,vb_some];refine Ret.hb (ih (by omega) (by omega) st2) fun v h3 ⟨S3,a3,e3,b3,x3,es3,le3,st3,hv,he3,hwf3,h31,h32,h33,h34⟩=>?_;subst hv;refine Ret.lalloc st3 zc57 fun h4 b4 st4=>?_;refine Ret.lstA st4 0 rfl rfl he3.len (by simp) he3.one fun h5 st5=>?_;rw[setsL_all (by rw[he3.len];rfl)]at st5;have st5:Sl h0 h5 S3 (RM br t a3 e3 b3) ([(b4,.row .own 1 es3)]++(b1,.row .own 1 z6)::rows):=st5;have fin: ∀e6 b6 (h:PH),(e6=0->e3=0/\a3<t.size)->(e6≠0\/e3=e6)->Sl h0 h S3 (RM br t a3 e6 b6) ([(b4,.row .own 1 es3)]++(b1,.row .own 1 z6)::rows)->Ret (F110_3 n cl [pt br,pt b1,pt b4] h) (PR S t br h0 rows a (t.size+22-d) 1 0):=by
    intro e6 b6 h q1 q2 st;have l1':xLd (.pointer (some ⟨br,1,none⟩)) h=some (.int .i64 (a3:Nat)):=st.ldB RM_at rfl;have hw3:IntKind.i64.wrap ((a3:Int)+((1:Nat):Int))=((a3+1:Nat):Int):=by rw[wrap_in (by omega) (by omega)];omega
    simp only[F110_3,ucons_cons,F110_1,xNil_p,xFld_p,Nat.zero_add,vb_some,l1',vN_eq,xAdd_i,hw3];refine Ret.step st fun h7 st7=>?_;have hl:=he3.len;have la:xLdA 6 (pt b4) h7=some (.agg ⟨es3⟩):=st7.ldA (.head _) (by rw[List.drop_zero, <-hl,List.take_length]) (by omega);simp only[la,vb_some];refine Ret.put6x st7 rfl he3 fun h8 st8=>?_;refine⟨S3,a3+1,e6,b6,x3,es3,le3,st8,rfl,he3,hwf3,by omega,by omega,fun h=>⟨by have:=(q1 h).2;omega,by omega⟩,?_⟩
    by_cases he6:e6=0
    ·rw[he6,EE_0];rw[(q1 he6).1,EE_0]at h34;omega
    ·rw[EE_1 he6];have:EE e3<=1:=by unfold EE;split<;>omega
     omega
   have l2:xLd (.pointer (some ⟨br,2,none⟩)) h5=some (.int .i64 (e3:Nat)):=st5.ldB RM_at rfl;have l15:xLd (.pointer (some ⟨br,1,none⟩)) h5=some (.int .i64 (a3:Nat)):=st5.ldB RM_at rfl;have:=st5.ok;obtain⟨bb,hpc,hbb⟩:=c83 (n:=n) (cl:=cl) (h:=h5.fzn) st5.rd (c:=.ofNat 41);simp only[jn_eq,F110_4,xNil_p,xFld_p,Nat.zero_add,vb_some,l2,vN_eq,xEq_i]
   by_cases he:e3=0
   ·have d1:decide (((e3:Nat):Int)=((0:Nat):Int))=true:=by simp[he]
    simp only[d1,isB_t,gd_true,vb_some,hpc,xNot_b,xPick_t];cases bb with
    |true=>
     simp only[Bool.not_true,bite_f];exact fin e3 b3 h5 (fun h=>⟨he,hbb rfl⟩) (.inr rfl) st5
    |false=>
     simp only[Bool.not_false,bite_t,F110_2,xNil_p,xFld_p,Nat.zero_add,vb_some,l15,vN_eq];refine Ret.hb (c57 st5 (by decide)) fun v h6 ⟨e6,b6,he6,st6⟩=>?_;exact fin e6 b6 h6 (fun h=>absurd h he6) (.inl he6) st6
   ·have d1:decide (((e3:Nat):Int)=((0:Nat):Int))=false:=by simp[he]
    have:=fin e3 b3 h5 (fun h=>absurd h he) (.inr rfl) st5;simp only[d1];simpa[gd_some']using this
 |false=>
  simp only[bite_f,F110_17,xEq_i,vb_some];cases h46:decide (((c:Nat):Int)=Int.ofNat 46)with
  |true=>
   simp only[bite_t,F110_7,xNil_p,xFld_p,Nat.zero_add,vb_some,l1,vN_eq,xAdd_i,hw];refine Ret.step st1 fun h2 st2=>?_;have:=st2.ok;obtain⟨s',hs',hp⟩:=c123 (n:=n) (cl:=cl) (h:=h2.fzn) hn;have hab:=ab57s hs';simp only[hp,vb_some,hab];refine Ret.put6x st2 rfl (leafS hs') fun h3 st3=>?_;exact⟨S,a+1,0,b,.mk 1 s' [],_,VwN.refl,st3,rfl,leafS hs',wf_leaf,by omega,by omega,fun _=>⟨by omega,by omega⟩,by rw[size_leaf,EE_0];omega⟩
  |false=>
   simp only[bite_f,F110_16,xEq_i,vb_some];cases h92:decide (((c:Nat):Int)=Int.ofNat 92)with
   |true=>
    simp only[bite_t,F110_10,xNil_p,xFld_p,Nat.zero_add,vb_some,l1,vN_eq,xAdd_i,hw];refine Ret.step st1 fun h2 st2=>?_;have:=st2.ok;have hov:=c56 (n:=n) (cl:=cl) (h:=h2.fzn) st2.rd;have l1':xLd (.pointer (some ⟨br,1,none⟩)) h2=some (.int .i64 ((a+1:Nat):Int)):=st2.ldB RM_at rfl;simp only[hov,vb_some]
    by_cases hsz:t.size<=a+1
    ·have d2:decide (t.size<=a+1)=true:=by simp[hsz]
     simp only[d2,bite_t,F110_8,xNil_p,xFld_p,Nat.zero_add,vb_some,l1',vN_eq];exact bad 2 (a+1) (by decide) (a+1) h2 (by omega) (by omega) st2
    ·have d2:decide (t.size<=a+1)=false:=by simp;omega
     have hw2:IntKind.i64.wrap (((a+1:Nat):Int)+((1:Nat):Int))=((a+2:Nat):Int):=by rw[wrap_in (by omega) (by omega)];omega
     have hw3:IntKind.i64.wrap (((a+2:Nat):Int)-((1:Nat):Int))=((a+1:Nat):Int):=by rw[wrap_in (by omega) (by omega)];omega
     simp only[d2,bite_f,F110_9,xNil_p,xFld_p,Nat.zero_add,vb_some,l1',vN_eq,xAdd_i,hw2];refine Ret.step st2 fun h3 st3=>?_;have l13:xLd (.pointer (some ⟨br,1,none⟩)) h3=some (.int .i64 ((a+2:Nat):Int)):=st3.ldB RM_at rfl;have l03:xLd (.pointer (some ⟨br,0,none⟩)) h3=some (.string t):=st3.ldB RM_at rfl;obtain⟨c',hc',hi'⟩:=ai9 (t:=t) (a:=a+1) (by omega);simp only[l13,l03,vb_some,xSub_i,hw3,hi'];exact one c' hc' (a+2) h3 (by omega) (by omega) st3
   |false=>
    simp only[bite_f,F110_15,xEq_i,vb_some];cases h91:decide (((c:Nat):Int)=Int.ofNat 91)with
    |true=>
     simp only[bite_t,F110_11,xNil_p,xFld_p,Nat.zero_add,vb_some,l1,vN_eq,xAdd_i,hw];refine Ret.step st1 fun h2 st2=>?_;refine Ret.hb (c125 ht hn (by omega) st2) fun v h3 ⟨a3,e3,b3,s3,hs3,st3,hv,h31,h32,h33⟩=>?_;subst hv;refine Ret.put6x st3 rfl (leafS hs3) fun h4 st4=>?_;exact⟨S,a3,e3,b3,.mk 1 s3 [],_,VwN.refl,st4,rfl,leafS hs3,wf_leaf,by omega,by omega,fun h=>⟨h33 h,by omega⟩,by rw[size_leaf];omega⟩
    |false=>
     have:=st1.ok;obtain⟨bb,hp⟩:=c126 (n:=n) (cl:=cl) (h:=h1.fzn) (c:=c);simp only[bite_f,F110_14,hp,vb_some];cases bb with
     |true=>
      simp only[bite_t,F110_12,vN_eq];exact bad 2 a (by decide) a h1 (Nat.le_refl _) (by omega) st1
     |false=>
      simp only[bite_f,F110_13,xNil_p,xFld_p,Nat.zero_add,vb_some,l1,vN_eq,xAdd_i,hw];refine Ret.step st1 fun h2 st2=>?_;exact one c hc (a+1) h2 (by omega) (by omega) st2
end
theorem sizeL_snoc'{x:Re}: ∀(ks:List Re),sizeL (ks++[x])=sizeL ks+x.size
 | []=>by simp[sizeL]
 |k::ks=>by rw[List.cons_append];unfold sizeL;rw[sizeL_snoc' ks];omega
theorem wfL_snoc{x:Re}(hx:x.wf): ∀(ks:List Re),wfL ks->wfL (ks++[x])
 | [],_=>by simp[wfL,hx]
 |k::ks,h=>by rw[List.cons_append];unfold wfL at h ⊢;exact⟨h.1,wfL_snoc hx ks h.2⟩
theorem bsRe{V:Vw}{x:Re}{es:List Value}(he:ReE V x es):bsRow Try.prog 55 1 [(0,.agg ⟨es⟩)]=some (6,es):=by
 cases x with
 |mk op s ks=>
  obtain⟨kv,rfl,hs,hk⟩:=ReE_mk.1 he;obtain⟨s0,s1,s2,s3,rfl⟩: ∃a b c d,s=[a,b,c,d]:=by
   match s,hs with
   | [a,b,c,d],_=>exact⟨a,b,c,d,rfl⟩
  exact bs57 hk.one
theorem Ret.out{X:R}{P:Value->PH->Prop}(H:Ret (Go.Am.hb X fun v h=>some (v,h)) P): ∃v h,X=some (v,h)/\P v h:=by
 cases hX:X with
 |none=>rw[hX]at H;obtain⟨v,h,e,_⟩:=H;cases e
 |some p=>
  obtain⟨v,h⟩:=p;rw[hX]at H;obtain⟨v',h',e,q⟩:=H;cases e;exact⟨v,h,rfl,q⟩
section
variable {Q:Value->PH->Prop}{n:Nat}{cl:CL}{h h0:PH}{S:Vw}{m:OM}{rows:Rws}{K2:Value->PH->R}
def Ga(v:Value)(k:Nat)(cells:List Value)(ex:Rws):Prop:=(Gl 6 v k cells ex/\Gc v)\/(k=1/\ ∃b,v= .slice (some ⟨b,0,none⟩) 1 1/\ex=[(b,.row .own 6 cells)]/\cells.length=6)
theorem Ga.nil:Ga nils 0 [] []:=.inl ⟨Gl.nil,.inl rfl⟩
theorem Ga.length{v:Value}{k:Nat}{cells:List Value}{ex:Rws}(g:Ga v k cells ex):cells.length=k*6:=by
 rcases g with⟨g,_⟩|⟨rfl,b,_,_,h⟩
 ·exact g.length
 ·omega
theorem Ga.len{v:Value}{k:Nat}{cells:List Value}{ex:Rws}(g:Ga v k cells ex):xLenS v=some (.int .i64 k):=by
 rcases g with⟨g,_⟩|⟨rfl,b,rfl,_,h⟩
 ·exact g.len
 ·simp
theorem Ga.shape{v:Value}{k:Nat}{cells:List Value}{ex:Rws}(g:Ga v k cells ex)(hk:0<k): ∃b n c,v= .slice (some ⟨b,0,none⟩) n c:=by
 rcases g with⟨g,gc⟩|⟨rfl,b,rfl,_,h⟩
 ·rcases gc with rfl|⟨b,k,rfl⟩
  ·rcases g.h with⟨rfl,_⟩|⟨b,o,cap,all,e,_⟩
   ·omega
   ·cases e
  ·exact⟨_,_,_,rfl⟩
 ·exact⟨_,_,_,rfl⟩
theorem Ret.gappA{ex:Rws}(s:Sl h0 h S m (ex++rows)){v:Value}{k:Nat}{cells new:List Value}{parts:List (Nat×Value)}(g:Ga v k cells ex)
  (hb:bsRow Try.prog 55 1 parts=some (6,new)) (hl:new.length=6) (hone:oneCells new=true) (hk1:k<=1000)
  (hk: ∀h' v' ex',Sl h0 h' S m (ex'++rows)->Ga v' (k+1) (cells++new) ex'->Ret (K2 v' h') Q):Ret (Go.Am.hb (xBS 1 (bsRow Try.prog 55 1 parts) h) fun v1 h=>Go.Am.hb (xApp (appInfo Try.prog #[55,55]) v v1 h) K2) Q:=by
 have hsz:(2*(k+1)+512)*64<=281474976710656:=by omega
 refine Ret.lbs s hb fun h1 b st=>?_;rcases g with⟨g,gc⟩|⟨rfl,b0,rfl,rfl,hcl⟩
 ·have st1:=st.perm (rows':=ex++(b,.row .own 6 new)::rows) List.perm_middle.symm;have hx:=st1.ptail (n:=1) (sz:=6) (c:=1) (b:=b) (List.mem_append_right _ (.head _)) (by rw[hl]);rw[ai55];have H:Ret (Go.Am.hb (xApp (some (6,64)) v (.slice (some ⟨b,0,none⟩) 1 1) h1) fun v h=>some (v,h)) fun v' h'=> ∃ex',Sl h0 h' S m (ex'++rows)/\Gl 6 v' (k+1) (cells++new) ex':=by
   refine Ret.lapp st1 g hx (by rw[hl]) (by omega) hone hsz fun h' v' ex' st' g'=>?_;exact Ret.of ⟨ex',st'.drop (List.Sublist.append (List.Sublist.refl _) (List.sublist_cons_self _ _)),g'⟩
  obtain⟨v',h',e,ex',st',g'⟩:=Ret.out H;rw[e];exact hk h' v' ex' st' (.inl ⟨g',xApp_gc gc e⟩)
 ·have st:Sl h0 h1 S m ((b,.row .own 6 new)::(b0,.row .own 6 cells)::rows):=st;have hx:=st.ptail (n:=1) (sz:=6) (c:=1) (b:=b) (.head _) (by rw[hl]);rw[ai55];refine Ret.lappF st (st.mem (.tail _ (.head _))) (by omega) (by decide) hx (by omega) hone hsz fun h' b' st'=>?_;have e:(cells.drop 0).take (1*6)++new=cells++new:=by rw[List.drop_zero,List.take_of_length_le (by omega)]
  rw[e]at st';refine hk h' _ [(b',.row .opn 6 (cells++new))] (st'.drop (.cons_cons _ ((List.sublist_cons_self _ _).trans (List.sublist_cons_self _ _)))) (.inl ⟨⟨.inr ⟨b',0,openCap,cells++new,rfl,rfl,?_,?_,?_,Nat.le_refl _,by decide⟩⟩,.inr ⟨b',1+1,rfl⟩⟩)
  ·rw[List.drop_zero,List.take_of_length_le (by simp;omega)]
  ·simp;omega
  ·rw[Nat.sub_self,Nat.zero_mul]
theorem Ga.kids{ex:Rws}(s:Sl h0 h S m (ex++rows)){v:Value}{k:Nat}{cells:List Value}(g:Ga v k cells ex){xs:List Re}(hx:xs.length=k)(hk:k<=1000)(hc:KidsC S xs cells): ∃S',VwN h0 S S'/\Sl h0 h S' m rows/\KidsV S' xs v:=by
 rcases g with⟨g,gc⟩|⟨rfl,b0,rfl,rfl,hcl⟩
 ·obtain⟨S',le,st,hv⟩:=Gl.settleV s g;exact⟨S',le,st,hv.kids gc hx (by omega) (KidsC.mono le.1 hc)⟩
 ·have hn:=(s.sm.own b0 _ (s.mem (.head _))).2;obtain⟨st,hS⟩:=s.settle (i:=0) rfl;refine⟨_,VwN.put hS hn,st,.inr ⟨b0,0,1,cells,by rw[hx],by rw[hx];exact CapOk.self (by decide),Vw.put_self,by rw[hx];omega,?_⟩⟩;rw[List.drop_zero];exact KidsC.mono (Vw.le_put hS) hc
theorem wfL.one{x:Re}(h:wfL [x]):x.wf:=by unfold wfL at h;exact h.1
theorem KidsV.only{x:Re}{v:Value}(st:Sl h0 h S m rows)(hk:KidsV S [x] v): ∃p es,xIdxS 6 v (.int .i64 ((0:Nat):Int))=some p/\xLdA 6 p h=some (.agg ⟨es⟩)/\ReE S x es:=by
 obtain⟨b,o,cs,es,e1,e2,e3,e4,e5⟩:=hk.at (i:=0) (x:=x) rfl;exact⟨_,es,e1,st.ldSA e2 e3 e4,e5⟩
end
section
variable {Q:Value->PH->Prop}{n:Nat}{cl:CL}{h h0:PH}{S:Vw}{m:OM}{rows:Rws}{br a e b b1 b2:Nat}{t:ByteArray}
theorem EE_le(e:Nat):EE e<=1:=by unfold EE;split<;>omega
theorem wf_rep{x:Re}{o:Int}(h:x.wf)(ho:4<=o/\o<=6):(Re.mk o zs4 [x]).wf:=by
 unfold Re.wf;exact⟨by simp[wfL,h],.inr (.inr ⟨ho,rfl⟩)⟩
theorem loop102(ht:t.size<=200)(hn:4611686018427387904<=n){a0 lim b1 b3:Nat}{S0:Vw}{dv:Value}(hlim:t.size<=lim):
  ∀(k q a e b:Nat)(S:Vw)(h:PH)(x:Re)(es:List Value),(e=0->t.size-a+1<=k)->k<q->VwN h0 S0 S->ReE S x es->x.wf->a0<=a->a<=lim->(e=0->a<=t.size/\a0+1<=a)->x.size<=3*(a-a0)+EE e->
   Sl h0 h S (RM br t a e b) ((b3,.row .own 1 es)::(b1,.row .own 1 z6)::rows)->
  Ret (lp q (F102_7 n cl) [pt br,pt b1,pt b3] h) (PR S0 t br h0 rows a0 lim 1 0):=by
 intro k
 induction k with
 |zero=>
  intro q a e b S h x es h1 h2 le he hwf h3 h4 h5 h6 st;obtain⟨q,rfl⟩: ∃r,q=r+1:=⟨q-1,by omega⟩;have hz:e≠0:=fun h=>by have:=h1 h;omega
  rw[lp_succ];have l2:xLd (.pointer (some ⟨br,2,none⟩)) h=some (.int .i64 (e:Nat)):=st.ldB RM_at rfl;have d:decide (((e:Nat):Int)=((0:Nat):Int))=false:=by simp[hz]
  have hl:=he.len;have la:xLdA 6 (pt b3) h=some (.agg ⟨es⟩):=st.ldA (.head _) (by rw[List.drop_zero, <-hl,List.take_length]) (by omega);have fin:Ret (F102_5 n cl (pt b3) (pt b1) h) (PR S0 t br h0 rows a0 lim 1 0):=by
   simp only[F102_5,la,vb_some];refine Ret.put6x (pre:=[(b3,.row .own 1 es)]) st rfl he fun h8 st8=>?_;exact⟨S,a,e,b,x,es,le,st8,rfl,he,hwf,h3,h4,h5,by omega⟩
  simp only[F102_7,F102_6,ucons_cons,xNil_p,xFld_p,Nat.zero_add,vb_some,l2,vN_eq,xEq_i,d];simpa[gd_some']using fin
 |succ k ih=>
  intro q a e b S h x es h1 h2 le he hwf h3 h4 h5 h6 st;obtain⟨q,rfl⟩: ∃r,q=r+1:=⟨q-1,by omega⟩;rw[lp_succ];generalize hL:lp q (F102_7 n cl)=LL;have l2:xLd (.pointer (some ⟨br,2,none⟩)) h=some (.int .i64 (e:Nat)):=st.ldB RM_at rfl;have l1:xLd (.pointer (some ⟨br,1,none⟩)) h=some (.int .i64 (a:Nat)):=st.ldB RM_at rfl;have hl:=he.len;have la:xLdA 6 (pt b3) h=some (.agg ⟨es⟩):=st.ldA (.head _) (by rw[List.drop_zero, <-hl,List.take_length]) (by omega);have fin:Ret (F102_5 n cl (pt b3) (pt b1) h) (PR S0 t br h0 rows a0 lim 1 0):=by
   simp only[F102_5,la,vb_some];refine Ret.put6x (pre:=[(b3,.row .own 1 es)]) st rfl he fun h8 st8=>?_;exact⟨S,a,e,b,x,es,le,st8,rfl,he,hwf,h3,h4,h5,by omega⟩
  by_cases hz:e=0
  ·have d:decide (((e:Nat):Int)=((0:Nat):Int))=true:=by simp[hz]
   have:=st.ok;obtain⟨y1,p1,q1⟩:=c83 (n:=n) (cl:=cl) (h:=h.fzn) st.rd (c:=.ofNat 42);obtain⟨y2,p2,q2⟩:=c83 (n:=n) (cl:=cl) (h:=h.fzn) st.rd (c:=.ofNat 43);obtain⟨y3,p3,q3⟩:=c83 (n:=n) (cl:=cl) (h:=h.fzn) st.rd (c:=.ofNat 63);have p2':pcall (F83 n cl (pt br) (.int .u8 43) h.fzn)=some (.bool y2):=p2;have p3':pcall (F83 n cl (pt br) (.int .u8 63) h.fzn)=some (.bool y3):=p3;have go:a<t.size-> ∀o:Nat,4<=o->o<=6->Ret (F102_1 n cl LL [pt br,pt b1,pt b3,.int .i64 (o:Nat)] h) (PR S0 t br h0 rows a0 lim 1 0):=by
    intro hlt o ho1 ho2;have hw:IntKind.i64.wrap ((a:Int)+((1:Nat):Int))=((a+1:Nat):Int):=by rw[wrap_in (by omega) (by omega)];omega
    simp only[F102_1,ucons_cons,F102_0,xNil_p,xFld_p,Nat.zero_add,vb_some,l1,vN_eq,xAdd_i,hw];refine Ret.step st fun h4' st4=>?_;have la':xLdA 6 (pt b3) h4'=some (.agg ⟨es⟩):=st4.ldA (.head _) (by rw[List.drop_zero, <-hl,List.take_length]) (by omega);simp only[la',vb_some];refine Ret.lbs st4 (bsRe he) fun h5' b5 st5=>?_;have hn5:=(st5.sm.own b5 _ (st5.mem (.head _))).2;obtain⟨st6,hSb⟩:=st5.settle (i:=0) rfl;have st6:Sl h0 h5' (S.put b5 es) (RM br t (a+1) e b) ((b3,.row .own 1 es)::(b1,.row .own 1 z6)::rows):=st6;refine Ret.vb ab57' ?_;refine Ret.lstA st6 0 rfl rfl rfl (by rw[hl];exact Nat.le_refl _) rfl fun h7 st7=>?_;rw[setsL_all (by rw[hl];rfl)]at st7;have le5:VwN h0 S (S.put b5 es):=VwN.put hSb hn5;have he':ReE (S.put b5 es) (.mk ((o:Nat):Int) zs4 [x]) [.int .i64 ((o:Nat):Int),.int .u64 0,.int .u64 0,.int .u64 0,.int .u64 0,.slice (some ⟨b5,0,none⟩) 1 1]:=by
     refine ReE_mk.2 ⟨_,rfl,rfl,.inr ⟨b5,0,1,_,rfl,CapOk.self (by show 1<_;decide),Vw.put_self,by simp;omega,?_⟩⟩;unfold KidsC;refine⟨?_,by unfold KidsC;trivial⟩;rw[List.drop_zero,List.take_of_length_le (by omega)];exact ReE.mono le5.1 he
    rw[<-hL];refine ih q (a+1) e b (S.put b5 es) h7 (.mk ((o:Nat):Int) zs4 [x]) _ (fun h=>by have:=h1 h;omega) (by omega) (le.trans le5) he' (wf_rep hwf (by omega)) (by omega) (by omega) (fun _=>by have:=h5 hz;omega) ?_ st7;have e1:(Re.mk ((o:Nat):Int) zs4 [x]).size=x.size+1:=by simp[Re.size,sizeL]
    rw[e1];omega
   have go2:a<t.size->Ret (F102_4 n cl (pt br) (pt b1) (pt b3) h (F102_3 n cl LL)) (PR S0 t br h0 rows a0 lim 1 0):=by
    intro hlt;have key: ∀o:Nat,4<=o->o<=6->Ret (F102_3 n cl LL [pt br,pt b1,pt b3,.int .i64 (o:Nat)] h) (PR S0 t br h0 rows a0 lim 1 0):=by
     intro o ho1 ho2;simp only[F102_3,ucons_cons,jn_eq,F102_2,p3,vb_some,vN_eq];cases y3 with
     |true=>simp only[bite_t];exact go hlt 6 (by decide) (by decide)
     |false=>simp only[bite_f];exact go hlt o ho1 ho2
    simp only[F102_4,p2,vb_some,vN_eq];cases y2 with
    |true=>simp only[bite_t];exact key 5 (by decide) (by decide)
    |false=>simp only[bite_f];exact key 4 (by decide) (by decide)
   simp only[F102_7,F102_6,ucons_cons,xNil_p,xFld_p,Nat.zero_add,vb_some,l2,vN_eq,xEq_i,d,isB_t,gd_true,p1];cases y1 with
   |true=>
    have:=go2 (q1 rfl);simp only[jn_eq];simpa[gd_some']using this
   |false=>
    cases y2 with
    |true=>
     have:=go2 (q2 rfl);simp only[jn_eq];simpa[gd_some',p2']using this
    |false=>
     cases y3 with
     |true=>
      have:=go2 (q3 rfl);simp only[jn_eq];simpa[gd_some',p2',p3']using this
     |false=>
      simpa[gd_some',p2',p3']using fin
  ·have d:decide (((e:Nat):Int)=((0:Nat):Int))=false:=by simp[hz]
   simp only[F102_7,F102_6,ucons_cons,xNil_p,xFld_p,Nat.zero_add,vb_some,l2,vN_eq,xEq_i,d];simpa[gd_some']using fin
theorem c102(ht:t.size<=200)(hn:4611686018427387904<=n){d:Nat}(hd:d<=20)(hlt:a<t.size)
  (ih:d<20-> ∀{S:Vw}{h:PH}{rows:Rws}{a b:Nat},a<=t.size->Sl h0 h S (RM br t a 0 b) rows->Ret (cl 55 [pt br,.int .i64 ((d+1:Nat):Int)] h) (PR S t br h0 rows a (t.size+22-(d+1)) 0 2))
  (st:Sl h0 h S (RM br t a 0 b) rows):Ret (F102 n cl (pt br) (.int .i64 (d:Nat)) h) (PR S t br h0 rows a (t.size+22-d) 1 0):=by
 unfold F102;refine Ret.lalloc st zc57 fun h1 b1 st1=>?_;refine Ret.hb (c110 (by omega) hn hd hlt (fun q=>ih q) st1) fun v h2 ⟨S2,a2,e2,b2,x,es,le,st2,hv,he,hwf,h21,h22,h23,h24⟩=>?_;subst hv;refine Ret.lalloc st2 zc57 fun h3 b3 st3=>?_;refine Ret.lstA st3 0 rfl rfl he.len (by simp) he.one fun h4 st4=>?_;rw[setsL_all (by rw[he.len];rfl)]at st4;exact loop102 ht hn (dv:=.int .i64 0) (by omega) (t.size+1) n a2 e2 b2 S2 h4 x es (fun h=>by omega) (by omega) le he hwf h21 h22 (fun h=>⟨(h23 h).1,(h23 h).2⟩) (by omega) st4
end
theorem wf_many{xs:List Re}{o:Int}(h:wfL xs)(ho:o=2\/o=3)(hl:2<=xs.length):(Re.mk o zs4 xs).wf:=by
 unfold Re.wf;exact⟨h,.inr (.inl ⟨ho,hl⟩)⟩
theorem size_many{xs:List Re}{o:Int}{s:List Int}:(Re.mk o s xs).size=sizeL xs+1:=by unfold Re.size;rfl
section
variable {Q:Value->PH->Prop}{n:Nat}{cl:CL}{h h0:PH}{S:Vw}{m:OM}{rows:Rws}{br a e b b1 b2:Nat}{t:ByteArray}
def Ih(n:Nat)(cl:CL)(t:ByteArray)(br:Nat)(h0:PH)(d:Nat):Prop:=d<20-> ∀{S:Vw}{h:PH}{rows:Rws}{a b:Nat},a<=t.size->Sl h0 h S (RM br t a 0 b) rows->Ret (cl 55 [pt br,.int .i64 ((d+1:Nat):Int)] h) (PR S t br h0 rows a (t.size+22-(d+1)) 0 2)
theorem end82(ht:t.size<=200){a0 lim k b1:Nat}{S0:Vw}{v:Value}{cells:List Value}{ex:Rws}{xs:List Re}(le:VwN h0 S0 S)(hk:k<=300)(st:Sl h0 h S (RM br t a e b) (ex++(b1,.row .own 1 z6)::rows))(g:Ga v k cells ex)(hx:xs.length=k)(hc:KidsC S xs cells)(hwf:wfL xs)
  (h3:a0<=a) (h4:a<=lim) (h5:e=0->a<=t.size) (h6:sizeL xs<=3*(a-a0)+EE e):Ret (F82_5 n cl v (pt b1) h) (PR S0 t br h0 rows a0 lim 0 1):=by
 have hlen:=g.len;simp only[F82_5,hlen,vb_some,vN_eq,xEq_i];obtain⟨S',le',st',hv⟩:=g.kids st hx (by omega) hc;have st':Sl h0 h S' (RM br t a e b) ([]++(b1,.row .own 1 z6)::rows):=st'
 by_cases hk0:k=0
 ·have d:decide (((k:Nat):Int)=((0:Nat):Int))=true:=by simp[hk0]
  simp only[d,bite_t,F82_1,ab57n,vb_some];refine Ret.put6x st' rfl noneE fun h8 st8=>?_;exact⟨S',a,e,b,_,_,le.trans le',st8,rfl,noneE,wf_none,h3,h4,fun h=>⟨h5 h,h3⟩,by rw[size_leaf];omega⟩
 have d:decide (((k:Nat):Int)=((0:Nat):Int))=false:=by simp[hk0]
 simp only[d,bite_f,F82_4,vN_eq,xEq_i,vb_some]
 by_cases hk1:k=1
 ·have d1:decide (((k:Nat):Int)=((1:Nat):Int))=true:=by simp[hk1]
  obtain⟨x,rfl⟩: ∃x,xs=[x]:=by
   match xs,hx.trans hk1 with
   | [x],_=>exact⟨x,rfl⟩
  obtain⟨p,es,e1,e2,e3⟩:=hv.only st';simp only[d1,bite_t,F82_2,vN_eq,e1,e2,vb_some];refine Ret.put6x st' rfl e3 fun h8 st8=>?_;refine⟨S',a,e,b,x,es,le.trans le',st8,rfl,e3,hwf.one,h3,h4,fun h=>⟨h5 h,h3⟩,?_⟩;simp[sizeL]at h6;omega
 ·have d1:decide (((k:Nat):Int)=((1:Nat):Int))=false:=by simp;omega
  obtain⟨b',n',c',rfl⟩:=g.shape (by omega);simp only[d1,bite_f,F82_3,vN_eq];refine Ret.vb ab57' ?_;have he:ReE S' (.mk ((2:Nat):Int) zs4 xs) [.int .i64 ((2:Nat):Int),.int .u64 0,.int .u64 0,.int .u64 0,.int .u64 0,.slice (some ⟨b',0,none⟩) n' c']:=ReE_mk.2 ⟨_,rfl,rfl,hv⟩;refine Ret.put6x st' rfl he fun h8 st8=>?_;exact⟨S',a,e,b,_,_,le.trans le',st8,rfl,he,wf_many hwf (.inl rfl) (by omega),h3,h4,fun h=>⟨h5 h,h3⟩,by rw[size_many];omega⟩
theorem loop82(ht:t.size<=200)(hn:4611686018427387904<=n){d:Nat}(hd:d<=20)(ih0:Ih n cl t br h0 d){a0 b1:Nat}{S0:Vw}(ha0:a0<=t.size):
  ∀(k q a e b c:Nat)(S:Vw)(h:PH)(v:Value)(cells:List Value)(ex:Rws)(xs:List Re),(e=0->t.size-a+1<=k)->k<q->VwN h0 S0 S->Ga v c cells ex->xs.length=c->KidsC S xs cells->wfL xs->a0<=a->a<=t.size+22-d->(e=0->a<=t.size)->sizeL xs<=3*(a-a0)+EE e->c<=(a-a0)+EE e->
   Sl h0 h S (RM br t a e b) (ex++(b1,.row .own 1 z6)::rows)->
  Ret (lp q (F82_7 n cl) [pt br,.int .i64 (d:Nat),pt b1,v] h) (PR S0 t br h0 rows a0 (t.size+22-d) 0 1):=by
 intro k
 induction k with
 |zero=>
  intro q a e b c S h v cells ex xs h1 h2 le g hx hc hwf h3 h4 h5 h6 h7 st;obtain⟨q,rfl⟩: ∃r,q=r+1:=⟨q-1,by omega⟩;have hz:e≠0:=fun h=>by have:=h1 h;omega
  rw[lp_succ];have l2:xLd (.pointer (some ⟨br,2,none⟩)) h=some (.int .i64 (e:Nat)):=st.ldB RM_at rfl;have dd:decide (((e:Nat):Int)=((0:Nat):Int))=false:=by simp[hz]
  have fin:=end82 (n:=n) (cl:=cl) ht le (by have:=EE_le e;omega) st g hx hc hwf h3 h4 h5 h6;simp only[F82_7,F82_6,ucons_cons,xNil_p,xFld_p,Nat.zero_add,vb_some,l2,vN_eq,xEq_i,dd];simpa[gd_some']using fin
 |succ k ih=>
  intro q a e b c S h v cells ex xs h1 h2 le g hx hc hwf h3 h4 h5 h6 h7 st;obtain⟨q,rfl⟩: ∃r,q=r+1:=⟨q-1,by omega⟩;rw[lp_succ];generalize hL:lp q (F82_7 n cl)=LL;have l2:xLd (.pointer (some ⟨br,2,none⟩)) h=some (.int .i64 (e:Nat)):=st.ldB RM_at rfl;have fin:=end82 (n:=n) (cl:=cl) ht le (by have:=EE_le e;omega) st g hx hc hwf h3 h4 h5 h6
  by_cases hz:e=0
  ·have dd:decide (((e:Nat):Int)=((0:Nat):Int))=true:=by simp[hz]
   have:=st.ok;have hov:=c56 (n:=n) (cl:=cl) (h:=h.fzn) st.rd;obtain⟨y1,p1,q1⟩:=c83 (n:=n) (cl:=cl) (h:=h.fzn) st.rd (c:=.ofNat 124);obtain⟨y2,p2,q2⟩:=c83 (n:=n) (cl:=cl) (h:=h.fzn) st.rd (c:=.ofNat 41);have p1':pcall (F83 n cl (pt br) (.int .u8 124) h.fzn)=some (.bool y1):=p1;have p2':pcall (F83 n cl (pt br) (.int .u8 41) h.fzn)=some (.bool y2):=p2;have go:a<t.size->Ret (F82_0 n cl (pt br) (.int .i64 (d:Nat)) v LL (pt b1) h) (PR S0 t br h0 rows a0 (t.size+22-d) 0 1):=by
    intro hlt;subst hz;simp only[F82_0];refine Ret.hb (c102 ht hn hd hlt ih0 st) fun v' h4' ⟨S4,a4,e4,b4,x,es,le4,st4,hv,he,hw4,h41,h42,h43,h44⟩=>?_;subst hv;have hcl:c<=1000:=by have:=EE_le 0;omega
    refine Ret.gappA st4 g (bsRe he) he.len he.one hcl fun h5' v5 ex5 st5 g5=>?_;rw[<-hL];have hE4:=EE_le e4;have hE0:EE 0=0:=EE_0;refine ih q a4 e4 b4 (c+1) S4 h5' v5 _ ex5 (xs++[x]) (fun h=>by have:=h1 rfl;have:=h43 h;omega) (by omega) (le.trans le4) g5 (by simp[hx]) (KidsC.snoc' he (KidsC.mono le4.1 hc) (by rw[g.length,hx])) (wfL_snoc hw4 _ hwf) (by omega) (by omega) (fun h=>(h43 h).1) (by rw[sizeL_snoc'];omega) ?_ st5
    by_cases hz4:e4=0
    ·have:=(h43 hz4).2;omega
    ·rw[EE_1 hz4];omega
   simp only[F82_7,F82_6,ucons_cons,xNil_p,xFld_p,Nat.zero_add,vb_some,l2,vN_eq,xEq_i,dd,isB_t,gd_true,hov,xNot_b,xPick_t]
   by_cases hsz:t.size<=a
   ·have d2:decide (t.size<=a)=true:=by simp[hsz]
    simp only[d2];simpa[gd_some']using fin
   ·have d2:decide (t.size<=a)=false:=by simp;omega
    have go:=go (by omega);simp only[d2];cases y1 with
    |true=>simpa[gd_some',p1']using fin
    |false=>
     cases y2 with
     |true=>simpa[gd_some',p1',p2']using fin
     |false=>simpa[gd_some',p1',p2']using go
  ·have dd:decide (((e:Nat):Int)=((0:Nat):Int))=false:=by simp[hz]
   simp only[F82_7,F82_6,ucons_cons,xNil_p,xFld_p,Nat.zero_add,vb_some,l2,vN_eq,xEq_i,dd];simpa[gd_some']using fin
theorem c82(ht:t.size<=200)(hn:4611686018427387904<=n){d:Nat}(hd:d<=20)(ih0:Ih n cl t br h0 d)(ha:a<=t.size)(st:Sl h0 h S (RM br t a 0 b) rows):Ret (F82 n cl (pt br) (.int .i64 (d:Nat)) h) (PR S t br h0 rows a (t.size+22-d) 0 1):=by
 unfold F82;refine Ret.lalloc st zc57 fun h1 b1 st1=>?_;exact loop82 ht hn hd ih0 ha (t.size+1) n a 0 b 0 S h1 nils [] [] [] (fun _=>by omega) (by omega) VwN.refl Ga.nil rfl (by simp[KidsC]) (by simp[wfL]) (Nat.le_refl _) (by omega) (fun _=>ha) (by simp[sizeL]) (by omega) st1
end
section
variable {Q:Value->PH->Prop}{n:Nat}{cl:CL}{h h0:PH}{S:Vw}{m:OM}{rows:Rws}{br a e b b1 b2:Nat}{t:ByteArray}
theorem end55(ht:t.size<=200){a0 lim k b1:Nat}{S0:Vw}{v:Value}{cells:List Value}{ex:Rws}{xs:List Re}(le:VwN h0 S0 S)(hk:k<=300)(hk0:0<k)(st:Sl h0 h S (RM br t a e b) (ex++(b1,.row .own 1 z6)::rows))(g:Ga v k cells ex)(hx:xs.length=k)(hc:KidsC S xs cells)(hwf:wfL xs)
  (h3:a0<=a) (h4:a<=lim) (h5:e=0->a<=t.size) (h6:sizeL xs+2*k<=3*(a-a0)+3+EE e):Ret (F55_3 n cl v (pt b1) h) (PR S0 t br h0 rows a0 lim 0 2):=by
 have hlen:=g.len;simp only[F55_3,hlen,vb_some,vN_eq,xEq_i];obtain⟨S',le',st',hv⟩:=g.kids st hx (by omega) hc;have st':Sl h0 h S' (RM br t a e b) ([]++(b1,.row .own 1 z6)::rows):=st'
 by_cases hk1:k=1
 ·have d1:decide (((k:Nat):Int)=((1:Nat):Int))=true:=by simp[hk1]
  obtain⟨x,rfl⟩: ∃x,xs=[x]:=by
   match xs,hx.trans hk1 with
   | [x],_=>exact⟨x,rfl⟩
  obtain⟨p,es,e1,e2,e3⟩:=hv.only st';simp only[d1,bite_t,F55_1,vN_eq,e1,e2,vb_some];refine Ret.put6x st' rfl e3 fun h8 st8=>?_;refine⟨S',a,e,b,x,es,le.trans le',st8,rfl,e3,hwf.one,h3,h4,fun h=>⟨h5 h,h3⟩,?_⟩;simp[sizeL]at h6;omega
 ·have d1:decide (((k:Nat):Int)=((1:Nat):Int))=false:=by simp;omega
  obtain⟨b',n',c',rfl⟩:=g.shape hk0;simp only[d1,bite_f,F55_2,vN_eq];refine Ret.vb ab57' ?_;have he:ReE S' (.mk ((3:Nat):Int) zs4 xs) [.int .i64 ((3:Nat):Int),.int .u64 0,.int .u64 0,.int .u64 0,.int .u64 0,.slice (some ⟨b',0,none⟩) n' c']:=ReE_mk.2 ⟨_,rfl,rfl,hv⟩;refine Ret.put6x st' rfl he fun h8 st8=>?_;exact⟨S',a,e,b,_,_,le.trans le',st8,rfl,he,wf_many hwf (.inr rfl) (by omega),h3,h4,fun h=>⟨h5 h,h3⟩,by rw[size_many];omega⟩
theorem loop55(ht:t.size<=200)(hn:4611686018427387904<=n){d:Nat}(hd:d<=20)(ih0:Ih n cl t br h0 d){a0 b1:Nat}{S0:Vw}(ha0:a0<=t.size):
  ∀(k q a e b c:Nat)(S:Vw)(h:PH)(v:Value)(cells:List Value)(ex:Rws)(xs:List Re),(e=0->t.size-a+1<=k)->k<q->VwN h0 S0 S->0<c->Ga v c cells ex->xs.length=c->KidsC S xs cells->wfL xs->a0<=a->a<=t.size+22-d->(e=0->a<=t.size)->sizeL xs+2*c<=3*(a-a0)+3+EE e->c<=(a-a0)+1->
   Sl h0 h S (RM br t a e b) (ex++(b1,.row .own 1 z6)::rows)->
  Ret (lp q (F55_5 n cl) [pt br,.int .i64 (d:Nat),pt b1,v] h) (PR S0 t br h0 rows a0 (t.size+22-d) 0 2):=by
 intro k
 induction k with
 |zero=>
  intro q a e b c S h v cells ex xs h1 h2 le hc0 g hx hc hwf h3 h4 h5 h6 h7 st;obtain⟨q,rfl⟩: ∃r,q=r+1:=⟨q-1,by omega⟩;have hz:e≠0:=fun h=>by have:=h1 h;omega
  rw[lp_succ];have l2:xLd (.pointer (some ⟨br,2,none⟩)) h=some (.int .i64 (e:Nat)):=st.ldB RM_at rfl;have dd:decide (((e:Nat):Int)=((0:Nat):Int))=false:=by simp[hz]
  have fin:=end55 (n:=n) (cl:=cl) ht le (by omega) hc0 st g hx hc hwf h3 h4 h5 h6;simp only[F55_5,F55_4,ucons_cons,xNil_p,xFld_p,Nat.zero_add,vb_some,l2,vN_eq,xEq_i,dd];simpa[gd_some']using fin
 |succ k ih=>
  intro q a e b c S h v cells ex xs h1 h2 le hc0 g hx hc hwf h3 h4 h5 h6 h7 st;obtain⟨q,rfl⟩: ∃r,q=r+1:=⟨q-1,by omega⟩;rw[lp_succ];generalize hL:lp q (F55_5 n cl)=LL;have l2:xLd (.pointer (some ⟨br,2,none⟩)) h=some (.int .i64 (e:Nat)):=st.ldB RM_at rfl;have l1:xLd (.pointer (some ⟨br,1,none⟩)) h=some (.int .i64 (a:Nat)):=st.ldB RM_at rfl;have fin:=end55 (n:=n) (cl:=cl) ht le (by omega) hc0 st g hx hc hwf h3 h4 h5 h6
  by_cases hz:e=0
  ·have dd:decide (((e:Nat):Int)=((0:Nat):Int))=true:=by simp[hz]
   have:=st.ok;obtain⟨y1,p1,q1⟩:=c83 (n:=n) (cl:=cl) (h:=h.fzn) st.rd (c:=.ofNat 124);simp only[F55_5,F55_4,ucons_cons,xNil_p,xFld_p,Nat.zero_add,vb_some,l2,vN_eq,xEq_i,dd,isB_t,gd_true,p1,xPick_t];cases y1 with
   |false=>simp only[bite_f];exact fin
   |true=>
    have hlt:=q1 rfl;subst hz;have hw:IntKind.i64.wrap ((a:Int)+((1:Nat):Int))=((a+1:Nat):Int):=by rw[wrap_in (by omega) (by omega)];omega
    simp only[bite_t,F55_0,xNil_p,xFld_p,Nat.zero_add,vb_some,l1,vN_eq,xAdd_i,hw];refine Ret.step st fun h2' st2=>?_;refine Ret.hb (c82 ht hn hd ih0 (by omega) st2) fun v' h4' ⟨S4,a4,e4,b4,x,es,le4,st4,hv,he,hw4,h41,h42,h43,h44⟩=>?_;subst hv;have hE0:EE 0=0:=EE_0;refine Ret.gappA st4 g (bsRe he) he.len he.one (by omega) fun h5' v5 ex5 st5 g5=>?_;rw[<-hL];exact ih q a4 e4 b4 (c+1) S4 h5' v5 _ ex5 (xs++[x]) (fun h=>by have:=h1 rfl;have:=h43 h;omega) (by omega) (le.trans le4) (by omega) g5 (by simp[hx]) (KidsC.snoc' he (KidsC.mono le4.1 hc) (by rw[g.length,hx])) (wfL_snoc hw4 _ hwf) (by omega) (by omega) (fun h=>(h43 h).1) (by rw[sizeL_snoc'];omega) (by omega) st5
  ·have dd:decide (((e:Nat):Int)=((0:Nat):Int))=false:=by simp[hz]
   simp only[F55_5,F55_4,ucons_cons,xNil_p,xFld_p,Nat.zero_add,vb_some,l2,vN_eq,xEq_i,dd];simpa[gd_some']using fin
theorem c55'(ht:t.size<=200)(hn:4611686018427387904<=n){d:Nat}(hd:d<=20)(ih0:Ih n cl t br h0 d)(ha:a<=t.size)(st:Sl h0 h S (RM br t a 0 b) rows):Ret (F55 n cl (pt br) (.int .i64 (d:Nat)) h) (PR S t br h0 rows a (t.size+22-d) 0 2):=by
 unfold F55;refine Ret.lalloc st zc57 fun h1 b1 st1=>?_;refine Ret.hb (c82 ht hn hd ih0 ha st1) fun v' h4' ⟨S4,a4,e4,b4,x,es,le4,st4,hv,he,hw4,h41,h42,h43,h44⟩=>?_;subst hv;refine Ret.lbs st4 (bsRe he) fun h5 b5 st5=>?_;have hl:=he.len;have hs1:sizeL [x]=x.size:=by simp[sizeL]
 have hkc:KidsC S4 [x] es:=by
  unfold KidsC;rw[List.take_of_length_le (by omega)];exact⟨he,by unfold KidsC;trivial⟩
 exact loop55 ht hn hd ih0 ha (t.size+1) n a4 e4 b4 1 S4 h5 _ es [(b5,.row .own 6 es)] [x] (fun h=>by have:=h43 h;omega) (by omega) le4 (by decide) (.inr ⟨rfl,b5,rfl,rfl,hl⟩) rfl hkc (by simp[wfL,hw4]) h41 h42 (fun h=>(h43 h).1) (by rw[hs1];omega) (by omega) st5
set_option maxRecDepth 100000 in
theorem CLV55{n d:Nat}{u v:Value}{h:PH}:CLV n (d+1) 55 [u,v] h=F55 n (CLV n d) u v h:=rfl
theorem c55(ht:t.size<=200)(hn:4611686018427387904<=n): ∀(f D d:Nat),d+f=20->f<=D-> ∀{S:Vw}{h:PH}{rows:Rws}{a b:Nat},a<=t.size->Sl h0 h S (RM br t a 0 b) rows->Ret (F55 n (CLV n D) (pt br) (.int .i64 (d:Nat)) h) (PR S t br h0 rows a (t.size+22-d) 0 2)
 |0,D,d,hf,hD=>fun ha st=>c55' ht hn (by omega) (fun q=>by omega) ha st
 |f+1,D,d,hf,hD=>fun ha st=>by
  obtain⟨D',rfl⟩: ∃D',D=D'+1:=⟨D-1,by omega⟩;refine c55' ht hn (by omega) (fun q=>?_) ha st;intro S h rows a b ha st;rw[CLV55];exact c55 ht hn f D' (d+1) (by omega) (by omega) ha st
theorem veq_i{k:IntKind}{x:Int}:veq (.int k x) (.int k x)=true:=by
 have h1:kb k k=true:=by cases k<;>rfl
 have h2:ieq x x=true:=by rw[ieq_eq];simp
 simp[veq,veq1,h1,h2]
end
theorem ab116{t:ByteArray}:abuild Try.prog 116 [(0,.string t)]=some (.agg ⟨[.string t,.int .i64 0,.int .i64 0,.int .i64 0]⟩):=by kernel_rfl
def ParseV(S:Vw)(t:ByteArray)(h0:PH)(m:OM)(rows:Rws)(v:Value)(h':PH):Prop:=
 ∃S' x es p e,VwN h0 S S'/\Sl h0 h' S' m rows/\v= .tuple ⟨[.agg ⟨es⟩,.int .i64 p,.int .i64 ((e:Nat):Int)]⟩/\ReE S' x es/\x.wf/\x.size<=3*t.size+2/\(e=0->t.size<=200)
section
variable {Q:Value->PH->Prop}{n:Nat}{cl:CL}{h h0:PH}{S:Vw}{m:OM}{rows:Rws}{br a e b b1 b2:Nat}{t:ByteArray}
theorem end30(ht:t.size<=200){S0:Vw}{b1 b9:Nat}{x:Re}{es:List Value}(le:VwN h0 S0 S)(he:ReE S x es)(hwf:x.wf)(hsz:e=0->x.size<=3*t.size+2)
  (st:Sl h0 h S (RM br t a e b) ([(b9,.row .own 1 es)]++(b1,.row .own 1 z6)::rows)):Ret (F30_5 n cl [.string t,pt b1,pt br,pt b9] h) (ParseV S0 t h0 OM.emp rows):=by
 have l2:xLd (.pointer (some ⟨br,2,none⟩)) h=some (.int .i64 (e:Nat)):=st.ldB RM_at rfl;have l3:xLd (.pointer (some ⟨br,3,none⟩)) h=some (.int .i64 (b:Nat)):=st.ldB RM_at rfl;simp only[F30_5,ucons_cons,F30_3,xNil_p,xFld_p,Nat.zero_add,vb_some,l2,vN_eq,xNe_i];have hE:OM.le OM.emp (RM br t a e b):=fun b o hb=>by cases hb
 by_cases hz:e=0
 ·have dd:(!decide (((e:Nat):Int)=((0:Nat):Int)))=false:=by simp[hz]
  have hl:=he.len;have la:xLdA 6 (pt b9) h=some (.agg ⟨es⟩):=st.ldA (.head _) (by rw[List.drop_zero, <-hl,List.take_length]) (by omega);simp only[dd,bite_f,F30_2,la,xLenT_s,vb_some,vN_eq];have st1:=st.perm (rows':=(b1,.row .own 1 z6)::([(b9,.row .own 1 es)]++rows)) List.perm_middle;refine Ret.lstA st1 0 rfl rfl he.len (by simp[z6]) he.one fun h3 st3=>?_;rw[setsL_all (by rw[he.len];rfl)]at st3;have st3:Sl h0 h3 S (RM br t a e b) ((b1,.row .own 1 es)::([(b9,.row .own 1 es)]++rows)):=st3;have lb:xLdA 6 (pt b1) h3=some (.agg ⟨es⟩):=st3.ldA (.head _) (by rw[List.drop_zero, <-hl,List.take_length]) (by omega);simp only[lb,vb_some];exact Ret.of ⟨S,x,es,_,0,le,(st3.drop ((List.sublist_append_right _ _).trans (List.sublist_cons_self _ _))).weakM hE,rfl,he,hwf,hsz hz,fun _=>ht⟩
 ·have dd:(!decide (((e:Nat):Int)=((0:Nat):Int)))=true:=by simp[hz]
  simp only[dd,bite_t,F30_1,ab57n,vb_some,xNil_p,xFld_p,Nat.zero_add,l2,l3];have st1:=st.perm (rows':=(b1,.row .own 1 z6)::([(b9,.row .own 1 es)]++rows)) List.perm_middle;refine Ret.lstA st1 0 rfl rfl (by rfl) (by simp[z6]) (by rfl) fun h3 st3=>?_;rw[setsL_all (by rfl)]at st3;have st3:Sl h0 h3 S (RM br t a e b) ((b1,.row .own 1 z6)::([(b9,.row .own 1 es)]++rows)):=st3;have l2':xLd (.pointer (some ⟨br,2,none⟩)) h3=some (.int .i64 (e:Nat)):=st3.ldB RM_at rfl;have l3':xLd (.pointer (some ⟨br,3,none⟩)) h3=some (.int .i64 (b:Nat)):=st3.ldB RM_at rfl;have lb:xLdA 6 (pt b1) h3=some (.agg ⟨z6⟩):=st3.ldA (.head _) rfl (by simp[z6]);simp only[l2',l3',lchk_t veq_i,lb,vb_some];exact Ret.of ⟨S,.mk 0 zs4 [],z6,_,e,le,(st3.drop ((List.sublist_append_right _ _).trans (List.sublist_cons_self _ _))).weakM hE,rfl,noneE,wf_none,by rw[size_leaf];omega,fun h=>absurd h hz⟩
theorem c30(hn:4611686018427387904<=n){D:Nat}(hD:20<=D)(h55: ∀u v h,cl 55 [u,v] h=CLV n (D+1) 55 [u,v] h)(hmx:t.size<9223372036854775808)(st:Sl h0 h S OM.emp rows):Ret (F30 n cl (.string t) h) (ParseV S t h0 OM.emp rows):=by
 unfold F30;refine Ret.lalloc st zc57 fun h1 b1 st1=>?_;have st1:Sl h0 h1 S OM.emp ([]++(b1,.row .own 1 z6)::rows):=st1;simp only[xLenT_s,vb_some,vN_eq,xGt_i]
 by_cases hl:200<t.size
 ·have d:decide (((200:Nat):Int)<((t.size:Nat):Int))=true:=by simp;omega
  simp only[d,bite_t,F30_0,ab57n,vb_some,vN_eq];have st1:Sl h0 h1 S OM.emp ((b1,.row .own 1 z6)::rows):=st1;refine Ret.lstA st1 0 rfl rfl (by rfl) (by simp[z6]) (by rfl) fun h3 st3=>?_;rw[setsL_all (by rfl)]at st3;have st3:Sl h0 h3 S OM.emp ((b1,.row .own 1 z6)::rows):=st3;have lb:xLdA 6 (pt b1) h3=some (.agg ⟨z6⟩):=st3.ldA (.head _) rfl (by simp[z6]);simp only[lb,vb_some];exact Ret.of ⟨S,.mk 0 zs4 [],z6,_,3,VwN.refl,st3.drop (List.sublist_cons_self _ _),rfl,noneE,wf_none,by rw[size_leaf];omega,fun h=>by omega⟩
 ·have d:decide (((200:Nat):Int)<((t.size:Nat):Int))=false:=by simp;omega
  simp only[d,bite_f,F30_7];refine Ret.vb ab116 ?_;refine Ret.lbox st1 fun h2 br st2=>?_;have st2:Sl h0 h2 S OM.emp ((br,rdr t 0 0 0)::(b1,.row .own 1 z6)::rows):=st2;have st3:Sl h0 h2 S (RM br t 0 0 0) ((b1,.row .own 1 z6)::rows):=(st2.sink (i:=0) rfl).1;rw[vN_eq,h55,CLV55];refine Ret.hb (c55 (by omega) hn 20 D 0 (by omega) hD (Nat.zero_le _) st3) fun v h4 ⟨S4,a4,e4,b4,x,es,le4,st4,hv,he,hw4,h41,h42,h43,h44⟩=>?_;subst hv;refine Ret.lalloc st4 zc57 fun h5 b9 st5=>?_;refine Ret.lstA st5 0 rfl rfl he.len (by simp) he.one fun h6 st6=>?_;rw[setsL_all (by rw[he.len];rfl)]at st6;have st6:Sl h0 h6 S4 (RM br t a4 e4 b4) ([(b9,.row .own 1 es)]++(b1,.row .own 1 z6)::rows):=st6;have hsz:e4=0->x.size<=3*t.size+2:=fun h=>by
   have:=h43 h;rw[h,EE_0]at h44;omega
  have l2:xLd (.pointer (some ⟨br,2,none⟩)) h6=some (.int .i64 (e4:Nat)):=st6.ldB RM_at rfl;have l1:xLd (.pointer (some ⟨br,1,none⟩)) h6=some (.int .i64 (a4:Nat)):=st6.ldB RM_at rfl;have fin:=end30 (n:=n) (cl:=cl) (by omega) le4 he hw4 hsz st6;simp only[jn_eq,F30_6,xNil_p,xFld_p,Nat.zero_add,vb_some,l2,vN_eq,xEq_i]
  by_cases hz:e4=0
  ·have dd:decide (((e4:Nat):Int)=((0:Nat):Int))=true:=by simp[hz]
   have:=st6.ok;have hov:=c56 (n:=n) (cl:=cl) (h:=h6.fzn) st6.rd;simp only[dd,isB_t,gd_true,vb_some,hov,xNot_b,xPick_t]
   by_cases hsz':t.size<=a4
   ·have d2:decide (t.size<=a4)=true:=by simp[hsz']
    simp only[d2,Bool.not_true,bite_f];exact fin
   ·have d2:decide (t.size<=a4)=false:=by simp;omega
    simp only[d2,Bool.not_false,bite_t,F30_4,xNil_p,xFld_p,Nat.zero_add,vb_some,l1,vN_eq];refine Ret.hb (c57 st6 (by decide)) fun v h7 ⟨e7,b7,he7,st7⟩=>?_;exact end30 (by omega) le4 he hw4 (fun h=>absurd h he7) st7
  ·have dd:decide (((e4:Nat):Int)=((0:Nat):Int))=false:=by simp[hz]
   simp only[dd];simpa[gd_some']using fin
end
end Go.Am
