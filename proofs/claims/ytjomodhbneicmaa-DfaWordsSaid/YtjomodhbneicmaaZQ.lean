import Derived.Test.YtjomodhbneicmaaZH
set_option linter.unusedSimpArgs false
set_option linter.unusedVariables false
namespace Go.Am
open Go Go.RowKit Go.Proofs
def rdr(t:ByteArray)(a e b:Nat):AObj:=.row .own 1 [.string t,.int .i64 (a:Nat),.int .i64 (e:Nat),.int .i64 (b:Nat)]
def RM(br:Nat)(t:ByteArray)(a e b:Nat):OM:=OM.emp.upd br (rdr t a e b)
theorem RM_at{br:Nat}{t:ByteArray}{a e b:Nat}:RM br t a e b br=some (rdr t a e b):=OM.upd_self
theorem xLenT_s{t:ByteArray}:xLenT (.string t)=some (.int .i64 (t.size:Nat)):=by
 simp[xLenT,seqN_eq]
theorem xBit_ex{k:IntKind}{f:Nat->Nat->Nat}{x y:Int}:xBit f (.int k x) (.int k y)=some (.int k (k.wrap (f (bitN k x) (bitN k y):Nat))):=by
 have:kb k k=true:=by cases k<;>rfl
 simp only[xBit,this,mkI_eq,wr_eq];rfl
theorem xShl_ex{k k':IntKind}{x:Int}{s:Nat}(h:s<=k.bits):xShl (.int k x) (.int k' (s:Nat))=some (.int k (k.wrap (Int.mul x (.ofNat (Nat.pow 2 s))))):=by
 show(match Nat.ble s k.bits with|true=>mkI k (wr k (Int.mul x (.ofNat (Nat.pow 2 s))))|false=>none)=_
 rw[ble_t' h,mkI_eq,wr_eq]
theorem xShr_ex{k k':IntKind}{x s:Nat}(h:s<=k.bits):xShr (.int k (x:Nat)) (.int k' (s:Nat))=some (Value.int k ((x / 2 ^ s:Nat):Int)):=by
 show(match Nat.ble s k.bits with|true=>(match shN (.ofNat x) s with|some q=>some (Value.int k q)|none=>none)|false=>none)=_
 rw[ble_t' h]
 show(match seqN (Nat.shiftRight x s) fun q=>some (Int.ofNat q)with|some q=>some (Value.int k q)|none=>none)=_
 rw[seqN_eq]
 show some (Value.int k (Int.ofNat (x>>>s)))=_
 rw[Nat.shiftRight_eq_div_pow];rfl
section
variable {n:Nat}{cl:CL}{h h0:PH}{S:Vw}{m:OM}{rows:Rws}{br a e b:Nat}{t:ByteArray}
theorem Sl.rd(st:Sl h0 h S (RM br t a e b) rows):h.fzn.cells br=some [.string t,.int .i64 (a:Nat),.int .i64 (e:Nat),.int .i64 (b:Nat)]:=
 st.fz br _ (vall_m (st.base RM_at))
theorem c56[OkH h](hr:h.cells br=some [.string t,.int .i64 (a:Nat),.int .i64 (e:Nat),.int .i64 (b:Nat)]):pcall (F56 n cl (.pointer (some ⟨br,0,none⟩)) h)=some (.bool (decide (t.size<=a))):=by
 refine pcall_fr (h:=h) (S:=h.cells) ?_ rfl;unfold Fr F56;have st:=Sl.start h (S:=h.cells) (Vw.le.refl _);have l1:xLd (.pointer (some ⟨br,1,none⟩)) h=some (.int .i64 (a:Nat)):=st.ldS hr rfl;have l0:xLd (.pointer (some ⟨br,0,none⟩)) h=some (.string t):=st.ldS hr rfl;simp only[xNil_p,xFld_p,Nat.zero_add,vb_some,l1,l0,xLenT_s];have hc:xCmp (fun x y=>ile y x) (.int .i64 (a:Nat)) (.int .i64 (t.size:Nat))=some (.bool (decide (t.size<=a))):=by
  rw[xGe_i];congr 2;simp
 rw[hc];exact Fr.ret st rfl
theorem Ret.step{Q:Value->PH->Prop}{K2:Value->PH->R}(st:Sl h0 h S (RM br t a e b) rows){a':Nat}(hk: ∀h',Sl h0 h' S (RM br t a' e b) rows->Ret (K2 undef h') Q):Ret (Go.Am.hb (xSt1 (.pointer (some ⟨br,1,none⟩)) (.int .i64 (a':Nat)) h) K2) Q:=by
 refine Ret.lst1B st RM_at rfl (by simp) rfl fun h1 st1=>?_;rw[RM,OM.upd_upd]at st1;exact hk h1 st1
end
theorem zc54':zcells Try.prog 54=some [.int .u64 0,.int .u64 0,.int .u64 0,.int .u64 0]:=by kernel_rfl
theorem wr8{x:Nat}(h:x<256):IntKind.u8.wrap (x:Int)=(x:Nat):=by
 simp[IntKind.wrap,IntKind.signed,IntKind.bits];omega
theorem wr64u{x:Nat}(h:x<18446744073709551616):IntKind.u64.wrap (x:Int)=(x:Nat):=by
 simp[IntKind.wrap,IntKind.signed,IntKind.bits];omega
theorem xConvI_i'{k k':IntKind}{x:Int}:xConvI k (.int k' x)=some (.int k (k.wrap x)):=by simp only[xConvI,mkI_eq,wr_eq]
theorem xIdxA_at'{m sz b o j:Nat}{k:IntKind}(h:j<m):xIdxA m sz (.pointer (some ⟨b,o,none⟩)) (.int k j)=some (.pointer (some ⟨b,o+j*sz,none⟩)):=by
 show grd (Nat.blt j m) (addrK b (o+j*sz))=_
 have:Nat.blt j m=true:=Nat.ble_eq_true_of_le h;rw[this,addrK_eq];rfl
theorem orS{b:Bool}{k:IntKind}{x y:Int}{K:Value->R}:(vb (gd (isB false (.bool b)) (some (.int k x))) fun v2=>vb (gd (isB false (.bool b)) (xCmp ieq v2 (.int k y))) fun v3=>vb (xPick (.bool b) tt v3) K)=K (.bool (b||decide (x=y))):=by
 cases b<;>simp[gd_some']
theorem xBit63{c:Nat}(hc:c<256):xBit Nat.land (.int .u8 (c:Nat)) (.int .u8 (.ofNat 63))=some (.int .u8 ((c % 64:Nat):Int)):=by
 have e1:bitN .u8 (c:Nat)=c:=by
  rw[bitN_eq]
  show(BitVec.ofInt 8 (c:Nat)).toNat=c
  rw[BitVec.toNat_ofInt];omega
 have e2:bitN .u8 (.ofNat 63)=63:=by rfl
 have e3: ∀x:Nat,Nat.land x 63=x % 64:=fun x=>Nat.and_two_pow_sub_one_eq_mod x 6;rw[xBit_ex,e1,e2,e3,wr8 (by omega)]
theorem plain_u64s{s:List Int}:plainV (.agg ⟨u64s s⟩)=true:=by
 show plainV.plainVs (u64s s)=true
 induction s with
 |nil=>rfl
 |cons x s ih=>exact ih
section
variable {n:Nat}{cl:CL}{h h0:PH}{S:Vw}{m:OM}{rows:Rws}
theorem ab57s{s:List Int}(hs:s.length=4):abuild Try.prog 57 [(0,.int .i64 ((1:Nat):Int)),(1,.agg ⟨u64s s⟩)]=some (.agg ⟨.int .i64 ((1:Nat):Int)::(u64s s++[nils])⟩):=by
 obtain⟨s0,s1,s2,s3,rfl⟩: ∃a b c d,s=[a,b,c,d]:=by
  match s,hs with
  | [a,b,c,d],_=>exact⟨a,b,c,d,rfl⟩
 kernel_rfl
theorem leafS{V:Vw}{s:List Int}(hs:s.length=4):ReE V (.mk 1 s []) (.int .i64 ((1:Nat):Int)::(u64s s++[nils])):=
 ReE_mk.2 ⟨nils,rfl,hs,.inl ⟨rfl,none,0,rfl,CapOk.self (by omega),rfl⟩⟩
end
section
variable {Q:Value->PH->Prop}{n:Nat}{cl:CL}{h h0:PH}{S:Vw}{m:OM}{rows:Rws}{br a e b b1 b2:Nat}{t:ByteArray}
abbrev pt(b:Nat):Value:=.pointer (some ⟨b,0,none⟩)
def z6:List Value:=[.int .i64 0,.int .u64 0,.int .u64 0,.int .u64 0,.int .u64 0,nils]
def SetV(S:Vw)(t:ByteArray)(br:Nat)(h0:PH)(rows:Rws)(a:Nat)(v:Value)(h':PH):Prop:=
 ∃a' e' b' s,s.length=4/\Sl h0 h' S (RM br t a' e' b') rows/\v= .agg ⟨.int .i64 ((1:Nat):Int)::(u64s s++[nils])⟩/\a<=a'/\a'<=t.size+1/\(e'=0->a'<=t.size)
end
section
variable {Q:Value->PH->Prop}{n:Nat}{cl:CL}{h h0:PH}{S:Vw}{m:OM}{rows:Rws}{br a e b b1 b2:Nat}{t:ByteArray}
end
section
variable {Q:Value->PH->Prop}{n:Nat}{cl:CL}{h h0:PH}{S:Vw}{m:OM}{rows:Rws}{br a e b b1 b2:Nat}{t:ByteArray}
end
mutual
def Re.wf:Re->Prop
 | .mk op _ ks=>wfL ks/\(((op=0\/op=1)/\ks=[])\/((op=2\/op=3)/\2<=ks.length)\/((4<=op/\op<=6)/\ks.length=1))
def wfL:List Re->Prop
 | []=>True
 |k::ks=>k.wf/\wfL ks
end
def EE(e:Nat):Nat:=if e=0 then 0 else 1
theorem EE_0:EE 0=0:=rfl
def VwN(h0:PH)(S S':Vw):Prop:=Vw.le S S'/\ ∀b cs,S' b=some cs->S b=some cs\/h0.n<=b
theorem VwN.refl{h0:PH}{S:Vw}:VwN h0 S S:=⟨Vw.le.refl _,fun _ _ h=>.inl h⟩
theorem VwN.trans{h0:PH}{S T U:Vw}(a:VwN h0 S T)(b:VwN h0 T U):VwN h0 S U:=⟨a.1.trans b.1,fun x cs h=>by
 rcases b.2 x cs h with h|h
 ·exact a.2 x cs h
 ·exact .inr h⟩
theorem VwN.put{h0:PH}{S:Vw}{b:Nat}{cs:List Value}(h:S b=none)(hb:h0.n<=b):VwN h0 S (S.put b cs):=⟨Vw.le_put h,fun x ys hx=>by
 unfold Vw.put at hx
 split at hx
 ·rename_i e;rw[e];exact .inr hb
 ·exact .inl hx⟩
theorem Gl.settleV{h0 h:PH}{S:Vw}{m:OM}{rows ex:Rws}{sz k:Nat}{v:Value}{cells:List Value}(s:Sl h0 h S m (ex++rows))(g:Gl sz v k cells ex): ∃S',VwN h0 S S'/\Sl h0 h S' m rows/\SlC S' sz v k cells:=by
 rcases g.h with⟨rfl,rfl,rfl,rfl⟩|⟨b,o,cap,all,rfl,rfl,rfl,h2,_⟩
 ·exact⟨S,VwN.refl,s,.inl ⟨rfl,rfl,rfl⟩⟩
 ·have hn:=(s.sm.own b _ (s.mem (.head _))).2;obtain⟨s1,hS⟩:=s.settle (i:=0) rfl;exact⟨_,VwN.put hS hn,s1,.inr ⟨b,o,cap,all,rfl,Vw.put_self,h2,rfl⟩⟩
def PR(S:Vw)(t:ByteArray)(br:Nat)(h0:PH)(rows:Rws)(a lim p k:Nat)(v:Value)(h':PH):Prop:=
 ∃S' a' e' b' x es,VwN h0 S S'/\Sl h0 h' S' (RM br t a' e' b') rows/\v= .agg ⟨es⟩/\ReE S' x es/\x.wf/\a<=a'/\a'<=lim/\(e'=0->a'<=t.size/\a+p<=a')/\x.size<=3*(a'-a)+k+EE e'
section
variable {Q:Value->PH->Prop}{n:Nat}{cl:CL}{h h0:PH}{S:Vw}{m:OM}{rows:Rws}{br a e b b1 b2:Nat}{t:ByteArray}
theorem Ret.put6{pre:Rws}{cs es:List Value}(st:Sl h0 h S m (pre++(b1,.row .own 1 cs)::rows))(hcs:cs.length=6)(he:es.length=6)(hone:oneCells es=true)(hk: ∀h',Sl h0 h' S m rows->Q (.agg ⟨es⟩) h'):
  Ret (Go.Am.hb (xStA 6 (pt b1) (.agg ⟨es⟩) h) fun _ h=>Go.Am.vb (xLdA 6 (pt b1) h) fun v=>some (v,h)) Q:=by
 have st1:=st.perm (rows':=(b1,.row .own 1 cs)::(pre++rows)) List.perm_middle;refine Ret.lstA st1 0 rfl rfl he (by omega) hone fun h3 st3=>?_;rw[setsL_all (by omega)]at st3;have st3:Sl h0 h3 S m ((b1,.row .own 1 es)::(pre++rows)):=st3;have lb:xLdA 6 (pt b1) h3=some (.agg ⟨es⟩):=st3.ldA (.head _) (by rw[List.drop_zero, <-he,List.take_length]) (by omega);simp only[lb,vb_some];exact Ret.of (hk h3 (st3.drop ((List.sublist_append_right _ _).trans (List.sublist_cons_self _ _))))
theorem Ret.put6x{pre:Rws}{cs es:List Value}{x:Re}(st:Sl h0 h S m (pre++(b1,.row .own 1 cs)::rows))(hcs:cs.length=6)(he:ReE S x es)(hk: ∀h',Sl h0 h' S m rows->Q (.agg ⟨es⟩) h'):
  Ret (Go.Am.hb (xStA 6 (pt b1) (.agg ⟨es⟩) h) fun _ h=>Go.Am.vb (xLdA 6 (pt b1) h) fun v=>some (v,h)) Q:=Ret.put6 st hcs he.len he.one hk
end
theorem bsRe{V:Vw}{x:Re}{es:List Value}(he:ReE V x es):bsRow Try.prog 55 1 [(0,.agg ⟨es⟩)]=some (6,es):=by
 cases x with
 |mk op s ks=>
  obtain⟨kv,rfl,hs,hk⟩:=ReE_mk.1 he;obtain⟨s0,s1,s2,s3,rfl⟩: ∃a b c d,s=[a,b,c,d]:=by
   match s,hs with
   | [a,b,c,d],_=>exact⟨a,b,c,d,rfl⟩
  exact bs57 hk.one
theorem Ret.out{X:R}{P:Value->PH->Prop}(H:Ret (Go.Am.hb X fun v h=>some (v,h)) P): ∃v h,X=some (v,h)/\P v h:=by
 cases hX:X with
 |none=>rw[hX]at H;obtain⟨v,h,e,_⟩:=H;cases e
 |some p=>
  obtain⟨v,h⟩:=p;rw[hX]at H;obtain⟨v',h',e,q⟩:=H;cases e;exact⟨v,h,rfl,q⟩
section
variable {Q:Value->PH->Prop}{n:Nat}{cl:CL}{h h0:PH}{S:Vw}{m:OM}{rows:Rws}{K2:Value->PH->R}
def Ga(v:Value)(k:Nat)(cells:List Value)(ex:Rws):Prop:=(Gl 6 v k cells ex/\Gc v)\/(k=1/\ ∃b,v= .slice (some ⟨b,0,none⟩) 1 1/\ex=[(b,.row .own 6 cells)]/\cells.length=6)
theorem Ga.nil:Ga nils 0 [] []:=.inl ⟨Gl.nil,.inl rfl⟩
theorem Ga.length{v:Value}{k:Nat}{cells:List Value}{ex:Rws}(g:Ga v k cells ex):cells.length=k*6:=by
 rcases g with⟨g,_⟩|⟨rfl,b,_,_,h⟩
 ·exact g.length
 ·omega
theorem Ga.len{v:Value}{k:Nat}{cells:List Value}{ex:Rws}(g:Ga v k cells ex):xLenS v=some (.int .i64 k):=by
 rcases g with⟨g,_⟩|⟨rfl,b,rfl,_,h⟩
 ·exact g.len
 ·simp
theorem Ga.shape{v:Value}{k:Nat}{cells:List Value}{ex:Rws}(g:Ga v k cells ex)(hk:0<k): ∃b n c,v= .slice (some ⟨b,0,none⟩) n c:=by
 rcases g with⟨g,gc⟩|⟨rfl,b,rfl,_,h⟩
 ·rcases gc with rfl|⟨b,k,rfl⟩
  ·rcases g.h with⟨rfl,_⟩|⟨b,o,cap,all,e,_⟩
   ·omega
   ·cases e
  ·exact⟨_,_,_,rfl⟩
 ·exact⟨_,_,_,rfl⟩
theorem Ret.gappA{ex:Rws}(s:Sl h0 h S m (ex++rows)){v:Value}{k:Nat}{cells new:List Value}{parts:List (Nat×Value)}(g:Ga v k cells ex)
  (hb:bsRow Try.prog 55 1 parts=some (6,new)) (hl:new.length=6) (hone:oneCells new=true) (hk1:k<=1000)
  (hk: ∀h' v' ex',Sl h0 h' S m (ex'++rows)->Ga v' (k+1) (cells++new) ex'->Ret (K2 v' h') Q):Ret (Go.Am.hb (xBS 1 (bsRow Try.prog 55 1 parts) h) fun v1 h=>Go.Am.hb (xApp (appInfo Try.prog #[55,55]) v v1 h) K2) Q:=by
 have hsz:(2*(k+1)+512)*64<=281474976710656:=by omega
 refine Ret.lbs s hb fun h1 b st=>?_;rcases g with⟨g,gc⟩|⟨rfl,b0,rfl,rfl,hcl⟩
 ·have st1:=st.perm (rows':=ex++(b,.row .own 6 new)::rows) List.perm_middle.symm;have hx:=st1.ptail (n:=1) (sz:=6) (c:=1) (b:=b) (List.mem_append_right _ (.head _)) (by rw[hl]);rw[ai55];have H:Ret (Go.Am.hb (xApp (some (6,64)) v (.slice (some ⟨b,0,none⟩) 1 1) h1) fun v h=>some (v,h)) fun v' h'=> ∃ex',Sl h0 h' S m (ex'++rows)/\Gl 6 v' (k+1) (cells++new) ex':=by
   refine Ret.lapp st1 g hx (by rw[hl]) (by omega) hone hsz fun h' v' ex' st' g'=>?_;exact Ret.of ⟨ex',st'.drop (List.Sublist.append (List.Sublist.refl _) (List.sublist_cons_self _ _)),g'⟩
  obtain⟨v',h',e,ex',st',g'⟩:=Ret.out H;rw[e];exact hk h' v' ex' st' (.inl ⟨g',xApp_gc gc e⟩)
 ·have st:Sl h0 h1 S m ((b,.row .own 6 new)::(b0,.row .own 6 cells)::rows):=st;have hx:=st.ptail (n:=1) (sz:=6) (c:=1) (b:=b) (.head _) (by rw[hl]);rw[ai55];refine Ret.lappF st (st.mem (.tail _ (.head _))) (by omega) (by decide) hx (by omega) hone hsz fun h' b' st'=>?_;have e:(cells.drop 0).take (1*6)++new=cells++new:=by rw[List.drop_zero,List.take_of_length_le (by omega)]
  rw[e]at st';refine hk h' _ [(b',.row .opn 6 (cells++new))] (st'.drop (.cons_cons _ ((List.sublist_cons_self _ _).trans (List.sublist_cons_self _ _)))) (.inl ⟨⟨.inr ⟨b',0,openCap,cells++new,rfl,rfl,?_,?_,?_,Nat.le_refl _,by decide⟩⟩,.inr ⟨b',1+1,rfl⟩⟩)
  ·rw[List.drop_zero,List.take_of_length_le (by simp;omega)]
  ·simp;omega
  ·rw[Nat.sub_self,Nat.zero_mul]
theorem Ga.kids{ex:Rws}(s:Sl h0 h S m (ex++rows)){v:Value}{k:Nat}{cells:List Value}(g:Ga v k cells ex){xs:List Re}(hx:xs.length=k)(hk:k<=1000)(hc:KidsC S xs cells): ∃S',VwN h0 S S'/\Sl h0 h S' m rows/\KidsV S' xs v:=by
 rcases g with⟨g,gc⟩|⟨rfl,b0,rfl,rfl,hcl⟩
 ·obtain⟨S',le,st,hv⟩:=Gl.settleV s g;exact⟨S',le,st,hv.kids gc hx (by omega) (KidsC.mono le.1 hc)⟩
 ·have hn:=(s.sm.own b0 _ (s.mem (.head _))).2;obtain⟨st,hS⟩:=s.settle (i:=0) rfl;refine⟨_,VwN.put hS hn,st,.inr ⟨b0,0,1,cells,by rw[hx],by rw[hx];exact CapOk.self (by decide),Vw.put_self,by rw[hx];omega,?_⟩⟩;rw[List.drop_zero];exact KidsC.mono (Vw.le_put hS) hc
theorem KidsV.only{x:Re}{v:Value}(st:Sl h0 h S m rows)(hk:KidsV S [x] v): ∃p es,xIdxS 6 v (.int .i64 ((0:Nat):Int))=some p/\xLdA 6 p h=some (.agg ⟨es⟩)/\ReE S x es:=by
 obtain⟨b,o,cs,es,e1,e2,e3,e4,e5⟩:=hk.at (i:=0) (x:=x) rfl;exact⟨_,es,e1,st.ldSA e2 e3 e4,e5⟩
end
section
variable {Q:Value->PH->Prop}{n:Nat}{cl:CL}{h h0:PH}{S:Vw}{m:OM}{rows:Rws}{br a e b b1 b2:Nat}{t:ByteArray}
end
section
variable {Q:Value->PH->Prop}{n:Nat}{cl:CL}{h h0:PH}{S:Vw}{m:OM}{rows:Rws}{br a e b b1 b2:Nat}{t:ByteArray}
def Ih(n:Nat)(cl:CL)(t:ByteArray)(br:Nat)(h0:PH)(d:Nat):Prop:=d<20-> ∀{S:Vw}{h:PH}{rows:Rws}{a b:Nat},a<=t.size->Sl h0 h S (RM br t a 0 b) rows->Ret (cl 55 [pt br,.int .i64 ((d+1:Nat):Int)] h) (PR S t br h0 rows a (t.size+22-(d+1)) 0 2)
end
section
variable {Q:Value->PH->Prop}{n:Nat}{cl:CL}{h h0:PH}{S:Vw}{m:OM}{rows:Rws}{br a e b b1 b2:Nat}{t:ByteArray}
set_option maxRecDepth 100000 in
theorem CLV55{n d:Nat}{u v:Value}{h:PH}:CLV n (d+1) 55 [u,v] h=F55 n (CLV n d) u v h:=rfl
end
theorem ab116{t:ByteArray}:abuild Try.prog 116 [(0,.string t)]=some (.agg ⟨[.string t,.int .i64 0,.int .i64 0,.int .i64 0]⟩):=by kernel_rfl
def ParseV(S:Vw)(t:ByteArray)(h0:PH)(m:OM)(rows:Rws)(v:Value)(h':PH):Prop:=
 ∃S' x es p e,VwN h0 S S'/\Sl h0 h' S' m rows/\v= .tuple ⟨[.agg ⟨es⟩,.int .i64 p,.int .i64 ((e:Nat):Int)]⟩/\ReE S' x es/\x.wf/\x.size<=3*t.size+2/\(e=0->t.size<=200)
section
variable {Q:Value->PH->Prop}{n:Nat}{cl:CL}{h h0:PH}{S:Vw}{m:OM}{rows:Rws}{br a e b b1 b2:Nat}{t:ByteArray}
end
end Go.Am
