import Derived.Test.YtjomodhbneicmaaZT
set_option linter.unusedSimpArgs false
set_option linter.unusedVariables false
namespace Go.Am
open Go Go.RowKit Go.Proofs
def bw(ws:List Nat):List Value:=ws.map fun w=>.int .u64 (w:Nat)
def Wd(ws:List Nat):Prop:= ∀w∈ws,w<18446744073709551616
def hs(ws:List Nat)(i:Nat):Bool:=(ws.getD (i / 64) 0).testBit (i % 64)
theorem bw_len(ws:List Nat):(bw ws).length=ws.length:=by simp[bw]
theorem bw_get{ws:List Nat}{k:Nat}{w:Nat}(h:ws[k]?=some w):(bw ws)[k]?=some (.int .u64 (w:Nat)):=by simp[bw,h]
theorem bw_one(ws:List Nat):oneCells (bw ws)=true:=by
 unfold oneCells bw;rw[List.all_map];exact List.all_eq_true.2 fun x _=>rfl
theorem bw_set{ws:List Nat}{k w:Nat}:(bw ws).set k (.int .u64 (w:Nat))=bw (ws.set k w):=by
 unfold bw;rw[List.map_set]
theorem Wd.getD{ws:List Nat}(h:Wd ws)(k:Nat):ws.getD k 0<18446744073709551616:=by
 rw[List.getD_eq_getElem?_getD];cases hq:ws[k]? with
 |none=>simp
 |some w=>exact h w (List.mem_of_getElem? hq)
theorem Wd.set{ws:List Nat}(h:Wd ws){k w:Nat}(hw:w<18446744073709551616):Wd (ws.set k w):=by
 intro x hx;rcases List.mem_or_eq_of_mem_set hx with hx|hx
 ·exact h x hx
 ·rw[hx];exact hw
theorem Wd.rep(n:Nat):Wd (List.replicate n 0):=by
 intro x hx;rw[List.eq_of_mem_replicate hx];decide
theorem hs_rep(n i:Nat):hs (List.replicate n 0) i=false:=by
 unfold hs;have:(List.replicate n 0).getD (i / 64) 0=0:=by
  rw[List.getD_eq_getElem?_getD];cases hq:(List.replicate n 0)[i / 64]? with
  |none=>rfl
  |some w=>rw[List.eq_of_mem_replicate (List.mem_of_getElem? hq)];rfl
 rw[this];exact Nat.zero_testBit _
theorem two64:(18446744073709551616:Nat)=2 ^ 64:=by decide
theorem or_lt{a b:Nat}(ha:a<18446744073709551616)(hb:b<18446744073709551616):a|||b<18446744073709551616:=by
 rw[two64]at*;exact Nat.or_lt_two_pow ha hb
theorem and_lt{a b:Nat}(ha:a<18446744073709551616):a&&&b<18446744073709551616:=Nat.lt_of_le_of_lt Nat.and_le_left ha
theorem pow_lt{s:Nat}(h:s<64):2 ^ s<18446744073709551616:=by
 rw[two64];exact Nat.pow_lt_pow_right (by decide) h
theorem hs_add{ws:List Nat}{i:Nat}(hi:i / 64<ws.length)(j:Nat):hs (ws.set (i / 64) (ws.getD (i / 64) 0|||2 ^ (i % 64))) j=(hs ws j||decide (j=i)):=by
 unfold hs
 by_cases e:j / 64=i / 64
 ·rw[e];have h1:(ws.set (i / 64) (ws.getD (i / 64) 0|||2 ^ (i % 64))).getD (i / 64) 0=ws.getD (i / 64) 0|||2 ^ (i % 64):=by
   rw[List.getD_eq_getElem?_getD,List.getElem?_set_self hi];rfl
  rw[h1,Nat.testBit_or,Nat.testBit_two_pow]
  congr 1
  by_cases e2:i % 64=j % 64
  ·have:j=i:=by omega
   simp[this]
  ·have: ¬ j=i:=fun h=>e2 (by rw[h]);simp[e2,this]
 ·have h1:(ws.set (i / 64) (ws.getD (i / 64) 0|||2 ^ (i % 64))).getD (j / 64) 0=ws.getD (j / 64) 0:=by
   rw[List.getD_eq_getElem?_getD,List.getElem?_set_ne (fun h=>e h.symm), <-List.getD_eq_getElem?_getD]
  have: ¬ j=i:=fun h=>e (by rw[h]);rw[h1];simp[this]
theorem getD_zip{f:Nat->Nat->Nat}{a b:List Nat}(hl:a.length=b.length)(h0:f 0 0=0)(k:Nat):(List.zipWith f a b).getD k 0=f (a.getD k 0) (b.getD k 0):=by
 simp only[List.getD_eq_getElem?_getD,List.getElem?_zipWith]
 by_cases hk:k<a.length
 ·rw[List.getElem?_eq_getElem hk,List.getElem?_eq_getElem (by omega:k<b.length)];rfl
 ·rw[List.getElem?_eq_none (by omega),List.getElem?_eq_none (by omega)];simp[h0]
theorem hs_and{a b:List Nat}(hl:a.length=b.length)(i:Nat):hs (List.zipWith (· &&& ·) a b) i=(hs a i&&hs b i):=by
 unfold hs;rw[getD_zip hl (by rfl),Nat.testBit_and]
theorem hs_or{a b:List Nat}(hl:a.length=b.length)(i:Nat):hs (List.zipWith (· ||| ·) a b) i=(hs a i||hs b i):=by
 unfold hs;rw[getD_zip hl (by rfl),Nat.testBit_or]
theorem Wd.and{a b:List Nat}(ha:Wd a):Wd (List.zipWith (· &&& ·) a b):=by
 intro x hx;obtain⟨k,hk⟩:=List.getElem?_of_mem hx;rw[List.getElem?_zipWith]at hk
 split at hk
 ·rename_i p q h1 h2;cases hk;exact and_lt (ha _ (List.mem_of_getElem? h1))
 ·cases hk
theorem Wd.or{a b:List Nat}(ha:Wd a)(hb:Wd b):Wd (List.zipWith (· ||| ·) a b):=by
 intro x hx;obtain⟨k,hk⟩:=List.getElem?_of_mem hx;rw[List.getElem?_zipWith]at hk
 split at hk
 ·rename_i p q h1 h2;cases hk;exact or_lt (ha _ (List.mem_of_getElem? h1)) (hb _ (List.mem_of_getElem? h2))
 ·cases hk
theorem word_ext{a b:Nat}(ha:a<18446744073709551616)(hb:b<18446744073709551616)(h: ∀s,s<64->a.testBit s=b.testBit s):a=b:=by
 refine Nat.eq_of_testBit_eq fun s=>?_
 by_cases hs:s<64
 ·exact h s hs
 ·have h1: ∀{x:Nat},x<18446744073709551616->x.testBit s=false:=fun {x} hx=>Nat.testBit_lt_two_pow (Nat.lt_of_lt_of_le (by rw[two64]at hx;exact hx) (Nat.pow_le_pow_right (by decide) (by omega)));rw[h1 ha,h1 hb]
theorem hs_ext{a b:List Nat}(hl:a.length=b.length)(ha:Wd a)(hb:Wd b)(h: ∀i,hs a i=hs b i):a=b:=by
 apply List.ext_getElem? fun k=>?_
 by_cases hk:k<a.length
 ·have h1:=List.getElem?_eq_getElem hk;have h2:=List.getElem?_eq_getElem (l:=b) (i:=k) (by omega);rw[h1,h2]
  congr 1
  refine word_ext (ha _ (List.getElem_mem hk)) (hb _ (List.getElem_mem _)) fun s hs'=>?_;have:=h (64*k+s);unfold hs at this;have e1:(64*k+s) / 64=k:=by omega
  have e2:(64*k+s) % 64=s:=by omega
  rw[e1,e2,List.getD_eq_getElem?_getD,List.getD_eq_getElem?_getD,h1,h2]at this;exact this
 ·rw[List.getElem?_eq_none (by omega),List.getElem?_eq_none (by omega)]
theorem hs_none{ws:List Nat}(hw:Wd ws):(∀w∈ws,w=0)↔ ∀i,hs ws i=false:=by
 constructor
 ·intro h i;unfold hs;have:ws.getD (i / 64) 0=0:=by
   rw[List.getD_eq_getElem?_getD];cases hq:ws[i / 64]? with
   |none=>rfl
   |some w=>exact h w (List.mem_of_getElem? hq)
  rw[this];exact Nat.zero_testBit _
 ·intro h;have e:=hs_ext (a:=ws) (b:=List.replicate ws.length 0) (by simp) hw (Wd.rep _) (fun i=>by rw[h,hs_rep]);intro w hm;rw[e]at hm;exact List.eq_of_mem_replicate hm
theorem bitN64{x:Nat}(h:x<18446744073709551616):bitN .u64 ((x:Nat):Int)=x:=by
 show(match Nat.ble x (kmx .u64)with|true=>x|false=>(BitVec.ofInt IntKind.u64.bits (.ofNat x)).toNat)=x
 rw[ble_t' (show x<=kmx .u64 from Nat.le_of_lt_succ h)]
theorem xAnd64{a b:Nat}(ha:a<18446744073709551616)(hb:b<18446744073709551616):xBit Nat.land (.int .u64 (a:Nat)) (.int .u64 (b:Nat))=some (.int .u64 ((a&&&b:Nat):Int)):=by
 rw[xBit_ex,bitN64 ha,bitN64 hb];exact congrArg (fun z=>some (Value.int .u64 z)) (wr64u (and_lt ha))
theorem xOr64{a b:Nat}(ha:a<18446744073709551616)(hb:b<18446744073709551616):xBit Nat.lor (.int .u64 (a:Nat)) (.int .u64 (b:Nat))=some (.int .u64 ((a|||b:Nat):Int)):=by
 rw[xBit_ex,bitN64 ha,bitN64 hb];exact congrArg (fun z=>some (Value.int .u64 z)) (wr64u (or_lt ha hb))
theorem xShl1{s:Nat}(h:s<64):xShl (.int .u64 (.ofNat 1)) (.int .i64 (s:Nat))=some (.int .u64 ((2 ^ s:Nat):Int)):=by
 rw[xShl_ex (k:=.u64) (k':=.i64) (by show s<=64;omega)];have:Int.mul (.ofNat 1) (.ofNat (Nat.pow 2 s))=((2 ^ s:Nat):Int):=by
  show(1:Int)*((2 ^ s:Nat):Int)=_
  rw[Int.one_mul]
 rw[this,wr64u (pow_lt h)]
theorem bit_has{x s:Nat}:decide ((((x / 2 ^ s)&&&1:Nat):Int)= .ofNat 1)=x.testBit s:=by
 rw[Nat.and_one_is_mod,Nat.testBit_eq_decide_div_mod_eq]
 congr 1
 apply propext
 constructor
 ·intro h;exact Int.ofNat.inj h
 ·intro h;rw[h];rfl
theorem zi82:zinfo Try.prog 82=some (1,8,[.int .u64 0]):=by kernel_rfl
theorem bs82:bsRow Try.prog 82 0 []=some (1,[]):=by kernel_rfl
theorem ai82:appInfo Try.prog #[82,82]=some (1,8):=by kernel_rfl
theorem nil82{b n c:Nat}{o1 o2:Operand}:abin Try.prog .eql 82 o1 o2 (.slice (some ⟨b,0,none⟩) n c) nils=some (.bool false):=by kernel_rfl
theorem bw_zrows{N:Nat}:zrows [.int .u64 0] N=bw (List.replicate N 0):=by
 apply List.ext_getElem?
 intro j
 by_cases hj:j<N
 ·have h1:(List.replicate N 0)[j]?=some 0:=by simp[hj]
  rw[bw_get h1,zrows_get _ _ _ (by simpa using hj)];simp[Nat.mod_one]
 ·rw[List.getElem?_eq_none (by rw[zrows_length];simp;omega),List.getElem?_eq_none (by rw[bw_len];simp;omega)]
section
variable {Q:Value->PH->Prop}{n:Nat}{cl cl':CL}{h h0:PH}{S:Vw}{m:OM}{rows:Rws}{K2:Value->PH->R}
theorem f38[OkH h](hS:Vw.le S h.cells){bp N:Nat}{ps:List Value}(hp:S bp=some ps)(h0:ps[0]?=some (.int .i64 (N:Nat)))(hN:N<1000000):
  Fr h S (F38 n cl (pt bp) h) fun v ex=> ∃b,v= .slice (some ⟨b,0,none⟩) (N / 64+1) (N / 64+1)/\ex=[(b,.row .own 1 (bw (List.replicate (N / 64+1) 0)))]:=by
 unfold Fr F38;have st:=Sl.start h hS;have l0:xLd (.pointer (some ⟨bp,0,none⟩)) h=some (.int .i64 (N:Nat)):=st.ldS hp h0;have e1:=xQuo_n (x:=N) (y:=64) (by decide) (by omega);have hw:IntKind.i64.wrap (((N / 64:Nat):Int)+((1:Nat):Int))=((N / 64+1:Nat):Int):=by rw[wrap_in (by omega) (by omega)];omega
 simp only[xNil_p,vb_some,xFld_p,Nat.zero_add,l0,vN_eq,e1,xAdd_i,hw];refine Ret.lmk st zi82 (by omega) (by omega) (by omega) (by omega) fun h1 b st1=>?_;rw[Int.toNat_natCast,bw_zrows]at st1;rw[Int.toNat_natCast];exact Fr.ret st1 ⟨b,rfl,rfl⟩
theorem c94[OkH h](hS:Vw.le S h.cells){v:Value}{ws:List Nat}(hv:SlV S v (bw ws))(hw:Wd ws){i:Nat}(hi:i / 64<ws.length)(hi2:i<1000000):pcall (F94 n cl v (.int .i64 (i:Nat)) h)=some (.bool (hs ws i)):=by
 refine pcall_fr (h:=h) (S:=S) ?_ rfl;unfold Fr F94;have st:=Sl.start h hS;have e1:=xQuo_n (x:=i) (y:=64) (by decide) (by omega);have e3:=xRem_n (x:=i) (y:=64) (by decide) (by omega);have hx:=List.getElem?_eq_getElem hi;have hD:ws.getD (i / 64) 0=ws[i / 64]:=by simp[List.getD_eq_getElem?_getD,hx]
 have hlt:=hw _ (List.getElem_mem hi);obtain⟨b,o,cs,f1,f2,f3⟩:=hv.at (k:=.i64) (bw_get hx);have l1:=st.ldS f2 f3;have e2:=xShr_ex (k:=.u64) (k':=.i64) (x:=ws[i / 64]) (s:=i % 64) (by show i % 64<=64;omega);have hq:ws[i / 64] / 2 ^ (i % 64)<18446744073709551616:=Nat.lt_of_le_of_lt (Nat.div_le_self _ _) hlt;have e4:=xAnd64 hq (show 1<18446744073709551616 by decide);have e4:xBit Nat.land (.int .u64 ((ws[i / 64] / 2 ^ (i % 64):Nat):Int)) (.int .u64 (.ofNat 1))=_:=e4;simp only[vN_eq,e1,vb_some,f1,l1,e3,e2,e4,xEq_i];refine Fr.ret st ?_;have:decide ((((ws[i / 64] / 2 ^ (i % 64))&&&1:Nat):Int)=Int.ofNat 1)=hs ws i:=by
  rw[bit_has];unfold hs;rw[hD]
 rw[<-this]
theorem c93(st:Sl h0 h S m rows){b c:Nat}{md:Mode}{ws:List Nat}(hb:m b=some (.row md 1 (bw ws)))(hmd:mro md=false)(hw:Wd ws){i:Nat}(hi:i / 64<ws.length)(hi2:i<1000000):
  Ret (F93 n cl (.slice (some ⟨b,0,none⟩) ws.length c) (.int .i64 (i:Nat)) h) fun v h'=>v= .tuple ⟨[]⟩/\Sl h0 h' S (m.upd b (.row md 1 (bw (ws.set (i / 64) (ws.getD (i / 64) 0|||2 ^ (i % 64)))))) rows:=by
 unfold F93;have e1:=xQuo_n (x:=i) (y:=64) (by decide) (by omega);have e3:=xRem_n (x:=i) (y:=64) (by decide) (by omega);have hx:=List.getElem?_eq_getElem hi;have hD:ws.getD (i / 64) 0=ws[i / 64]:=by simp[List.getD_eq_getElem?_getD,hx]
 have hlt:=hw _ (List.getElem_mem hi);have f1:xIdxS 1 (.slice (some ⟨b,0,none⟩) ws.length c) (.int .i64 ((i / 64:Nat):Int))=some (.pointer (some ⟨b,i / 64,none⟩)):=by
  rw[xIdxS_at (by omega) (by omega)];simp
 have l1:xLd (.pointer (some ⟨b,i / 64,none⟩)) h=some (.int .u64 (ws[i / 64]:Nat)):=st.ldB hb (bw_get hx);have e2:=xShl1 (s:=i % 64) (by omega);have e4:=xOr64 hlt (pow_lt (s:=i % 64) (by omega));simp only[vN_eq,e1,vb_some,f1,e3,e2,l1,e4];refine Ret.lst1B st hb hmd (by rw[bw_len];exact hi) rfl fun h' st'=>?_;rw[bw_set]at st';rw[hD];exact Ret.of ⟨rfl,st'⟩
theorem c122[OkH h](hn:4611686018427387904<=n)(h107: ∀v h,cl 107 [v] h=F107 n cl' v h)(hS:Vw.le S h.cells){v:Value}{ws:List Nat}(hv:SlV S v (bw ws))(hl:ws.length<1000000):
  ∃z:Int,pcall (F122 n cl v (fnV 107 [] []) h)=some (.int .i64 z)/\(0<=z↔ ∃w∈ws,w≠0):=by
 have hlen:=hv.len;rw[bw_len]at hlen;have key: ∀(k q i:Nat),ws.length-i<=k->k<q->i<=ws.length->(∀w∈ws.take i,w=0)->Ret (lp q (F122_3 n cl) [v,fnV 107 [] [],.int .i64 (ws.length:Nat),.int .i64 (i:Nat)] h) fun u _=> ∃z:Int,u= .int .i64 z/\(0<=z↔ ∃w∈ws,w≠0):=by
  intro k
  induction k with
  |zero=>
   intro q i h1 h2 h3 h4;obtain⟨q,rfl⟩: ∃r,q=r+1:=⟨q-1,by omega⟩;rw[lp_succ];have d:decide (((i:Nat):Int)<((ws.length:Nat):Int))=false:=by simp;omega
   rw[List.take_of_length_le (by omega)]at h4;simp only[F122_3,F122_2,ucons_cons,xLt_i,d,vb_some,bite_f];exact Ret.of ⟨-1,rfl,(fun h=>by omega),fun⟨w,hw,hz⟩=>absurd (h4 w hw) hz⟩
  |succ k ih=>
   intro q i h1 h2 h3 h4
   by_cases hi:i<ws.length
   ·obtain⟨q,rfl⟩: ∃r,q=r+1:=⟨q-1,by omega⟩;rw[lp_succ];generalize hL:lp q (F122_3 n cl)=LL;have d:decide (((i:Nat):Int)<((ws.length:Nat):Int))=true:=by simp;omega
    have hx:=List.getElem?_eq_getElem hi;have htk:ws.take (i+1)=ws.take i++[ws[i]]:=by rw[List.take_add_one,hx];rfl
    have hm:=List.getElem_mem hi;generalize ws[i]=w at hx htk hm;obtain⟨b,o,cs,f1,f2,f3⟩:=hv.at (k:=.i64) (bw_get hx);have l1:=(Sl.start h hS).ldS f2 f3;have hc: ∀K,Go.Am.hb (xCall cl (fnV 107 [] []) [.int .u64 (w:Nat)] h) K=K (.bool (!decide (((w:Nat):Int)=((0:Nat):Int)))) h:=by
     intro K
     show Go.Am.hb (cl 107 [.int .u64 (w:Nat)] h) K=_
     rw[h107];unfold F107;simp only[xNe_i,vb_some]
     rfl
    simp only[F122_3,F122_2,F122_1,ucons_cons,xLt_i,d,vb_some,bite_t,f1,l1,hc]
    by_cases hz:w=0
    ·have dz:(!decide (((w:Nat):Int)=((0:Nat):Int)))=false:=by simp[hz]
     simp only[dz,bite_f,F122_0,vN_eq,xAdd_i,wrapN (show i<4611686018427387904 by omega),vb_some];rw[<-hL];refine ih q (i+1) (by omega) (by omega) (by omega) fun y hy=>?_;rw[htk]at hy;rcases List.mem_append.1 hy with hy|hy
     ·exact h4 y hy
     ·have:y=w:=by simpa using hy
      rw[this];exact hz
    ·have dz:(!decide (((w:Nat):Int)=((0:Nat):Int)))=true:=by simp[hz]
     simp only[dz,bite_t];exact Ret.of ⟨_,rfl,(fun _=>⟨w,hm,hz⟩),fun _=>by omega⟩
   ·exact ih q i (by omega) (by omega) h3 h4
 obtain⟨u,h1,e,z,rfl,hz⟩:=key ws.length n 0 (by omega) (by omega) (Nat.zero_le _) (by simp);refine⟨z,?_,hz⟩;unfold F122;simp only[hlen,vb_some,vN_eq];rw[e];exact pcall_some rfl
theorem c95[OkH h](hn:4611686018427387904<=n)(h107: ∀v h,cl 107 [v] h=F107 n cl' v h)(hS:Vw.le S h.cells){v:Value}{ws:List Nat}(hv:SlV S v (bw ws))(hl:ws.length<1000000):
  ∃bb:Bool,pcall (F95 n cl v h)=some (.bool bb)/\(bb=true↔ ∀w∈ws,w=0):=by
 have hz0:h.fzn=h.fzn:=rfl;have st:=Sl.start h hS;have hS1:Vw.le S h.fzn.cells:=fun b cs e=>st.leS b cs e;have hS2:Vw.le S h.fzn.fzn.cells:=fun b cs e=>st.leS b cs e;have:=st.ok;obtain⟨z,p1,p2⟩:=c122 (n:=n) (cl:=cl) (cl':=cl') (h:=h.fzn.fzn) hn h107 hS2 hv hl;refine⟨!decide (((0:Nat):Int)<=z),?_,?_⟩
 ·unfold F95;have:pcall (F106 n cl v (fnV 107 [] []) h.fzn)=some (.bool (decide (((0:Nat):Int)<=z))):=by
   unfold F106;simp only[p1,vb_some,vN_eq,xGe_i];exact pcall_some rfl
  simp only[this,vb_some,xNot_b];exact pcall_some rfl
 ·rw[Bool.not_eq_true',decide_eq_false_iff_not];constructor
  ·intro hz w hw
   by_cases e:w=0
   ·exact e
   ·exact absurd (p2.2 ⟨w,hw,e⟩) hz
  ·intro hw hz;obtain⟨w,h1,h2⟩:=p2.1 hz;exact h2 (hw w h1)
theorem f98[OkH h](hS:Vw.le S h.cells){b c:Nat}{ws:List Nat}(hb:S b=some (bw ws))(hw0:0<ws.length)(hl:ws.length<1000000):
  Fr h S (F98 n cl (.slice (some ⟨b,0,none⟩) ws.length c) h) fun v ex=> ∃b',v= .slice (some ⟨b',0,none⟩) ws.length openCap/\ex=[(b',.row .opn 1 (bw ws))]:=by
 unfold Fr F98;simp only[nil82,vb_some,bite_f,F98_0];refine Ret.lbs (Sl.start h hS) bs82 fun h1 b1 st=>?_;have hx:=st.sm.ptailS (sz:=1) (c:=c) (n:=ws.length) (o:=0) hb (by rw[bw_len];omega);rw[List.drop_zero,Nat.mul_one,List.take_of_length_le (by rw[bw_len];omega)]at hx;rw[ai82];refine Ret.lappF st (st.mem (.head _)) (by simp) (by omega) hx (by omega) (bw_one _) (by omega) fun h2 b2 st2=>?_;rw[Nat.zero_add];exact Fr.ret (st2.drop (rows':=[(b2,.row .opn 1 (bw ws))]) (.cons_cons _ (List.nil_sublist _))) ⟨b2,rfl,rfl⟩
end
def mix(f:Nat->Nat->Nat)(i:Nat)(a b:List Nat):List Nat:=(List.zipWith f a b).take i++a.drop i
theorem mix_0{f:Nat->Nat->Nat}{a b:List Nat}:mix f 0 a b=a:=by simp[mix]
theorem mix_end{f:Nat->Nat->Nat}{a b:List Nat}(h:a.length=b.length):mix f a.length a b=List.zipWith f a b:=by
 unfold mix;rw[List.take_of_length_le (by simp;omega),List.drop_length,List.append_nil]
theorem mix_len{f:Nat->Nat->Nat}{i:Nat}{a b:List Nat}(h:a.length=b.length)(hi:i<=a.length):(mix f i a b).length=a.length:=by
 unfold mix;rw[List.length_append,List.length_take,List.length_zipWith,List.length_drop];omega
theorem mix_get{f:Nat->Nat->Nat}{i x:Nat}{a b:List Nat}(h:a.length=b.length)(hx:a[i]?=some x):(mix f i a b)[i]?=some x:=by
 have hi:=(List.getElem?_eq_some_iff.1 hx).1;unfold mix;rw[List.getElem?_append_right (by simp;omega),List.getElem?_drop,List.length_take,List.length_zipWith];have:i+(i-min i (min a.length b.length))=i:=by omega
 rw[this];exact hx
theorem mix_set{f:Nat->Nat->Nat}{i x y:Nat}{a b:List Nat}(h:a.length=b.length)(hx:a[i]?=some x)(hy:b[i]?=some y):(mix f i a b).set i (f x y)=mix f (i+1) a b:=by
 have hi:=(List.getElem?_eq_some_iff.1 hx).1;have hz:(List.zipWith f a b)[i]?=some (f x y):=by rw[List.getElem?_zipWith,hx,hy]
 have hl:((List.zipWith f a b).take i).length=i:=by rw[List.length_take,List.length_zipWith];omega
 unfold mix;rw[List.set_append_right _ _ (by omega),hl,Nat.sub_self,List.take_add_one,hz,List.drop_eq_getElem_cons hi,List.set_cons_zero,List.append_assoc]
 rfl
section
variable {Q:Value->PH->Prop}{n:Nat}{cl cl':CL}{h h0:PH}{S:Vw}{m:OM}{rows:Rws}{K2:Value->PH->R}
theorem loop72{b c:Nat}{cv:Value}{ws cs:List Nat}(hcv:SlV S cv (bw cs))(hl:ws.length=cs.length)(hw:Wd ws)(hc:Wd cs)(hlt:ws.length<1000000):
  ∀(k q i:Nat)(h:PH),ws.length-i<=k->k<q->i<=ws.length->Sl h0 h S m ((b,.row .opn 1 (bw (mix (· &&& ·) i ws cs)))::rows)->
   Ret (lp q (F72_2 n cl) [cv,.slice (some ⟨b,0,none⟩) ws.length c,.int .i64 (ws.length:Nat),.int .i64 (i:Nat)] h) fun v h'=>v= .slice (some ⟨b,0,none⟩) ws.length c/\Sl h0 h' S m ((b,.row .opn 1 (bw (List.zipWith (· &&& ·) ws cs)))::rows):=by
 intro k
 induction k with
 |zero=>
  intro q i h h1 h2 h3 st;obtain⟨q,rfl⟩: ∃r,q=r+1:=⟨q-1,by omega⟩;rw[lp_succ];have hi:i=ws.length:=by omega
  subst hi;rw[mix_end hl]at st;have d:decide (((ws.length:Nat):Int)<((ws.length:Nat):Int))=false:=by simp
  simp only[F72_2,F72_1,ucons_cons,xLt_i,d,vb_some,bite_f];exact Ret.of ⟨rfl,st⟩
 |succ k ih=>
  intro q i h h1 h2 h3 st
  by_cases hi:i<ws.length
  ·obtain⟨q,rfl⟩: ∃r,q=r+1:=⟨q-1,by omega⟩;rw[lp_succ];generalize hL:lp q (F72_2 n cl)=LL;have d:decide (((i:Nat):Int)<((ws.length:Nat):Int))=true:=by simp;omega
   have hx:=List.getElem?_eq_getElem hi;have hic:i<cs.length:=by omega
   have hy:=List.getElem?_eq_getElem hic;have hwx:=hw _ (List.getElem_mem hi);have hwy:=hc _ (List.getElem_mem hic);generalize ws[i]=x at hx hwx;generalize cs[i]=y at hy hwy;obtain⟨bc,oc,all,f1,f2,f3⟩:=hcv.at (k:=.i64) (bw_get hy);have l2:=st.ldS f2 f3;have f4:xIdxS 1 (.slice (some ⟨b,0,none⟩) ws.length c) (.int .i64 (i:Nat))=some (.pointer (some ⟨b,i,none⟩)):=by
    rw[xIdxS_at (by omega) (by omega)];simp
   have l1:xLd (.pointer (some ⟨b,i,none⟩)) h=some (.int .u64 (x:Nat)):=st.ld (.head _) (bw_get (mix_get hl hx));simp only[F72_2,F72_1,F72_0,ucons_cons,xLt_i,d,vb_some,bite_t,f1,f4,l1,l2,xAnd64 hwx hwy];refine Ret.lst1 st 0 rfl rfl (by rw[bw_len,mix_len hl (by omega)];exact hi) rfl fun h' st'=>?_;rw[bw_set]at st';have st':Sl h0 h' S m ((b,.row .opn 1 (bw ((mix (· &&& ·) i ws cs).set i (x&&&y))))::rows):=st';have hms:(mix (· &&& ·) i ws cs).set i (x&&&y)=mix (· &&& ·) (i+1) ws cs:=mix_set (f:=(· &&& ·)) hl hx hy;rw[hms]at st';simp only[vN_eq,xAdd_i,wrapN (show i<4611686018427387904 by omega),vb_some];rw[<-hL];exact ih q (i+1) h' (by omega) (by omega) (by omega) st'
  ·exact ih q i h (by omega) (by omega) h3 st
theorem f72[OkH h](hn:4611686018427387904<=n)(hS:Vw.le S h.cells){b c:Nat}{cv:Value}{ws cs:List Nat}(hb:S b=some (bw ws))(hcv:SlV S cv (bw cs))(hl:ws.length=cs.length)(hw:Wd ws)(hc:Wd cs)(hw0:0<ws.length)(hlt:ws.length<1000000):
  Fr h S (F72 n cl (.slice (some ⟨b,0,none⟩) ws.length c) cv h) fun v ex=> ∃b',v= .slice (some ⟨b',0,none⟩) ws.length openCap/\ex=[(b',.row .opn 1 (bw (List.zipWith (· &&& ·) ws cs)))]:=by
 unfold Fr F72;have st:=Sl.start h hS;refine Ret.lfcall st (f98 (n:=n) (cl:=cl) (h:=h.fzn) (S:=S) (c:=c) (fun b cs e=>st.leS b cs e) hb hw0 hlt) fun v h1 ex ⟨b',hv,he⟩ st1=>?_;subst hv;subst he;have st1:Sl h h1 S OM.emp [(b',.row .opn 1 (bw ws))]:=st1;have hlen:xLenS (.slice (some ⟨b',0,none⟩) ws.length openCap)=some (.int .i64 (ws.length:Nat)):=by simp
 simp only[hlen,vb_some,vN_eq];refine(loop72 (n:=n) (cl:=cl) (h0:=h) (m:=OM.emp) (rows:=[]) hcv hl hw hc hlt ws.length n 0 h1 (by omega) (by omega) (Nat.zero_le _) (by rw[mix_0];exact st1)).mono fun v h' ⟨q1,q2⟩=>⟨_,q2,b',q1,rfl⟩
theorem loop91{b c:Nat}{cv:Value}{md:Mode}{ws cs:List Nat}(hmd:mro md=false)(hcv:SlV S cv (bw cs))(hl:ws.length=cs.length)(hw:Wd ws)(hc:Wd cs)(hlt:ws.length<1000000):
  ∀(k q i:Nat)(m:OM)(h:PH),ws.length-i<=k->k<q->i<=ws.length->m b=some (.row md 1 (bw (mix (· ||| ·) i ws cs)))->Sl h0 h S m rows->
   Ret (lp q (F91_2 n cl) [.slice (some ⟨b,0,none⟩) ws.length c,cv,.int .i64 (ws.length:Nat),.int .i64 (i:Nat)] h) fun v h'=>v= .tuple ⟨[]⟩/\Sl h0 h' S (m.upd b (.row md 1 (bw (List.zipWith (· ||| ·) ws cs)))) rows:=by
 intro k
 induction k with
 |zero=>
  intro q i m h h1 h2 h3 hm st;obtain⟨q,rfl⟩: ∃r,q=r+1:=⟨q-1,by omega⟩;rw[lp_succ];have hi:i=ws.length:=by omega
  subst hi;rw[mix_end hl]at hm;have d:decide (((ws.length:Nat):Int)<((ws.length:Nat):Int))=false:=by simp
  simp only[F91_2,F91_1,ucons_cons,xLt_i,d,vb_some,bite_f];rw[OM.upd_id hm];exact Ret.of ⟨rfl,st⟩
 |succ k ih=>
  intro q i m h h1 h2 h3 hm st
  by_cases hi:i<ws.length
  ·obtain⟨q,rfl⟩: ∃r,q=r+1:=⟨q-1,by omega⟩;rw[lp_succ];generalize hL:lp q (F91_2 n cl)=LL;have d:decide (((i:Nat):Int)<((ws.length:Nat):Int))=true:=by simp;omega
   have hx:=List.getElem?_eq_getElem hi;have hic:i<cs.length:=by omega
   have hy:=List.getElem?_eq_getElem hic;have hwx:=hw _ (List.getElem_mem hi);have hwy:=hc _ (List.getElem_mem hic);generalize ws[i]=x at hx hwx;generalize cs[i]=y at hy hwy;obtain⟨bc,oc,all,f1,f2,f3⟩:=hcv.at (k:=.i64) (bw_get hy);have l2:=st.ldS f2 f3;have f4:xIdxS 1 (.slice (some ⟨b,0,none⟩) ws.length c) (.int .i64 (i:Nat))=some (.pointer (some ⟨b,i,none⟩)):=by
    rw[xIdxS_at (by omega) (by omega)];simp
   have l1:xLd (.pointer (some ⟨b,i,none⟩)) h=some (.int .u64 (x:Nat)):=st.ldB hm (bw_get (mix_get hl hx));simp only[F91_2,F91_1,F91_0,ucons_cons,xLt_i,d,vb_some,bite_t,f1,f4,l1,l2,xOr64 hwx hwy];refine Ret.lst1B st hm hmd (by rw[bw_len,mix_len hl (by omega)];exact hi) rfl fun h' st'=>?_;rw[bw_set]at st';have hms:(mix (· ||| ·) i ws cs).set i (x|||y)=mix (· ||| ·) (i+1) ws cs:=mix_set (f:=(· ||| ·)) hl hx hy;rw[hms]at st';simp only[vN_eq,xAdd_i,wrapN (show i<4611686018427387904 by omega),vb_some];rw[<-hL];have:=ih q (i+1) _ h' (by omega) (by omega) (by omega) OM.upd_self st';rw[OM.upd_upd]at this;exact this
  ·exact ih q i m h (by omega) (by omega) h3 hm st
theorem c91(hn:4611686018427387904<=n)(st:Sl h0 h S m rows){b c:Nat}{cv:Value}{md:Mode}{ws cs:List Nat}(hmd:mro md=false)(hm:m b=some (.row md 1 (bw ws)))(hcv:SlV S cv (bw cs))(hl:ws.length=cs.length)(hw:Wd ws)(hc:Wd cs)(hlt:ws.length<1000000):
  Ret (F91 n cl (.slice (some ⟨b,0,none⟩) ws.length c) cv h) fun v h'=>v= .tuple ⟨[]⟩/\Sl h0 h' S (m.upd b (.row md 1 (bw (List.zipWith (· ||| ·) ws cs)))) rows:=by
 unfold F91;have hlen:xLenS (.slice (some ⟨b,0,none⟩) ws.length c)=some (.int .i64 (ws.length:Nat)):=by simp
 simp only[hlen,vb_some,vN_eq];exact loop91 (n:=n) (cl:=cl) hmd hcv hl hw hc hlt ws.length n 0 m h (by omega) (by omega) (Nat.zero_le _) (by rw[mix_0];exact hm) st
end
def wby(w k:Nat):List Nat:=(List.range k).map fun t=>w / 2 ^ (8*t) % 256
def kyb(ws:List Nat):List Nat:=ws.flatMap fun w=>wby w 8
def bstr(l:List Nat):ByteArray:=⟨⟨l.map UInt8.ofNat⟩⟩
theorem wby_succ(w k:Nat):wby w (k+1)=wby w k++[w / 2 ^ (8*k) % 256]:=by
 unfold wby;rw[List.range_succ,List.map_append];rfl
theorem wby_len(w k:Nat):(wby w k).length=k:=by simp[wby]
theorem wby_256{w k:Nat}: ∀x∈wby w k,x<256:=by
 intro x hx;unfold wby at hx;rw[List.mem_map]at hx;obtain⟨t,_,rfl⟩:=hx;exact Nat.mod_lt _ (by decide)
theorem kyb_256{ws:List Nat}: ∀x∈kyb ws,x<256:=by
 intro x hx;unfold kyb at hx;rw[List.mem_flatMap]at hx;obtain⟨w,_,hx⟩:=hx;exact wby_256 x hx
theorem kyb_snoc(ws:List Nat)(w:Nat):kyb (ws++[w])=kyb ws++wby w 8:=by
 unfold kyb;rw[List.flatMap_append];simp
theorem kyb_len(ws:List Nat):(kyb ws).length=8*ws.length:=by
 induction ws with
 |nil=>rfl
 |cons w ws ih=>show(wby w 8++kyb ws).length=_;rw[List.length_append,ih,wby_len];simp;omega
theorem wby_inj{a b:Nat}(ha:a<18446744073709551616)(hb:b<18446744073709551616)(h:wby a 8=wby b 8):a=b:=by
 refine word_ext ha hb fun s hs'=>?_;have key: ∀x:Nat,x.testBit s=(x / 2 ^ (8*(s / 8)) % 256).testBit (s % 8):=by
  intro x;have e:(256:Nat)=2 ^ 8:=by decide
  rw[e,Nat.testBit_mod_two_pow,Nat.testBit_div_two_pow];have h1:s % 8<8:=Nat.mod_lt _ (by decide);have h2:s % 8+8*(s / 8)=s:=by omega
  rw[h2];simp[h1]
 have hg: ∀x:Nat,(wby x 8)[s / 8]?=some (x / 2 ^ (8*(s / 8)) % 256):=by
  intro x;unfold wby
  rw[List.getElem?_map,List.getElem?_range (by omega)];rfl
 have:=hg a;rw[h,hg b]at this;rw[key a,key b,Option.some.inj this]
theorem kyb_inj: ∀{a b:List Nat},a.length=b.length->Wd a->Wd b->kyb a=kyb b->a=b
 | [],[],_,_,_,_=>rfl
 |x::a,y::b,hl,ha,hb,h=>by
  have h:wby x 8++kyb a=wby y 8++kyb b:=h;obtain⟨h1,h2⟩:=List.append_inj h (by rw[wby_len,wby_len]);have e1:=wby_inj (ha x (.head _)) (hb y (.head _)) h1;have e2:=kyb_inj (by simpa using hl) (fun w hw=>ha w (.tail _ hw)) (fun w hw=>hb w (.tail _ hw)) h2;rw[e1,e2]
 | [],y::b,hl,_,_,_=>by simp at hl
 |x::a,[],hl,_,_,_=>by simp at hl
theorem bstr_inj: ∀{a b:List Nat},(∀x∈a,x<256)->(∀x∈b,x<256)->bstr a=bstr b->a=b:=by
 intro a b ha hb h;have h1:a.map UInt8.ofNat=b.map UInt8.ofNat:=by
  have:=congrArg (fun s:ByteArray=>s.data.toList) h;exact this
 apply List.ext_getElem? fun i=>?_
 have h2:=congrArg (fun l:List UInt8=>l[i]?) h1;simp only[List.getElem?_map]at h2;cases hx:a[i]? with
 |none=>
  rw[hx]at h2;cases hy:b[i]? with
  |none=>rfl
  |some y=>rw[hy]at h2;cases h2
 |some x=>
  rw[hx]at h2;cases hy:b[i]? with
  |none=>rw[hy]at h2;cases h2
  |some y=>
   rw[hy]at h2;have h3:UInt8.ofNat x=UInt8.ofNat y:=Option.some.inj h2;have h4:=congrArg UInt8.toNat h3;have l1:=ha x (List.mem_of_getElem? hx);have l2:=hb y (List.mem_of_getElem? hy);rw[UInt8.toNat_ofNat',UInt8.toNat_ofNat',Nat.mod_eq_of_lt (by omega),Nat.mod_eq_of_lt (by omega)]at h4;rw[h4]
def keyS(ws:List Nat):Value:=.string (bstr (kyb ws))
theorem keyS_inj{a b:List Nat}(hl:a.length=b.length)(ha:Wd a)(hb:Wd b)(h:bstr (kyb a)=bstr (kyb b)):a=b:=
 kyb_inj hl ha hb (bstr_inj kyb_256 kyb_256 h)
theorem bytes8_bys: ∀(l:List Nat),bytes8 (bys l)=some (l.map UInt8.ofNat)
 | []=>rfl
 |x::l=>by
  have ih:=bytes8_bys l
  show(match bytes8 (bys l)with|some ns=>some (UInt8.ofNat (Int.toNat ((x:Nat):Int))::ns)|none=>none)=_
  rw[ih];rfl
theorem bs39{a:Int}:bsRow Try.prog 39 1 [(0,.int .u8 a)]=some (1,[.int .u8 a]):=by kernel_rfl
theorem wrap8(x:Nat):IntKind.u8.wrap ((x:Nat):Int)=((x % 256:Nat):Int):=by
 simp[IntKind.wrap,IntKind.signed,IntKind.bits]
theorem bys_snoc(l:List Nat)(x:Nat):bys l++[.int .u8 (x:Nat)]=bys (l++[x]):=by simp[bys]
section
variable {Q:Value->PH->Prop}{n:Nat}{cl cl':CL}{h h0:PH}{S:Vw}{m:OM}{rows:Rws}{K2:Value->PH->R}
theorem Sl.b2s{ex:Rws}(s:Sl h0 h S m (ex++rows)){v:Value}{l:List Nat}(g:Gl 1 v l.length (bys l) ex):xB2S v h=some (.string (bstr l)):=by
 rcases g.h with⟨h1,h2,rfl,_⟩|⟨b,o,cap,all,rfl,rfl,h1,h2,_⟩
 ·have:l=[]:=List.eq_nil_of_length_eq_zero h1;subst this;rfl
 ·have hb:=(s.sm.own b _ (s.mem (.head _))).1;have h3:Nat.ble (Nat.add o l.length) all.length=true:=ble_t' (by show o+l.length<=_;omega)
  by_cases e0:l=[]
  ·subst e0;rfl
  have hn0:Nat.beq l.length 0=false:=by
   cases hq:Nat.beq l.length 0 with
   |false=>rfl
   |true=>exact absurd (List.eq_nil_of_length_eq_zero (Nat.eq_of_beq_eq_true hq)) e0
  show(match Nat.beq l.length 0 with
   |true=>some (Value.string ByteArray.empty)
   |false=>match h.raw b with
   |some (.row _ _ cs)=>match Nat.ble (Nat.add o l.length) cs.length with
    |true=>match bytes8 ((cs.drop o).take l.length)with
     |some ns=>some (Value.string ⟨⟨ns⟩⟩)
     |none=>none
    |false=>none
   |_=>none)=_
  rw[hn0];dsimp only;rw[hb];dsimp only;rw[h3];dsimp only;rw[Nat.mul_one]at h1;rw[<-h1,bytes8_bys]
  rfl
theorem loop96i{av lv iv:Value}{w:Nat}{K3:Kt}{pre:List Nat}(hw:w<18446744073709551616)(hp:pre.length<10000000)
  (hk: ∀h' v' ex',Sl h0 h' S m (ex'++rows)->Gl 1 v' (pre++wby w 8).length (bys (pre++wby w 8)) ex'->Ret (F96_1 n cl iv K3 v' av lv h') Q):
  ∀(k q t:Nat)(v:Value)(ex:Rws)(h:PH),8-t<=k->k<q->t<=8->Sl h0 h S m (ex++rows)->Gl 1 v (pre++wby w t).length (bys (pre++wby w t)) ex->Ret (lp q (F96_3 n cl K3) [v,.int .u64 (w:Nat),.int .i64 ((8*t:Nat):Int),av,lv,iv] h) Q:=by
 intro k
 induction k with
 |zero=>
  intro q t v ex h h1 h2 h3 st g;obtain⟨q,rfl⟩: ∃r,q=r+1:=⟨q-1,by omega⟩;rw[lp_succ];have ht:t=8:=by omega
  subst ht;have d:decide (((8*8:Nat):Int)<((64:Nat):Int))=false:=by decide
  simp only[F96_3,F96_2,ucons_cons,vN_eq,xLt_i,d,vb_some,bite_f];exact hk h v ex st g
 |succ k ih=>
  intro q t v ex h h1 h2 h3 st g
  by_cases ht:t<8
  ·obtain⟨q,rfl⟩: ∃r,q=r+1:=⟨q-1,by omega⟩;rw[lp_succ];generalize hL:lp q (F96_3 n cl K3)=LL;have d:decide (((8*t:Nat):Int)<((64:Nat):Int))=true:=by simp;omega
   have e1:=xShr_ex (k:=.u64) (k':=.i64) (x:=w) (s:=8*t) (by show 8*t<=64;omega);have e2:IntKind.i64.wrap (((8*t:Nat):Int)+((8:Nat):Int))=((8*(t+1):Nat):Int):=by rw[wrap_in (by omega) (by omega)];omega
   simp only[F96_3,F96_2,F96_0,ucons_cons,vN_eq,xLt_i,d,vb_some,bite_t,e1,xConvI_i',wrap8];have hlen:(pre++wby w t).length<=10000008:=by rw[List.length_append,wby_len];omega
   refine Ret.gapp st g bs39 ai39 rfl rfl (sz_le hlen (by decide)) fun h' v' ex' st' g'=>?_;have g':Gl 1 v' (pre++wby w (t+1)).length (bys (pre++wby w (t+1))) ex':=by
    rw[wby_succ, <-List.append_assoc, <-bys_snoc,List.length_append];exact g'
   simp only[xAdd_i,e2,vb_some];rw[<-hL];exact ih q (t+1) v' ex' h' (by omega) (by omega) (by omega) st' g'
  ·exact ih q t v ex h (by omega) (by omega) h3 st g
theorem c96[OkH h](hn:4611686018427387904<=n)(hS:Vw.le S h.cells){av:Value}{ws:List Nat}(hv:SlV S av (bw ws))(hw:Wd ws)(hl:ws.length<1000000):pcall (F96 n cl av h)=some (keyS ws):=by
 have hlen:=hv.len;rw[bw_len]at hlen;have key: ∀(k q i:Nat)(v:Value)(ex:Rws)(h1:PH),ws.length-i<=k->k<q->i<=ws.length->Sl h h1 S OM.emp (ex++[])->Gl 1 v (kyb (ws.take i)).length (bys (kyb (ws.take i))) ex->
   Ret (lp q (F96_7 n cl) [v,av,.int .i64 (ws.length:Nat),.int .i64 (i:Nat)] h1) fun u _=>u=keyS ws:=by
  intro k
  induction k with
  |zero=>
   intro q i v ex h1 a1 a2 a3 st g;obtain⟨q,rfl⟩: ∃r,q=r+1:=⟨q-1,by omega⟩;rw[lp_succ];have d:decide (((i:Nat):Int)<((ws.length:Nat):Int))=false:=by simp;omega
   rw[List.take_of_length_le (by omega)]at g;simp only[F96_7,F96_6,F96_5,ucons_cons,xLt_i,d,vb_some,bite_f,st.b2s g];exact Ret.of rfl
  |succ k ih=>
   intro q i v ex h1 a1 a2 a3 st g
   by_cases hi:i<ws.length
   ·obtain⟨q,rfl⟩: ∃r,q=r+1:=⟨q-1,by omega⟩;rw[lp_succ];generalize hL:lp q (F96_7 n cl)=LL;have d:decide (((i:Nat):Int)<((ws.length:Nat):Int))=true:=by simp;omega
    have hx:=List.getElem?_eq_getElem hi;have hwx:=hw _ (List.getElem_mem hi);have htk:ws.take (i+1)=ws.take i++[ws[i]]:=by rw[List.take_add_one,hx];rfl
    generalize ws[i]=w at hx hwx htk;obtain⟨b,o,cs,f1,f2,f3⟩:=hv.at (k:=.i64) (bw_get hx);have l1:=st.ldS f2 f3;simp only[F96_7,F96_6,F96_4,ucons_cons,xLt_i,d,vb_some,bite_t,f1,l1,vN_eq];have hkl:(kyb (ws.take i)).length<10000000:=by rw[kyb_len,List.length_take];omega
    refine loop96i (n:=n) (cl:=cl) (h0:=h) (m:=OM.emp) (rows:=[]) (pre:=kyb (ws.take i)) hwx hkl (fun h' v' ex' st' g'=>?_) 8 n 0 v ex h1 (by omega) (by omega) (by omega) st (by simpa[wby]using g);simp only[F96_1,vN_eq,xAdd_i,wrapN (show i<4611686018427387904 by omega),vb_some];rw[<-hL];refine ih q (i+1) v' ex' h' (by omega) (by omega) (by omega) st' ?_;rw[htk,kyb_snoc];exact g'
   ·exact ih q i v ex h1 (by omega) (by omega) a3 st g
 obtain⟨u,h1,e,rfl⟩:=key ws.length n 0 nils [] h (by omega) (by omega) (Nat.zero_le _) (Sl.start h hS) Gl.nil;unfold F96;simp only[hlen,vb_some,vN_eq];rw[e];exact pcall_some rfl
end
def mS(kv:List ((ByteArray×Nat)×Nat)):List MapEntry:=kv.map fun p=>⟨.string p.1.1,.int .i64 (p.1.2:Nat),p.2⟩
def mI(kv:List ((Int×Nat)×Nat)):List MapEntry:=kv.map fun p=>⟨.int .i64 p.1.1,.int .i64 (p.1.2:Nat),p.2⟩
theorem mS_plain(kv:List ((ByteArray×Nat)×Nat)):keysPlain (mS kv)=true:=by
 unfold keysPlain mS;rw[List.all_map];exact List.all_eq_true.2 fun x _=>rfl
theorem mI_plain(kv:List ((Int×Nat)×Nat)):keysPlain (mI kv)=true:=by
 unfold keysPlain mI;rw[List.all_map];exact List.all_eq_true.2 fun x _=>rfl
theorem u8s_self(l:List UInt8):u8s l l=true:=by rw[u8s_eq];simp
theorem u8s_ne{a b:ByteArray}(h:a≠b):u8s a.data.toList b.data.toList=false:=by
 rw[u8s_eq,decide_eq_false_iff_not];intro e
 apply h
 cases a;cases b;exact congrArg ByteArray.mk (Array.ext' e)
theorem findS_none{k:ByteArray}: ∀{kv:List ((ByteArray×Nat)×Nat)}{i:Nat},(∀p∈kv,p.1.1≠k)->findS k.data.toList (mS kv) i=some none
 | [],i,_=>rfl
 |p::kv,i,h=>by
  show(match u8s k.data.toList p.1.1.data.toList with|true=>some (some (i,Value.int .i64 (p.1.2:Nat)))|false=>findS k.data.toList (mS kv) (.succ i))=_
  rw[u8s_ne (fun e=>h p (.head _) e.symm)];exact findS_none fun q hq=>h q (.tail _ hq)
theorem findS_hit{k:ByteArray}{v c:Nat}{l2:List ((ByteArray×Nat)×Nat)}: ∀{l1:List ((ByteArray×Nat)×Nat)}{i:Nat},(∀p∈l1,p.1.1≠k)->findS k.data.toList (mS (l1++((k,v),c)::l2)) i=some (some (i+l1.length,.int .i64 (v:Nat)))
 | [],i,_=>by
  show(match u8s k.data.toList k.data.toList with|true=>some (some (i,Value.int .i64 (v:Nat)))|false=>findS k.data.toList (mS l2) (.succ i))=_
  rw[u8s_self];rfl
 |p::l1,i,h=>by
  show(match u8s k.data.toList p.1.1.data.toList with|true=>some (some (i,Value.int .i64 (p.1.2:Nat)))|false=>findS k.data.toList (mS (l1++((k,v),c)::l2)) (.succ i))=_
  rw[u8s_ne (fun e=>h p (.head _) e.symm)];dsimp only;rw[findS_hit fun q hq=>h q (.tail _ hq)];have:Nat.succ i+l1.length=i+(p::l1).length:=by simp;omega
  rw[this]
theorem fNow_none{k:Int}: ∀{kv:List ((Int×Nat)×Nat)}{i:Nat},(∀p∈kv,p.1.1≠k)->Instr.findNow (.int .i64) (.int .i64 k) (mI kv) i=some none
 | [],i,_=>rfl
 |p::kv,i,h=>by
  show(match Instr.sameNow (.int .i64) (.int .i64 k) (.int .i64 p.1.1)with|some true=>some (some (i,Value.int .i64 (p.1.2:Nat)))|some false=>Instr.findNow (.int .i64) (.int .i64 k) (mI kv) (i+1)|none=>none)=_
  have e:Instr.sameNow (.int .i64) (.int .i64 k) (.int .i64 p.1.1)=some false:=by
   have h1: ¬ k=p.1.1:=fun e=>h p (.head _) e.symm;simp[Instr.sameNow,h1]
  rw[e];exact fNow_none fun q hq=>h q (.tail _ hq)
theorem fNow_hit{k:Int}{v c:Nat}{l2:List ((Int×Nat)×Nat)}: ∀{l1:List ((Int×Nat)×Nat)}{i:Nat},(∀p∈l1,p.1.1≠k)->Instr.findNow (.int .i64) (.int .i64 k) (mI (l1++((k,v),c)::l2)) i=some (some (i+l1.length,.int .i64 (v:Nat)))
 | [],i,_=>by
  show(match Instr.sameNow (.int .i64) (.int .i64 k) (.int .i64 k)with|some true=>some (some (i,Value.int .i64 (v:Nat)))|some false=>Instr.findNow (.int .i64) (.int .i64 k) (mI l2) (i+1)|none=>none)=_
  have e:Instr.sameNow (.int .i64) (.int .i64 k) (.int .i64 k)=some true:=by simp[Instr.sameNow]
  rw[e];rfl
 |p::l1,i,h=>by
  show(match Instr.sameNow (.int .i64) (.int .i64 k) (.int .i64 p.1.1)with|some true=>some (some (i,Value.int .i64 (p.1.2:Nat)))|some false=>Instr.findNow (.int .i64) (.int .i64 k) (mI (l1++((k,v),c)::l2)) (i+1)|none=>none)=_
  have e:Instr.sameNow (.int .i64) (.int .i64 k) (.int .i64 p.1.1)=some false:=by
   have h1: ¬ k=p.1.1:=fun e=>h p (.head _) e.symm;simp[Instr.sameNow,h1]
  rw[e];dsimp only;rw[fNow_hit fun q hq=>h q (.tail _ hq)];have:i+1+l1.length=i+(p::l1).length:=by simp;omega
  rw[this]
theorem ck9{e:Bool}{k:ByteArray}:pureRun Try.prog (Instr.checkKey e 10000 9 (.string k))=some ():=by
 show pureRun Try.prog (Instr.checkKey e (9999+1) 9 (.string k))=some ()
 unfold Instr.checkKey;rw[pureRun_bind,pureRun_und Try.underlying9]
 rfl
theorem ck3{e:Bool}{k:Int}:pureRun Try.prog (Instr.checkKey e 10000 3 (.int .i64 k))=some ():=by
 show pureRun Try.prog (Instr.checkKey e (9999+1) 3 (.int .i64 k))=some ()
 unfold Instr.checkKey;rw[pureRun_bind,pureRun_und Try.underlying3]
 rfl
set_option maxRecDepth 100000 in
theorem afS{k:ByteArray}{es:List MapEntry}{r:Option (Nat×Value)}(h:findS k.data.toList es 0=some r):afindQ Try.prog 9 (.string k) es=some r:=by
 show(match Try.prog.underlying 9 with
  |some .string=>match findS k.data.toList es 0 with
   |some r=>some r
   |none=>afind Try.prog 9 (.string k) es
  |_=>afind Try.prog 9 (.string k) es)=_
 rw[Try.underlying9];dsimp only;rw[h]
set_option maxRecDepth 100000 in
theorem afI{k:Int}{es:List MapEntry}{r:Option (Nat×Value)}(h:Instr.findNow (.int .i64) (.int .i64 k) es 0=some r):afindQ Try.prog 3 (.int .i64 k) es=some r:=by
 show(match Try.prog.underlying 3 with
  |some d=>match Instr.findNow d (.int .i64 k) es 0 with
   |some r=>some r
   |none=>findAskA Try.prog 3 (.int .i64 k) es 0
  |none=>none)=_
 rw[Try.underlying3];dsimp only;rw[h]
theorem in3: ∃i,Try.prog.info? 3=some i/\i.zero=some (.int .i64 0):=by
 have e2:(Try.prog.info? 3).map (·.zero)=some (some (.int .i64 0)):=by kernel_rfl
 rw[Option.map_eq_some_iff]at e2;obtain⟨inf,h1,h2⟩:=e2;exact⟨inf,h1,h2⟩
section
variable {Q:Value->PH->Prop}{n:Nat}{cl cl':CL}{h h0:PH}{S:Vw}{m:OM}{rows:Rws}{K2:Value->PH->R}
theorem phMap_at(s:Sl h0 h S m rows){b c:Nat}{es:List MapEntry}(hb:over rows m b=some (.map es c)):phMap (.map (some b)) h=some (b,es,c):=by
 have:=s.sm.get hb
 show(match h.get b with|some (.map es c)=>some (b,es,c)|_=>none)=_
 rw[this]
theorem lkS_none(s:Sl h0 h S m rows){b c:Nat}{kv:List ((ByteArray×Nat)×Nat)}{k:ByteArray}(hb:over rows m b=some (.map (mS kv) c))(hk: ∀p∈kv,p.1.1≠k){ok:Bool}:
  xLkp Try.prog 9 3 ok (.map (some b)) (.string k) h=some (if ok then .tuple ⟨[.int .i64 0,.bool false]⟩else .int .i64 0):=by
 obtain⟨i3,h1,h2⟩:=in3
 show(match phMap (.map (some b)) h with|some (_,es,_)=>lkE Try.prog 9 3 (.string k) ok es|none=>none)=_
 rw[phMap_at s hb];dsimp only;unfold lkE;have hp:(plainV (Value.string k)&&keysPlain (mS kv))=true:=by rw[mS_plain];rfl
 rw[if_pos hp,ck9];dsimp only;rw[afS (findS_none hk)];dsimp only;rw[h1];dsimp only;rw[h2]
 rfl
theorem lkS_hit(s:Sl h0 h S m rows){b c c' v:Nat}{l1 l2:List ((ByteArray×Nat)×Nat)}{k:ByteArray}(hb:over rows m b=some (.map (mS (l1++((k,v),c')::l2)) c))(hk: ∀p∈l1,p.1.1≠k){ok:Bool}:
  xLkp Try.prog 9 3 ok (.map (some b)) (.string k) h=some (if ok then .tuple ⟨[.int .i64 (v:Nat),.bool true]⟩else .int .i64 (v:Nat)):=by
 show(match phMap (.map (some b)) h with|some (_,es,_)=>lkE Try.prog 9 3 (.string k) ok es|none=>none)=_
 rw[phMap_at s hb];dsimp only;unfold lkE;have hp:(plainV (Value.string k)&&keysPlain (mS (l1++((k,v),c')::l2)))=true:=by rw[mS_plain];rfl
 rw[if_pos hp,ck9];dsimp only;rw[afS (findS_hit hk)]
theorem lkI_none(s:Sl h0 h S m rows){b c:Nat}{kv:List ((Int×Nat)×Nat)}{k:Int}(hb:over rows m b=some (.map (mI kv) c))(hk: ∀p∈kv,p.1.1≠k){ok:Bool}:
  xLkp Try.prog 3 3 ok (.map (some b)) (.int .i64 k) h=some (if ok then .tuple ⟨[.int .i64 0,.bool false]⟩else .int .i64 0):=by
 obtain⟨i3,h1,h2⟩:=in3
 show(match phMap (.map (some b)) h with|some (_,es,_)=>lkE Try.prog 3 3 (.int .i64 k) ok es|none=>none)=_
 rw[phMap_at s hb];dsimp only;unfold lkE;have hp:(plainV (Value.int .i64 k)&&keysPlain (mI kv))=true:=by rw[mI_plain];rfl
 rw[if_pos hp,ck3];dsimp only;rw[afI (fNow_none hk)];dsimp only;rw[h1];dsimp only;rw[h2]
 rfl
theorem lkI_hit(s:Sl h0 h S m rows){b c c' v:Nat}{l1 l2:List ((Int×Nat)×Nat)}{k:Int}(hb:over rows m b=some (.map (mI (l1++((k,v),c')::l2)) c))(hk: ∀p∈l1,p.1.1≠k){ok:Bool}:
  xLkp Try.prog 3 3 ok (.map (some b)) (.int .i64 k) h=some (if ok then .tuple ⟨[.int .i64 (v:Nat),.bool true]⟩else .int .i64 (v:Nat)):=by
 show(match phMap (.map (some b)) h with|some (_,es,_)=>lkE Try.prog 3 3 (.int .i64 k) ok es|none=>none)=_
 rw[phMap_at s hb];dsimp only;unfold lkE;have hp:(plainV (Value.int .i64 k)&&keysPlain (mI (l1++((k,v),c')::l2)))=true:=by rw[mI_plain];rfl
 rw[if_pos hp,ck3];dsimp only;rw[afI (fNow_hit hk)]
theorem Ret.lmupS(s:Sl h0 h S m rows)(i:Nat){b c v:Nat}{kv:List ((ByteArray×Nat)×Nat)}{k:ByteArray}(hi:rows[i]?=some (b,.map (mS kv) c))(hk: ∀p∈kv,p.1.1≠k)
  (hK: ∀h',Sl h0 h' S m (rows.set i (b,.map (mS (kv++[((k,v),c)])) (c+1)))->Ret (K2 undef h') Q):Ret (Go.Am.hb (xMUpd Try.prog 9 (.map (some b)) (.string k) (.int .i64 (v:Nat)) h) K2) Q:=by
 obtain⟨h',hs,s',_⟩:=s.sm.set (s.idx hi) (.map (mS (kv++[((k,v),c)])) (c+1));have hp:(plainV (Value.string k)&&keysPlain (mS kv))=true:=by rw[mS_plain];rfl
 have e:xMUpd Try.prog 9 (.map (some b)) (.string k) (.int .i64 (v:Nat)) h=some (undef,h'):=by
  unfold xMUpd;rw[phMap_at s (s.idx hi)];dsimp only;rw[if_pos hp,ck9];dsimp only;rw[afS (findS_none hk)];dsimp only;unfold pset;have em:mS kv++[⟨.string k,.int .i64 (v:Nat),c⟩]=mS (kv++[((k,v),c)]):=by simp[mS]
  rw[em,hs]
 rw[e];exact hK h' (s.put hi s')
theorem Ret.lmupI(s:Sl h0 h S m rows)(i:Nat){b c v:Nat}{kv:List ((Int×Nat)×Nat)}{k:Int}(hi:rows[i]?=some (b,.map (mI kv) c))(hk: ∀p∈kv,p.1.1≠k)
  (hK: ∀h',Sl h0 h' S m (rows.set i (b,.map (mI (kv++[((k,v),c)])) (c+1)))->Ret (K2 undef h') Q):Ret (Go.Am.hb (xMUpd Try.prog 3 (.map (some b)) (.int .i64 k) (.int .i64 (v:Nat)) h) K2) Q:=by
 obtain⟨h',hs,s',_⟩:=s.sm.set (s.idx hi) (.map (mI (kv++[((k,v),c)])) (c+1));have hp:(plainV (Value.int .i64 k)&&keysPlain (mI kv))=true:=by rw[mI_plain];rfl
 have e:xMUpd Try.prog 3 (.map (some b)) (.int .i64 k) (.int .i64 (v:Nat)) h=some (undef,h'):=by
  unfold xMUpd;rw[phMap_at s (s.idx hi)];dsimp only;rw[if_pos hp,ck3];dsimp only;rw[afI (fNow_none hk)];dsimp only;unfold pset;have em:mI kv++[⟨.int .i64 k,.int .i64 (v:Nat),c⟩]=mI (kv++[((k,v),c)]):=by simp[mI]
  rw[em,hs]
 rw[e];exact hK h' (s.put hi s')
theorem xMLenS(s:Sl h0 h S m rows){b c:Nat}{es:List MapEntry}(hb:over rows m b=some (.map es c)):xMLen (.map (some b)) h=some (.int .i64 (es.length:Nat)):=by
 show(match phMap (.map (some b)) h with|some (_,es,_)=>seqN es.length fun n=>some (Value.int .i64 (.ofNat n))|none=>none)=_
 rw[phMap_at s hb];dsimp only;rw[seqN_eq];rfl
theorem Ret.lmmk(s:Sl h0 h S m rows)(hK: ∀h' b,Sl h0 h' S m ((b,.map [] 0)::rows)->Ret (K2 (.map (some b)) h') Q):Ret (Go.Am.hb (xMMk h) K2) Q:=by
 obtain⟨h',hp,s',f,hn,_⟩:=s.sm.push (.map [] 0);have e:xMMk h=some (.map (some h.n),h'):=by unfold xMMk;rw[hp]
 rw[e];exact hK h' h.n (s.cons s' f)
theorem Ret.lfillMM(s:Sl h0 h S m rows)(i:Nat){b:Nat}(hi:rows[i]?=some (b,.hole))(hK: ∀h',Sl h0 h' S m (rows.set i (b,.map [] 0))->Ret (K2 (.map (some b)) h') Q):Ret (Go.Am.hb (xfill b h (xMMk hE)) K2) Q:=by
 obtain⟨h1',hp,hg⟩:=hE_push (.map [] 0);have e:xMMk hE=some (.map (some hE.n),h1'):=by unfold xMMk;rw[hp]
 refine Ret.lfill s i hi e hg (v:=.map (some b)) ?_ hK;unfold atB;rw[seqN_eq]
end
def Bx(V:Vw)(v:Value)(ws:List Nat):Prop:= ∃b c,v= .slice (some ⟨b,0,none⟩) ws.length c/\V b=some (bw ws)
theorem Bx.slv{V:Vw}{v:Value}{ws:List Nat}(h:Bx V v ws):SlV V v (bw ws):=by
 obtain⟨b,c,rfl,hb⟩:=h;exact .inr ⟨b,0,c,bw ws,by rw[bw_len],hb,by omega,fun i x hx=>by rw[Nat.zero_add];exact hx⟩
theorem Bx.mono{V W:Vw}{v:Value}{ws:List Nat}(hs:Vw.le V W)(h:Bx V v ws):Bx W v ws:=by
 obtain⟨b,c,e,hb⟩:=h;exact⟨b,c,e,hs _ _ hb⟩
structure Bk(n:Nat)(ws:List Nat):Prop where
 len:ws.length=n / 64+1
 wd:Wd ws
theorem Bk.in{n:Nat}{ws:List Nat}(h:Bk n ws){i:Nat}(hi:i<n):i / 64<ws.length:=by rw[h.len];omega
theorem Bk.rep(n:Nat):Bk n (List.replicate (n / 64+1) 0):=⟨by simp,Wd.rep _⟩
theorem Bk.add{n:Nat}{ws:List Nat}(h:Bk n ws){i:Nat}(hi:i<n):Bk n (ws.set (i / 64) (ws.getD (i / 64) 0|||2 ^ (i % 64))):=
 ⟨by rw[List.length_set];exact h.len,h.wd.set (or_lt (h.wd.getD _) (pow_lt (Nat.mod_lt _ (by decide))))⟩
theorem Bk.or{n:Nat}{a b:List Nat}(h:Bk n a)(h':Bk n b):Bk n (List.zipWith (· ||| ·) a b):=⟨by rw[List.length_zipWith,h.len,h'.len,Nat.min_self],h.wd.or h'.wd⟩
theorem Bk.and{n:Nat}{a b:List Nat}(h:Bk n a)(h':Bk n b):Bk n (List.zipWith (· &&& ·) a b):=⟨by rw[List.length_zipWith,h.len,h'.len,Nat.min_self],h.wd.and⟩
theorem Bk.same{n:Nat}{a b:List Nat}(h:Bk n a)(h':Bk n b):a.length=b.length:=by rw[h.len,h'.len]
theorem Bk.pos{n:Nat}{a:List Nat}(h:Bk n a):0<a.length:=by rw[h.len];omega
structure Bl(V:Vw)(v:Value)(l:List (List Nat)):Prop where
 h: ∃vs,SlV V v vs/\vs.length=l.length/\ ∀(i:Nat) ws,l[i]?=some ws-> ∃x,vs[i]?=some x/\Bx V x ws
theorem Bl.mono{V W:Vw}{v:Value}{l:List (List Nat)}(hs:Vw.le V W)(h:Bl V v l):Bl W v l:=by
 obtain⟨vs,h1,h2,h3⟩:=h.h;exact⟨vs,h1.mono hs,h2,fun i ws hw=>let⟨x,a,b⟩:=h3 i ws hw;⟨x,a,b.mono hs⟩⟩
theorem Bl.len{V:Vw}{v:Value}{l:List (List Nat)}(h:Bl V v l):xLenS v=some (.int .i64 (l.length:Nat)):=by
 obtain⟨vs,h1,h2,h3⟩:=h.h;rw[h1.len,h2]
theorem Bl.at{V:Vw}{v:Value}{l:List (List Nat)}(h:Bl V v l){i:Nat}{ws:List Nat}(hi:l[i]?=some ws): ∃b o cs x,xIdxS 1 v (.int .i64 (i:Nat))=some (.pointer (some ⟨b,o,none⟩))/\V b=some cs/\cs[o]?=some x/\Bx V x ws:=by
 obtain⟨vs,h1,h2,h3⟩:=h.h;obtain⟨x,q1,q2⟩:=h3 i ws hi;obtain⟨b,o,cs,e1,e2,e3⟩:=h1.at (k:=.i64) q1;exact⟨b,o,cs,x,e1,e2,e3,q2⟩
section
variable {Q:Value->PH->Prop}{n:Nat}{cl cl':CL}{h h0:PH}{S:Vw}{m:OM}{rows:Rws}{K2:Value->PH->R}
theorem Sl.float'{b:Nat}{o:AObj}(s:Sl h0 h S (m.upd b o) rows)(hm:m b=none):Sl h0 h S m ((b,o)::rows):=by
 have hne:=s.ne (b:=b) (o:=o) OM.upd_self;refine⟨?_,.cons (fun p hp e=>hne p hp e.symm) s.nd,fun p hp=>?_⟩
 ·have e:over ((b,o)::rows) m=over rows (m.upd b o):=over_upd hne;rw[e];exact s.sm
 ·rcases List.mem_cons.1 hp with rfl|hp
  ·exact hm
  ·have h1:=s.out p hp;have h2:=hne p hp
   rwa [OM.upd_ne h2]at h1
theorem f92[OkH h](hn:4611686018427387904<=n)(hS:Vw.le S h.cells){bp N:Nat}{ps:List Value}(hp:S bp=some ps)(h0:ps[0]?=some (.int .i64 (N:Nat)))(hN:N<1000000){lv:Value}{l:List Nat}(hl:SlV S lv (ns l))(hll:l.length<1000000){from' k:Nat}(hfk:from'+k<=N):
  Fr h S (F92 n cl (pt bp) lv (.int .i64 (from':Nat)) (.int .i64 (k:Nat)) h) fun v ex=> ∃b us,v= .slice (some ⟨b,0,none⟩) us.length us.length/\ex=[(b,.row .own 1 (bw us))]/\Bk N us/\ ∀j,hs us j=true↔ ∃i∈l,i<k/\j=from'+i:=by
 unfold Fr F92;have st:=Sl.start h hS;refine Ret.lfcall st (f38 (n:=n) (cl:=cl) (h:=h.fzn) (S:=S) (fun b cs e=>st.leS b cs e) hp h0 hN) fun v h1 ex ⟨b,hv,he⟩ st1=>?_;subst hv;subst he;have hlen:=hl.len;rw[ns_len]at hlen;simp only[hlen,vb_some,vN_eq];have key: ∀(d q i:Nat)(us:List Nat)(h1:PH),l.length-i<=d->d<q->i<=l.length->Bk N us->(∀j,hs us j=true↔ ∃x∈l.take i,x<k/\j=from'+x)->Sl h h1 S OM.emp [(b,.row .own 1 (bw us))]->
   Ret (lp q (F92_5 n cl) [.int .i64 (from':Nat),.int .i64 (k:Nat),.slice (some ⟨b,0,none⟩) us.length us.length,lv,.int .i64 (l.length:Nat),.int .i64 (i:Nat)] h1) fun v h'=> ∃rows,Sl h h' S OM.emp rows/\ ∃b us,v= .slice (some ⟨b,0,none⟩) us.length us.length/\rows=[(b,.row .own 1 (bw us))]/\Bk N us/\ ∀j,hs us j=true↔ ∃i∈l,i<k/\j=from'+i:=by
  intro d
  induction d with
  |zero=>
   intro q i us h1 a1 a2 a3 hk hj st;obtain⟨q,rfl⟩: ∃r,q=r+1:=⟨q-1,by omega⟩;rw[lp_succ];have d:decide (((i:Nat):Int)<((l.length:Nat):Int))=false:=by simp;omega
   rw[List.take_of_length_le (by omega)]at hj;simp only[F92_5,F92_4,ucons_cons,xLt_i,d,vb_some,bite_f];exact Ret.of ⟨_,st,b,us,rfl,rfl,hk,hj⟩
  |succ d ih=>
   intro q i us h1 a1 a2 a3 hk hj st
   by_cases hi:i<l.length
   ·obtain⟨q,rfl⟩: ∃r,q=r+1:=⟨q-1,by omega⟩;rw[lp_succ];generalize hL:lp q (F92_5 n cl)=LL;have d:decide (((i:Nat):Int)<((l.length:Nat):Int))=true:=by simp;omega
    have hx:=List.getElem?_eq_getElem hi;have htk:l.take (i+1)=l.take i++[l[i]]:=by rw[List.take_add_one,hx];rfl
    generalize l[i]=x at hx htk;obtain⟨b1,o1,cs1,e1,e2,e3⟩:=hl.at (k:=.i64) (i:=i) (x:=.int .i64 (x:Nat)) (by simp[ns,hx]);have l1:=st.ldS e2 e3;have d0:decide (((0:Nat):Int)<=((x:Nat):Int))=true:=by simp
    have hw:=wrapN (x:=i) (by omega);simp only[F92_5,F92_4,F92_3,ucons_cons,xLt_i,d,vb_some,bite_t,jn_eq,e1,l1,vN_eq,xGe_i,d0,isB_t,gd_true,xPick_t]
    by_cases hxk:x<k
    ·have d1:decide (((x:Nat):Int)<((k:Nat):Int))=true:=by simp;omega
     have ha:IntKind.i64.wrap (((from':Nat):Int)+((x:Nat):Int))=((from'+x:Nat):Int):=by rw[wrap_in (by omega) (by omega)];omega
     simp only[d1,bite_t,F92_1,xAdd_i,ha,vb_some];obtain⟨st2,hmn⟩:=st.sink (i:=0) rfl;have st2:Sl h h1 S (OM.emp.upd b (.row .own 1 (bw us))) []:=st2;refine Ret.hb (c93 (n:=n) (cl:=cl) (c:=us.length) st2 OM.upd_self rfl hk.wd (hk.in (by omega)) (by omega)) fun v h2 ⟨hv,st3⟩=>?_;subst hv;rw[OM.upd_upd]at st3;have st4:=st3.float' rfl;simp only[F92_2,ucons_cons,F92_0,vN_eq,xAdd_i,hw,vb_some];rw[<-hL];have hk':=hk.add (i:=from'+x) (by omega);have:=ih q (i+1) _ h2 (by omega) (by omega) (by omega) hk' (fun j=>?_) st4
     ·rw[List.length_set]at this;exact this
     ·rw[hs_add (hk.in (by omega)),Bool.or_eq_true,hj,htk,decide_eq_true_eq];constructor
      ·rintro(⟨y,h1,h2,h3⟩|h)
       ·exact⟨y,List.mem_append_left _ h1,h2,h3⟩
       ·exact⟨x,List.mem_append_right _ (.head _),hxk,h⟩
      ·rintro⟨y,h1,h2,h3⟩;rcases List.mem_append.1 h1 with h1|h1
       ·exact .inl ⟨y,h1,h2,h3⟩
       ·have:y=x:=by simpa using h1
        subst this;exact .inr h3
    ·have d1:decide (((x:Nat):Int)<((k:Nat):Int))=false:=by simp;omega
     simp only[d1,bite_f,F92_2,ucons_cons,F92_0,vN_eq,xAdd_i,hw,vb_some];rw[<-hL];refine ih q (i+1) us h1 (by omega) (by omega) (by omega) hk (fun j=>?_) st;rw[hj,htk];constructor
     ·rintro⟨y,h1,h2,h3⟩;exact⟨y,List.mem_append_left _ h1,h2,h3⟩
     ·rintro⟨y,h1,h2,h3⟩;rcases List.mem_append.1 h1 with h1|h1
      ·exact⟨y,h1,h2,h3⟩
      ·have:y=x:=by simpa using h1
       subst this;exact absurd h2 hxk
   ·exact ih q i us h1 (by omega) (by omega) a3 hk hj st
 have hrl:(List.replicate (N / 64+1) 0).length=N / 64+1:=by simp
 have:=key l.length n 0 (List.replicate (N / 64+1) 0) h1 (by omega) (by omega) (Nat.zero_le _) (Bk.rep N) (fun j=>by rw[hs_rep];simp) st1;rw[hrl]at this;exact this
theorem c70(hn:4611686018427387904<=n)(st:Sl h0 h S OM.emp rows){bp N:Nat}{ps:List Value}(hp:S bp=some ps)(h0':ps[0]?=some (.int .i64 (N:Nat)))(hN:N<1000000){fv:Value}{fo:List (List Nat)}(h2:ps[2]?=some fv)(hfo:Bl S fv fo)(hfl:fo.length=N)(hfk: ∀ws∈fo,Bk N ws){bv:Value}{bs:List Nat}(hb:Bx S bv bs)(hbk:Bk N bs):
  Ret (F70 n cl (pt bp) bv h) fun v h'=> ∃b us,v= .slice (some ⟨b,0,none⟩) us.length us.length/\Sl h0 h' S OM.emp ((b,.row .own 1 (bw us))::rows)/\Bk N us/\ ∀j,hs us j=true↔ ∃i,i<N/\hs bs i=true/\hs (fo.getD i []) j=true:=by
 unfold F70;have:=st.ok;refine Ret.lfcall st (f38 (n:=n) (cl:=cl) (h:=h.fzn) (S:=S) (fun b cs e=>st.leS b cs e) hp h0' hN) fun v h1 ex ⟨b,hv,he⟩ st1=>?_;subst hv;subst he;have l0:xLd (.pointer (some ⟨bp,0,none⟩)) h1=some (.int .i64 (N:Nat)):=st1.ldS hp h0';simp only[xNil_p,vb_some,xFld_p,Nat.zero_add,l0,vN_eq];have key: ∀(d q i:Nat)(us:List Nat)(h1:PH),N-i<=d->d<q->i<=N->Bk N us->(∀j,hs us j=true↔ ∃x,x<i/\hs bs x=true/\hs (fo.getD x []) j=true)->Sl h0 h1 S OM.emp ((b,.row .own 1 (bw us))::rows)->
   Ret (lp q (F70_5 n cl) [pt bp,bv,.slice (some ⟨b,0,none⟩) us.length us.length,.int .i64 (N:Nat),.int .i64 (i:Nat)] h1) fun v h'=> ∃b us,v= .slice (some ⟨b,0,none⟩) us.length us.length/\Sl h0 h' S OM.emp ((b,.row .own 1 (bw us))::rows)/\Bk N us/\ ∀j,hs us j=true↔ ∃i,i<N/\hs bs i=true/\hs (fo.getD i []) j=true:=by
  intro d
  induction d with
  |zero=>
   intro q i us h1 a1 a2 a3 hk hj st;obtain⟨q,rfl⟩: ∃r,q=r+1:=⟨q-1,by omega⟩;rw[lp_succ];have hi:i=N:=by omega
   subst hi;have d:decide (((i:Nat):Int)<((i:Nat):Int))=false:=by simp
   simp only[F70_5,F70_4,ucons_cons,xLt_i,d,vb_some,bite_f];exact Ret.of ⟨b,us,rfl,st,hk,hj⟩
  |succ d ih=>
   intro q i us h1 a1 a2 a3 hk hj st
   by_cases hi:i<N
   ·obtain⟨q,rfl⟩: ∃r,q=r+1:=⟨q-1,by omega⟩;rw[lp_succ];generalize hL:lp q (F70_5 n cl)=LL;have d:decide (((i:Nat):Int)<((N:Nat):Int))=true:=by simp;omega
    have hw:=wrapN (x:=i) (by omega);have hx:=List.getElem?_eq_getElem (l:=fo) (i:=i) (by omega);have hD:fo.getD i []=fo[i]'(by omega):=by rw[List.getD_eq_getElem?_getD,hx];rfl
    have hck:=hfk _ (List.getElem_mem (l:=fo) (n:=i) (by omega));obtain⟨b1,o1,cs1,x,e1,e2,e3,e4⟩:=hfo.at hx;have l1:=st.ldS e2 e3;have l2:xLd (.pointer (some ⟨bp,2,none⟩)) h1=some fv:=st.ldS hp h2;have:=st.ok;have hpc:=c94 (n:=n) (cl:=cl) (h:=h1.fzn) (S:=S) (fun b cs e=>st.leS b cs e) hb.slv hbk.wd (hbk.in hi) (by omega);simp only[F70_5,F70_4,F70_3,ucons_cons,xLt_i,d,vb_some,bite_t,jn_eq,hpc];cases hq:hs bs i with
    |true=>
     simp only[bite_t,F70_1,xNil_p,vb_some,xFld_p,Nat.zero_add,l2,e1,l1];obtain⟨st2,hmn⟩:=st.sink (i:=0) rfl;have st2:Sl h0 h1 S (OM.emp.upd b (.row .own 1 (bw us))) rows:=st2;refine Ret.hb (c91 (n:=n) (cl:=cl) (c:=us.length) hn st2 (md:=.own) rfl OM.upd_self e4.slv (hk.same hck) hk.wd hck.wd (by rw[hk.len];omega)) fun v h2 ⟨hv,st3⟩=>?_;subst hv;rw[OM.upd_upd]at st3;have st4:=st3.float' rfl;simp only[F70_2,ucons_cons,F70_0,vN_eq,xAdd_i,hw,vb_some];rw[<-hL];have hk':=hk.or hck;have:=ih q (i+1) _ h2 (by omega) (by omega) (by omega) hk' (fun j=>?_) st4
     ·rw[hk'.len, <-hk.len]at this;exact this
     ·rw[hs_or (hk.same hck),Bool.or_eq_true,hj];constructor
      ·rintro(⟨y,h1,h2,h3⟩|h)
       ·exact⟨y,by omega,h2,h3⟩
       ·exact⟨i,by omega,hq,by rw[hD];exact h⟩
      ·rintro⟨y,h1,h2,h3⟩
       by_cases e:y=i
       ·subst e;rw[hD]at h3;exact .inr h3
       ·exact .inl ⟨y,by omega,h2,h3⟩
    |false=>
     simp only[bite_f,F70_2,ucons_cons,F70_0,vN_eq,xAdd_i,hw,vb_some];rw[<-hL];refine ih q (i+1) us h1 (by omega) (by omega) (by omega) hk (fun j=>?_) st;rw[hj];constructor
     ·rintro⟨y,h1,h2,h3⟩;exact⟨y,by omega,h2,h3⟩
     ·rintro⟨y,h1,h2,h3⟩
      by_cases e:y=i
      ·subst e;rw[hq]at h2;cases h2
      ·exact⟨y,by omega,h2,h3⟩
   ·exact ih q i us h1 (by omega) (by omega) a3 hk hj st
 have hrl:(List.replicate (N / 64+1) 0).length=N / 64+1:=by simp
 have:=key N n 0 (List.replicate (N / 64+1) 0) h1 (by omega) (by omega) (Nat.zero_le _) (Bk.rep N) (fun j=>by rw[hs_rep];simp) st1;rw[hrl]at this;exact this
end
def Meets(a b:List Nat):Prop:= ∃i,hs a i=true/\hs b i=true
def FstI(n:Nat)(P:Nat->Prop)(z:Int):Prop:=(z= -1/\ ∀k,k<n-> ¬ P k)\/ ∃k:Nat,z=k/\k<n/\P k/\ ∀j,j<k-> ¬ P j
theorem meets_iff{N:Nat}{a b:List Nat}(ha:Bk N a)(hb:Bk N b):Meets a b↔ ¬ ∀w∈List.zipWith (· &&& ·) a b,w=0:=by
 rw[hs_none (ha.and hb).wd];constructor
 ·rintro⟨i,h1,h2⟩ h;have:=h i;rw[hs_and (ha.same hb),h1,h2]at this;cases this
 ·intro h;obtain⟨i,hi⟩:=Classical.not_forall.1 h;rw[hs_and (ha.same hb)]at hi;have hi:(hs a i&&hs b i)=true:=by
   cases hq:(hs a i&&hs b i)with
   |true=>rfl
   |false=>exact absurd hq hi
  rw[Bool.and_eq_true]at hi;exact⟨i,hi⟩
section
variable {Q:Value->PH->Prop}{n:Nat}{cl cl' cl'':CL}{h h0:PH}{S:Vw}{m:OM}{rows:Rws}{K2:Value->PH->R}
theorem c109(hn:4611686018427387904<=n)(h107: ∀v h,cl 107 [v] h=F107 n cl' v h)(st:Sl h0 h S OM.emp rows){x N:Nat}{bv lv:Value}{bs ls:List Nat}(hx:S x=some [bv])(hb:Bx S bv bs)(hl:Bx S lv ls)(kb:Bk N bs)(kl:Bk N ls)(hN:N<1000000):
  Ret (F109 n cl lv (pt x) h) fun v h'=> ∃bb:Bool,v= .bool bb/\(bb=true↔Meets ls bs)/\Sl h0 h' S OM.emp rows:=by
 unfold F109;have l1:xLd (.pointer (some ⟨x,0,none⟩)) h=some bv:=st.ldS hx rfl;have:=st.ok;obtain⟨b,c,rfl,hbl⟩:=hl;simp only[l1,vb_some];refine Ret.lfcall st (f72 (n:=n) (cl:=cl) (h:=h.fzn) (S:=S) (c:=c) hn (fun b cs e=>st.leS b cs e) hbl hb.slv (kl.same kb) kl.wd kb.wd kl.pos (by rw[kl.len];omega)) fun v h1 ex ⟨b',hv,he⟩ st1=>?_;subst hv;subst he;have st1:Sl h0 h1 S OM.emp ((b',.row .opn 1 (bw (List.zipWith (· &&& ·) ls bs)))::rows):=st1;have:=st1.ok;have hkz:=kl.and kb;have hbz:vall S (over ((b',.row .opn 1 (bw (List.zipWith (· &&& ·) ls bs)))::rows) OM.emp) b'=some (bw (List.zipWith (· &&& ·) ls bs)):=vall_m (st1.mem (.head _));have hlz:(List.zipWith (· &&& ·) ls bs).length=ls.length:=by rw[hkz.len,kl.len]
 obtain⟨bb,p1,p2⟩:=c95 (n:=n) (cl:=cl) (cl':=cl') (h:=h1.fzn) (S:=vall S (over ((b',.row .opn 1 (bw (List.zipWith (· &&& ·) ls bs)))::rows) OM.emp)) hn h107 st1.fz (v:=.slice (some ⟨b',0,none⟩) ls.length openCap) (ws:=List.zipWith (· &&& ·) ls bs)
  (Bx.slv ⟨b',openCap,by rw[hlz],hbz⟩) (by rw[hkz.len];omega)
 simp only[p1,vb_some,xNot_b];refine Ret.of ⟨!bb,rfl,?_,st1.drop (List.sublist_cons_self _ _)⟩;rw[meets_iff kl kb, <-p2];cases bb<;>simp
theorem c108[OkH h](hn:4611686018427387904<=n)(h109: ∀u v h,cl 109 [u,v] h=F109 n cl' u v h)(h107: ∀v h,cl' 107 [v] h=F107 n cl'' v h)(hS:Vw.le S h.cells){x N:Nat}{bv lv:Value}{bs:List Nat}{ll:List (List Nat)}(hx:S x=some [bv])(hb:Bx S bv bs)(hl:Bl S lv ll)(kb:Bk N bs)(kl: ∀ws∈ll,Bk N ws)(hN:N<1000000)(hll:ll.length<1000000):
  ∃z:Int,pcall (F108 n cl lv (.func (.func 109) ⟨[]⟩ ⟨[pt x]⟩) h)=some (.int .i64 z)/\FstI ll.length (fun k=>Meets (ll.getD k []) bs) z:=by
 have hlen:=hl.len;have key: ∀(d q i:Nat)(h1:PH),ll.length-i<=d->d<q->i<=ll.length->(∀k,k<i-> ¬ Meets (ll.getD k []) bs)->Sl h h1 S OM.emp []->
   Ret (lp q (F108_3 n cl) [lv,.func (.func 109) ⟨[]⟩ ⟨[pt x]⟩,.int .i64 (ll.length:Nat),.int .i64 (i:Nat)] h1) fun u _=> ∃z:Int,u= .int .i64 z/\FstI ll.length (fun k=>Meets (ll.getD k []) bs) z:=by
  intro d
  induction d with
  |zero=>
   intro q i h1 a1 a2 a3 hno st;obtain⟨q,rfl⟩: ∃r,q=r+1:=⟨q-1,by omega⟩;rw[lp_succ];have d:decide (((i:Nat):Int)<((ll.length:Nat):Int))=false:=by simp;omega
   simp only[F108_3,F108_2,ucons_cons,xLt_i,d,vb_some,bite_f];exact Ret.of ⟨-1,rfl,.inl ⟨rfl,fun k hk=>hno k (by omega)⟩⟩
  |succ d ih=>
   intro q i h1 a1 a2 a3 hno st
   by_cases hi:i<ll.length
   ·obtain⟨q,rfl⟩: ∃r,q=r+1:=⟨q-1,by omega⟩;rw[lp_succ];generalize hL:lp q (F108_3 n cl)=LL;have d:decide (((i:Nat):Int)<((ll.length:Nat):Int))=true:=by simp;omega
    have hy:=List.getElem?_eq_getElem hi;have hD:ll.getD i []=ll[i]:=by rw[List.getD_eq_getElem?_getD,hy];rfl
    have hm:=kl _ (List.getElem_mem hi);obtain⟨b1,o1,cs1,xv,e1,e2,e3,e4⟩:=hl.at hy;have l1:=st.ldS e2 e3;simp only[F108_3,F108_2,F108_1,ucons_cons,xLt_i,d,vb_some,bite_t,e1,l1];have hcall:xCall cl (.func (.func 109) ⟨[]⟩ ⟨[pt x]⟩) [xv] h1=F109 n cl' xv (pt x) h1:=h109 xv (pt x) h1;rw[hcall];refine Ret.hb (c109 (n:=n) (cl:=cl') (cl':=cl'') hn h107 st hx hb e4 kb hm hN) fun v h2 ⟨bb,hv,hbb,st2⟩=>?_;subst hv;cases bb with
    |true=>
     simp only[bite_t];exact Ret.of ⟨i,rfl,.inr ⟨i,rfl,hi,by show Meets (ll.getD i []) bs;rw[hD];exact hbb.1 rfl,hno⟩⟩
    |false=>
     simp only[bite_f,F108_0,vN_eq,xAdd_i,wrapN (show i<4611686018427387904 by omega),vb_some];rw[<-hL];refine ih q (i+1) h2 (by omega) (by omega) (by omega) (fun k hk=>?_) st2
     by_cases e:k=i
     ·subst e;rw[hD];exact fun h=>by cases hbb.2 h
     ·exact hno k (by omega)
   ·exact ih q i h1 (by omega) (by omega) a3 hno st
 obtain⟨u,h1,e,z,rfl,hz⟩:=key ll.length n 0 h (by omega) (by omega) (Nat.zero_le _) (by omega) (Sl.start h hS);refine⟨z,?_,hz⟩;unfold F108;simp only[hlen,vb_some,vN_eq];rw[e];exact pcall_some rfl
theorem c97[OkH h](hn:4611686018427387904<=n)(h109: ∀u v h,cl 109 [u,v] h=F109 n cl' u v h)(h107: ∀v h,cl' 107 [v] h=F107 n cl'' v h)(hS:Vw.le S h.cells){bp N:Nat}{ps:List Value}{bv lv:Value}{bs:List Nat}{ll:List (List Nat)}(hp:S bp=some ps)(h3:ps[3]?=some lv)(hb:Bx S bv bs)(hl:Bl S lv ll)(kb:Bk N bs)(kl: ∀ws∈ll,Bk N ws)(hN:N<1000000)(hll:ll.length<1000000):
  ∃z:Int,pcall (F97 n cl (pt bp) bv h)=some (.int .i64 z)/\FstI ll.length (fun k=>Meets (ll.getD k []) bs) z:=by
 have key:Ret (F97 n cl (pt bp) bv h) fun v _=> ∃z:Int,v= .int .i64 z/\FstI ll.length (fun k=>Meets (ll.getD k []) bs) z:=by
  unfold F97;refine Ret.lbox (Sl.start h hS) fun h1 x st1=>?_;have hc:cellsL bv=[bv]:=by obtain⟨b,c,rfl,_⟩:=hb;rfl
  rw[hc]at st1;have l3:xLd (.pointer (some ⟨bp,3,none⟩)) h1=some lv:=st1.ldS hp h3;have:=st1.ok;have le:Vw.le S (vall S (over [(x,.row .own 1 [bv])] OM.emp)):=st1.sm.S_all;obtain⟨z,p1,p2⟩:=c108 (n:=n) (cl:=cl) (cl':=cl') (cl'':=cl'') (h:=h1.fzn) (S:=vall S (over [(x,.row .own 1 [bv])] OM.emp)) hn h109 h107 st1.fz (x:=x) (vall_m (st1.mem (.head _))) (hb.mono le) (hl.mono le) kb kl hN hll;simp only[xNil_p,vb_some,xFld_p,Nat.zero_add,l3,p1];exact Ret.of ⟨z,rfl,p2⟩
 obtain⟨v,h1,e,z,rfl,hz⟩:=key;exact⟨z,by rw[e];exact pcall_some rfl,hz⟩
end
def Gq(v:Value)(k:Nat)(cells:List Value)(ex:Rws):Prop:=Gl 1 v k cells ex\/ ∃b,v= .slice (some ⟨b,0,none⟩) k k/\ex=[(b,.row .own 1 cells)]/\cells.length=k/\k<1000000000
theorem Gq.len{v:Value}{k:Nat}{cells:List Value}{ex:Rws}(g:Gq v k cells ex):xLenS v=some (.int .i64 (k:Nat)):=by
 rcases g with g|⟨b,rfl,_⟩
 ·exact g.len
 ·simp
theorem Gq.one{v:Value}{k:Nat}{cells:List Value}{ex:Rws}(g:Gq v k cells ex):v.oneCell'=true:=by
 rcases g with g|⟨b,rfl,_⟩
 ·exact g.one
 ·rfl
theorem Gq.veq{v:Value}{k:Nat}{cells:List Value}{ex:Rws}(g:Gq v k cells ex):Go.Am.veq v v=true:=by
 rcases g with g|⟨b,rfl,_⟩
 ·exact g.veq
 ·exact veq_sl
theorem Gq.length{v:Value}{k:Nat}{cells:List Value}{ex:Rws}(g:Gq v k cells ex):cells.length=k:=by
 rcases g with g|⟨b,rfl,_,h,_⟩
 ·have:=g.length;omega
 ·exact h
section
variable {Q:Value->PH->Prop}{n:Nat}{cl cl':CL}{h h0:PH}{S:Vw}{m:OM}{rows:Rws}{K2:Value->PH->R}
theorem Gq.at{ex:Rws}{v x:Value}{k i:Nat}{cells:List Value}(g:Gq v k cells ex)(s:Sl h0 h S m rows)(hex: ∀p∈ex,p∈rows)(hi:cells[i]?=some x): ∃b o,xIdxS 1 v (.int .i64 (i:Nat))=some (.pointer (some ⟨b,o,none⟩))/\xLd (.pointer (some ⟨b,o,none⟩)) h=some x:=by
 have hlen:=g.length;have hlt:=(List.getElem?_eq_some_iff.1 hi).1;rcases g with g|⟨b,rfl,rfl,h1,h2⟩
 ·rcases g.h with⟨rfl,rfl,rfl,rfl⟩|⟨b,o,cap,all,rfl,rfl,h1,h2,_⟩
  ·simp at hi
  ·refine⟨b,o+i,?_,?_⟩
   ·rw[xIdxS_at (by omega) (by omega)];simp
   ·rw[h1,Nat.mul_one,List.getElem?_take]at hi
    split at hi
    ·rw[List.getElem?_drop]at hi;exact s.ld (hex _ (.head _)) hi
    ·cases hi
 ·refine⟨b,i,?_,?_⟩
  ·rw[xIdxS_at (by omega) (by omega)];simp
  ·exact s.ld (hex _ (.head _)) hi
theorem Ret.gqapp{ex:Rws}(s:Sl h0 h S m (ex++rows)){P:Program}{T:TypeId}{ats:Array TypeId}{parts:List (Nat×Value)}{bt k:Nat}{v x:Value}{cells:List Value}(g:Gq v k cells ex)
  (hb:bsRow P T 1 parts=some (1,[x])) (ha:appInfo P ats=some (1,bt)) (hone:x.oneCell'=true) (hsz:(2*(k+1)+512)*bt<=281474976710656)
  (hk: ∀h' v' ex',Sl h0 h' S m (ex'++rows)->Gq v' (k+1) (cells++[x]) ex'->Ret (K2 v' h') Q):Ret (Go.Am.hb (xBS 1 (bsRow P T 1 parts) h) fun v1 h=>Go.Am.hb (xApp (appInfo P ats) v v1 h) K2) Q:=by
 have hone':oneCells [x]=true:=by unfold oneCells;simp[hone]
 rcases g with g|⟨b,rfl,rfl,h1,h2⟩
 ·exact Ret.gapp s g hb ha rfl hone' hsz fun h' v' ex' s' g'=>hk h' v' ex' s' (.inl g')
 ·refine Ret.lbs s hb fun h1' b1 st=>?_;have hx:=st.ptail (n:=1) (sz:=1) (c:=1) (b:=b1) (.head _) rfl;rw[ha];refine Ret.lappF st (st.mem (.tail _ (.head _))) (by omega) (by omega) hx (by omega) hone' hsz fun h' b' st'=>?_;rw[List.drop_zero,Nat.mul_one,List.take_of_length_le (by omega)]at st';have hd:((b',AObj.row .opn 1 (cells++[x]))::rows).Sublist ((b',AObj.row .opn 1 (cells++[x]))::(b1,.row .own 1 [x])::([(b,.row .own 1 cells)]++rows)):=
   .cons_cons _ (.cons _ (.cons _ (List.Sublist.refl _)))
  refine hk h' _ [(b',.row .opn 1 (cells++[x]))] (st'.drop hd) (.inl ⟨.inr ⟨b',0,openCap,cells++[x],rfl,rfl,?_,?_,?_,Nat.le_refl _,by decide⟩⟩)
  ·rw[List.drop_zero,List.take_of_length_le];rw[List.length_append];simp;omega
  ·rw[List.length_append];simp;omega
  ·rw[Nat.sub_self,Nat.zero_mul]
theorem Gq.settle{ex:Rws}{k:Nat}{v:Value}{cells:List Value}(s:Sl h0 h S m (ex++rows))(g:Gq v k cells ex): ∃S',Vw.le S S'/\Sl h0 h S' m rows/\SlC S' 1 v k cells:=by
 rcases g with g|⟨b,rfl,rfl,h1,h2⟩
 ·exact Gl.settle s g
 ·obtain⟨s1,hS⟩:=s.settle (i:=0) rfl;refine⟨_,Vw.le_put hS,s1,.inr ⟨b,0,k,cells,rfl,Vw.put_self,by omega,?_⟩⟩;rw[List.drop_zero,Nat.mul_one,List.take_of_length_le (by omega)]
theorem Bx.settle{b c:Nat}{md:Mode}{e:Nat}{ws:List Nat}(s:Sl h0 h S m ((b,.row md e (bw ws))::rows)): ∃S',Vw.le S S'/\Sl h0 h S' m rows/\Bx S' (.slice (some ⟨b,0,none⟩) ws.length c) ws:=by
 obtain⟨s1,hS⟩:=s.settle (i:=0) rfl;exact⟨_,Vw.le_put hS,s1,b,c,rfl,Vw.put_self⟩
end
theorem pmA{α:Type}(x y:α)(a r:List α):(x::y::(a++r)).Perm (a++(x::y::r)):=(List.perm_middle.trans (.cons _ List.perm_middle)).symm
theorem pmB{α:Type}(x y:α)(a b r:List α):(x::y::(a++(b++r))).Perm (b++(x::y::(a++r))):=
 ((List.Perm.cons _ (.cons _ (List.perm_append_comm_assoc a b r))).trans (pmA x y b (a++r)))
theorem pmC{α:Type}(x y:α)(a b c r:List α):(x::y::(a++(b++(c++r)))).Perm (c++(x::y::(a++(b++r)))):=
 (List.Perm.cons _ (.cons _ (List.Perm.append_left a (List.perm_append_comm_assoc b c r)))).trans (pmB x y a c (b++r))
structure Pp where
 N:Nat
 first:List Nat
 follow:List (List Nat)
 last:List (List Nat)
 null:List Bool
 takes:List (List Nat)
structure Pp.Ok(p:Pp):Prop where
 n:p.N<100000
 first:Bk p.N p.first
 fol: ∀ws∈p.follow,Bk p.N ws
 last: ∀ws∈p.last,Bk p.N ws
 takes: ∀ws∈p.takes,Bk p.N ws
 tl:p.takes.length=256
 fl:p.follow.length=p.N
 ll:p.last.length=p.null.length
 nl:p.null.length<1000
def bvs(l:List Bool):List Value:=l.map .bool
def Pm(S:Vw)(bp:Nat)(p:Pp):Prop:= ∃ps v1 v2 v3 v4,S bp=some ps/\ps[0]?=some (.int .i64 (p.N:Nat))/\(ps[1]?=some v1/\Bx S v1 p.first)/\(ps[2]?=some v2/\Bl S v2 p.follow)/\(ps[3]?=some v3/\Bl S v3 p.last)/\(ps[4]?=some v4/\SlV S v4 (bvs p.null))/\ ∀(c:Nat) ws,p.takes[c]?=some ws-> ∃x,ps[5+c]?=some x/\Bx S x ws
theorem Pm.mono{V W:Vw}{bp:Nat}{p:Pp}(hs:Vw.le V W)(h:Pm V bp p):Pm W bp p:=by
 obtain⟨ps,v1,v2,v3,v4,a0,a1,⟨a2,a3⟩,⟨a4,a5⟩,⟨a6,a7⟩,⟨a8,a9⟩,a10⟩:=h;exact⟨ps,v1,v2,v3,v4,hs _ _ a0,a1,⟨a2,a3.mono hs⟩,⟨a4,a5.mono hs⟩,⟨a6,a7.mono hs⟩,⟨a8,a9.mono hs⟩,fun c ws hc=>let⟨x,q1,q2⟩:=a10 c ws hc;⟨x,q1,q2.mono hs⟩⟩
structure Ss where
 alls:List (List Nat)
 nexts:List (List Int)
 oks:List Int
def KVok(kv:List ((ByteArray×Nat)×Nat))(alls:List (List Nat)):Prop:=kv.length+1=alls.length/\ ∀(i:Nat) p,kv[i]?=some p-> ∃ws,alls[i+1]?=some ws/\p.1=(bstr (kyb ws),i+1)
def Ms(S:Vw)(bx bp:Nat)(rows rest:Rws)(s:Ss):Prop:= ∃bk kv c av nv ov exA exN exO cA cN,rows=(bx,.row .own 1 [pt bp,.map (some bk),av,nv,ov])::(bk,.map (mS kv) c)::(exA++(exN++(exO++rest)))/\
 Gq av s.alls.length cA exA/\(∀(i:Nat) ws,s.alls[i]?=some ws-> ∃x,cA[i]?=some x/\Bx S x ws)/\Gq nv s.nexts.length cN exN/\(∀(i:Nat) r,s.nexts[i]?=some r-> ∃x,cN[i]?=some x/\SlV S x (zv r))/\Gq ov s.oks.length (zv s.oks) exO/\KVok kv s.alls
theorem Ms.mono{V W:Vw}{bx bp:Nat}{rows rest:Rws}{s:Ss}(hs:Vw.le V W)(h:Ms V bx bp rows rest s):Ms W bx bp rows rest s:=by
 obtain⟨bk,kv,c,av,nv,ov,exA,exN,exO,cA,cN,a0,a1,a2,a3,a4,a5,a6⟩:=h;exact⟨bk,kv,c,av,nv,ov,exA,exN,exO,cA,cN,a0,a1,fun i ws hi=>let⟨x,q1,q2⟩:=a2 i ws hi;⟨x,q1,q2.mono hs⟩,a3,fun i r hi=>let⟨x,q1,q2⟩:=a4 i r hi;⟨x,q1,q2.mono hs⟩,a5,a6⟩
def Dis(alls:List (List Nat)):Prop:= ∀(i j:Nat) a,1<=i->i<j->alls[i]?=some a->alls[j]?≠some a
structure Ss.Ok(N:Nat)(s:Ss):Prop where
 bk: ∀ws∈s.alls,Bk N ws
 dis:Dis s.alls
 one:1<=s.alls.length
 sz:s.alls.length<=3000
 ol:s.oks.length=s.alls.length
 nl:s.nexts.length<=s.alls.length
theorem kv_none{N:Nat}{kv:List ((ByteArray×Nat)×Nat)}{alls:List (List Nat)}{bs:List Nat}(hk:KVok kv alls)(hb: ∀ws∈alls,Bk N ws)(kb:Bk N bs)(hno: ∀j,1<=j->alls[j]?≠some bs): ∀p∈kv,p.1.1≠bstr (kyb bs):=by
 intro p hp e;obtain⟨i,hi⟩:=List.getElem?_of_mem hp;obtain⟨ws,h1,h2⟩:=hk.2 i p hi;rw[h2]at e;have hw:=hb ws (List.mem_of_getElem? h1);have:=keyS_inj (hw.same kb) hw.wd kb.wd e;subst this;exact hno (i+1) (by omega) h1
theorem kv_hit{N:Nat}{kv:List ((ByteArray×Nat)×Nat)}{alls:List (List Nat)}{bs:List Nat}{i:Nat}(hk:KVok kv alls)(hb: ∀ws∈alls,Bk N ws)(kb:Bk N bs)(hd:Dis alls)(h1:1<=i)(hi:alls[i]?=some bs):
  ∃l1 l2 c,kv=l1++((bstr (kyb bs),i),c)::l2/\ ∀p∈l1,p.1.1≠bstr (kyb bs):=by
 have hlt:=(List.getElem?_eq_some_iff.1 hi).1;have hl:=hk.1;have hx:=List.getElem?_eq_getElem (l:=kv) (i:=i-1) (by omega);obtain⟨ws,q1,q2⟩:=hk.2 _ _ hx;have e:i-1+1=i:=by omega
 rw[e,hi]at q1;obtain rfl:=Option.some.inj q1;rw[e]at q2;refine⟨kv.take (i-1),kv.drop i,(kv[i-1]'(by omega)).2,?_,fun p hp he=>?_⟩
 ·have h3:kv.drop (i-1)=kv[i-1]'(by omega)::kv.drop (i-1+1):=List.drop_eq_getElem_cons (by omega);rw[e]at h3;have h4:kv[i-1]'(by omega)=((bstr (kyb bs),i),(kv[i-1]'(by omega)).2):=by rw[<-q2]
  rw[<-h4, <-h3,List.take_append_drop]
 ·obtain⟨j,hj⟩:=List.getElem?_of_mem hp;rw[List.getElem?_take]at hj
  split at hj
  ·rename_i hji;obtain⟨us,r1,r2⟩:=hk.2 j p hj;rw[r2]at he;have hw:=hb us (List.mem_of_getElem? r1);have:=keyS_inj (hw.same kb) hw.wd kb.wd he;subst this;exact hd (j+1) i us (by omega) (by omega) r1 hi
  ·cases hj
theorem bs84{b n c:Nat}:bsRow Try.prog 84 1 [(0,.slice (some ⟨b,0,none⟩) n c)]=some (1,[.slice (some ⟨b,0,none⟩) n c]):=by kernel_rfl
theorem ai84:appInfo Try.prog #[84,84]=some (1,24):=by kernel_rfl
def StR(p:Pp)(s:Ss)(bs:List Nat)(z:Int)(s':Ss):Prop:=
 ((∀j,hs bs j=false)/\z= -1/\s'=s)\/((∃j,hs bs j=true)/\ ∃i:Nat,z=i/\1<=i/\s'.alls[i]?=some bs/\s'.nexts=s.nexts/\
  (s'=s\/(i=s.alls.length/\(∀j,1<=j->s.alls[j]?≠some bs)/\s'.alls=s.alls++[bs]/\ ∃a,s'.oks=s.oks++[a]/\FstI p.last.length (fun k=>Meets (p.last.getD k []) bs) a)))
section
variable {Q:Value->PH->Prop}{n:Nat}{cl cl' cl'':CL}{h h0:PH}{S:Vw}{m:OM}{rows rest:Rws}{K2:Value->PH->R}
theorem c71(hn:4611686018427387904<=n)(h109: ∀u v h,cl 109 [u,v] h=F109 n cl' u v h)(h107: ∀v h,cl 107 [v] h=F107 n cl' v h)(h107': ∀v h,cl' 107 [v] h=F107 n cl'' v h)
  (st:Sl h0 h S OM.emp rows) {bx bp:Nat} {p:Pp} {s:Ss} {bv:Value} {bs:List Nat} (hp:Pm S bp p) (hpo:p.Ok) (ms:Ms S bx bp rows rest s) (hso:s.Ok p.N) (hb:Bx S bv bs) (kb:Bk p.N bs):
  Ret (F71 n cl (pt bx) bv h) fun v h'=> ∃z rows' s',v= .int .i64 z/\Sl h0 h' S OM.emp rows'/\Ms S bx bp rows' rest s'/\StR p s bs z s':=by
 have hN:=hpo.n;have hbl:bs.length<1000000:=by rw[kb.len];omega
 have:=st.ok;obtain⟨bb,p1,p2⟩:=c95 (n:=n) (cl:=cl) (cl':=cl') (h:=h.fzn) (S:=S) hn h107 (fun b cs e=>st.leS b cs e) hb.slv hbl;rw[hs_none kb.wd]at p2;have pk:=c96 (n:=n) (cl:=cl) (h:=h.fzn) (S:=S) hn (fun b cs e=>st.leS b cs e) hb.slv kb.wd hbl;unfold F71;simp only[p1,vb_some];cases bb with
 |true=>
  simp only[bite_t];exact Ret.of ⟨-1,rows,s,rfl,st,ms,.inl ⟨p2.1 rfl,rfl,rfl⟩⟩
 |false=>
  have hne: ∃j,hs bs j=true:=by
   refine Classical.byContradiction fun hno=>?_;have:false=true:=p2.2 fun j=>by
    cases hq:hs bs j with
    |false=>rfl
    |true=>exact absurd ⟨j,hq⟩ hno
   cases this
  obtain⟨ps,v1,v2,v3,v4,a0,a1,⟨a2,a3⟩,⟨a4,a5⟩,⟨a6,a7⟩,⟨a8,a9⟩,a10⟩:=hp;obtain⟨bk,kv,c,av,nv,ov,exA,exN,exO,cA,cN,rfl,gA,hA,gN,hNx,gO,hkv⟩:=ms;have l1:xLd (.pointer (some ⟨bx,1,none⟩)) h=some (.map (some bk)):=st.ld (.head _) rfl;have hmk:over ((bx,.row .own 1 [pt bp,.map (some bk),av,nv,ov])::(bk,.map (mS kv) c)::(exA++(exN++(exO++rest)))) OM.emp bk=some (.map (mS kv) c):=st.mem (.tail _ (.head _));simp only[bite_f,F71_2,pk,vb_some,xNil_p,xFld_p,Nat.zero_add,l1,keyS]
  by_cases hex: ∃i,1<=i/\s.alls[i]?=some bs
  ·obtain⟨i,hi1,hi⟩:=hex;obtain⟨k1,k2,c',rfl,hk1⟩:=kv_hit hkv hso.bk kb hso.dis hi1 hi;simp only[lkS_hit st hmk hk1 (ok:=true),if_true,vb_some,xExt_t',List.getElem?_cons_zero,List.getElem?_cons_succ,jn_eq,F71_1,xNot_b,Bool.not_true,bite_f,ucons_cons];exact Ret.of ⟨i,_,s,rfl,st,⟨bk,_,c,av,nv,ov,exA,exN,exO,cA,cN,rfl,gA,hA,gN,hNx,gO,hkv⟩,.inr ⟨hne,i,rfl,hi1,hi,rfl,.inl rfl⟩⟩
  ·have hno: ∀j,1<=j->s.alls[j]?≠some bs:=fun j h1 h2=>hex ⟨j,h1,h2⟩;have hkn:=kv_none hkv hso.bk kb hno;have l2:xLd (.pointer (some ⟨bx,2,none⟩)) h=some av:=st.ld (.head _) rfl;simp only[lkS_none st hmk hkn (ok:=true),if_true,vb_some,xExt_t',List.getElem?_cons_zero,List.getElem?_cons_succ,jn_eq,F71_1,xNot_b,Bool.not_false,bite_t,F71_0,xNil_p,xFld_p,Nat.zero_add,l2,gA.len,l1];refine Ret.lmupS st 1 rfl hkn fun h1 st1=>?_;have st1:Sl h0 h1 S OM.emp ((bx,.row .own 1 [pt bp,.map (some bk),av,nv,ov])::(bk,.map (mS (kv++[((bstr (kyb bs),s.alls.length),c)])) (c+1))::(exA++(exN++(exO++rest)))):=st1;have l2':xLd (.pointer (some ⟨bx,2,none⟩)) h1=some av:=st1.ld (.head _) rfl;simp only[l2',vb_some];obtain⟨b,cb,rfl,hbS⟩:=hb;have hsz:=hso.sz;have st1p:=st1.perm (pmA _ _ exA _);refine Ret.gqapp st1p gA bs84 ai84 rfl (sz_le (c:=3000) hsz (by decide)) fun h2 av' exA' st2 gA'=>?_;have st2:=st2.perm (pmA _ _ exA' _).symm;refine Ret.lst1 st2 0 rfl rfl (by simp) gA'.one fun h3 st3=>?_;have st3:Sl h0 h3 S OM.emp ((bx,.row .own 1 [pt bp,.map (some bk),av',nv,ov])::(bk,.map (mS (kv++[((bstr (kyb bs),s.alls.length),c)])) (c+1))::(exA'++(exN++(exO++rest)))):=st3;have l4:xLd (.pointer (some ⟨bx,4,none⟩)) h3=some ov:=st3.ld (.head _) rfl;have l0:xLd (.pointer (some ⟨bx,0,none⟩)) h3=some (pt bp):=st3.ld (.head _) rfl;have:=st3.ok;obtain⟨z,z1,z2⟩:=c97 (n:=n) (cl:=cl) (cl':=cl') (cl'':=cl'') (h:=h3.fzn) (S:=S) hn h109 h107' (fun b cs e=>st3.leS b cs e) a0 a6 (bv:=.slice (some ⟨b,0,none⟩) bs.length cb) (bs:=bs) ⟨b,cb,rfl,hbS⟩ a7 kb hpo.last (by omega) (by have:=hpo.ll;have:=hpo.nl;omega);simp only[l4,l0,vb_some,z1,lchk_t gO.veq];have st3p:=st3.perm (pmC _ _ exA' exN exO rest);have hol:=hso.ol;refine Ret.gqapp st3p gO bs28 ai28 rfl (sz_le (c:=3000) (by omega) (by decide)) fun h4 ov' exO' st4 gO'=>?_;have st4:=st4.perm (pmC _ _ exA' exN exO' rest).symm;refine Ret.lst1 st4 0 rfl rfl (by simp) gO'.one fun h5 st5=>?_;have st5:Sl h0 h5 S OM.emp ((bx,.row .own 1 [pt bp,.map (some bk),av',nv,ov'])::(bk,.map (mS (kv++[((bstr (kyb bs),s.alls.length),c)])) (c+1))::(exA'++(exN++(exO'++rest)))):=st5;simp only[ucons_cons];have hlA:=gA.length;refine Ret.of ⟨s.alls.length,_,⟨s.alls++[bs],s.nexts,s.oks++[z]⟩,rfl,st5,⟨bk,_,_,av',nv,ov',exA',exN,exO',cA++[.slice (some ⟨b,0,none⟩) bs.length cb],cN,rfl,?_,?_,gN,hNx,?_,?_⟩,.inr ⟨hne,s.alls.length,rfl,hso.one,?_,rfl,.inr ⟨rfl,hno,rfl,z,rfl,z2⟩⟩⟩
   ·show Gq av' (s.alls++[bs]).length _ exA'
    rw[List.length_append];exact gA'
   ·intro i ws hi
    show∃x,(cA++[.slice (some ⟨b,0,none⟩) bs.length cb])[i]?=some x/\Bx S x ws
    have hi:(s.alls++[bs])[i]?=some ws:=hi
    by_cases hlt:i<s.alls.length
    ·rw[List.getElem?_append_left hlt]at hi;obtain⟨x,q1,q2⟩:=hA i ws hi;exact⟨x,by rw[List.getElem?_append_left (by omega)];exact q1,q2⟩
    ·rw[List.getElem?_append_right (by omega)]at hi;have hi0:i-s.alls.length=0:=by
      have:=(List.getElem?_eq_some_iff.1 hi).1;simp at this;omega
     rw[hi0]at hi;obtain rfl:bs=ws:=by simpa using hi
     refine⟨_,?_,b,cb,rfl,hbS⟩;rw[List.getElem?_append_right (by omega),show i-cA.length=0 by omega];rfl
   ·show Gq ov' (s.oks++[z]).length (zv (s.oks++[z])) exO'
    have e:zv (s.oks++[z])=zv s.oks++[.int .i64 z]:=by simp[zv]
    rw[List.length_append,e];exact gO'
   ·refine⟨by have:=hkv.1;simp;omega,fun i q hq=>?_⟩
    show∃ws,(s.alls++[bs])[i+1]?=some ws/\q.1=(bstr (kyb ws),i+1)
    have hk1:=hkv.1
    by_cases hlt:i<kv.length
    ·rw[List.getElem?_append_left hlt]at hq;obtain⟨ws,r1,r2⟩:=hkv.2 i q hq;exact⟨ws,by rw[List.getElem?_append_left (by omega)];exact r1,r2⟩
    ·rw[List.getElem?_append_right (by omega)]at hq;have hi0:i-kv.length=0:=by
      have:=(List.getElem?_eq_some_iff.1 hq).1;simp at this;omega
     rw[hi0]at hq;obtain rfl:=(by simpa using hq:((bstr (kyb bs),s.alls.length),c)=q);refine⟨bs,?_,?_⟩
     ·rw[List.getElem?_append_right (by omega),show i+1-s.alls.length=0 by omega];rfl
     ·show(bstr (kyb bs),s.alls.length)=(bstr (kyb bs),i+1)
      rw[show i+1=s.alls.length by omega]
   ·show(s.alls++[bs])[s.alls.length]?=some bs
    rw[List.getElem?_append_right (Nat.le_refl _),Nat.sub_self];rfl
end
def MayP(p:Pp)(alls:List (List Nat))(i j:Nat):Prop:=if i=0 then hs p.first j=true else∃x,x<p.N/\hs (alls.getD i []) x=true/\hs (p.follow.getD x []) j=true
def Tgt(p:Pp)(alls:List (List Nat))(i c:Nat)(t:List Nat):Prop:=Bk p.N t/\ ∀j,hs t j=true↔MayP p alls i j/\hs (p.takes.getD c []) j=true
def Lead(alls:List (List Nat))(t:List Nat)(z:Int):Prop:=((∀j,hs t j=false)/\z= -1)\/((∃j,hs t j=true)/\ ∃m:Nat,z=m/\1<=m/\alls[m]?=some t)
structure Ss.Mk(p:Pp)(a0:Int)(s:Ss):Prop where
 ok:s.Ok p.N
 ne: ∀(k:Nat) ws,1<=k->s.alls[k]?=some ws-> ∃j,hs ws j=true
 row: ∀(k:Nat) r,s.nexts[k]?=some r->r.length=256/\ ∀(c:Nat) z,r[c]?=some z-> ∃t,Tgt p s.alls k c t/\Lead s.alls t z
 acc0:s.oks[0]?=some a0
 acc: ∀(k:Nat) ws a,1<=k->s.alls[k]?=some ws->s.oks[k]?=some a->FstI p.last.length (fun q=>Meets (p.last.getD q []) ws) a
 from': ∀(k:Nat) ws,1<=k->s.alls[k]?=some ws-> ∃j c,j<k/\c<256/\Tgt p s.alls j c ws
theorem getD_app{alls l:List (List Nat)}{i:Nat}(h:i<alls.length):(alls++l).getD i []=alls.getD i []:=by
 rw[List.getD_eq_getElem?_getD,List.getD_eq_getElem?_getD,List.getElem?_append_left h]
theorem get_app{alls l:List (List Nat)}{i:Nat}{t:List Nat}(h:alls[i]?=some t):(alls++l)[i]?=some t:=by
 rw[List.getElem?_append_left (List.getElem?_eq_some_iff.1 h).1];exact h
theorem Tgt.app{p:Pp}{alls l:List (List Nat)}{i c:Nat}{t:List Nat}(hi:i<alls.length)(h:Tgt p alls i c t):Tgt p (alls++l) i c t:=by
 refine⟨h.1,fun j=>?_⟩;rw[h.2];unfold MayP;rw[getD_app hi]
theorem Lead.app{alls l:List (List Nat)}{t:List Nat}{z:Int}(h:Lead alls t z):Lead (alls++l) t z:=by
 rcases h with h|⟨h1,m,h2,h3,h4⟩
 ·exact .inl h
 ·exact .inr ⟨h1,m,h2,h3,get_app h4⟩
theorem Ss.Mk.step{p:Pp}{a0:Int}{s s':Ss}{t:List Nat}{z:Int}{i c:Nat}(h:s.Mk p a0)(hsz:s.alls.length<3000)(hi:i<s.alls.length)(hc:c<256)(ht:Tgt p s.alls i c t)(hr:StR p s t z s'):
  s'.Mk p a0/\Lead s'.alls t z/\(∃l,s'.alls=s.alls++l)/\s'.nexts=s.nexts/\s'.alls.length<=s.alls.length+1:=by
 rcases hr with⟨h1,h2,rfl⟩|⟨h1,k,h2,h3,h4,h5,h6⟩
 ·exact⟨h,.inl ⟨h1,h2⟩,⟨[],by simp⟩,rfl,by omega⟩
 ·rcases h6 with rfl|⟨hk,hno,hal,a,hoks,hfa⟩
  ·exact⟨h,.inr ⟨h1,k,h2,h3,h4⟩,⟨[],by simp⟩,rfl,by omega⟩
  ·have hlast: ∀(q:Nat) ws,s'.alls[q]?=some ws->s.alls[q]?=some ws\/(q=s.alls.length/\ws=t):=by
    intro q ws hq;rw[hal]at hq
    by_cases hlt:q<s.alls.length
    ·rw[List.getElem?_append_left hlt]at hq;exact .inl hq
    ·rw[List.getElem?_append_right (by omega)]at hq;have hi0:q-s.alls.length=0:=by
      have:=(List.getElem?_eq_some_iff.1 hq).1;simp at this;omega
     rw[hi0]at hq;exact .inr ⟨by omega,by simpa using hq.symm⟩
   have hol:=h.ok.ol;refine⟨⟨⟨fun ws hw=>?_,?_,?_,?_,?_,?_⟩,?_,?_,?_,?_,?_⟩,.inr ⟨h1,k,h2,h3,h4⟩,⟨[t],hal⟩,h5,by rw[hal];simp⟩
   ·rw[hal]at hw;rcases List.mem_append.1 hw with hw|hw
    ·exact h.ok.bk ws hw
    ·have:ws=t:=by simpa using hw
     rw[this];exact ht.1
   ·intro x y b hx hxy hbx hby
    rcases hlast x b hbx with q1|⟨q1,q2⟩
    ·rcases hlast y b hby with r1|⟨r1,r2⟩
     ·exact h.ok.dis x y b hx hxy q1 r1
     ·rw[r2]at q1;exact hno x hx q1
    ·have:=(List.getElem?_eq_some_iff.1 hby).1;rw[hal]at this;simp at this;omega
   ·rw[hal];simp
   ·rw[hal];simp;omega
   ·rw[hal,hoks];simp[hol]
   ·rw[hal,h5];have:=h.ok.nl;simp;omega
   ·intro q ws hq hqw;rcases hlast q ws hqw with q1|⟨q1,q2⟩
    ·exact h.ne q ws hq q1
    ·rw[q2];exact h1
   ·intro q r hq;rw[h5]at hq;obtain⟨r1,r2⟩:=h.row q r hq;have hql:q<s.alls.length:=by have:=(List.getElem?_eq_some_iff.1 hq).1;have:=h.ok.nl;omega
    refine⟨r1,fun c' z' hz=>?_⟩;obtain⟨t',e1,e2⟩:=r2 c' z' hz;rw[hal];exact⟨t',e1.app hql,e2.app⟩
   ·rw[hoks,List.getElem?_append_left (by rw[hol];exact h.ok.one)];exact h.acc0
   ·intro q ws b hq hqw hqb;rcases hlast q ws hqw with q1|⟨q1,q2⟩
    ·have hlt:=(List.getElem?_eq_some_iff.1 q1).1;rw[hoks,List.getElem?_append_left (by omega)]at hqb;exact h.acc q ws b hq q1 hqb
    ·rw[hoks,List.getElem?_append_right (by omega),show q-s.oks.length=0 by omega]at hqb;have:a=b:=by simpa using hqb
     rw[<-this,q2];exact hfa
   ·intro q ws hq hqw;rcases hlast q ws hqw with q1|⟨q1,q2⟩
    ·obtain⟨j,c',e1,e2,e3⟩:=h.from' q ws hq q1;have:=(List.getElem?_eq_some_iff.1 q1).1;rw[hal];exact⟨j,c',e1,e2,e3.app (by omega)⟩
    ·rw[hal,q2];exact⟨i,c,by omega,hc,ht.app hi⟩
theorem Ms.frame{S:Vw}{bx bp:Nat}{rows rest:Rws}{s:Ss}(h:Ms S bx bp rows rest s): ∃A,rows=A++rest/\ ∀rest',Ms S bx bp (A++rest') rest' s:=by
 obtain⟨bk,kv,c,av,nv,ov,exA,exN,exO,cA,cN,rfl,gA,hA,gN,hNx,gO,hkv⟩:=h;refine⟨(bx,.row .own 1 [pt bp,.map (some bk),av,nv,ov])::(bk,.map (mS kv) c)::(exA++(exN++exO)),by simp[List.append_assoc],fun rest'=>⟨bk,kv,c,av,nv,ov,exA,exN,exO,cA,cN,by simp[List.append_assoc],gA,hA,gN,hNx,gO,hkv⟩⟩
section
variable {Q:Value->PH->Prop}{n:Nat}{cl cl' cl'':CL}{h h0:PH}{S:Vw}{m:OM}{rows rest:Rws}{K2:Value->PH->R}
theorem Ret.lst1M{A R:Rws}{b o e:Nat}{md:Mode}{cs:List Value}{v:Value}(s:Sl h0 h S m (A++(b,.row md e cs)::R))(hm:mro md=false)(ho:o<cs.length)(hv:v.oneCell'=true)(hk: ∀h',Sl h0 h' S m (A++(b,.row md e (cs.set o v))::R)->Ret (K2 undef h') Q):
  Ret (Go.Am.hb (xSt1 (.pointer (some ⟨b,o,none⟩)) v h) K2) Q:=by
 have hi:(A++(b,AObj.row md e cs)::R)[A.length]?=some (b,.row md e cs):=by
  rw[List.getElem?_append_right (Nat.le_refl _),Nat.sub_self];rfl
 refine Ret.lst1 s A.length hi hm ho hv fun h' s'=>hk h' ?_;rw[List.set_append_right _ _ (Nat.le_refl _),Nat.sub_self,List.set_cons_zero]at s';exact s'
end
theorem zv_set{l:List Int}{i:Nat}{z:Int}:(zv l).set i (.int .i64 z)=zv (l.set i z):=by
 unfold zv;rw[List.map_set]
theorem zv_zrows{N:Nat}:zrows [.int .i64 0] N=zv (List.replicate N 0):=by
 apply List.ext_getElem?
 intro j
 by_cases hj:j<N
 ·have h1:(zv (List.replicate N 0))[j]?=some (.int .i64 0):=by simp[zv,hj]
  rw[h1,zrows_get _ _ _ (by simpa using hj)];simp[Nat.mod_one]
 ·rw[List.getElem?_eq_none (by rw[zrows_length];simp;omega),List.getElem?_eq_none (by rw[zv_len];simp;omega)]
section
variable {Q:Value->PH->Prop}{n:Nat}{cl cl' cl'':CL}{h h0:PH}{S:Vw}{m:OM}{rows rest:Rws}{K2:Value->PH->R}
theorem Ms.ld0{bx bp:Nat}{s:Ss}(st:Sl h0 h S m rows){V:Vw}(ms:Ms V bx bp rows rest s):xLd (.pointer (some ⟨bx,0,none⟩)) h=some (pt bp):=by
 obtain⟨bk,kv,c,av,nv,ov,exA,exN,exO,cA,cN,rfl,_⟩:=ms;exact st.ld (.head _) rfl
theorem loop40i(hn:4611686018427387904<=n)(h109: ∀u v h,cl 109 [u,v] h=F109 n cl' u v h)(h107: ∀v h,cl 107 [v] h=F107 n cl' v h)(h107': ∀v h,cl' 107 [v] h=F107 n cl'' v h)
  {bx bp bn i:Nat} {p:Pp} {a0:Int} {mayv:Value} {us:List Nat} {al0:List (List Nat)} {nx0:List (List Int)} {r2:Kt} {S0:Vw} (hpo:p.Ok) (kus:Bk p.N us) (hmp: ∀j,hs us j=true↔MayP p al0 i j) (hi0:i<al0.length) (hal0:al0.length<=2000)
  (hk: ∀S' h' rows' s' nr',Vw.le S0 S'->Pm S' bp p->Sl h0 h' S' OM.emp rows'->Ms S' bx bp rows' ((bn,.row .own 1 (zv nr'))::rest) s'->s'.Mk p a0->nr'.length=256->(∃l,s'.alls=al0++l)->s'.nexts=nx0->s'.alls.length<=al0.length+256->(∀(c':Nat) z,nr'[c']?=some z-> ∃t,Tgt p s'.alls i c' t/\Lead s'.alls t z)->Ret (F40_2 n cl (pt bx) (.slice (some ⟨bn,0,none⟩) 256 256) (.int .i64 (i:Nat)) r2 h') Q):
  ∀(k q c:Nat)(S:Vw)(h:PH)(rows:Rws)(s:Ss)(nr:List Int),256-c<=k->k<q->c<=256->Vw.le S0 S->Pm S bp p->Bx S mayv us->Sl h0 h S OM.emp rows->Ms S bx bp rows ((bn,.row .own 1 (zv nr))::rest) s->s.Mk p a0->nr.length=256->(∃l,s.alls=al0++l)->s.nexts=nx0->s.alls.length<=al0.length+c->(∀(c':Nat) z,c'<c->nr[c']?=some z-> ∃t,Tgt p s.alls i c' t/\Lead s.alls t z)->
  Ret (lp q (F40_4 n cl r2) [pt bx,.int .i64 (i:Nat),mayv,.slice (some ⟨bn,0,none⟩) 256 256,.int .i64 ((256:Nat):Int),.int .i64 (c:Nat)] h) Q:=by
 intro k
 induction k with
 |zero=>
  intro q c S h rows s nr h1 h2 h3 le0 hp hm st ms hmk hnr hex hnx hsz hrow;obtain⟨q,rfl⟩: ∃r,q=r+1:=⟨q-1,by omega⟩;rw[lp_succ];have d:decide (((c:Nat):Int)<((256:Nat):Int))=false:=by simp;omega
  simp only[F40_4,F40_3,ucons_cons,xLt_i,d,vb_some,bite_f];have hc:c=256:=by omega
  subst hc;exact hk S h rows s nr le0 hp st ms hmk hnr hex hnx hsz fun c' z hz=>hrow c' z (by have:=(List.getElem?_eq_some_iff.1 hz).1;omega) hz
 |succ k ih=>
  intro q c S h rows s nr h1 h2 h3 le0 hp hm st ms hmk hnr hex hnx hsz hrow
  by_cases hc:c<256
  ·obtain⟨q,rfl⟩: ∃r,q=r+1:=⟨q-1,by omega⟩;rw[lp_succ];generalize hL:lp q (F40_4 n cl r2)=LL;have d:decide (((c:Nat):Int)<((256:Nat):Int))=true:=by simp;omega
   have hN:=hpo.n;have hx:=List.getElem?_eq_getElem (l:=p.takes) (i:=c) (by rw[hpo.tl];exact hc);have hD:p.takes.getD c []=p.takes[c]'(by rw[hpo.tl];exact hc):=by rw[List.getD_eq_getElem?_getD,hx];rfl
   have ktc:=hpo.takes _ (List.getElem_mem (l:=p.takes) (n:=c) (by rw[hpo.tl];exact hc));generalize p.takes[c]'(by rw[hpo.tl];exact hc)=tc at hx hD ktc;have hp0:=hp;obtain⟨ps,v1,v2,v3,v4,a0',a1,a2,a4,a6,a8,a10⟩:=hp;obtain⟨tv,t1,t2⟩:=a10 c tc hx;have l0:=ms.ld0 st;have l1:xLd (.pointer (some ⟨bp,5+c*1,none⟩)) h=some tv:=st.ldS a0' (by rw[Nat.mul_one];exact t1);obtain⟨b,cc,rfl,hbm⟩:=hm;have:=st.ok;simp only[F40_4,F40_3,F40_0,ucons_cons,xLt_i,d,vb_some,bite_t,xNil_p,xFld_p,Nat.zero_add,l0,xIdxA_at' hc,l1];refine Ret.lfcall st (f72 (n:=n) (cl:=cl) (h:=h.fzn) (S:=S) (c:=cc) hn (fun b cs e=>st.leS b cs e) hbm t2.slv (kus.same ktc) kus.wd ktc.wd kus.pos (by rw[kus.len];omega)) fun v h1 ex ⟨b',hv,he⟩ st1=>?_;subst hv;subst he;have kt:=kus.and ktc;have hlt:(List.zipWith (· &&& ·) us tc).length=us.length:=by rw[kt.len,kus.len]
   obtain⟨S1,le1,st2,hbt⟩:=Bx.settle (c:=openCap) st1;rw[hlt]at hbt;have hTgt:Tgt p s.alls i c (List.zipWith (· &&& ·) us tc):=by
    refine⟨kt,fun j=>?_⟩;rw[hs_and (kus.same ktc),Bool.and_eq_true,hmp,hD];obtain⟨l,hl⟩:=hex;unfold MayP;rw[hl,getD_app hi0]
   refine Ret.hb (c71 (n:=n) (cl:=cl) (cl':=cl') (cl'':=cl'') hn h109 h107 h107' st2 (hp0.mono le1) hpo (ms.mono le1) hmk.ok hbt kt) fun v h3 ⟨z,rows3,s3,hv,st3,ms3,hst⟩=>?_;subst hv;obtain⟨l,hl⟩:=hex;have hil:i<s.alls.length:=by rw[hl,List.length_append];omega
   obtain⟨hmk3,hld,⟨l3,hl3⟩,hnx3,hsz3⟩:=hmk.step (by omega) hil hc hTgt hst;have e1:xIdxS 1 (.slice (some ⟨bn,0,none⟩) 256 256) (.int .i64 (c:Nat))=some (.pointer (some ⟨bn,c,none⟩)):=by
    rw[xIdxS_at (by omega) (by omega)];simp
   simp only[e1,vb_some];obtain⟨A,hA,hfr⟩:=ms3.frame;subst hA;refine Ret.lst1M st3 rfl (by rw[zv_len,hnr];exact hc) rfl fun h4 st4=>?_;rw[zv_set]at st4;simp only[vN_eq,xAdd_i,wrapN (show c<4611686018427387904 by omega),vb_some];rw[<-hL];refine ih q (c+1) S1 h4 _ s3 (nr.set c z) (by omega) (by omega) (by omega) (le0.trans le1) (hp0.mono le1) ⟨b,cc,rfl,le1 _ _ hbm⟩ st4 (hfr _) hmk3 (by rw[List.length_set];exact hnr) ⟨l++l3,by rw[hl3,hl,List.append_assoc]⟩ (hnx3.trans hnx) (by omega) fun c' z' hc' hz'=>?_
   by_cases e:c'=c
   ·subst e;rw[List.getElem?_set_self (by omega)]at hz';obtain rfl:=Option.some.inj hz';rw[hl3];exact⟨_,hTgt.app hil,by rw[<-hl3];exact hld⟩
   ·rw[List.getElem?_set_ne (fun h=>e h.symm)]at hz';obtain⟨t,q1,q2⟩:=hrow c' z' (by omega) hz';rw[hl3];exact⟨t,q1.app hil,q2.app⟩
  ·exact ih q c S h rows s nr (by omega) (by omega) h3 le0 hp hm st ms hmk hnr hex hnx hsz hrow
theorem c40(hn:4611686018427387904<=n)(h109: ∀u v h,cl 109 [u,v] h=F109 n cl' u v h)(h107: ∀v h,cl 107 [v] h=F107 n cl' v h)(h107': ∀v h,cl' 107 [v] h=F107 n cl'' v h)
  (st:Sl h0 h S OM.emp rows) {bx bp:Nat} {p:Pp} {a0:Int} {s:Ss} (hp:Pm S bp p) (hpo:p.Ok) (ms:Ms S bx bp rows rest s) (hmk:s.Mk p a0) (hs0:s.nexts=[]) (hsz:s.alls.length<=2000):
  Ret (F40 n cl (pt bx) h) fun v h'=> ∃bb S' rows' s',v= .bool bb/\Vw.le S S'/\Sl h0 h' S' OM.emp rows'/\Ms S' bx bp rows' rest s'/\s'.Mk p a0/\(bb=true->s'.nexts.length=s'.alls.length/\s'.alls.length<=2000)/\(bb=false->2000<s'.alls.length):=by
 have key: ∀(d q i:Nat)(S':Vw)(h:PH)(rows:Rws)(s:Ss),2001-i<=d->d<q->Vw.le S S'->Sl h0 h S' OM.emp rows->Ms S' bx bp rows rest s->s.Mk p a0->s.nexts.length=i->s.alls.length<=2000->
   Ret (lp q (fun r2 y1 h=>ucons y1 fun v3 y4=>ucons y4 fun v5 y6=>F40_10 n cl v3 v5 r2 h) [pt bx,.int .i64 (i:Nat)] h) fun v h'=> ∃bb S' rows' s',v= .bool bb/\Vw.le S S'/\Sl h0 h' S' OM.emp rows'/\Ms S' bx bp rows' rest s'/\s'.Mk p a0/\(bb=true->s'.nexts.length=s'.alls.length/\s'.alls.length<=2000)/\(bb=false->2000<s'.alls.length):=by
  intro d
  induction d with
  |zero=>
   intro q i S' h rows s h1 h2 le st ms hmk hnl hal;have:=hmk.ok.nl;omega
  |succ d ih=>
   intro q i S' h rows s h1 h2 le st ms hmk hnl hal;obtain⟨q,rfl⟩: ∃r,q=r+1:=⟨q-1,by omega⟩;rw[lp_succ];generalize hL:lp q (fun r2 y1 h=>ucons y1 fun v3 y4=>ucons y4 fun v5 y6=>F40_10 n cl v3 v5 r2 h)=LL;have hN:=hpo.n;have ms0:=ms;have hnlA:=hmk.ok.nl;have l0:=ms.ld0 st;obtain⟨bk,kv,c,av,nv,ov,exA,exN,exO,cA,cN,hrows,gA,hA,gN,hNx,gO,hkv⟩:=ms;have l2:xLd (.pointer (some ⟨bx,2,none⟩)) h=some av:=st.ld (by rw[hrows];exact .head _) rfl;simp only[ucons_cons,F40_10,xNil_p,xFld_p,Nat.zero_add,vb_some,l2,gA.len,xLt_i]
   by_cases hi:i<s.alls.length
   ·have d:decide (((i:Nat):Int)<((s.alls.length:Nat):Int))=true:=by simp;omega
    have hpS:=hp.mono le;have hpS0:=hpS;obtain⟨ps,v1,v2,v3,v4,a0',a1,⟨a2,a3⟩,⟨a4,a5⟩,a6,a8,a10⟩:=hpS;have lf:xLd (.pointer (some ⟨bp,1,none⟩)) h=some v1:=st.ldS a0' a2;have go: ∀(S1:Vw)(h1:PH)(rows1:Rws)(mayv:Value)(us:List Nat),Vw.le S' S1->Sl h0 h1 S1 OM.emp rows1->Ms S1 bx bp rows1 rest s->Bx S1 mayv us->Bk p.N us->(∀j,hs us j=true↔MayP p s.alls i j)->Ret (F40_5 n cl LL (pt bx) (.int .i64 (i:Nat)) mayv h1) fun v h'=> ∃bb S' rows' s',v= .bool bb/\Vw.le S S'/\Sl h0 h' S' OM.emp rows'/\Ms S' bx bp rows' rest s'/\s'.Mk p a0/\(bb=true->s'.nexts.length=s'.alls.length/\s'.alls.length<=2000)/\(bb=false->2000<s'.alls.length):=by
     intro S1 h1 rows1 mayv us le1 st1 ms1 hmay kus hmp;unfold F40_5;rw[vN_eq];refine Ret.lmk st1 zi28 (by omega) (by omega) (by omega) (by omega) fun h2 bn st2=>?_;rw[Int.toNat_natCast,zv_zrows]at st2;rw[Int.toNat_natCast];obtain⟨A,hA1,hfr⟩:=ms1.frame;subst hA1;have st2:=st2.perm (rows':=A++(bn,.row .own 1 (zv (List.replicate 256 0)))::rest) List.perm_middle.symm;have hlen:xLenS (.slice (some ⟨bn,0,none⟩) 256 256)=some (.int .i64 ((256:Nat):Int)):=by simp
     simp only[hlen,vb_some];refine loop40i hn h109 h107 h107' hpo kus hmp hi hal (S0:=S1) (nx0:=s.nexts) (fun S3 h3 rows3 s3 nr le3 hp3 st3 ms3 hmk3 hnr hex3 hnx3 hsz3 hrow3=>?_) 256 n 0 S1 h2 _ s (List.replicate 256 0) (by omega) (by omega) (by omega) (Vw.le.refl _) (hpS0.mono le1) hmay st2 (hfr _) hmk (by rw[List.length_replicate]) ⟨[],by rw[List.append_nil]⟩ rfl (by omega) (fun c' z hc'=>by omega);obtain⟨l3,hl3⟩:=hex3;have hil3:i<s3.alls.length:=by rw[hl3,List.length_append];omega
     obtain⟨A3,hA3,hfr3⟩:=ms3.frame;subst hA3;have st3:=st3.perm (rows':=(bn,.row .own 1 (zv nr))::(A3++rest)) List.perm_middle;obtain⟨st4,hbnS⟩:=st3.settle (i:=0) rfl;have st4:Sl h0 h3 (S3.put bn (zv nr)) OM.emp (A3++rest):=st4;have le4:Vw.le S3 (S3.put bn (zv nr)):=Vw.le_put hbnS;have hnv:SlV (S3.put bn (zv nr)) (.slice (some ⟨bn,0,none⟩) 256 256) (zv nr):=.inr ⟨bn,0,256,zv nr,by rw[zv_len,hnr],Vw.put_self,by omega,fun j x hx=>by rw[Nat.zero_add];exact hx⟩;have ms4:=(hfr3 rest).mono le4;obtain⟨bk,kv,c,av,nv,ov,exA,exN,exO,cA,cN,hrows,gA,hA,gN,hNx,gO,hkv⟩:=ms4;rw[hrows]at st4;have ln:xLd (.pointer (some ⟨bx,3,none⟩)) h3=some nv:=st4.ld (.head _) rfl;simp only[F40_2,xNil_p,xFld_p,Nat.zero_add,vb_some,ln];have st4p:=st4.perm (pmB _ _ exA exN (exO++rest));have hsx:s3.nexts.length<=3000:=by rw[hnx3];omega
     refine Ret.gqapp st4p gN (bs27 rfl) ai27 rfl (sz_le (c:=3000) hsx (by decide)) fun h5 nv' exN' st5 gN'=>?_;have st5:=st5.perm (pmB _ _ exA exN' (exO++rest)).symm;refine Ret.lst1 st5 0 rfl rfl (by simp) gN'.one fun h6 st6=>?_;have st6:Sl h0 h6 (S3.put bn (zv nr)) OM.emp ((bx,.row .own 1 [pt bp,.map (some bk),av,nv',ov])::(bk,.map (mS kv) c)::(exA++(exN'++(exO++rest)))):=st6;have la:xLd (.pointer (some ⟨bx,2,none⟩)) h6=some av:=st6.ld (.head _) rfl;have hms6:Ms (S3.put bn (zv nr)) bx bp ((bx,.row .own 1 [pt bp,.map (some bk),av,nv',ov])::(bk,.map (mS kv) c)::(exA++(exN'++(exO++rest)))) rest ⟨s3.alls,s3.nexts++[nr],s3.oks⟩:=by
      refine⟨bk,kv,c,av,nv',ov,exA,exN',exO,cA,cN++[.slice (some ⟨bn,0,none⟩) 256 256],rfl,gA,hA,?_,fun q r hq=>?_,gO,hkv⟩
      ·show Gq nv' (s3.nexts++[nr]).length _ exN'
       rw[List.length_append];exact gN'
      ·have hq:(s3.nexts++[nr])[q]?=some r:=hq;have hlN:=gN.length
       by_cases hlt:q<s3.nexts.length
       ·rw[List.getElem?_append_left hlt]at hq;obtain⟨x,e1,e2⟩:=hNx q r hq;exact⟨x,by rw[List.getElem?_append_left (by omega)];exact e1,e2⟩
       ·rw[List.getElem?_append_right (by omega)]at hq;have hi0:q-s3.nexts.length=0:=by
         have:=(List.getElem?_eq_some_iff.1 hq).1;simp at this;omega
        rw[hi0]at hq;obtain rfl:nr=r:=by simpa using hq
        refine⟨_,?_,hnv⟩;rw[List.getElem?_append_right (by omega),show q-cN.length=0 by omega];rfl
     have hmk6:Ss.Mk p a0 ⟨s3.alls,s3.nexts++[nr],s3.oks⟩:=by
      refine⟨⟨hmk3.ok.bk,hmk3.ok.dis,hmk3.ok.one,hmk3.ok.sz,hmk3.ok.ol,?_⟩,hmk3.ne,fun q r hq=>?_,hmk3.acc0,hmk3.acc,hmk3.from'⟩
      ·show(s3.nexts++[nr]).length<=s3.alls.length
       rw[List.length_append,hnx3,hnl];simp;omega
      ·have hq:(s3.nexts++[nr])[q]?=some r:=hq
       by_cases hlt:q<s3.nexts.length
       ·rw[List.getElem?_append_left hlt]at hq;exact hmk3.row q r hq
       ·rw[List.getElem?_append_right (by omega)]at hq;have hi0:q-s3.nexts.length=0:=by
         have:=(List.getElem?_eq_some_iff.1 hq).1;simp at this;omega
        rw[hi0]at hq;obtain rfl:nr=r:=by simpa using hq
        have hqi:q=i:=by rw[hnx3,hnl]at hi0 hlt;omega
        subst hqi;exact⟨hnr,hrow3⟩
     have leF:Vw.le S (S3.put bn (zv nr)):=((le.trans le1).trans le3).trans le4;simp only[la,vb_some,gA.len,vN_eq,xGt_i]
     by_cases hbig:2000<s3.alls.length
     ·have d2:decide (((2000:Nat):Int)<((s3.alls.length:Nat):Int))=true:=by simp;omega
      simp only[d2,bite_t];exact Ret.of ⟨false,_,_,_,rfl,leF,st6,hms6,hmk6,(fun h=>by cases h),fun _=>hbig⟩
     ·have d2:decide (((2000:Nat):Int)<((s3.alls.length:Nat):Int))=false:=by simp;omega
      simp only[d2,bite_f,F40_1,vN_eq,xAdd_i,wrapN (show i<4611686018427387904 by omega),vb_some];rw[<-hL];refine ih q (i+1) _ h6 _ _ (by omega) (by omega) leF st6 hms6 hmk6 ?_ (by show s3.alls.length<=2000;omega)
      show(s3.nexts++[nr]).length=i+1
      rw[List.length_append,hnx3,hnl];rfl
    simp only[d,bite_t,F40_9,xNil_p,xFld_p,Nat.zero_add,vb_some,l0,lf,jn_eq,F40_8,vN_eq,xGt_i]
    by_cases hz:i=0
    ·have d2:decide (((0:Nat):Int)<((i:Nat):Int))=false:=by simp[hz]
     simp only[d2,bite_f,F40_7,ucons_cons];exact go S' h rows v1 p.first (Vw.le.refl _) st ms0 a3 hpo.first fun j=>by unfold MayP;rw[if_pos hz]
    ·have d2:decide (((0:Nat):Int)<((i:Nat):Int))=true:=by simp;omega
     have hx:=List.getElem?_eq_getElem hi;have hD:s.alls.getD i []=s.alls[i]:=by rw[List.getD_eq_getElem?_getD,hx];rfl
     have kb:=hmk.ok.bk _ (List.getElem_mem hi);obtain⟨bv,q1,q2⟩:=hA i _ hx;obtain⟨bb,ob,e1,e2⟩:=gA.at st (fun pr hpr=>by rw[hrows];exact .tail _ (.tail _ (List.mem_append_left _ hpr))) q1;simp only[d2,bite_t,F40_6,xNil_p,xFld_p,Nat.zero_add,vb_some,l0,l2,e1,e2];refine Ret.hb (c70 hn st a0' a1 (by omega) a4 a5 hpo.fl hpo.fol q2 kb) fun v h1 ⟨b,us,hv,st1,kus,hus⟩=>?_;subst hv;obtain⟨S1,le1,st2,hbx⟩:=Bx.settle (c:=us.length) st1;simp only[F40_7,ucons_cons];exact go S1 h1 rows _ us le1 st2 (ms0.mono le1) hbx kus fun j=>by unfold MayP;rw[if_neg hz,hus,hD]
   ·have d:decide (((i:Nat):Int)<((s.alls.length:Nat):Int))=false:=by simp;omega
    simp only[d,bite_f];exact Ret.of ⟨true,S',rows,s,rfl,le,st,ms0,hmk,(fun _=>⟨by omega,hal⟩),fun h=>by cases h⟩
 unfold F40;rw[vN_eq];exact key 2001 n 0 S h rows s (by omega) (by omega) (Vw.le.refl _) st ms hmk (by rw[hs0];rfl) hsz
end
structure Rr where
 first:List Nat
 follow:List (List Nat)
 last:List (List Nat)
 null:List Bool
 tks:Nat->List Nat
def slW(b W:Nat):Value:=.slice (some ⟨b,0,none⟩) W W
def tvs(ft:Nat->Nat)(W:Nat):List Value:=(List.range 256).map fun c=>slW (ft c) W
theorem tvs_get{ft:Nat->Nat}{W c:Nat}(hc:c<256):(tvs ft W)[c]?=some (slW (ft c) W):=by
 unfold tvs;rw[List.getElem?_map,List.getElem?_range hc];rfl
theorem tvs_len{ft:Nat->Nat}{W:Nat}:(tvs ft W).length=256:=by unfold tvs;rw[List.length_map,List.length_range]
structure Tk(m:OM)(N bf:Nat)(ft:Nat->Nat)(tks:Nat->List Nat):Prop where
 row: ∀c,c<256->m (ft c)=some (.row .own 1 (bw (tks c)))
 bk: ∀c,c<256->Bk N (tks c)
 ne: ∀c,c<256->ft c≠bf
 inj: ∀c d,c<256->d<256->ft c=ft d->c=d
theorem Tk.upd{m:OM}{N bf:Nat}{ft:Nat->Nat}{tks:Nat->List Nat}(t:Tk m N bf ft tks){c:Nat}(hc:c<256){ws:List Nat}(hw:Bk N ws):Tk (m.upd (ft c) (.row .own 1 (bw ws))) N bf ft (fun d=>if d=c then ws else tks d):=by
 refine⟨fun d hd=>?_,fun d hd=>?_,t.ne,t.inj⟩
 ·by_cases e:d=c
  ·subst e;rw[OM.upd_self,if_pos rfl]
  ·rw[OM.upd_ne (fun h=>e (t.inj d c hd hc h)),if_neg e];exact t.row d hd
 ·by_cases e:d=c
  ·rw[if_pos e];exact hw
  ·rw[if_neg e];exact t.bk d hd
section
variable {Q:Value->PH->Prop}{n:Nat}{cl cl' cl'':CL}{h h0:PH}{S:Vw}{m:OM}{rows rest:Rws}{K2:Value->PH->R}{tks0:Nat->List Nat}
theorem loop69c(hn:4611686018427387904<=n){bp bf bs from' i N:Nat}{ft:Nat->Nat}{cells:List Value}{st4:List Int}{v90 v92 v98 v100 v102:Value}{r35:Kt}(hrow:(bp,AObj.row .own 1 cells)∈rows)(hcl: ∀c,c<256->cells[5+c]?=some (slW (ft c) (N / 64+1)))(hset:(bs,AObj.row .own 1 (u64s st4))∈rows)(hs4:st4.length=4)(hN:N<100000)(hfi:from'+i<N)
  (hk: ∀h' m' tks',Sl h0 h' S m' rows->Tk m' N bf ft tks'->m' bf=m bf->(∀c,c<256-> ∀j,hs (tks' c) j=true↔hs (tks0 c) j=true\/(hasB st4 c=true/\j=from'+i))->Ret (F69_4 n cl v102 r35 (pt bp) (.int .i64 (from':Nat)) v90 v92 v98 v100 h') Q):
  ∀(k q c:Nat)(m1:OM)(h:PH)(tks:Nat->List Nat),256-c<=k->k<q->c<=256->Sl h0 h S m1 rows->Tk m1 N bf ft tks->m1 bf=m bf->(∀d,d<256-> ∀j,hs (tks d) j=true↔hs (tks0 d) j=true\/(d<c/\hasB st4 d=true/\j=from'+i))->
   Ret (lp q (F69_6 n cl r35) [pt bp,.int .i64 (from':Nat),v90,v92,.int .i64 (i:Nat),pt bs,v98,v100,v102,.int .i64 (c:Nat)] h) Q:=by
 intro k
 induction k with
 |zero=>
  intro q c m1 h tks h1 h2 h3 st tk hb hj;obtain⟨q,rfl⟩: ∃r,q=r+1:=⟨q-1,by omega⟩;rw[lp_succ];have dcl:decide (((c:Nat):Int)<((256:Nat):Int))=false:=by simp;omega
  simp only[F69_6,F69_5,ucons_cons,vN_eq,xLt_i,dcl,vb_some,bite_f];exact hk h m1 tks st tk hb fun d hd j=>by
   rw[hj d hd];exact⟨fun h=>h.imp id fun h=>h.2,fun h=>h.imp id fun h=>⟨by omega,h⟩⟩
 |succ k ih=>
  intro q c m1 h tks h1 h2 h3 st tk hb hj
  by_cases hc:c<256
  ·obtain⟨q,rfl⟩: ∃r,q=r+1:=⟨q-1,by omega⟩;rw[lp_succ];generalize hL:lp q (F69_6 n cl r35)=LL;have dcl:decide (((c:Nat):Int)<((256:Nat):Int))=true:=by simp;omega
   have hl4:(u64s st4).length=4:=by simp[u64s,hs4]
   have la:xLdA 4 (pt bs) h=some (.agg ⟨u64s st4⟩):=st.ldA hset (by rw[List.drop_zero, <-hl4,List.take_length]) (by omega);have:=st.ok;have hpc:=c84 (n:=n) (cl:=cl) (h:=h.fzn) hs4 hc;have hw8:IntKind.u8.wrap ((c:Nat):Int)=((c:Nat):Int):=wr8 hc;have hw:=wrapN (x:=c) (by omega);simp only[F69_6,F69_5,F69_3,ucons_cons,vN_eq,xLt_i,dcl,vb_some,bite_t,jn_eq,la,xConvI_i',hw8,hpc];cases hq:hasB st4 c with
   |true=>
    have l1:xLd (.pointer (some ⟨bp,5+c*1,none⟩)) h=some (slW (ft c) (N / 64+1)):=st.ld hrow (by rw[Nat.mul_one];exact hcl c hc);have ha:IntKind.i64.wrap (((from':Nat):Int)+((i:Nat):Int))=((from'+i:Nat):Int):=by rw[wrap_in (by omega) (by omega)];omega
    have kb:=tk.bk c hc;simp only[bite_t,F69_1,xNil_p,vb_some,xFld_p,Nat.zero_add,xIdxA_at' hc,l1,xAdd_i,ha];have e:slW (ft c) (N / 64+1)= .slice (some ⟨ft c,0,none⟩) (tks c).length (N / 64+1):=by unfold slW;rw[kb.len]
    rw[e];refine Ret.hb (c93 (n:=n) (cl:=cl) st (tk.row c hc) rfl kb.wd (kb.in hfi) (by omega)) fun v h2 ⟨hv,st2⟩=>?_;subst hv;simp only[F69_2,ucons_cons,F69_0,vN_eq,xAdd_i,hw,vb_some];rw[<-hL];refine ih q (c+1) _ h2 _ (by omega) (by omega) (by omega) st2 (tk.upd hc (kb.add hfi)) (by rw[OM.upd_ne (tk.ne c hc).symm];exact hb) fun d hd j=>?_
    by_cases e:d=c
    ·subst e;simp only[if_true];rw[hs_add (kb.in hfi),Bool.or_eq_true,hj d hd,decide_eq_true_eq];constructor
     ·rintro((h|⟨h,_⟩)|h)
      ·exact .inl h
      ·omega
      ·exact .inr ⟨by omega,hq,h⟩
     ·rintro(h|⟨_,_,h⟩)
      ·exact .inl (.inl h)
      ·exact .inr h
    ·simp only[e,if_false];rw[hj d hd];exact⟨fun h=>h.imp id fun h=>⟨by omega,h.2⟩,fun h=>h.imp id fun h=>⟨by omega,h.2⟩⟩
   |false=>
    simp only[bite_f,F69_2,ucons_cons,F69_0,vN_eq,xAdd_i,hw,vb_some];rw[<-hL];refine ih q (c+1) m1 h tks (by omega) (by omega) (by omega) st tk hb fun d hd j=>?_;rw[hj d hd];constructor
    ·exact fun h=>h.imp id fun h=>⟨by omega,h.2⟩
    ·rintro(h|⟨h1,h2,h3⟩)
     ·exact .inl h
     ·by_cases e:d=c
      ·subst e;rw[hq]at h2;cases h2
      ·exact .inr ⟨by omega,h2,h3⟩
  ·exact ih q c m1 h tks (by omega) (by omega) h3 st tk hb hj
end
def Rm(S:Vw)(m:OM)(bp:Nat)(rows rest:Rws)(N:Nat)(r:Rr):Prop:= ∃bf ft fv lv nv exF exL exN cF cL,
 rows=(bp,.row .own 1 ([.int .i64 (N:Nat),slW bf (N / 64+1),fv,lv,nv]++tvs ft (N / 64+1)))::(exF++(exL++(exN++rest)))/\m bf=some (.row .own 1 (bw r.first))/\Bk N r.first/\Tk m N bf ft r.tks/\
 Gq fv r.follow.length cF exF/\(∀(i:Nat) ws,r.follow[i]?=some ws-> ∃x,cF[i]?=some x/\Bx S x ws)/\Gq lv r.last.length cL exL/\(∀(i:Nat) ws,r.last[i]?=some ws-> ∃x,cL[i]?=some x/\Bx S x ws)/\Gq nv r.null.length (bvs r.null) exN
theorem Rm.frame{S:Vw}{m:OM}{bp:Nat}{rows rest:Rws}{N:Nat}{r:Rr}(h:Rm S m bp rows rest N r): ∃A,rows=A++rest/\ ∀rest',Rm S m bp (A++rest') rest' N r:=by
 obtain⟨bf,ft,fv,lv,nv,exF,exL,exN,cF,cL,rfl,a1,a2,a3,a4,a5,a6,a7,a8⟩:=h;exact⟨(bp,.row .own 1 ([.int .i64 (N:Nat),slW bf (N / 64+1),fv,lv,nv]++tvs ft (N / 64+1)))::(exF++(exL++exN)),by simp[List.append_assoc],fun rest'=>⟨bf,ft,fv,lv,nv,exF,exL,exN,cF,cL,by simp[List.append_assoc],a1,a2,a3,a4,a5,a6,a7,a8⟩⟩
theorem pm1{α:Type}(x:α)(a r:List α):(x::(a++r)).Perm (a++(x::r)):=List.perm_middle.symm
theorem pm2{α:Type}(x:α)(a b r:List α):(x::(a++(b++r))).Perm (b++(x::(a++r))):=
 (List.Perm.cons _ (List.perm_append_comm_assoc a b r)).trans (pm1 x b (a++r))
theorem pm3{α:Type}(x:α)(a b c r:List α):(x::(a++(b++(c++r)))).Perm (c++(x::(a++(b++r)))):=
 (List.Perm.cons _ (List.Perm.append_left a (List.perm_append_comm_assoc b c r))).trans (pm2 x a c (b++r))
theorem zc54:zcells Try.prog 54=some [.int .u64 0,.int .u64 0,.int .u64 0,.int .u64 0]:=by kernel_rfl
structure Rp(po:Po)(from' N i:Nat)(r0 r:Rr):Prop where
 first:r.first=r0.first
 last:r.last=r0.last
 null:r.null=r0.null
 fol: ∃l,r.follow=r0.follow++l/\l.length=i/\ ∀(y:Nat) ws,l[y]?=some ws->Bk N ws/\ ∀j,hs ws j=true↔ ∃z∈po.follow.getD y [],z<po.sets.length/\j=from'+z
 tks: ∀c,c<256-> ∀j,hs (r.tks c) j=true↔hs (r0.tks c) j=true\/ ∃y,y<i/\takesB po c y=true/\j=from'+y
section
variable {Q:Value->PH->Prop}{n:Nat}{cl cl' cl'':CL}{h h0:PH}{S:Vw}{m:OM}{rows rest:Rws}{K2:Value->PH->R}
theorem loop69p(hn:4611686018427387904<=n){bp x1 from' N:Nat}{po:Po}{ps:List Value}{S0:Vw}{r0:Rr}(hN:N<100000)(hfn:from'+po.sets.length<=N)(hin:po.In)(hp:PoV S0 po ps)(hx1:(x1,AObj.row .own 1 ps)∈rest)(hf0:r0.follow.length+po.sets.length<=200000)(hfl: ∀w∈po.follow,w.length<1000000)
  (hk: ∀S' h' m' rows' r',Vw.le S0 S'->Sl h0 h' S' m' rows'->Rm S' m' bp rows' rest N r'->Rp po from' N po.sets.length r0 r'->Q (.tuple ⟨[]⟩) h') {sv:Value} (hsv:SlC S0 4 sv po.sets.length (po.sets.flatMap u64s)):
  ∀(k q i:Nat)(S:Vw)(h:PH)(m:OM)(rows:Rws)(r:Rr),po.sets.length-i<=k->k<q->i<=po.sets.length->Vw.le S0 S->Sl h0 h S m rows->Rm S m bp rows rest N r->Rp po from' N i r0 r->
   Ret (lp q (F69_13 n cl) [pt bp,.int .i64 (from':Nat),pt x1,.int .i64 (po.sets.length:Nat),sv,.int .i64 (po.sets.length:Nat),.int .i64 (i:Nat)] h) Q:=by
 intro k
 induction k with
 |zero=>
  intro q i S h m rows r h1 h2 h3 le st rm rp;obtain⟨q,rfl⟩: ∃r,q=r+1:=⟨q-1,by omega⟩;rw[lp_succ];have hi:i=po.sets.length:=by omega
  subst hi;have dc:decide (((po.sets.length:Nat):Int)<((po.sets.length:Nat):Int))=false:=by simp
  simp only[F69_13,F69_12,ucons_cons,xLt_i,dc,vb_some,bite_f];exact Ret.of (hk S h m rows r le st rm rp)
 |succ k ih=>
  intro q i S h m rows r h1 h2 h3 le st rm rp
  by_cases hi:i<po.sets.length
  ·obtain⟨q,rfl⟩: ∃r,q=r+1:=⟨q-1,by omega⟩;rw[lp_succ];generalize hL:lp q (F69_13 n cl)=LL;have dc:decide (((i:Nat):Int)<((po.sets.length:Nat):Int))=true:=by simp;omega
   have hx:=List.getElem?_eq_getElem hi;have hs4:=hin.s4 _ (List.getElem_mem hi);have hD:po.sets.getD i []=po.sets[i]:=by rw[List.getD_eq_getElem?_getD,hx];rfl
   obtain⟨b2,o2,cs2,f1,f2,f3,f4⟩:=hsv.at (kk:=.i64) hi;rw[sets_at hin.s4 hx]at f4;generalize po.sets[i]=st4 at hx hs4 hD f4;have l2:=st.ldSA (le _ _ f2) f4 f3;have hl4:(u64s st4).length=4:=by simp[u64s,hs4]
   simp only[F69_13,F69_12,F69_11,ucons_cons,xLt_i,dc,vb_some,bite_t,f1,l2];refine Ret.lalloc st zc54 fun h2 bs st2=>?_;refine Ret.lstA st2 0 rfl rfl hl4 (by simp) (oneCells_u64s _) fun h3 st3=>?_;rw[setsL_all (by rw[hl4];rfl)]at st3;have st3:Sl h0 h3 S m ((bs,.row .own 1 (u64s st4))::rows):=st3;have rm0:=rm;obtain⟨bf,ft,fv,lv,nv,exF,exL,exN,cF,cL,hrows,a1,a2,a3,a4,a5,a6,a7,a8⟩:=rm;have hmem:(bp,AObj.row .own 1 ([.int .i64 (N:Nat),slW bf (N / 64+1),fv,lv,nv]++tvs ft (N / 64+1)))∈(bs,AObj.row .own 1 (u64s st4))::rows:=by rw[hrows];exact .tail _ (.head _)
   have:=st3.ok;refine Ret.lfcall st3 (f38 (n:=n) (cl:=cl) (h:=h3.fzn) (S:=vall S (over ((bs,.row .own 1 (u64s st4))::rows) m)) st3.fz (vall_m (st3.mem hmem)) rfl (by omega)) fun v h4 ex ⟨b54,hv,he⟩ st4'=>?_;subst hv;subst he;have st4':Sl h0 h4 S m ((b54,.row .own 1 (bw (List.replicate (N / 64+1) 0)))::(bs,.row .own 1 (u64s st4))::rows):=st4';have go: ∀(h5:PH)(b5:Nat)(ws5:List Nat)(v54:Value),Sl h0 h5 S m ((b5,.row .own 1 (bw ws5))::(bs,.row .own 1 (u64s st4))::rows)->Bk N ws5->(∀j,hs ws5 j=true↔ ∃z∈po.follow.getD i [],z<po.sets.length/\j=from'+z)->
     Ret (F69_9 n cl LL [pt bp,.int .i64 (from':Nat),pt x1,.int .i64 (po.sets.length:Nat),.int .i64 (i:Nat),pt bs,.slice (some ⟨b5,0,none⟩) ws5.length ws5.length,sv,.int .i64 (po.sets.length:Nat),.int .i64 (i:Nat)] h5) Q:=by
    intro h5 b5 ws5 _ st5 k5 hj5;obtain⟨S1,le1,st6,hb5⟩:=Bx.settle (c:=ws5.length) st5;rw[hrows]at st6;have st6:=st6.perm (rows':=(bp,.row .own 1 ([.int .i64 (N:Nat),slW bf (N / 64+1),fv,lv,nv]++tvs ft (N / 64+1)))::(exF++((bs,.row .own 1 (u64s st4))::(exL++(exN++rest))))) ((List.Perm.swap _ _ _).trans (.cons _ (pm1 _ exF _)));have lf:xLd (.pointer (some ⟨bp,2,none⟩)) h5=some fv:=st6.ld (.head _) rfl;simp only[F69_9,ucons_cons,F69_7,xNil_p,vb_some,xFld_p,Nat.zero_add,lf];have st6p:=st6.perm (pm1 _ exF _);obtain⟨l,hl1,hl2,hl3⟩:=rp.fol;have hfs:r.follow.length<=200000:=by rw[hl1,List.length_append];omega
    refine Ret.gqapp st6p a4 bs84 ai84 rfl (sz_le (c:=200000) hfs (by decide)) fun h7 fv' exF' st7 gF'=>?_;have st7:=st7.perm (pm1 _ exF' _).symm;refine Ret.lst1 st7 0 rfl rfl (by simp) gF'.one fun h8 st8=>?_;have st8:Sl h0 h8 S1 m ((bp,.row .own 1 ([.int .i64 (N:Nat),slW bf (N / 64+1),fv',lv,nv]++tvs ft (N / 64+1)))::(exF'++((bs,.row .own 1 (u64s st4))::(exL++(exN++rest))))):=st8;refine loop69c (tks0:=r.tks) (m:=m) (st4:=st4) hn (.head _) (fun c hc=>?_) (List.mem_cons_of_mem _ (List.mem_append_right _ (.head _))) hs4 hN (by omega) (fun h9 m9 tks9 st9 tk9 hb9 hj9=>?_) 256 n 0 m h8 r.tks (by omega) (by omega) (by omega) st8 a3 rfl (fun d hd j=>by simp)
    ·show([.int .i64 (N:Nat),slW bf (N / 64+1),fv',lv,nv]++tvs ft (N / 64+1))[5+c]?=_
     rw[List.getElem?_append_right (by simp)];have:5+c- [Value.int .i64 (N:Nat),slW bf (N / 64+1),fv',lv,nv].length=c:=by simp
     rw[this,tvs_get hc]
    simp only[F69_4,vN_eq,xAdd_i,wrapN (show i<4611686018427387904 by have:=hin.sl;omega),vb_some];rw[<-hL];have st10:Sl h0 h9 S1 m9 ((bp,.row .own 1 ([.int .i64 (N:Nat),slW bf (N / 64+1),fv',lv,nv]++tvs ft (N / 64+1)))::(exF'++(exL++(exN++rest)))):=
     st9.drop (.cons_cons _ (List.Sublist.append (List.Sublist.refl _) (List.sublist_cons_self _ _)))
    refine ih q (i+1) S1 h9 m9 _ ⟨r.first,r.follow++[ws5],r.last,r.null,tks9⟩ (by omega) (by omega) (by omega) (le.trans le1) st10 ?_ ?_
    ·refine⟨bf,ft,fv',lv,nv,exF',exL,exN,cF++[.slice (some ⟨b5,0,none⟩) ws5.length ws5.length],cL,rfl,hb9.trans a1,a2,tk9,?_,?_,a6,fun q ws hq=>?_,a8⟩
     ·show Gq fv' (r.follow++[ws5]).length _ exF'
      rw[List.length_append];exact gF'
     ·intro q ws hq;have hq:(r.follow++[ws5])[q]?=some ws:=hq;have hlF:=a4.length
      by_cases hlt:q<r.follow.length
      ·rw[List.getElem?_append_left hlt]at hq;obtain⟨x,e1,e2⟩:=a5 q ws hq;exact⟨x,by rw[List.getElem?_append_left (by omega)];exact e1,e2.mono le1⟩
      ·rw[List.getElem?_append_right (by omega)]at hq;have hi0:q-r.follow.length=0:=by
        have:=(List.getElem?_eq_some_iff.1 hq).1;simp at this;omega
       rw[hi0]at hq;obtain rfl:ws5=ws:=by simpa using hq
       refine⟨_,?_,hb5⟩;rw[List.getElem?_append_right (by omega),show q-cF.length=0 by omega];rfl
     ·obtain⟨x,e1,e2⟩:=a7 q ws hq;exact⟨x,e1,e2.mono le1⟩
    ·refine⟨rp.first,rp.last,rp.null,⟨l++[ws5],by show r.follow++[ws5]=_;rw[hl1,List.append_assoc],by simp[hl2],fun y ws hy=>?_⟩,fun c hc j=>?_⟩
     ·by_cases hlt:y<l.length
      ·rw[List.getElem?_append_left hlt]at hy;exact hl3 y ws hy
      ·rw[List.getElem?_append_right (by omega)]at hy;have hi0:y-l.length=0:=by
        have:=(List.getElem?_eq_some_iff.1 hy).1;simp at this;omega
       rw[hi0]at hy;obtain rfl:ws5=ws:=by simpa using hy
       have:y=i:=by omega
       subst this;exact⟨k5,hj5⟩
     ·show hs (tks9 c) j=true↔_
      rw[hj9 c hc,rp.tks c hc];have hT:takesB po c i=hasB st4 c:=by unfold takesB;rw[hD];simp[hi]
      constructor
      ·rintro((h|⟨y,h1,h2,h3⟩)|⟨h1,h2⟩)
       ·exact .inl h
       ·exact .inr ⟨y,by omega,h2,h3⟩
       ·exact .inr ⟨i,by omega,by rw[hT];exact h1,h2⟩
      ·rintro(h|⟨y,y1,y2,y3⟩)
       ·exact .inl (.inl h)
       ·by_cases e:y=i
        ·rw[e,hT]at y2;exact .inr ⟨y2,by rw[y3,e]⟩
        ·exact .inl (.inr ⟨y,by omega,y2,y3⟩)
   have hx1':(x1,AObj.row .own 1 ps)∈rows:=by rw[hrows];exact .tail _ (List.mem_append_right _ (List.mem_append_right _ (List.mem_append_right _ hx1)))
   obtain⟨sv',fv0,lv0,wv,wl,hps,p1,p2,p3,p4,p5,p6⟩:=hp;have lw:xLd (.pointer (some ⟨x1,4,none⟩)) h4=some wv:=st4'.ld (.tail _ (.tail _ hx1')) (by rw[hps];rfl);simp only[jn_eq,F69_10,xFld_p,Nat.zero_add,lw,vb_some,p4.len,xLt_i];have hrl:(List.replicate (N / 64+1) 0).length=N / 64+1:=by simp
   by_cases hfi:i<po.follow.length
   ·have d1:decide (((i:Nat):Int)<((wl.length:Nat):Int))=true:=by simp;omega
    have hfy:=List.getElem?_eq_getElem hfi;have hDf:po.follow.getD i []=po.follow[i]:=by simp[List.getD_eq_getElem?_getD,hfy]
    have hfm:=hfl _ (List.getElem_mem hfi);obtain⟨w,g1,g2⟩:=p6 i _ hfy;obtain⟨b3,o3,cs3,e1,e2,e3⟩:=p4.at (k:=.i64) g1;have l5:=st4'.ldS (le _ _ e2) e3;simp only[d1,bite_t,F69_8,xFld_p,Nat.zero_add,lw,vb_some,e1,l5];have:=st4'.ok;have le4:Vw.le S (vall S (over ((b54,.row .own 1 (bw (List.replicate (N / 64+1) 0)))::(bs,.row .own 1 (u64s st4))::rows) m)):=st4'.sm.S_all;refine Ret.lfcall st4' (f92 (n:=n) (cl:=cl) (h:=h4.fzn) (S:=vall S (over ((b54,.row .own 1 (bw (List.replicate (N / 64+1) 0)))::(bs,.row .own 1 (u64s st4))::rows) m)) hn st4'.fz (vall_m (st4'.mem (.tail _ hmem))) rfl (by omega) ((g2.mono le).mono le4) hfm hfn) fun v h5 ex ⟨b5,ws5,hv,he,k5,hj5⟩ st5=>?_;subst hv;subst he;have st5:Sl h0 h5 S m ((b5,.row .own 1 (bw ws5))::(b54,.row .own 1 (bw (List.replicate (N / 64+1) 0)))::(bs,.row .own 1 (u64s st4))::rows):=st5;exact go h5 b5 ws5 undef (st5.drop (.cons_cons _ (List.sublist_cons_self _ _))) k5 (fun j=>by rw[hDf];exact hj5 j)
   ·have d1:decide (((i:Nat):Int)<((wl.length:Nat):Int))=false:=by simp;omega
    have hDf:po.follow.getD i []=[]:=by rw[List.getD_eq_getElem?_getD,List.getElem?_eq_none (by omega)];rfl
    simp only[d1,bite_f];have:=go h4 b54 (List.replicate (N / 64+1) 0) undef st4' (Bk.rep N) (fun j=>by rw[hs_rep,hDf];simp);rw[hrl]at this;exact this
  ·exact ih q i S h m rows r (by omega) (by omega) h3 le st rm rp
end
structure Rq(po:Po)(from' N:Nat)(r0 r:Rr):Prop where
 fk:Bk N r.first
 first: ∀j,hs r.first j=true↔hs r0.first j=true\/ ∃y∈po.first,y<po.sets.length/\j=from'+y
 last: ∃w,r.last=r0.last++[w]/\Bk N w/\ ∀j,hs w j=true↔ ∃y∈po.last,y<po.sets.length/\j=from'+y
 null:r.null=r0.null++[po.null]
 fol: ∃l,r.follow=r0.follow++l/\l.length=po.sets.length/\ ∀(y:Nat) ws,l[y]?=some ws->Bk N ws/\ ∀j,hs ws j=true↔ ∃z∈po.follow.getD y [],z<po.sets.length/\j=from'+z
 tks: ∀c,c<256-> ∀j,hs (r.tks c) j=true↔hs (r0.tks c) j=true\/ ∃y,y<po.sets.length/\takesB po c y=true/\j=from'+y
theorem bs49'{b:Bool}:bsRow Try.prog 49 1 [(0,.bool b)]=some (1,[.bool b]):=by cases b<;>kernel_rfl
section
variable {Q:Value->PH->Prop}{n:Nat}{cl cl' cl'':CL}{h h0:PH}{S:Vw}{m:OM}{rows rest:Rws}{K2:Value->PH->R}
theorem c69(hn:4611686018427387904<=n){bp from' N:Nat}{po:Po}{ps:List Value}{r:Rr}(st:Sl h0 h S m rows)(rm:Rm S m bp rows rest N r)(hN:N<100000)(hfn:from'+po.sets.length<=N)(hin:po.In)(hp:PoV S po ps)(hf0:r.follow.length+po.sets.length<=200000)(hl0:r.last.length<=1000)(hn0:r.null.length<=1000):
  Ret (F69 n cl (pt bp) (.agg ⟨ps⟩) (.int .i64 (from':Nat)) h) fun v h'=> ∃S' m' rows' r',v= .tuple ⟨[]⟩/\Vw.le S S'/\Sl h0 h' S' m' rows'/\Rm S' m' bp rows' rest N r'/\Rq po from' N r r':=by
 unfold F69;refine Ret.lbox st fun h1 x1 st1=>?_;have st1:Sl h0 h1 S m ((x1,.row .own 1 ps)::rows):=st1;obtain⟨bf,ft,fv,lv,nv,exF,exL,exN,cF,cL,rfl,a1,a2,a3,a4,a5,a6,a7,a8⟩:=rm;have hp0:=hp;obtain⟨sv,xf,xl,wv,wl,rfl,p1,p2,p3,p4,p5,p6⟩:=hp;have e0:xLd (.pointer (some ⟨x1,0,none⟩)) h1=some sv:=st1.ld (.head _) rfl;have e2:xLd (.pointer (some ⟨x1,2,none⟩)) h1=some xf:=st1.ld (.head _) rfl;have e1:xLd (.pointer (some ⟨bp,1,none⟩)) h1=some (slW bf (N / 64+1)):=st1.ld (.tail _ (.head _)) rfl;simp only[xFld_p,Nat.zero_add,vb_some,e0,p1.len,xNil_p,e1,e2];have:=st1.ok;have hmem:(bp,AObj.row .own 1 ([.int .i64 (N:Nat),slW bf (N / 64+1),fv,lv,nv]++tvs ft (N / 64+1)))∈(x1,AObj.row .own 1 [sv,.bool po.null,xf,xl,wv])::(bp,AObj.row .own 1 ([.int .i64 (N:Nat),slW bf (N / 64+1),fv,lv,nv]++tvs ft (N / 64+1)))::(exF++(exL++(exN++rest))):=.tail _ (.head _);have hS1:=st1.sm.S_all;refine Ret.lfcall st1 (f92 (n:=n) (cl:=cl) (h:=h1.fzn) hn st1.fz (vall_m (st1.mem hmem)) rfl (by omega) (p2.mono hS1) hin.fl hfn) fun v h2 ex ⟨b10,ws10,hv,he,k10,hj10⟩ st2=>?_;subst hv;subst he;have st2:Sl h0 h2 S m ((b10,.row .own 1 (bw ws10))::(x1,.row .own 1 [sv,.bool po.null,xf,xl,wv])::(bp,.row .own 1 ([.int .i64 (N:Nat),slW bf (N / 64+1),fv,lv,nv]++tvs ft (N / 64+1)))::(exF++(exL++(exN++rest)))):=st2;have e1':xLd (.pointer (some ⟨bp,1,none⟩)) h2=some (slW bf (N / 64+1)):=st2.ld (.tail _ (.tail _ (.head _))) rfl;rw[e1',lchk_t (show Go.Am.veq (slW bf (N / 64+1)) (slW bf (N / 64+1))=true from veq_sl)];obtain⟨S2,le2,st3,hb10⟩:=Bx.settle (c:=ws10.length) st2;have e:slW bf (N / 64+1)= .slice (some ⟨bf,0,none⟩) r.first.length (N / 64+1):=by unfold slW;rw[a2.len]
 have hstep:Ret (F91 n cl (slW bf (N / 64+1)) (.slice (some ⟨b10,0,none⟩) ws10.length ws10.length) h2) fun v h'=>v= .tuple ⟨[]⟩/\Sl h0 h' S2 (m.upd bf (.row .own 1 (bw (List.zipWith (· ||| ·) r.first ws10)))) ((x1,.row .own 1 [sv,.bool po.null,xf,xl,wv])::(bp,.row .own 1 ([.int .i64 (N:Nat),slW bf (N / 64+1),fv,lv,nv]++tvs ft (N / 64+1)))::(exF++(exL++(exN++rest)))):=by
  have:=c91 (n:=n) (cl:=cl) (c:=N / 64+1) hn st3 rfl a1 hb10.slv (a2.same k10) a2.wd k10.wd (by rw[a2.len];omega);rw[a2.len]at this;exact this
 refine Ret.hb hstep fun v h3 ⟨hv,st4⟩=>?_;subst hv;have kF:=a2.or k10;have tk4:Tk (m.upd bf (.row .own 1 (bw (List.zipWith (· ||| ·) r.first ws10)))) N bf ft r.tks:=⟨fun c hc=>by rw[OM.upd_ne (a3.ne c hc)];exact a3.row c hc,a3.bk,a3.ne,a3.inj⟩;have e3:xLd (.pointer (some ⟨bp,3,none⟩)) h3=some lv:=st4.ld (.tail _ (.head _)) rfl;have e4:xLd (.pointer (some ⟨x1,3,none⟩)) h3=some xl:=st4.ld (.head _) rfl;simp only[xFld_p,Nat.zero_add,vb_some,xNil_p,e3,e4];have:=st4.ok;have hS4:=st4.sm.S_all;refine Ret.lfcall st4 (f92 (n:=n) (cl:=cl) (h:=h3.fzn) hn st4.fz (vall_m (st4.mem hmem)) rfl (by omega) ((p3.mono le2).mono hS4) hin.ll hfn) fun v h5 ex ⟨b17,ws17,hv,he,k17,hj17⟩ st5=>?_;subst hv;subst he;have st5:Sl h0 h5 S2 (m.upd bf (.row .own 1 (bw (List.zipWith (· ||| ·) r.first ws10)))) ((b17,.row .own 1 (bw ws17))::(x1,.row .own 1 [sv,.bool po.null,xf,xl,wv])::(bp,.row .own 1 ([.int .i64 (N:Nat),slW bf (N / 64+1),fv,lv,nv]++tvs ft (N / 64+1)))::(exF++(exL++(exN++rest)))):=st5;have e3':xLd (.pointer (some ⟨bp,3,none⟩)) h5=some lv:=st5.ld (.tail _ (.tail _ (.head _))) rfl;rw[e3',lchk_t a6.veq];obtain⟨S3,le3,st6,hb17⟩:=Bx.settle (c:=ws17.length) st5;have st6:=st6.perm (rows':=(bp,.row .own 1 ([.int .i64 (N:Nat),slW bf (N / 64+1),fv,lv,nv]++tvs ft (N / 64+1)))::(exF++(exL++(exN++((x1,.row .own 1 [sv,.bool po.null,xf,xl,wv])::rest))))) (by
  refine(List.Perm.swap _ _ _).trans (.cons _ ?_);have h1:=pm1 (x1,AObj.row .own 1 [sv,.bool po.null,xf,xl,wv]) (exF++(exL++exN)) rest;simpa[List.append_assoc]using h1)
 have st6p:=st6.perm (pm2 _ exF exL _);refine Ret.gqapp st6p a6 bs84 ai84 rfl (sz_le (c:=1000) hl0 (by decide)) fun h7 lv' exL' st7 gL'=>?_;have st7:=st7.perm (pm2 _ exF exL' _).symm;refine Ret.lst1 st7 0 rfl rfl (by simp) gL'.one fun h8 st8=>?_;have st8:Sl h0 h8 S3 (m.upd bf (.row .own 1 (bw (List.zipWith (· ||| ·) r.first ws10)))) ((bp,.row .own 1 ([.int .i64 (N:Nat),slW bf (N / 64+1),fv,lv',nv]++tvs ft (N / 64+1)))::(exF++(exL'++(exN++((x1,.row .own 1 [sv,.bool po.null,xf,xl,wv])::rest))))):=st8;have hx1:(x1,AObj.row .own 1 [sv,.bool po.null,xf,xl,wv])∈(bp,AObj.row .own 1 ([.int .i64 (N:Nat),slW bf (N / 64+1),fv,lv',nv]++tvs ft (N / 64+1)))::(exF++(exL'++(exN++((x1,AObj.row .own 1 [sv,.bool po.null,xf,xl,wv])::rest)))):=
  .tail _ (List.mem_append_right _ (List.mem_append_right _ (List.mem_append_right _ (.head _))))
 have e5:xLd (.pointer (some ⟨bp,4,none⟩)) h8=some nv:=st8.ld (.head _) rfl;have e6:xLd (.pointer (some ⟨x1,1,none⟩)) h8=some (.bool po.null):=st8.ld hx1 rfl;simp only[xFld_p,Nat.zero_add,vb_some,xNil_p,e5,e6];have st8p:=st8.perm (pm3 _ exF exL' exN _);refine Ret.gqapp st8p a8 bs49' ai49 rfl (sz_le (c:=1000) hn0 (by decide)) fun h9 nv' exN' st9 gN'=>?_;have st9:=st9.perm (pm3 _ exF exL' exN' _).symm;refine Ret.lst1 st9 0 rfl rfl (by simp) gN'.one fun h10 st10=>?_;have st10:Sl h0 h10 S3 (m.upd bf (.row .own 1 (bw (List.zipWith (· ||| ·) r.first ws10)))) ((bp,.row .own 1 ([.int .i64 (N:Nat),slW bf (N / 64+1),fv,lv',nv']++tvs ft (N / 64+1)))::(exF++(exL'++(exN'++((x1,.row .own 1 [sv,.bool po.null,xf,xl,wv])::rest))))):=st10;have hx1':(x1,AObj.row .own 1 [sv,.bool po.null,xf,xl,wv])∈(bp,AObj.row .own 1 ([.int .i64 (N:Nat),slW bf (N / 64+1),fv,lv',nv']++tvs ft (N / 64+1)))::(exF++(exL'++(exN'++((x1,AObj.row .own 1 [sv,.bool po.null,xf,xl,wv])::rest)))):=
  .tail _ (List.mem_append_right _ (List.mem_append_right _ (List.mem_append_right _ (.head _))))
 have e7:xLd (.pointer (some ⟨x1,0,none⟩)) h10=some sv:=st10.ld hx1' rfl;simp only[xFld_p,Nat.zero_add,vb_some,e7,p1.len,vN_eq];have leT:Vw.le S S3:=le2.trans le3;refine loop69p (rest:=(x1,.row .own 1 [sv,.bool po.null,xf,xl,wv])::rest) (S0:=S3) (r0:=⟨List.zipWith (· ||| ·) r.first ws10,r.follow,r.last++[ws17],r.null++[po.null],r.tks⟩) hn hN hfn hin (hp0.mono leT) (.head _) hf0 hin.wll (fun S' h' m' rows' r' le' st' rm' rp'=>?_) (p1.mono leT) po.sets.length n 0 S3 h10 _ _ ⟨List.zipWith (· ||| ·) r.first ws10,r.follow,r.last++[ws17],r.null++[po.null],r.tks⟩ (by omega) (by have:=hin.sl;omega) (Nat.zero_le _) (Vw.le.refl _) st10 ?_ ?_
 ·obtain⟨A,hA,hfr⟩:=rm'.frame;subst hA;refine⟨S',m',A++rest,r',rfl,leT.trans le',st'.drop (List.Sublist.append (List.Sublist.refl _) (List.sublist_cons_self _ _)),hfr rest,⟨?_,?_,⟨ws17,rp'.last,k17,hj17⟩,rp'.null,rp'.fol,rp'.tks⟩⟩
  ·rw[rp'.first];exact kF
  ·intro j;rw[rp'.first]
   show hs (List.zipWith (· ||| ·) r.first ws10) j=true↔_
   rw[hs_or (a2.same k10),Bool.or_eq_true,hj10]
 ·refine⟨bf,ft,fv,lv',nv',exF,exL',exN',cF,cL++[.slice (some ⟨b17,0,none⟩) ws17.length ws17.length],rfl,OM.upd_self,kF,tk4,a4,fun i ws hi=>?_,?_,fun i ws hi=>?_,?_⟩
  ·obtain⟨x,q1,q2⟩:=a5 i ws hi;exact⟨x,q1,q2.mono leT⟩
  ·show Gq lv' (r.last++[ws17]).length _ exL'
   rw[List.length_append];exact gL'
  ·have hi:(r.last++[ws17])[i]?=some ws:=hi;have hlL:=a6.length
   by_cases hlt:i<r.last.length
   ·rw[List.getElem?_append_left hlt]at hi;obtain⟨x,q1,q2⟩:=a7 i ws hi;exact⟨x,by rw[List.getElem?_append_left (by omega)];exact q1,q2.mono leT⟩
   ·rw[List.getElem?_append_right (by omega)]at hi;have hi0:i-r.last.length=0:=by
     have:=(List.getElem?_eq_some_iff.1 hi).1;simp at this;omega
    rw[hi0]at hi;obtain rfl:ws17=ws:=by simpa using hi
    refine⟨_,?_,hb17⟩;rw[List.getElem?_append_right (by omega),show i-cL.length=0 by omega];rfl
  ·show Gq nv' (r.null++[po.null]).length (bvs (r.null++[po.null])) exN'
   have e:bvs (r.null++[po.null])=bvs r.null++[.bool po.null]:=by simp[bvs]
   rw[List.length_append,e];exact gN'
 ·exact⟨rfl,rfl,rfl,⟨[],by simp,rfl,fun y ws hy=>by simp at hy⟩,fun c hc j=>by simp⟩
end
end Go.Am
