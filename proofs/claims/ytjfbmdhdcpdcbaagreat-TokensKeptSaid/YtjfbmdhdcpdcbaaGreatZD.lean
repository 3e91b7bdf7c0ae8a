import Derived.Test.YtjfbmdhdcpdcbaaGreatZC
set_option linter.unusedSimpArgs false
set_option linter.unusedVariables false
namespace Go.Am
open Go Go.RowKit Go.Proofs
def bw(ws:List Nat):List Value:=ws.map fun w=>.int .u64 (w:Nat)
def Wd(ws:List Nat):Prop:= ∀w∈ws,w<18446744073709551616
def hs(ws:List Nat)(i:Nat):Bool:=(ws.getD (i / 64) 0).testBit (i % 64)
theorem bw_len(ws:List Nat):(bw ws).length=ws.length:=by simp[bw]
theorem bw_get{ws:List Nat}{k:Nat}{w:Nat}(h:ws[k]?=some w):(bw ws)[k]?=some (.int .u64 (w:Nat)):=by simp[bw,h]
theorem bw_one(ws:List Nat):oneCells (bw ws)=true:=by
 unfold oneCells bw;rw[List.all_map];exact List.all_eq_true.2 fun x _=>rfl
theorem bw_set{ws:List Nat}{k w:Nat}:(bw ws).set k (.int .u64 (w:Nat))=bw (ws.set k w):=by
 unfold bw;rw[List.map_set]
theorem Wd.getD{ws:List Nat}(h:Wd ws)(k:Nat):ws.getD k 0<18446744073709551616:=by
 rw[List.getD_eq_getElem?_getD];cases hq:ws[k]? with
 |none=>simp
 |some w=>exact h w (List.mem_of_getElem? hq)
theorem Wd.set{ws:List Nat}(h:Wd ws){k w:Nat}(hw:w<18446744073709551616):Wd (ws.set k w):=by
 intro x hx;rcases List.mem_or_eq_of_mem_set hx with hx|hx
 ·exact h x hx
 ·rw[hx];exact hw
theorem Wd.rep(n:Nat):Wd (List.replicate n 0):=by
 intro x hx;rw[List.eq_of_mem_replicate hx];decide
theorem hs_rep(n i:Nat):hs (List.replicate n 0) i=false:=by
 unfold hs;have:(List.replicate n 0).getD (i / 64) 0=0:=by
  rw[List.getD_eq_getElem?_getD];cases hq:(List.replicate n 0)[i / 64]? with
  |none=>rfl
  |some w=>rw[List.eq_of_mem_replicate (List.mem_of_getElem? hq)];rfl
 rw[this];exact Nat.zero_testBit _
theorem two64:(18446744073709551616:Nat)=2 ^ 64:=by decide
theorem or_lt{a b:Nat}(ha:a<18446744073709551616)(hb:b<18446744073709551616):a|||b<18446744073709551616:=by
 rw[two64]at*;exact Nat.or_lt_two_pow ha hb
theorem and_lt{a b:Nat}(ha:a<18446744073709551616):a&&&b<18446744073709551616:=Nat.lt_of_le_of_lt Nat.and_le_left ha
theorem pow_lt{s:Nat}(h:s<64):2 ^ s<18446744073709551616:=by
 rw[two64];exact Nat.pow_lt_pow_right (by decide) h
theorem hs_add{ws:List Nat}{i:Nat}(hi:i / 64<ws.length)(j:Nat):hs (ws.set (i / 64) (ws.getD (i / 64) 0|||2 ^ (i % 64))) j=(hs ws j||decide (j=i)):=by
 unfold hs
 by_cases e:j / 64=i / 64
 ·rw[e];have h1:(ws.set (i / 64) (ws.getD (i / 64) 0|||2 ^ (i % 64))).getD (i / 64) 0=ws.getD (i / 64) 0|||2 ^ (i % 64):=by
   rw[List.getD_eq_getElem?_getD,List.getElem?_set_self hi];rfl
  rw[h1,Nat.testBit_or,Nat.testBit_two_pow]
  congr 1
  by_cases e2:i % 64=j % 64
  ·have:j=i:=by omega
   simp[this]
  ·have: ¬ j=i:=fun h=>e2 (by rw[h]);simp[e2,this]
 ·have h1:(ws.set (i / 64) (ws.getD (i / 64) 0|||2 ^ (i % 64))).getD (j / 64) 0=ws.getD (j / 64) 0:=by
   rw[List.getD_eq_getElem?_getD,List.getElem?_set_ne (fun h=>e h.symm), <-List.getD_eq_getElem?_getD]
  have: ¬ j=i:=fun h=>e (by rw[h]);rw[h1];simp[this]
theorem getD_zip{f:Nat->Nat->Nat}{a b:List Nat}(hl:a.length=b.length)(h0:f 0 0=0)(k:Nat):(List.zipWith f a b).getD k 0=f (a.getD k 0) (b.getD k 0):=by
 simp only[List.getD_eq_getElem?_getD,List.getElem?_zipWith]
 by_cases hk:k<a.length
 ·rw[List.getElem?_eq_getElem hk,List.getElem?_eq_getElem (by omega:k<b.length)];rfl
 ·rw[List.getElem?_eq_none (by omega),List.getElem?_eq_none (by omega)];simp[h0]
theorem hs_and{a b:List Nat}(hl:a.length=b.length)(i:Nat):hs (List.zipWith (· &&& ·) a b) i=(hs a i&&hs b i):=by
 unfold hs;rw[getD_zip hl (by rfl),Nat.testBit_and]
theorem hs_or{a b:List Nat}(hl:a.length=b.length)(i:Nat):hs (List.zipWith (· ||| ·) a b) i=(hs a i||hs b i):=by
 unfold hs;rw[getD_zip hl (by rfl),Nat.testBit_or]
theorem Wd.and{a b:List Nat}(ha:Wd a):Wd (List.zipWith (· &&& ·) a b):=by
 intro x hx;obtain⟨k,hk⟩:=List.getElem?_of_mem hx;rw[List.getElem?_zipWith]at hk
 split at hk
 ·rename_i p q h1 h2;cases hk;exact and_lt (ha _ (List.mem_of_getElem? h1))
 ·cases hk
theorem Wd.or{a b:List Nat}(ha:Wd a)(hb:Wd b):Wd (List.zipWith (· ||| ·) a b):=by
 intro x hx;obtain⟨k,hk⟩:=List.getElem?_of_mem hx;rw[List.getElem?_zipWith]at hk
 split at hk
 ·rename_i p q h1 h2;cases hk;exact or_lt (ha _ (List.mem_of_getElem? h1)) (hb _ (List.mem_of_getElem? h2))
 ·cases hk
theorem word_ext{a b:Nat}(ha:a<18446744073709551616)(hb:b<18446744073709551616)(h: ∀s,s<64->a.testBit s=b.testBit s):a=b:=by
 refine Nat.eq_of_testBit_eq fun s=>?_
 by_cases hs:s<64
 ·exact h s hs
 ·have h1: ∀{x:Nat},x<18446744073709551616->x.testBit s=false:=fun {x} hx=>Nat.testBit_lt_two_pow (Nat.lt_of_lt_of_le (by rw[two64]at hx;exact hx) (Nat.pow_le_pow_right (by decide) (by omega)));rw[h1 ha,h1 hb]
theorem hs_ext{a b:List Nat}(hl:a.length=b.length)(ha:Wd a)(hb:Wd b)(h: ∀i,hs a i=hs b i):a=b:=by
 apply List.ext_getElem? fun k=>?_
 by_cases hk:k<a.length
 ·have h1:=List.getElem?_eq_getElem hk;have h2:=List.getElem?_eq_getElem (l:=b) (i:=k) (by omega);rw[h1,h2]
  congr 1
  refine word_ext (ha _ (List.getElem_mem hk)) (hb _ (List.getElem_mem _)) fun s hs'=>?_;have:=h (64*k+s);unfold hs at this;have e1:(64*k+s) / 64=k:=by omega
  have e2:(64*k+s) % 64=s:=by omega
  rw[e1,e2,List.getD_eq_getElem?_getD,List.getD_eq_getElem?_getD,h1,h2]at this;exact this
 ·rw[List.getElem?_eq_none (by omega),List.getElem?_eq_none (by omega)]
theorem hs_none{ws:List Nat}(hw:Wd ws):(∀w∈ws,w=0)↔ ∀i,hs ws i=false:=by
 constructor
 ·intro h i;unfold hs;have:ws.getD (i / 64) 0=0:=by
   rw[List.getD_eq_getElem?_getD];cases hq:ws[i / 64]? with
   |none=>rfl
   |some w=>exact h w (List.mem_of_getElem? hq)
  rw[this];exact Nat.zero_testBit _
 ·intro h;have e:=hs_ext (a:=ws) (b:=List.replicate ws.length 0) (by simp) hw (Wd.rep _) (fun i=>by rw[h,hs_rep]);intro w hm;rw[e]at hm;exact List.eq_of_mem_replicate hm
theorem bitN64{x:Nat}(h:x<18446744073709551616):bitN .u64 ((x:Nat):Int)=x:=by
 show(match Nat.ble x (kmx .u64)with|true=>x|false=>(BitVec.ofInt IntKind.u64.bits (.ofNat x)).toNat)=x
 rw[ble_t' (show x<=kmx .u64 from Nat.le_of_lt_succ h)]
theorem xAnd64{a b:Nat}(ha:a<18446744073709551616)(hb:b<18446744073709551616):xBit Nat.land (.int .u64 (a:Nat)) (.int .u64 (b:Nat))=some (.int .u64 ((a&&&b:Nat):Int)):=by
 rw[xBit_ex,bitN64 ha,bitN64 hb];exact congrArg (fun z=>some (Value.int .u64 z)) (wr64u (and_lt ha))
theorem xOr64{a b:Nat}(ha:a<18446744073709551616)(hb:b<18446744073709551616):xBit Nat.lor (.int .u64 (a:Nat)) (.int .u64 (b:Nat))=some (.int .u64 ((a|||b:Nat):Int)):=by
 rw[xBit_ex,bitN64 ha,bitN64 hb];exact congrArg (fun z=>some (Value.int .u64 z)) (wr64u (or_lt ha hb))
theorem xShl1{s:Nat}(h:s<64):xShl (.int .u64 (.ofNat 1)) (.int .i64 (s:Nat))=some (.int .u64 ((2 ^ s:Nat):Int)):=by
 rw[xShl_ex (k:=.u64) (k':=.i64) (by show s<=64;omega)];have:Int.mul (.ofNat 1) (.ofNat (Nat.pow 2 s))=((2 ^ s:Nat):Int):=by
  show(1:Int)*((2 ^ s:Nat):Int)=_
  rw[Int.one_mul]
 rw[this,wr64u (pow_lt h)]
theorem bit_has{x s:Nat}:decide ((((x / 2 ^ s)&&&1:Nat):Int)= .ofNat 1)=x.testBit s:=by
 rw[Nat.and_one_is_mod,Nat.testBit_eq_decide_div_mod_eq]
 congr 1
 apply propext
 constructor
 ·intro h;exact Int.ofNat.inj h
 ·intro h;rw[h];rfl
theorem zi170:zinfo Tryz.prog 170=some (1,8,[.int .u64 0]):=by kernel_rfl
theorem bs170:bsRow Tryz.prog 170 0 []=some (1,[]):=by kernel_rfl
theorem ai170:appInfo Tryz.prog #[170,170]=some (1,8):=by kernel_rfl
theorem nil82{b n c:Nat}{o1 o2:Operand}:abin Tryz.prog .eql 170 o1 o2 (.slice (some ⟨b,0,none⟩) n c) nils=some (.bool false):=by kernel_rfl
theorem bw_zrows{N:Nat}:zrows [.int .u64 0] N=bw (List.replicate N 0):=by
 apply List.ext_getElem?
 intro j
 by_cases hj:j<N
 ·have h1:(List.replicate N 0)[j]?=some 0:=by simp[hj]
  rw[bw_get h1,zrows_get _ _ _ (by simpa using hj)];simp[Nat.mod_one]
 ·rw[List.getElem?_eq_none (by rw[zrows_length];simp;omega),List.getElem?_eq_none (by rw[bw_len];simp;omega)]
section
variable {Q:Value->PH->Prop}{n:Nat}{cl cl':CL}{h h0:PH}{S:Vw}{m:OM}{rows:Rws}{K2:Value->PH->R}
theorem f89[OkH h](hS:Vw.le S h.cells){bp N:Nat}{ps:List Value}(hp:S bp=some ps)(h0:ps[0]?=some (.int .i64 (N:Nat)))(hN:N<1000000):
  Fr h S (F89 n cl (pt bp) h) fun v ex=> ∃b,v= .slice (some ⟨b,0,none⟩) (N / 64+1) (N / 64+1)/\ex=[(b,.row .own 1 (bw (List.replicate (N / 64+1) 0)))]:=by
 unfold Fr F89;have st:=Sl.start h hS;have l0:xLd (.pointer (some ⟨bp,0,none⟩)) h=some (.int .i64 (N:Nat)):=st.ldS hp h0;have e1:=xQuo_n (x:=N) (y:=64) (by decide) (by omega);have hw:IntKind.i64.wrap (((N / 64:Nat):Int)+((1:Nat):Int))=((N / 64+1:Nat):Int):=by rw[wrap_in (by omega) (by omega)];omega
 simp only[xNil_p,vb_some,xFld_p,Nat.zero_add,l0,vN_eq,e1,xAdd_i,hw];refine Ret.lmk st zi170 (by omega) (by omega) (by omega) (by omega) fun h1 b st1=>?_;rw[Int.toNat_natCast,bw_zrows]at st1;rw[Int.toNat_natCast];exact Fr.ret st1 ⟨b,rfl,rfl⟩
theorem c141[OkH h](hS:Vw.le S h.cells){v:Value}{ws:List Nat}(hv:SlV S v (bw ws))(hw:Wd ws){i:Nat}(hi:i / 64<ws.length)(hi2:i<1000000):pcall (F141 n cl v (.int .i64 (i:Nat)) h)=some (.bool (hs ws i)):=by
 refine pcall_fr (h:=h) (S:=S) ?_ rfl;unfold Fr F141;have st:=Sl.start h hS;have e1:=xQuo_n (x:=i) (y:=64) (by decide) (by omega);have e3:=xRem_n (x:=i) (y:=64) (by decide) (by omega);have hx:=List.getElem?_eq_getElem hi;have hD:ws.getD (i / 64) 0=ws[i / 64]:=by simp[List.getD_eq_getElem?_getD,hx]
 have hlt:=hw _ (List.getElem_mem hi);obtain⟨b,o,cs,f1,f2,f3⟩:=hv.at (k:=.i64) (bw_get hx);have l1:=st.ldS f2 f3;have e2:=xShr_ex (k:=.u64) (k':=.i64) (x:=ws[i / 64]) (s:=i % 64) (by show i % 64<=64;omega);have hq:ws[i / 64] / 2 ^ (i % 64)<18446744073709551616:=Nat.lt_of_le_of_lt (Nat.div_le_self _ _) hlt;have e4:=xAnd64 hq (show 1<18446744073709551616 by decide);have e4:xBit Nat.land (.int .u64 ((ws[i / 64] / 2 ^ (i % 64):Nat):Int)) (.int .u64 (.ofNat 1))=_:=e4;simp only[vN_eq,e1,vb_some,f1,l1,e3,e2,e4,xEq_i];refine Fr.ret st ?_;have:decide ((((ws[i / 64] / 2 ^ (i % 64))&&&1:Nat):Int)=Int.ofNat 1)=hs ws i:=by
  rw[bit_has];unfold hs;rw[hD]
 rw[<-this]
theorem c140(st:Sl h0 h S m rows){b c:Nat}{md:Mode}{ws:List Nat}(hb:m b=some (.row md 1 (bw ws)))(hmd:mro md=false)(hw:Wd ws){i:Nat}(hi:i / 64<ws.length)(hi2:i<1000000):
  Ret (F140 n cl (.slice (some ⟨b,0,none⟩) ws.length c) (.int .i64 (i:Nat)) h) fun v h'=>v= .tuple ⟨[]⟩/\Sl h0 h' S (m.upd b (.row md 1 (bw (ws.set (i / 64) (ws.getD (i / 64) 0|||2 ^ (i % 64)))))) rows:=by
 unfold F140;have e1:=xQuo_n (x:=i) (y:=64) (by decide) (by omega);have e3:=xRem_n (x:=i) (y:=64) (by decide) (by omega);have hx:=List.getElem?_eq_getElem hi;have hD:ws.getD (i / 64) 0=ws[i / 64]:=by simp[List.getD_eq_getElem?_getD,hx]
 have hlt:=hw _ (List.getElem_mem hi);have f1:xIdxS 1 (.slice (some ⟨b,0,none⟩) ws.length c) (.int .i64 ((i / 64:Nat):Int))=some (.pointer (some ⟨b,i / 64,none⟩)):=by
  rw[xIdxS_at (by omega) (by omega)];simp
 have l1:xLd (.pointer (some ⟨b,i / 64,none⟩)) h=some (.int .u64 (ws[i / 64]:Nat)):=st.ldB hb (bw_get hx);have e2:=xShl1 (s:=i % 64) (by omega);have e4:=xOr64 hlt (pow_lt (s:=i % 64) (by omega));simp only[vN_eq,e1,vb_some,f1,e3,e2,l1,e4];refine Ret.lst1B st hb hmd (by rw[bw_len];exact hi) rfl fun h' st'=>?_;rw[bw_set]at st';rw[hD];exact Ret.of ⟨rfl,st'⟩
theorem c174[OkH h](hn:4611686018427387904<=n)(h107: ∀v h,cl 158 [v] h=F158 n cl' v h)(hS:Vw.le S h.cells){v:Value}{ws:List Nat}(hv:SlV S v (bw ws))(hl:ws.length<1000000):
  ∃z:Int,pcall (F174 n cl v (fnV 158 [] []) h)=some (.int .i64 z)/\(0<=z↔ ∃w∈ws,w≠0):=by
 have hlen:=hv.len;rw[bw_len]at hlen;have key: ∀(k q i:Nat),ws.length-i<=k->k<q->i<=ws.length->(∀w∈ws.take i,w=0)->Ret (lp q (F174_3 n cl) [v,fnV 158 [] [],.int .i64 (ws.length:Nat),.int .i64 (i:Nat)] h) fun u _=> ∃z:Int,u= .int .i64 z/\(0<=z↔ ∃w∈ws,w≠0):=by
  intro k
  induction k with
  |zero=>
   intro q i h1 h2 h3 h4;obtain⟨q,rfl⟩: ∃r,q=r+1:=⟨q-1,by omega⟩;rw[lp_succ];have d:decide (((i:Nat):Int)<((ws.length:Nat):Int))=false:=by simp;omega
   rw[List.take_of_length_le (by omega)]at h4;simp only[F174_3,F174_2,ucons_cons,xLt_i,d,vb_some,bite_f];exact Ret.of ⟨-1,rfl,(fun h=>by omega),fun⟨w,hw,hz⟩=>absurd (h4 w hw) hz⟩
  |succ k ih=>
   intro q i h1 h2 h3 h4
   by_cases hi:i<ws.length
   ·obtain⟨q,rfl⟩: ∃r,q=r+1:=⟨q-1,by omega⟩;rw[lp_succ];generalize hL:lp q (F174_3 n cl)=LL;have d:decide (((i:Nat):Int)<((ws.length:Nat):Int))=true:=by simp;omega
    have hx:=List.getElem?_eq_getElem hi;have htk:ws.take (i+1)=ws.take i++[ws[i]]:=by rw[List.take_add_one,hx];rfl
    have hm:=List.getElem_mem hi;generalize ws[i]=w at hx htk hm;obtain⟨b,o,cs,f1,f2,f3⟩:=hv.at (k:=.i64) (bw_get hx);have l1:=(Sl.start h hS).ldS f2 f3;have hc: ∀K,Go.Am.hb (xCall cl (fnV 158 [] []) [.int .u64 (w:Nat)] h) K=K (.bool (!decide (((w:Nat):Int)=((0:Nat):Int)))) h:=by
     intro K
     show Go.Am.hb (cl 158 [.int .u64 (w:Nat)] h) K=_
     rw[h107];unfold F158;simp only[xNe_i,vb_some]
     rfl
    simp only[F174_3,F174_2,F174_1,ucons_cons,xLt_i,d,vb_some,bite_t,f1,l1,hc]
    by_cases hz:w=0
    ·have dz:(!decide (((w:Nat):Int)=((0:Nat):Int)))=false:=by simp[hz]
     simp only[dz,bite_f,F174_0,vN_eq,xAdd_i,wrapN (show i<4611686018427387904 by omega),vb_some];rw[<-hL];refine ih q (i+1) (by omega) (by omega) (by omega) fun y hy=>?_;rw[htk]at hy;rcases List.mem_append.1 hy with hy|hy
     ·exact h4 y hy
     ·have:y=w:=by simpa using hy
      rw[this];exact hz
    ·have dz:(!decide (((w:Nat):Int)=((0:Nat):Int)))=true:=by simp[hz]
     simp only[dz,bite_t];exact Ret.of ⟨_,rfl,(fun _=>⟨w,hm,hz⟩),fun _=>by omega⟩
   ·exact ih q i (by omega) (by omega) h3 h4
 obtain⟨u,h1,e,z,rfl,hz⟩:=key ws.length n 0 (by omega) (by omega) (Nat.zero_le _) (by simp);refine⟨z,?_,hz⟩;unfold F174;simp only[hlen,vb_some,vN_eq];rw[e];exact pcall_some rfl
theorem c142[OkH h](hn:4611686018427387904<=n)(h107: ∀v h,cl 158 [v] h=F158 n cl' v h)(hS:Vw.le S h.cells){v:Value}{ws:List Nat}(hv:SlV S v (bw ws))(hl:ws.length<1000000):
  ∃bb:Bool,pcall (F142 n cl v h)=some (.bool bb)/\(bb=true↔ ∀w∈ws,w=0):=by
 have hz0:h.fzn=h.fzn:=rfl;have st:=Sl.start h hS;have hS1:Vw.le S h.fzn.cells:=fun b cs e=>st.leS b cs e;have hS2:Vw.le S h.fzn.fzn.cells:=fun b cs e=>st.leS b cs e;have:=st.ok;obtain⟨z,p1,p2⟩:=c174 (n:=n) (cl:=cl) (cl':=cl') (h:=h.fzn.fzn) hn h107 hS2 hv hl;refine⟨!decide (((0:Nat):Int)<=z),?_,?_⟩
 ·unfold F142;have:pcall (F157 n cl v (fnV 158 [] []) h.fzn)=some (.bool (decide (((0:Nat):Int)<=z))):=by
   unfold F157;simp only[p1,vb_some,vN_eq,xGe_i];exact pcall_some rfl
  simp only[this,vb_some,xNot_b];exact pcall_some rfl
 ·rw[Bool.not_eq_true',decide_eq_false_iff_not];constructor
  ·intro hz w hw
   by_cases e:w=0
   ·exact e
   ·exact absurd (p2.2 ⟨w,hw,e⟩) hz
  ·intro hw hz;obtain⟨w,h1,h2⟩:=p2.1 hz;exact h2 (hw w h1)
theorem f145[OkH h](hS:Vw.le S h.cells){b c:Nat}{ws:List Nat}(hb:S b=some (bw ws))(hw0:0<ws.length)(hl:ws.length<1000000):
  Fr h S (F145 n cl (.slice (some ⟨b,0,none⟩) ws.length c) h) fun v ex=> ∃b',v= .slice (some ⟨b',0,none⟩) ws.length openCap/\ex=[(b',.row .opn 1 (bw ws))]:=by
 unfold Fr F145;simp only[nil82,vb_some,bite_f,F145_0];refine Ret.lbs (Sl.start h hS) bs170 fun h1 b1 st=>?_;have hx:=st.sm.ptailS (sz:=1) (c:=c) (n:=ws.length) (o:=0) hb (by rw[bw_len];omega);rw[List.drop_zero,Nat.mul_one,List.take_of_length_le (by rw[bw_len];omega)]at hx;rw[ai170];refine Ret.lappF st (st.mem (.head _)) (by simp) (by omega) hx (by omega) (bw_one _) (by omega) fun h2 b2 st2=>?_;rw[Nat.zero_add];exact Fr.ret (st2.drop (rows':=[(b2,.row .opn 1 (bw ws))]) (.cons_cons _ (List.nil_sublist _))) ⟨b2,rfl,rfl⟩
end
def mix(f:Nat->Nat->Nat)(i:Nat)(a b:List Nat):List Nat:=(List.zipWith f a b).take i++a.drop i
theorem mix_0{f:Nat->Nat->Nat}{a b:List Nat}:mix f 0 a b=a:=by simp[mix]
theorem mix_end{f:Nat->Nat->Nat}{a b:List Nat}(h:a.length=b.length):mix f a.length a b=List.zipWith f a b:=by
 unfold mix;rw[List.take_of_length_le (by simp;omega),List.drop_length,List.append_nil]
theorem mix_len{f:Nat->Nat->Nat}{i:Nat}{a b:List Nat}(h:a.length=b.length)(hi:i<=a.length):(mix f i a b).length=a.length:=by
 unfold mix;rw[List.length_append,List.length_take,List.length_zipWith,List.length_drop];omega
theorem mix_get{f:Nat->Nat->Nat}{i x:Nat}{a b:List Nat}(h:a.length=b.length)(hx:a[i]?=some x):(mix f i a b)[i]?=some x:=by
 have hi:=(List.getElem?_eq_some_iff.1 hx).1;unfold mix;rw[List.getElem?_append_right (by simp;omega),List.getElem?_drop,List.length_take,List.length_zipWith];have:i+(i-min i (min a.length b.length))=i:=by omega
 rw[this];exact hx
theorem mix_set{f:Nat->Nat->Nat}{i x y:Nat}{a b:List Nat}(h:a.length=b.length)(hx:a[i]?=some x)(hy:b[i]?=some y):(mix f i a b).set i (f x y)=mix f (i+1) a b:=by
 have hi:=(List.getElem?_eq_some_iff.1 hx).1;have hz:(List.zipWith f a b)[i]?=some (f x y):=by rw[List.getElem?_zipWith,hx,hy]
 have hl:((List.zipWith f a b).take i).length=i:=by rw[List.length_take,List.length_zipWith];omega
 unfold mix;rw[List.set_append_right _ _ (by omega),hl,Nat.sub_self,List.take_add_one,hz,List.drop_eq_getElem_cons hi,List.set_cons_zero,List.append_assoc]
 rfl
section
variable {Q:Value->PH->Prop}{n:Nat}{cl cl':CL}{h h0:PH}{S:Vw}{m:OM}{rows:Rws}{K2:Value->PH->R}
theorem loop117{b c:Nat}{cv:Value}{ws cs:List Nat}(hcv:SlV S cv (bw cs))(hl:ws.length=cs.length)(hw:Wd ws)(hc:Wd cs)(hlt:ws.length<1000000):
  ∀(k q i:Nat)(h:PH),ws.length-i<=k->k<q->i<=ws.length->Sl h0 h S m ((b,.row .opn 1 (bw (mix (· &&& ·) i ws cs)))::rows)->
   Ret (lp q (F117_2 n cl) [cv,.slice (some ⟨b,0,none⟩) ws.length c,.int .i64 (ws.length:Nat),.int .i64 (i:Nat)] h) fun v h'=>v= .slice (some ⟨b,0,none⟩) ws.length c/\Sl h0 h' S m ((b,.row .opn 1 (bw (List.zipWith (· &&& ·) ws cs)))::rows):=by
 intro k
 induction k with
 |zero=>
  intro q i h h1 h2 h3 st;obtain⟨q,rfl⟩: ∃r,q=r+1:=⟨q-1,by omega⟩;rw[lp_succ];have hi:i=ws.length:=by omega
  subst hi;rw[mix_end hl]at st;have d:decide (((ws.length:Nat):Int)<((ws.length:Nat):Int))=false:=by simp
  simp only[F117_2,F117_1,ucons_cons,xLt_i,d,vb_some,bite_f];exact Ret.of ⟨rfl,st⟩
 |succ k ih=>
  intro q i h h1 h2 h3 st
  by_cases hi:i<ws.length
  ·obtain⟨q,rfl⟩: ∃r,q=r+1:=⟨q-1,by omega⟩;rw[lp_succ];generalize hL:lp q (F117_2 n cl)=LL;have d:decide (((i:Nat):Int)<((ws.length:Nat):Int))=true:=by simp;omega
   have hx:=List.getElem?_eq_getElem hi;have hic:i<cs.length:=by omega
   have hy:=List.getElem?_eq_getElem hic;have hwx:=hw _ (List.getElem_mem hi);have hwy:=hc _ (List.getElem_mem hic);generalize ws[i]=x at hx hwx;generalize cs[i]=y at hy hwy;obtain⟨bc,oc,all,f1,f2,f3⟩:=hcv.at (k:=.i64) (bw_get hy);have l2:=st.ldS f2 f3;have f4:xIdxS 1 (.slice (some ⟨b,0,none⟩) ws.length c) (.int .i64 (i:Nat))=some (.pointer (some ⟨b,i,none⟩)):=by
    rw[xIdxS_at (by omega) (by omega)];simp
   have l1:xLd (.pointer (some ⟨b,i,none⟩)) h=some (.int .u64 (x:Nat)):=st.ld (.head _) (bw_get (mix_get hl hx));simp only[F117_2,F117_1,F117_0,ucons_cons,xLt_i,d,vb_some,bite_t,f1,f4,l1,l2,xAnd64 hwx hwy];refine Ret.lst1 st 0 rfl rfl (by rw[bw_len,mix_len hl (by omega)];exact hi) rfl fun h' st'=>?_;rw[bw_set]at st';have st':Sl h0 h' S m ((b,.row .opn 1 (bw ((mix (· &&& ·) i ws cs).set i (x&&&y))))::rows):=st';have hms:(mix (· &&& ·) i ws cs).set i (x&&&y)=mix (· &&& ·) (i+1) ws cs:=mix_set (f:=(· &&& ·)) hl hx hy;rw[hms]at st';simp only[vN_eq,xAdd_i,wrapN (show i<4611686018427387904 by omega),vb_some];rw[<-hL];exact ih q (i+1) h' (by omega) (by omega) (by omega) st'
  ·exact ih q i h (by omega) (by omega) h3 st
theorem f117[OkH h](hn:4611686018427387904<=n)(hS:Vw.le S h.cells){b c:Nat}{cv:Value}{ws cs:List Nat}(hb:S b=some (bw ws))(hcv:SlV S cv (bw cs))(hl:ws.length=cs.length)(hw:Wd ws)(hc:Wd cs)(hw0:0<ws.length)(hlt:ws.length<1000000):
  Fr h S (F117 n cl (.slice (some ⟨b,0,none⟩) ws.length c) cv h) fun v ex=> ∃b',v= .slice (some ⟨b',0,none⟩) ws.length openCap/\ex=[(b',.row .opn 1 (bw (List.zipWith (· &&& ·) ws cs)))]:=by
 unfold Fr F117;have st:=Sl.start h hS;refine Ret.lfcall st (f145 (n:=n) (cl:=cl) (h:=h.fzn) (S:=S) (c:=c) (fun b cs e=>st.leS b cs e) hb hw0 hlt) fun v h1 ex ⟨b',hv,he⟩ st1=>?_;subst hv;subst he;have st1:Sl h h1 S OM.emp [(b',.row .opn 1 (bw ws))]:=st1;have hlen:xLenS (.slice (some ⟨b',0,none⟩) ws.length openCap)=some (.int .i64 (ws.length:Nat)):=by simp
 simp only[hlen,vb_some,vN_eq];refine(loop117 (n:=n) (cl:=cl) (h0:=h) (m:=OM.emp) (rows:=[]) hcv hl hw hc hlt ws.length n 0 h1 (by omega) (by omega) (Nat.zero_le _) (by rw[mix_0];exact st1)).mono fun v h' ⟨q1,q2⟩=>⟨_,q2,b',q1,rfl⟩
theorem loop137{b c:Nat}{cv:Value}{md:Mode}{ws cs:List Nat}(hmd:mro md=false)(hcv:SlV S cv (bw cs))(hl:ws.length=cs.length)(hw:Wd ws)(hc:Wd cs)(hlt:ws.length<1000000):
  ∀(k q i:Nat)(m:OM)(h:PH),ws.length-i<=k->k<q->i<=ws.length->m b=some (.row md 1 (bw (mix (· ||| ·) i ws cs)))->Sl h0 h S m rows->
   Ret (lp q (F137_2 n cl) [.slice (some ⟨b,0,none⟩) ws.length c,cv,.int .i64 (ws.length:Nat),.int .i64 (i:Nat)] h) fun v h'=>v= .tuple ⟨[]⟩/\Sl h0 h' S (m.upd b (.row md 1 (bw (List.zipWith (· ||| ·) ws cs)))) rows:=by
 intro k
 induction k with
 |zero=>
  intro q i m h h1 h2 h3 hm st;obtain⟨q,rfl⟩: ∃r,q=r+1:=⟨q-1,by omega⟩;rw[lp_succ];have hi:i=ws.length:=by omega
  subst hi;rw[mix_end hl]at hm;have d:decide (((ws.length:Nat):Int)<((ws.length:Nat):Int))=false:=by simp
  simp only[F137_2,F137_1,ucons_cons,xLt_i,d,vb_some,bite_f];rw[OM.upd_id hm];exact Ret.of ⟨rfl,st⟩
 |succ k ih=>
  intro q i m h h1 h2 h3 hm st
  by_cases hi:i<ws.length
  ·obtain⟨q,rfl⟩: ∃r,q=r+1:=⟨q-1,by omega⟩;rw[lp_succ];generalize hL:lp q (F137_2 n cl)=LL;have d:decide (((i:Nat):Int)<((ws.length:Nat):Int))=true:=by simp;omega
   have hx:=List.getElem?_eq_getElem hi;have hic:i<cs.length:=by omega
   have hy:=List.getElem?_eq_getElem hic;have hwx:=hw _ (List.getElem_mem hi);have hwy:=hc _ (List.getElem_mem hic);generalize ws[i]=x at hx hwx;generalize cs[i]=y at hy hwy;obtain⟨bc,oc,all,f1,f2,f3⟩:=hcv.at (k:=.i64) (bw_get hy);have l2:=st.ldS f2 f3;have f4:xIdxS 1 (.slice (some ⟨b,0,none⟩) ws.length c) (.int .i64 (i:Nat))=some (.pointer (some ⟨b,i,none⟩)):=by
    rw[xIdxS_at (by omega) (by omega)];simp
   have l1:xLd (.pointer (some ⟨b,i,none⟩)) h=some (.int .u64 (x:Nat)):=st.ldB hm (bw_get (mix_get hl hx));simp only[F137_2,F137_1,F137_0,ucons_cons,xLt_i,d,vb_some,bite_t,f1,f4,l1,l2,xOr64 hwx hwy];refine Ret.lst1B st hm hmd (by rw[bw_len,mix_len hl (by omega)];exact hi) rfl fun h' st'=>?_;rw[bw_set]at st';have hms:(mix (· ||| ·) i ws cs).set i (x|||y)=mix (· ||| ·) (i+1) ws cs:=mix_set (f:=(· ||| ·)) hl hx hy;rw[hms]at st';simp only[vN_eq,xAdd_i,wrapN (show i<4611686018427387904 by omega),vb_some];rw[<-hL];have:=ih q (i+1) _ h' (by omega) (by omega) (by omega) OM.upd_self st';rw[OM.upd_upd]at this;exact this
  ·exact ih q i m h (by omega) (by omega) h3 hm st
theorem c137(hn:4611686018427387904<=n)(st:Sl h0 h S m rows){b c:Nat}{cv:Value}{md:Mode}{ws cs:List Nat}(hmd:mro md=false)(hm:m b=some (.row md 1 (bw ws)))(hcv:SlV S cv (bw cs))(hl:ws.length=cs.length)(hw:Wd ws)(hc:Wd cs)(hlt:ws.length<1000000):
  Ret (F137 n cl (.slice (some ⟨b,0,none⟩) ws.length c) cv h) fun v h'=>v= .tuple ⟨[]⟩/\Sl h0 h' S (m.upd b (.row md 1 (bw (List.zipWith (· ||| ·) ws cs)))) rows:=by
 unfold F137;have hlen:xLenS (.slice (some ⟨b,0,none⟩) ws.length c)=some (.int .i64 (ws.length:Nat)):=by simp
 simp only[hlen,vb_some,vN_eq];exact loop137 (n:=n) (cl:=cl) hmd hcv hl hw hc hlt ws.length n 0 m h (by omega) (by omega) (Nat.zero_le _) (by rw[mix_0];exact hm) st
end
def wby(w k:Nat):List Nat:=(List.range k).map fun t=>w / 2 ^ (8*t) % 256
def kyb(ws:List Nat):List Nat:=ws.flatMap fun w=>wby w 8
def bstr(l:List Nat):ByteArray:=⟨⟨l.map UInt8.ofNat⟩⟩
theorem wby_succ(w k:Nat):wby w (k+1)=wby w k++[w / 2 ^ (8*k) % 256]:=by
 unfold wby;rw[List.range_succ,List.map_append];rfl
theorem wby_len(w k:Nat):(wby w k).length=k:=by simp[wby]
theorem wby_256{w k:Nat}: ∀x∈wby w k,x<256:=by
 intro x hx;unfold wby at hx;rw[List.mem_map]at hx;obtain⟨t,_,rfl⟩:=hx;exact Nat.mod_lt _ (by decide)
theorem kyb_256{ws:List Nat}: ∀x∈kyb ws,x<256:=by
 intro x hx;unfold kyb at hx;rw[List.mem_flatMap]at hx;obtain⟨w,_,hx⟩:=hx;exact wby_256 x hx
theorem kyb_snoc(ws:List Nat)(w:Nat):kyb (ws++[w])=kyb ws++wby w 8:=by
 unfold kyb;rw[List.flatMap_append];simp
theorem kyb_len(ws:List Nat):(kyb ws).length=8*ws.length:=by
 induction ws with
 |nil=>rfl
 |cons w ws ih=>show(wby w 8++kyb ws).length=_;rw[List.length_append,ih,wby_len];simp;omega
theorem wby_inj{a b:Nat}(ha:a<18446744073709551616)(hb:b<18446744073709551616)(h:wby a 8=wby b 8):a=b:=by
 refine word_ext ha hb fun s hs'=>?_;have key: ∀x:Nat,x.testBit s=(x / 2 ^ (8*(s / 8)) % 256).testBit (s % 8):=by
  intro x;have e:(256:Nat)=2 ^ 8:=by decide
  rw[e,Nat.testBit_mod_two_pow,Nat.testBit_div_two_pow];have h1:s % 8<8:=Nat.mod_lt _ (by decide);have h2:s % 8+8*(s / 8)=s:=by omega
  rw[h2];simp[h1]
 have hg: ∀x:Nat,(wby x 8)[s / 8]?=some (x / 2 ^ (8*(s / 8)) % 256):=by
  intro x;unfold wby
  rw[List.getElem?_map,List.getElem?_range (by omega)];rfl
 have:=hg a;rw[h,hg b]at this;rw[key a,key b,Option.some.inj this]
theorem kyb_inj: ∀{a b:List Nat},a.length=b.length->Wd a->Wd b->kyb a=kyb b->a=b
 | [],[],_,_,_,_=>rfl
 |x::a,y::b,hl,ha,hb,h=>by
  have h:wby x 8++kyb a=wby y 8++kyb b:=h;obtain⟨h1,h2⟩:=List.append_inj h (by rw[wby_len,wby_len]);have e1:=wby_inj (ha x (.head _)) (hb y (.head _)) h1;have e2:=kyb_inj (by simpa using hl) (fun w hw=>ha w (.tail _ hw)) (fun w hw=>hb w (.tail _ hw)) h2;rw[e1,e2]
 | [],y::b,hl,_,_,_=>by simp at hl
 |x::a,[],hl,_,_,_=>by simp at hl
theorem bstr_inj: ∀{a b:List Nat},(∀x∈a,x<256)->(∀x∈b,x<256)->bstr a=bstr b->a=b:=by
 intro a b ha hb h;have h1:a.map UInt8.ofNat=b.map UInt8.ofNat:=by
  have:=congrArg (fun s:ByteArray=>s.data.toList) h;exact this
 apply List.ext_getElem? fun i=>?_
 have h2:=congrArg (fun l:List UInt8=>l[i]?) h1;simp only[List.getElem?_map]at h2;cases hx:a[i]? with
 |none=>
  rw[hx]at h2;cases hy:b[i]? with
  |none=>rfl
  |some y=>rw[hy]at h2;cases h2
 |some x=>
  rw[hx]at h2;cases hy:b[i]? with
  |none=>rw[hy]at h2;cases h2
  |some y=>
   rw[hy]at h2;have h3:UInt8.ofNat x=UInt8.ofNat y:=Option.some.inj h2;have h4:=congrArg UInt8.toNat h3;have l1:=ha x (List.mem_of_getElem? hx);have l2:=hb y (List.mem_of_getElem? hy);rw[UInt8.toNat_ofNat',UInt8.toNat_ofNat',Nat.mod_eq_of_lt (by omega),Nat.mod_eq_of_lt (by omega)]at h4;rw[h4]
def keyS(ws:List Nat):Value:=.string (bstr (kyb ws))
theorem keyS_inj{a b:List Nat}(hl:a.length=b.length)(ha:Wd a)(hb:Wd b)(h:bstr (kyb a)=bstr (kyb b)):a=b:=
 kyb_inj hl ha hb (bstr_inj kyb_256 kyb_256 h)
theorem bytes8_bys: ∀(l:List Nat),bytes8 (bys l)=some (l.map UInt8.ofNat)
 | []=>rfl
 |x::l=>by
  have ih:=bytes8_bys l
  show(match bytes8 (bys l)with|some ns=>some (UInt8.ofNat (Int.toNat ((x:Nat):Int))::ns)|none=>none)=_
  rw[ih];rfl
theorem bs33{a:Int}:bsRow Tryz.prog 33 1 [(0,.int .u8 a)]=some (1,[.int .u8 a]):=by kernel_rfl
theorem wrap8(x:Nat):IntKind.u8.wrap ((x:Nat):Int)=((x % 256:Nat):Int):=by
 simp[IntKind.wrap,IntKind.signed,IntKind.bits]
theorem bys_snoc(l:List Nat)(x:Nat):bys l++[.int .u8 (x:Nat)]=bys (l++[x]):=by simp[bys]
section
variable {Q:Value->PH->Prop}{n:Nat}{cl cl':CL}{h h0:PH}{S:Vw}{m:OM}{rows:Rws}{K2:Value->PH->R}
theorem Sl.b2s{ex:Rws}(s:Sl h0 h S m (ex++rows)){v:Value}{l:List Nat}(g:Gl 1 v l.length (bys l) ex):xB2S v h=some (.string (bstr l)):=by
 rcases g.h with⟨h1,h2,rfl,_⟩|⟨b,o,cap,all,rfl,rfl,h1,h2,_⟩
 ·have:l=[]:=List.eq_nil_of_length_eq_zero h1;subst this;rfl
 ·have hb:=(s.sm.own b _ (s.mem (.head _))).1;have h3:Nat.ble (Nat.add o l.length) all.length=true:=ble_t' (by show o+l.length<=_;omega)
  by_cases e0:l=[]
  ·subst e0;rfl
  have hn0:Nat.beq l.length 0=false:=by
   cases hq:Nat.beq l.length 0 with
   |false=>rfl
   |true=>exact absurd (List.eq_nil_of_length_eq_zero (Nat.eq_of_beq_eq_true hq)) e0
  show(match Nat.beq l.length 0 with
   |true=>some (Value.string ByteArray.empty)
   |false=>match h.raw b with
   |some (.row _ _ cs)=>match Nat.ble (Nat.add o l.length) cs.length with
    |true=>match bytes8 ((cs.drop o).take l.length)with
     |some ns=>some (Value.string ⟨⟨ns⟩⟩)
     |none=>none
    |false=>none
   |_=>none)=_
  rw[hn0];dsimp only;rw[hb];dsimp only;rw[h3];dsimp only;rw[Nat.mul_one]at h1;rw[<-h1,bytes8_bys]
  rfl
theorem loop143i{av lv iv:Value}{w:Nat}{K3:Kt}{pre:List Nat}(hw:w<18446744073709551616)(hp:pre.length<10000000)
  (hk: ∀h' v' ex',Sl h0 h' S m (ex'++rows)->Gl 1 v' (pre++wby w 8).length (bys (pre++wby w 8)) ex'->Ret (F143_1 n cl iv K3 v' av lv h') Q):
  ∀(k q t:Nat)(v:Value)(ex:Rws)(h:PH),8-t<=k->k<q->t<=8->Sl h0 h S m (ex++rows)->Gl 1 v (pre++wby w t).length (bys (pre++wby w t)) ex->Ret (lp q (F143_3 n cl K3) [v,.int .u64 (w:Nat),.int .i64 ((8*t:Nat):Int),av,lv,iv] h) Q:=by
 intro k
 induction k with
 |zero=>
  intro q t v ex h h1 h2 h3 st g;obtain⟨q,rfl⟩: ∃r,q=r+1:=⟨q-1,by omega⟩;rw[lp_succ];have ht:t=8:=by omega
  subst ht;have d:decide (((8*8:Nat):Int)<((64:Nat):Int))=false:=by decide
  simp only[F143_3,F143_2,ucons_cons,vN_eq,xLt_i,d,vb_some,bite_f];exact hk h v ex st g
 |succ k ih=>
  intro q t v ex h h1 h2 h3 st g
  by_cases ht:t<8
  ·obtain⟨q,rfl⟩: ∃r,q=r+1:=⟨q-1,by omega⟩;rw[lp_succ];generalize hL:lp q (F143_3 n cl K3)=LL;have d:decide (((8*t:Nat):Int)<((64:Nat):Int))=true:=by simp;omega
   have e1:=xShr_ex (k:=.u64) (k':=.i64) (x:=w) (s:=8*t) (by show 8*t<=64;omega);have e2:IntKind.i64.wrap (((8*t:Nat):Int)+((8:Nat):Int))=((8*(t+1):Nat):Int):=by rw[wrap_in (by omega) (by omega)];omega
   simp only[F143_3,F143_2,F143_0,ucons_cons,vN_eq,xLt_i,d,vb_some,bite_t,e1,xConvI_i',wrap8];have hlen:(pre++wby w t).length<=10000008:=by rw[List.length_append,wby_len];omega
   refine Ret.gapp st g bs33 ai33 rfl rfl (sz_le hlen (by decide)) fun h' v' ex' st' g'=>?_;have g':Gl 1 v' (pre++wby w (t+1)).length (bys (pre++wby w (t+1))) ex':=by
    rw[wby_succ, <-List.append_assoc, <-bys_snoc,List.length_append];exact g'
   simp only[xAdd_i,e2,vb_some];rw[<-hL];exact ih q (t+1) v' ex' h' (by omega) (by omega) (by omega) st' g'
  ·exact ih q t v ex h (by omega) (by omega) h3 st g
theorem c143[OkH h](hn:4611686018427387904<=n)(hS:Vw.le S h.cells){av:Value}{ws:List Nat}(hv:SlV S av (bw ws))(hw:Wd ws)(hl:ws.length<1000000):pcall (F143 n cl av h)=some (keyS ws):=by
 have hlen:=hv.len;rw[bw_len]at hlen;have key: ∀(k q i:Nat)(v:Value)(ex:Rws)(h1:PH),ws.length-i<=k->k<q->i<=ws.length->Sl h h1 S OM.emp (ex++[])->Gl 1 v (kyb (ws.take i)).length (bys (kyb (ws.take i))) ex->
   Ret (lp q (F143_7 n cl) [v,av,.int .i64 (ws.length:Nat),.int .i64 (i:Nat)] h1) fun u _=>u=keyS ws:=by
  intro k
  induction k with
  |zero=>
   intro q i v ex h1 a1 a2 a3 st g;obtain⟨q,rfl⟩: ∃r,q=r+1:=⟨q-1,by omega⟩;rw[lp_succ];have d:decide (((i:Nat):Int)<((ws.length:Nat):Int))=false:=by simp;omega
   rw[List.take_of_length_le (by omega)]at g;simp only[F143_7,F143_6,F143_5,ucons_cons,xLt_i,d,vb_some,bite_f,st.b2s g];exact Ret.of rfl
  |succ k ih=>
   intro q i v ex h1 a1 a2 a3 st g
   by_cases hi:i<ws.length
   ·obtain⟨q,rfl⟩: ∃r,q=r+1:=⟨q-1,by omega⟩;rw[lp_succ];generalize hL:lp q (F143_7 n cl)=LL;have d:decide (((i:Nat):Int)<((ws.length:Nat):Int))=true:=by simp;omega
    have hx:=List.getElem?_eq_getElem hi;have hwx:=hw _ (List.getElem_mem hi);have htk:ws.take (i+1)=ws.take i++[ws[i]]:=by rw[List.take_add_one,hx];rfl
    generalize ws[i]=w at hx hwx htk;obtain⟨b,o,cs,f1,f2,f3⟩:=hv.at (k:=.i64) (bw_get hx);have l1:=st.ldS f2 f3;simp only[F143_7,F143_6,F143_4,ucons_cons,xLt_i,d,vb_some,bite_t,f1,l1,vN_eq];have hkl:(kyb (ws.take i)).length<10000000:=by rw[kyb_len,List.length_take];omega
    refine loop143i (n:=n) (cl:=cl) (h0:=h) (m:=OM.emp) (rows:=[]) (pre:=kyb (ws.take i)) hwx hkl (fun h' v' ex' st' g'=>?_) 8 n 0 v ex h1 (by omega) (by omega) (by omega) st (by simpa[wby]using g);simp only[F143_1,vN_eq,xAdd_i,wrapN (show i<4611686018427387904 by omega),vb_some];rw[<-hL];refine ih q (i+1) v' ex' h' (by omega) (by omega) (by omega) st' ?_;rw[htk,kyb_snoc];exact g'
   ·exact ih q i v ex h1 (by omega) (by omega) a3 st g
 obtain⟨u,h1,e,rfl⟩:=key ws.length n 0 nils [] h (by omega) (by omega) (Nat.zero_le _) (Sl.start h hS) Gl.nil;unfold F143;simp only[hlen,vb_some,vN_eq];rw[e];exact pcall_some rfl
end
def mS(kv:List ((ByteArray×Nat)×Nat)):List MapEntry:=kv.map fun p=>⟨.string p.1.1,.int .i64 (p.1.2:Nat),p.2⟩
def mI(kv:List ((Int×Nat)×Nat)):List MapEntry:=kv.map fun p=>⟨.int .i64 p.1.1,.int .i64 (p.1.2:Nat),p.2⟩
theorem mS_plain(kv:List ((ByteArray×Nat)×Nat)):keysPlain (mS kv)=true:=by
 unfold keysPlain mS;rw[List.all_map];exact List.all_eq_true.2 fun x _=>rfl
theorem mI_plain(kv:List ((Int×Nat)×Nat)):keysPlain (mI kv)=true:=by
 unfold keysPlain mI;rw[List.all_map];exact List.all_eq_true.2 fun x _=>rfl
theorem u8s_self(l:List UInt8):u8s l l=true:=by rw[u8s_eq];simp
theorem u8s_ne{a b:ByteArray}(h:a≠b):u8s a.data.toList b.data.toList=false:=by
 rw[u8s_eq,decide_eq_false_iff_not];intro e
 apply h
 cases a;cases b;exact congrArg ByteArray.mk (Array.ext' e)
theorem findS_none{k:ByteArray}: ∀{kv:List ((ByteArray×Nat)×Nat)}{i:Nat},(∀p∈kv,p.1.1≠k)->findS k.data.toList (mS kv) i=some none
 | [],i,_=>rfl
 |p::kv,i,h=>by
  show(match u8s k.data.toList p.1.1.data.toList with|true=>some (some (i,Value.int .i64 (p.1.2:Nat)))|false=>findS k.data.toList (mS kv) (.succ i))=_
  rw[u8s_ne (fun e=>h p (.head _) e.symm)];exact findS_none fun q hq=>h q (.tail _ hq)
theorem findS_hit{k:ByteArray}{v c:Nat}{l2:List ((ByteArray×Nat)×Nat)}: ∀{l1:List ((ByteArray×Nat)×Nat)}{i:Nat},(∀p∈l1,p.1.1≠k)->findS k.data.toList (mS (l1++((k,v),c)::l2)) i=some (some (i+l1.length,.int .i64 (v:Nat)))
 | [],i,_=>by
  show(match u8s k.data.toList k.data.toList with|true=>some (some (i,Value.int .i64 (v:Nat)))|false=>findS k.data.toList (mS l2) (.succ i))=_
  rw[u8s_self];rfl
 |p::l1,i,h=>by
  show(match u8s k.data.toList p.1.1.data.toList with|true=>some (some (i,Value.int .i64 (p.1.2:Nat)))|false=>findS k.data.toList (mS (l1++((k,v),c)::l2)) (.succ i))=_
  rw[u8s_ne (fun e=>h p (.head _) e.symm)];dsimp only;rw[findS_hit fun q hq=>h q (.tail _ hq)];have:Nat.succ i+l1.length=i+(p::l1).length:=by simp;omega
  rw[this]
theorem fNow_none{k:Int}: ∀{kv:List ((Int×Nat)×Nat)}{i:Nat},(∀p∈kv,p.1.1≠k)->Instr.findNow (.int .i64) (.int .i64 k) (mI kv) i=some none
 | [],i,_=>rfl
 |p::kv,i,h=>by
  show(match Instr.sameNow (.int .i64) (.int .i64 k) (.int .i64 p.1.1)with|some true=>some (some (i,Value.int .i64 (p.1.2:Nat)))|some false=>Instr.findNow (.int .i64) (.int .i64 k) (mI kv) (i+1)|none=>none)=_
  have e:Instr.sameNow (.int .i64) (.int .i64 k) (.int .i64 p.1.1)=some false:=by
   have h1: ¬ k=p.1.1:=fun e=>h p (.head _) e.symm;simp[Instr.sameNow,h1]
  rw[e];exact fNow_none fun q hq=>h q (.tail _ hq)
theorem fNow_hit{k:Int}{v c:Nat}{l2:List ((Int×Nat)×Nat)}: ∀{l1:List ((Int×Nat)×Nat)}{i:Nat},(∀p∈l1,p.1.1≠k)->Instr.findNow (.int .i64) (.int .i64 k) (mI (l1++((k,v),c)::l2)) i=some (some (i+l1.length,.int .i64 (v:Nat)))
 | [],i,_=>by
  show(match Instr.sameNow (.int .i64) (.int .i64 k) (.int .i64 k)with|some true=>some (some (i,Value.int .i64 (v:Nat)))|some false=>Instr.findNow (.int .i64) (.int .i64 k) (mI l2) (i+1)|none=>none)=_
  have e:Instr.sameNow (.int .i64) (.int .i64 k) (.int .i64 k)=some true:=by simp[Instr.sameNow]
  rw[e];rfl
 |p::l1,i,h=>by
  show(match Instr.sameNow (.int .i64) (.int .i64 k) (.int .i64 p.1.1)with|some true=>some (some (i,Value.int .i64 (p.1.2:Nat)))|some false=>Instr.findNow (.int .i64) (.int .i64 k) (mI (l1++((k,v),c)::l2)) (i+1)|none=>none)=_
  have e:Instr.sameNow (.int .i64) (.int .i64 k) (.int .i64 p.1.1)=some false:=by
   have h1: ¬ k=p.1.1:=fun e=>h p (.head _) e.symm;simp[Instr.sameNow,h1]
  rw[e];dsimp only;rw[fNow_hit fun q hq=>h q (.tail _ hq)];have:i+1+l1.length=i+(p::l1).length:=by simp;omega
  rw[this]
theorem ck9{e:Bool}{k:ByteArray}:pureRun Tryz.prog (Instr.checkKey e 10000 9 (.string k))=some ():=by
 show pureRun Tryz.prog (Instr.checkKey e (9999+1) 9 (.string k))=some ()
 unfold Instr.checkKey;rw[pureRun_bind,pureRun_und Tryz.underlying9]
 rfl
theorem ck3{e:Bool}{k:Int}:pureRun Tryz.prog (Instr.checkKey e 10000 3 (.int .i64 k))=some ():=by
 show pureRun Tryz.prog (Instr.checkKey e (9999+1) 3 (.int .i64 k))=some ()
 unfold Instr.checkKey;rw[pureRun_bind,pureRun_und Tryz.underlying3]
 rfl
set_option maxRecDepth 100000 in
theorem afS{k:ByteArray}{es:List MapEntry}{r:Option (Nat×Value)}(h:findS k.data.toList es 0=some r):afindQ Tryz.prog 9 (.string k) es=some r:=by
 show(match Tryz.prog.underlying 9 with
  |some .string=>match findS k.data.toList es 0 with
   |some r=>some r
   |none=>afind Tryz.prog 9 (.string k) es
  |_=>afind Tryz.prog 9 (.string k) es)=_
 rw[Tryz.underlying9];dsimp only;rw[h]
set_option maxRecDepth 100000 in
theorem afI{k:Int}{es:List MapEntry}{r:Option (Nat×Value)}(h:Instr.findNow (.int .i64) (.int .i64 k) es 0=some r):afindQ Tryz.prog 3 (.int .i64 k) es=some r:=by
 show(match Tryz.prog.underlying 3 with
  |some d=>match Instr.findNow d (.int .i64 k) es 0 with
   |some r=>some r
   |none=>findAskA Tryz.prog 3 (.int .i64 k) es 0
  |none=>none)=_
 rw[Tryz.underlying3];dsimp only;rw[h]
theorem in3: ∃i,Tryz.prog.info? 3=some i/\i.zero=some (.int .i64 0):=by
 have e2:(Tryz.prog.info? 3).map (·.zero)=some (some (.int .i64 0)):=by kernel_rfl
 rw[Option.map_eq_some_iff]at e2;obtain⟨inf,h1,h2⟩:=e2;exact⟨inf,h1,h2⟩
section
variable {Q:Value->PH->Prop}{n:Nat}{cl cl':CL}{h h0:PH}{S:Vw}{m:OM}{rows:Rws}{K2:Value->PH->R}
theorem phMap_at(s:Sl h0 h S m rows){b c:Nat}{es:List MapEntry}(hb:over rows m b=some (.map es c)):phMap (.map (some b)) h=some (b,es,c):=by
 have:=s.sm.get hb
 show(match h.get b with|some (.map es c)=>some (b,es,c)|_=>none)=_
 rw[this]
theorem lkS_none(s:Sl h0 h S m rows){b c:Nat}{kv:List ((ByteArray×Nat)×Nat)}{k:ByteArray}(hb:over rows m b=some (.map (mS kv) c))(hk: ∀p∈kv,p.1.1≠k){ok:Bool}:
  xLkp Tryz.prog 9 3 ok (.map (some b)) (.string k) h=some (if ok then .tuple ⟨[.int .i64 0,.bool false]⟩else .int .i64 0):=by
 obtain⟨i3,h1,h2⟩:=in3
 show(match phMap (.map (some b)) h with|some (_,es,_)=>lkE Tryz.prog 9 3 (.string k) ok es|none=>none)=_
 rw[phMap_at s hb];dsimp only;unfold lkE;have hp:(plainV (Value.string k)&&keysPlain (mS kv))=true:=by rw[mS_plain];rfl
 rw[if_pos hp,ck9];dsimp only;rw[afS (findS_none hk)];dsimp only;rw[h1];dsimp only;rw[h2]
 rfl
theorem lkS_hit(s:Sl h0 h S m rows){b c c' v:Nat}{l1 l2:List ((ByteArray×Nat)×Nat)}{k:ByteArray}(hb:over rows m b=some (.map (mS (l1++((k,v),c')::l2)) c))(hk: ∀p∈l1,p.1.1≠k){ok:Bool}:
  xLkp Tryz.prog 9 3 ok (.map (some b)) (.string k) h=some (if ok then .tuple ⟨[.int .i64 (v:Nat),.bool true]⟩else .int .i64 (v:Nat)):=by
 show(match phMap (.map (some b)) h with|some (_,es,_)=>lkE Tryz.prog 9 3 (.string k) ok es|none=>none)=_
 rw[phMap_at s hb];dsimp only;unfold lkE;have hp:(plainV (Value.string k)&&keysPlain (mS (l1++((k,v),c')::l2)))=true:=by rw[mS_plain];rfl
 rw[if_pos hp,ck9];dsimp only;rw[afS (findS_hit hk)]
theorem lkI_none(s:Sl h0 h S m rows){b c:Nat}{kv:List ((Int×Nat)×Nat)}{k:Int}(hb:over rows m b=some (.map (mI kv) c))(hk: ∀p∈kv,p.1.1≠k){ok:Bool}:
  xLkp Tryz.prog 3 3 ok (.map (some b)) (.int .i64 k) h=some (if ok then .tuple ⟨[.int .i64 0,.bool false]⟩else .int .i64 0):=by
 obtain⟨i3,h1,h2⟩:=in3
 show(match phMap (.map (some b)) h with|some (_,es,_)=>lkE Tryz.prog 3 3 (.int .i64 k) ok es|none=>none)=_
 rw[phMap_at s hb];dsimp only;unfold lkE;have hp:(plainV (Value.int .i64 k)&&keysPlain (mI kv))=true:=by rw[mI_plain];rfl
 rw[if_pos hp,ck3];dsimp only;rw[afI (fNow_none hk)];dsimp only;rw[h1];dsimp only;rw[h2]
 rfl
theorem lkI_hit(s:Sl h0 h S m rows){b c c' v:Nat}{l1 l2:List ((Int×Nat)×Nat)}{k:Int}(hb:over rows m b=some (.map (mI (l1++((k,v),c')::l2)) c))(hk: ∀p∈l1,p.1.1≠k){ok:Bool}:
  xLkp Tryz.prog 3 3 ok (.map (some b)) (.int .i64 k) h=some (if ok then .tuple ⟨[.int .i64 (v:Nat),.bool true]⟩else .int .i64 (v:Nat)):=by
 show(match phMap (.map (some b)) h with|some (_,es,_)=>lkE Tryz.prog 3 3 (.int .i64 k) ok es|none=>none)=_
 rw[phMap_at s hb];dsimp only;unfold lkE;have hp:(plainV (Value.int .i64 k)&&keysPlain (mI (l1++((k,v),c')::l2)))=true:=by rw[mI_plain];rfl
 rw[if_pos hp,ck3];dsimp only;rw[afI (fNow_hit hk)]
theorem Ret.lmupS(s:Sl h0 h S m rows)(i:Nat){b c v:Nat}{kv:List ((ByteArray×Nat)×Nat)}{k:ByteArray}(hi:rows[i]?=some (b,.map (mS kv) c))(hk: ∀p∈kv,p.1.1≠k)
  (hK: ∀h',Sl h0 h' S m (rows.set i (b,.map (mS (kv++[((k,v),c)])) (c+1)))->Ret (K2 undef h') Q):Ret (Go.Am.hb (xMUpd Tryz.prog 9 (.map (some b)) (.string k) (.int .i64 (v:Nat)) h) K2) Q:=by
 obtain⟨h',hs,s',_⟩:=s.sm.set (s.idx hi) (.map (mS (kv++[((k,v),c)])) (c+1));have hp:(plainV (Value.string k)&&keysPlain (mS kv))=true:=by rw[mS_plain];rfl
 have e:xMUpd Tryz.prog 9 (.map (some b)) (.string k) (.int .i64 (v:Nat)) h=some (undef,h'):=by
  unfold xMUpd;rw[phMap_at s (s.idx hi)];dsimp only;rw[if_pos hp,ck9];dsimp only;rw[afS (findS_none hk)];dsimp only;unfold pset;have em:mS kv++[⟨.string k,.int .i64 (v:Nat),c⟩]=mS (kv++[((k,v),c)]):=by simp[mS]
  rw[em,hs]
 rw[e];exact hK h' (s.put hi s')
theorem Ret.lmupI(s:Sl h0 h S m rows)(i:Nat){b c v:Nat}{kv:List ((Int×Nat)×Nat)}{k:Int}(hi:rows[i]?=some (b,.map (mI kv) c))(hk: ∀p∈kv,p.1.1≠k)
  (hK: ∀h',Sl h0 h' S m (rows.set i (b,.map (mI (kv++[((k,v),c)])) (c+1)))->Ret (K2 undef h') Q):Ret (Go.Am.hb (xMUpd Tryz.prog 3 (.map (some b)) (.int .i64 k) (.int .i64 (v:Nat)) h) K2) Q:=by
 obtain⟨h',hs,s',_⟩:=s.sm.set (s.idx hi) (.map (mI (kv++[((k,v),c)])) (c+1));have hp:(plainV (Value.int .i64 k)&&keysPlain (mI kv))=true:=by rw[mI_plain];rfl
 have e:xMUpd Tryz.prog 3 (.map (some b)) (.int .i64 k) (.int .i64 (v:Nat)) h=some (undef,h'):=by
  unfold xMUpd;rw[phMap_at s (s.idx hi)];dsimp only;rw[if_pos hp,ck3];dsimp only;rw[afI (fNow_none hk)];dsimp only;unfold pset;have em:mI kv++[⟨.int .i64 k,.int .i64 (v:Nat),c⟩]=mI (kv++[((k,v),c)]):=by simp[mI]
  rw[em,hs]
 rw[e];exact hK h' (s.put hi s')
theorem xMLenS(s:Sl h0 h S m rows){b c:Nat}{es:List MapEntry}(hb:over rows m b=some (.map es c)):xMLen (.map (some b)) h=some (.int .i64 (es.length:Nat)):=by
 show(match phMap (.map (some b)) h with|some (_,es,_)=>seqN es.length fun n=>some (Value.int .i64 (.ofNat n))|none=>none)=_
 rw[phMap_at s hb];dsimp only;rw[seqN_eq];rfl
theorem Ret.lmmk(s:Sl h0 h S m rows)(hK: ∀h' b,Sl h0 h' S m ((b,.map [] 0)::rows)->Ret (K2 (.map (some b)) h') Q):Ret (Go.Am.hb (xMMk h) K2) Q:=by
 obtain⟨h',hp,s',f,hn,_⟩:=s.sm.push (.map [] 0);have e:xMMk h=some (.map (some h.n),h'):=by unfold xMMk;rw[hp]
 rw[e];exact hK h' h.n (s.cons s' f)
theorem Ret.lfillMM(s:Sl h0 h S m rows)(i:Nat){b:Nat}(hi:rows[i]?=some (b,.hole))(hK: ∀h',Sl h0 h' S m (rows.set i (b,.map [] 0))->Ret (K2 (.map (some b)) h') Q):Ret (Go.Am.hb (xfill b h (xMMk hE)) K2) Q:=by
 obtain⟨h1',hp,hg⟩:=hE_push (.map [] 0);have e:xMMk hE=some (.map (some hE.n),h1'):=by unfold xMMk;rw[hp]
 refine Ret.lfill s i hi e hg (v:=.map (some b)) ?_ hK;unfold atB;rw[seqN_eq]
end
def Bx(V:Vw)(v:Value)(ws:List Nat):Prop:= ∃b c,v= .slice (some ⟨b,0,none⟩) ws.length c/\V b=some (bw ws)
theorem Bx.slv{V:Vw}{v:Value}{ws:List Nat}(h:Bx V v ws):SlV V v (bw ws):=by
 obtain⟨b,c,rfl,hb⟩:=h;exact .inr ⟨b,0,c,bw ws,by rw[bw_len],hb,by omega,fun i x hx=>by rw[Nat.zero_add];exact hx⟩
theorem Bx.mono{V W:Vw}{v:Value}{ws:List Nat}(hs:Vw.le V W)(h:Bx V v ws):Bx W v ws:=by
 obtain⟨b,c,e,hb⟩:=h;exact⟨b,c,e,hs _ _ hb⟩
structure Bk(n:Nat)(ws:List Nat):Prop where
 len:ws.length=n / 64+1
 wd:Wd ws
theorem Bk.in{n:Nat}{ws:List Nat}(h:Bk n ws){i:Nat}(hi:i<n):i / 64<ws.length:=by rw[h.len];omega
theorem Bk.rep(n:Nat):Bk n (List.replicate (n / 64+1) 0):=⟨by simp,Wd.rep _⟩
theorem Bk.add{n:Nat}{ws:List Nat}(h:Bk n ws){i:Nat}(hi:i<n):Bk n (ws.set (i / 64) (ws.getD (i / 64) 0|||2 ^ (i % 64))):=
 ⟨by rw[List.length_set];exact h.len,h.wd.set (or_lt (h.wd.getD _) (pow_lt (Nat.mod_lt _ (by decide))))⟩
theorem Bk.or{n:Nat}{a b:List Nat}(h:Bk n a)(h':Bk n b):Bk n (List.zipWith (· ||| ·) a b):=⟨by rw[List.length_zipWith,h.len,h'.len,Nat.min_self],h.wd.or h'.wd⟩
theorem Bk.and{n:Nat}{a b:List Nat}(h:Bk n a)(h':Bk n b):Bk n (List.zipWith (· &&& ·) a b):=⟨by rw[List.length_zipWith,h.len,h'.len,Nat.min_self],h.wd.and⟩
theorem Bk.same{n:Nat}{a b:List Nat}(h:Bk n a)(h':Bk n b):a.length=b.length:=by rw[h.len,h'.len]
theorem Bk.pos{n:Nat}{a:List Nat}(h:Bk n a):0<a.length:=by rw[h.len];omega
structure Bl(V:Vw)(v:Value)(l:List (List Nat)):Prop where
 h: ∃vs,SlV V v vs/\vs.length=l.length/\ ∀(i:Nat) ws,l[i]?=some ws-> ∃x,vs[i]?=some x/\Bx V x ws
theorem Bl.mono{V W:Vw}{v:Value}{l:List (List Nat)}(hs:Vw.le V W)(h:Bl V v l):Bl W v l:=by
 obtain⟨vs,h1,h2,h3⟩:=h.h;exact⟨vs,h1.mono hs,h2,fun i ws hw=>let⟨x,a,b⟩:=h3 i ws hw;⟨x,a,b.mono hs⟩⟩
theorem Bl.len{V:Vw}{v:Value}{l:List (List Nat)}(h:Bl V v l):xLenS v=some (.int .i64 (l.length:Nat)):=by
 obtain⟨vs,h1,h2,h3⟩:=h.h;rw[h1.len,h2]
theorem Bl.at{V:Vw}{v:Value}{l:List (List Nat)}(h:Bl V v l){i:Nat}{ws:List Nat}(hi:l[i]?=some ws): ∃b o cs x,xIdxS 1 v (.int .i64 (i:Nat))=some (.pointer (some ⟨b,o,none⟩))/\V b=some cs/\cs[o]?=some x/\Bx V x ws:=by
 obtain⟨vs,h1,h2,h3⟩:=h.h;obtain⟨x,q1,q2⟩:=h3 i ws hi;obtain⟨b,o,cs,e1,e2,e3⟩:=h1.at (k:=.i64) q1;exact⟨b,o,cs,x,e1,e2,e3,q2⟩
section
variable {Q:Value->PH->Prop}{n:Nat}{cl cl':CL}{h h0:PH}{S:Vw}{m:OM}{rows:Rws}{K2:Value->PH->R}
theorem Sl.float'{b:Nat}{o:AObj}(s:Sl h0 h S (m.upd b o) rows)(hm:m b=none):Sl h0 h S m ((b,o)::rows):=by
 have hne:=s.ne (b:=b) (o:=o) OM.upd_self;refine⟨?_,.cons (fun p hp e=>hne p hp e.symm) s.nd,fun p hp=>?_⟩
 ·have e:over ((b,o)::rows) m=over rows (m.upd b o):=over_upd hne;rw[e];exact s.sm
 ·rcases List.mem_cons.1 hp with rfl|hp
  ·exact hm
  ·have h1:=s.out p hp;have h2:=hne p hp
   rwa [OM.upd_ne h2]at h1
theorem f138[OkH h](hn:4611686018427387904<=n)(hS:Vw.le S h.cells){bp N:Nat}{ps:List Value}(hp:S bp=some ps)(h0:ps[0]?=some (.int .i64 (N:Nat)))(hN:N<1000000){lv:Value}{l:List Nat}(hl:SlV S lv (ns l))(hll:l.length<1000000){from' k:Nat}(hfk:from'+k<=N):
  Fr h S (F138 n cl (pt bp) lv (.int .i64 (from':Nat)) (.int .i64 (k:Nat)) h) fun v ex=> ∃b us,v= .slice (some ⟨b,0,none⟩) us.length us.length/\ex=[(b,.row .own 1 (bw us))]/\Bk N us/\ ∀j,hs us j=true↔ ∃i∈l,i<k/\j=from'+i:=by
 unfold Fr F138;have st:=Sl.start h hS;refine Ret.lfcall st (f89 (n:=n) (cl:=cl) (h:=h.fzn) (S:=S) (fun b cs e=>st.leS b cs e) hp h0 hN) fun v h1 ex ⟨b,hv,he⟩ st1=>?_;subst hv;subst he;have hlen:=hl.len;rw[ns_len]at hlen;simp only[hlen,vb_some,vN_eq];have key: ∀(d q i:Nat)(us:List Nat)(h1:PH),l.length-i<=d->d<q->i<=l.length->Bk N us->(∀j,hs us j=true↔ ∃x∈l.take i,x<k/\j=from'+x)->Sl h h1 S OM.emp [(b,.row .own 1 (bw us))]->
   Ret (lp q (F138_5 n cl) [.int .i64 (from':Nat),.int .i64 (k:Nat),.slice (some ⟨b,0,none⟩) us.length us.length,lv,.int .i64 (l.length:Nat),.int .i64 (i:Nat)] h1) fun v h'=> ∃rows,Sl h h' S OM.emp rows/\ ∃b us,v= .slice (some ⟨b,0,none⟩) us.length us.length/\rows=[(b,.row .own 1 (bw us))]/\Bk N us/\ ∀j,hs us j=true↔ ∃i∈l,i<k/\j=from'+i:=by
  intro d
  induction d with
  |zero=>
   intro q i us h1 a1 a2 a3 hk hj st;obtain⟨q,rfl⟩: ∃r,q=r+1:=⟨q-1,by omega⟩;rw[lp_succ];have d:decide (((i:Nat):Int)<((l.length:Nat):Int))=false:=by simp;omega
   rw[List.take_of_length_le (by omega)]at hj;simp only[F138_5,F138_4,ucons_cons,xLt_i,d,vb_some,bite_f];exact Ret.of ⟨_,st,b,us,rfl,rfl,hk,hj⟩
  |succ d ih=>
   intro q i us h1 a1 a2 a3 hk hj st
   by_cases hi:i<l.length
   ·obtain⟨q,rfl⟩: ∃r,q=r+1:=⟨q-1,by omega⟩;rw[lp_succ];generalize hL:lp q (F138_5 n cl)=LL;have d:decide (((i:Nat):Int)<((l.length:Nat):Int))=true:=by simp;omega
    have hx:=List.getElem?_eq_getElem hi;have htk:l.take (i+1)=l.take i++[l[i]]:=by rw[List.take_add_one,hx];rfl
    generalize l[i]=x at hx htk;obtain⟨b1,o1,cs1,e1,e2,e3⟩:=hl.at (k:=.i64) (i:=i) (x:=.int .i64 (x:Nat)) (by simp[ns,hx]);have l1:=st.ldS e2 e3;have d0:decide (((0:Nat):Int)<=((x:Nat):Int))=true:=by simp
    have hw:=wrapN (x:=i) (by omega);simp only[F138_5,F138_4,F138_3,ucons_cons,xLt_i,d,vb_some,bite_t,jn_eq,e1,l1,vN_eq,xGe_i,d0,isB_t,gd_true,xPick_t]
    by_cases hxk:x<k
    ·have d1:decide (((x:Nat):Int)<((k:Nat):Int))=true:=by simp;omega
     have ha:IntKind.i64.wrap (((from':Nat):Int)+((x:Nat):Int))=((from'+x:Nat):Int):=by rw[wrap_in (by omega) (by omega)];omega
     simp only[d1,bite_t,F138_1,xAdd_i,ha,vb_some];obtain⟨st2,hmn⟩:=st.sink (i:=0) rfl;have st2:Sl h h1 S (OM.emp.upd b (.row .own 1 (bw us))) []:=st2;refine Ret.hb (c140 (n:=n) (cl:=cl) (c:=us.length) st2 OM.upd_self rfl hk.wd (hk.in (by omega)) (by omega)) fun v h2 ⟨hv,st3⟩=>?_;subst hv;rw[OM.upd_upd]at st3;have st4:=st3.float' rfl;simp only[F138_2,ucons_cons,F138_0,vN_eq,xAdd_i,hw,vb_some];rw[<-hL];have hk':=hk.add (i:=from'+x) (by omega);have:=ih q (i+1) _ h2 (by omega) (by omega) (by omega) hk' (fun j=>?_) st4
     ·rw[List.length_set]at this;exact this
     ·rw[hs_add (hk.in (by omega)),Bool.or_eq_true,hj,htk,decide_eq_true_eq];constructor
      ·rintro(⟨y,h1,h2,h3⟩|h)
       ·exact⟨y,List.mem_append_left _ h1,h2,h3⟩
       ·exact⟨x,List.mem_append_right _ (.head _),hxk,h⟩
      ·rintro⟨y,h1,h2,h3⟩;rcases List.mem_append.1 h1 with h1|h1
       ·exact .inl ⟨y,h1,h2,h3⟩
       ·have:y=x:=by simpa using h1
        subst this;exact .inr h3
    ·have d1:decide (((x:Nat):Int)<((k:Nat):Int))=false:=by simp;omega
     simp only[d1,bite_f,F138_2,ucons_cons,F138_0,vN_eq,xAdd_i,hw,vb_some];rw[<-hL];refine ih q (i+1) us h1 (by omega) (by omega) (by omega) hk (fun j=>?_) st;rw[hj,htk];constructor
     ·rintro⟨y,h1,h2,h3⟩;exact⟨y,List.mem_append_left _ h1,h2,h3⟩
     ·rintro⟨y,h1,h2,h3⟩;rcases List.mem_append.1 h1 with h1|h1
      ·exact⟨y,h1,h2,h3⟩
      ·have:y=x:=by simpa using h1
       subst this;exact absurd h2 hxk
   ·exact ih q i us h1 (by omega) (by omega) a3 hk hj st
 have hrl:(List.replicate (N / 64+1) 0).length=N / 64+1:=by simp
 have:=key l.length n 0 (List.replicate (N / 64+1) 0) h1 (by omega) (by omega) (Nat.zero_le _) (Bk.rep N) (fun j=>by rw[hs_rep];simp) st1;rw[hrl]at this;exact this
theorem c115(hn:4611686018427387904<=n)(st:Sl h0 h S OM.emp rows){bp N:Nat}{ps:List Value}(hp:S bp=some ps)(h0':ps[0]?=some (.int .i64 (N:Nat)))(hN:N<1000000){fv:Value}{fo:List (List Nat)}(h2:ps[2]?=some fv)(hfo:Bl S fv fo)(hfl:fo.length=N)(hfk: ∀ws∈fo,Bk N ws){bv:Value}{bs:List Nat}(hb:Bx S bv bs)(hbk:Bk N bs):
  Ret (F115 n cl (pt bp) bv h) fun v h'=> ∃b us,v= .slice (some ⟨b,0,none⟩) us.length us.length/\Sl h0 h' S OM.emp ((b,.row .own 1 (bw us))::rows)/\Bk N us/\ ∀j,hs us j=true↔ ∃i,i<N/\hs bs i=true/\hs (fo.getD i []) j=true:=by
 unfold F115;have:=st.ok;refine Ret.lfcall st (f89 (n:=n) (cl:=cl) (h:=h.fzn) (S:=S) (fun b cs e=>st.leS b cs e) hp h0' hN) fun v h1 ex ⟨b,hv,he⟩ st1=>?_;subst hv;subst he;have l0:xLd (.pointer (some ⟨bp,0,none⟩)) h1=some (.int .i64 (N:Nat)):=st1.ldS hp h0';simp only[xNil_p,vb_some,xFld_p,Nat.zero_add,l0,vN_eq];have key: ∀(d q i:Nat)(us:List Nat)(h1:PH),N-i<=d->d<q->i<=N->Bk N us->(∀j,hs us j=true↔ ∃x,x<i/\hs bs x=true/\hs (fo.getD x []) j=true)->Sl h0 h1 S OM.emp ((b,.row .own 1 (bw us))::rows)->
   Ret (lp q (F115_5 n cl) [pt bp,bv,.slice (some ⟨b,0,none⟩) us.length us.length,.int .i64 (N:Nat),.int .i64 (i:Nat)] h1) fun v h'=> ∃b us,v= .slice (some ⟨b,0,none⟩) us.length us.length/\Sl h0 h' S OM.emp ((b,.row .own 1 (bw us))::rows)/\Bk N us/\ ∀j,hs us j=true↔ ∃i,i<N/\hs bs i=true/\hs (fo.getD i []) j=true:=by
  intro d
  induction d with
  |zero=>
   intro q i us h1 a1 a2 a3 hk hj st;obtain⟨q,rfl⟩: ∃r,q=r+1:=⟨q-1,by omega⟩;rw[lp_succ];have hi:i=N:=by omega
   subst hi;have d:decide (((i:Nat):Int)<((i:Nat):Int))=false:=by simp
   simp only[F115_5,F115_4,ucons_cons,xLt_i,d,vb_some,bite_f];exact Ret.of ⟨b,us,rfl,st,hk,hj⟩
  |succ d ih=>
   intro q i us h1 a1 a2 a3 hk hj st
   by_cases hi:i<N
   ·obtain⟨q,rfl⟩: ∃r,q=r+1:=⟨q-1,by omega⟩;rw[lp_succ];generalize hL:lp q (F115_5 n cl)=LL;have d:decide (((i:Nat):Int)<((N:Nat):Int))=true:=by simp;omega
    have hw:=wrapN (x:=i) (by omega);have hx:=List.getElem?_eq_getElem (l:=fo) (i:=i) (by omega);have hD:fo.getD i []=fo[i]'(by omega):=by rw[List.getD_eq_getElem?_getD,hx];rfl
    have hck:=hfk _ (List.getElem_mem (l:=fo) (n:=i) (by omega));obtain⟨b1,o1,cs1,x,e1,e2,e3,e4⟩:=hfo.at hx;have l1:=st.ldS e2 e3;have l2:xLd (.pointer (some ⟨bp,2,none⟩)) h1=some fv:=st.ldS hp h2;have:=st.ok;have hpc:=c141 (n:=n) (cl:=cl) (h:=h1.fzn) (S:=S) (fun b cs e=>st.leS b cs e) hb.slv hbk.wd (hbk.in hi) (by omega);simp only[F115_5,F115_4,F115_3,ucons_cons,xLt_i,d,vb_some,bite_t,jn_eq,hpc];cases hq:hs bs i with
    |true=>
     simp only[bite_t,F115_1,xNil_p,vb_some,xFld_p,Nat.zero_add,l2,e1,l1];obtain⟨st2,hmn⟩:=st.sink (i:=0) rfl;have st2:Sl h0 h1 S (OM.emp.upd b (.row .own 1 (bw us))) rows:=st2;refine Ret.hb (c137 (n:=n) (cl:=cl) (c:=us.length) hn st2 (md:=.own) rfl OM.upd_self e4.slv (hk.same hck) hk.wd hck.wd (by rw[hk.len];omega)) fun v h2 ⟨hv,st3⟩=>?_;subst hv;rw[OM.upd_upd]at st3;have st4:=st3.float' rfl;simp only[F115_2,ucons_cons,F115_0,vN_eq,xAdd_i,hw,vb_some];rw[<-hL];have hk':=hk.or hck;have:=ih q (i+1) _ h2 (by omega) (by omega) (by omega) hk' (fun j=>?_) st4
     ·rw[hk'.len, <-hk.len]at this;exact this
     ·rw[hs_or (hk.same hck),Bool.or_eq_true,hj];constructor
      ·rintro(⟨y,h1,h2,h3⟩|h)
       ·exact⟨y,by omega,h2,h3⟩
       ·exact⟨i,by omega,hq,by rw[hD];exact h⟩
      ·rintro⟨y,h1,h2,h3⟩
       by_cases e:y=i
       ·subst e;rw[hD]at h3;exact .inr h3
       ·exact .inl ⟨y,by omega,h2,h3⟩
    |false=>
     simp only[bite_f,F115_2,ucons_cons,F115_0,vN_eq,xAdd_i,hw,vb_some];rw[<-hL];refine ih q (i+1) us h1 (by omega) (by omega) (by omega) hk (fun j=>?_) st;rw[hj];constructor
     ·rintro⟨y,h1,h2,h3⟩;exact⟨y,by omega,h2,h3⟩
     ·rintro⟨y,h1,h2,h3⟩
      by_cases e:y=i
      ·subst e;rw[hq]at h2;cases h2
      ·exact⟨y,by omega,h2,h3⟩
   ·exact ih q i us h1 (by omega) (by omega) a3 hk hj st
 have hrl:(List.replicate (N / 64+1) 0).length=N / 64+1:=by simp
 have:=key N n 0 (List.replicate (N / 64+1) 0) h1 (by omega) (by omega) (Nat.zero_le _) (Bk.rep N) (fun j=>by rw[hs_rep];simp) st1;rw[hrl]at this;exact this
end
def Meets(a b:List Nat):Prop:= ∃i,hs a i=true/\hs b i=true
def FstI(n:Nat)(P:Nat->Prop)(z:Int):Prop:=(z= -1/\ ∀k,k<n-> ¬ P k)\/ ∃k:Nat,z=k/\k<n/\P k/\ ∀j,j<k-> ¬ P j
theorem meets_iff{N:Nat}{a b:List Nat}(ha:Bk N a)(hb:Bk N b):Meets a b↔ ¬ ∀w∈List.zipWith (· &&& ·) a b,w=0:=by
 rw[hs_none (ha.and hb).wd];constructor
 ·rintro⟨i,h1,h2⟩ h;have:=h i;rw[hs_and (ha.same hb),h1,h2]at this;cases this
 ·intro h;obtain⟨i,hi⟩:=Classical.not_forall.1 h;rw[hs_and (ha.same hb)]at hi;have hi:(hs a i&&hs b i)=true:=by
   cases hq:(hs a i&&hs b i)with
   |true=>rfl
   |false=>exact absurd hq hi
  rw[Bool.and_eq_true]at hi;exact⟨i,hi⟩
section
variable {Q:Value->PH->Prop}{n:Nat}{cl cl' cl'':CL}{h h0:PH}{S:Vw}{m:OM}{rows:Rws}{K2:Value->PH->R}
theorem c160(hn:4611686018427387904<=n)(h107: ∀v h,cl 158 [v] h=F158 n cl' v h)(st:Sl h0 h S OM.emp rows){x N:Nat}{bv lv:Value}{bs ls:List Nat}(hx:S x=some [bv])(hb:Bx S bv bs)(hl:Bx S lv ls)(kb:Bk N bs)(kl:Bk N ls)(hN:N<1000000):
  Ret (F160 n cl lv (pt x) h) fun v h'=> ∃bb:Bool,v= .bool bb/\(bb=true↔Meets ls bs)/\Sl h0 h' S OM.emp rows:=by
 unfold F160;have l1:xLd (.pointer (some ⟨x,0,none⟩)) h=some bv:=st.ldS hx rfl;have:=st.ok;obtain⟨b,c,rfl,hbl⟩:=hl;simp only[l1,vb_some];refine Ret.lfcall st (f117 (n:=n) (cl:=cl) (h:=h.fzn) (S:=S) (c:=c) hn (fun b cs e=>st.leS b cs e) hbl hb.slv (kl.same kb) kl.wd kb.wd kl.pos (by rw[kl.len];omega)) fun v h1 ex ⟨b',hv,he⟩ st1=>?_;subst hv;subst he;have st1:Sl h0 h1 S OM.emp ((b',.row .opn 1 (bw (List.zipWith (· &&& ·) ls bs)))::rows):=st1;have:=st1.ok;have hkz:=kl.and kb;have hbz:vall S (over ((b',.row .opn 1 (bw (List.zipWith (· &&& ·) ls bs)))::rows) OM.emp) b'=some (bw (List.zipWith (· &&& ·) ls bs)):=vall_m (st1.mem (.head _));have hlz:(List.zipWith (· &&& ·) ls bs).length=ls.length:=by rw[hkz.len,kl.len]
 obtain⟨bb,p1,p2⟩:=c142 (n:=n) (cl:=cl) (cl':=cl') (h:=h1.fzn) (S:=vall S (over ((b',.row .opn 1 (bw (List.zipWith (· &&& ·) ls bs)))::rows) OM.emp)) hn h107 st1.fz (v:=.slice (some ⟨b',0,none⟩) ls.length openCap) (ws:=List.zipWith (· &&& ·) ls bs)
  (Bx.slv ⟨b',openCap,by rw[hlz],hbz⟩) (by rw[hkz.len];omega)
 simp only[p1,vb_some,xNot_b];refine Ret.of ⟨!bb,rfl,?_,st1.drop (List.sublist_cons_self _ _)⟩;rw[meets_iff kl kb, <-p2];cases bb<;>simp
theorem c159[OkH h](hn:4611686018427387904<=n)(h109: ∀u v h,cl 160 [u,v] h=F160 n cl' u v h)(h107: ∀v h,cl' 158 [v] h=F158 n cl'' v h)(hS:Vw.le S h.cells){x N:Nat}{bv lv:Value}{bs:List Nat}{ll:List (List Nat)}(hx:S x=some [bv])(hb:Bx S bv bs)(hl:Bl S lv ll)(kb:Bk N bs)(kl: ∀ws∈ll,Bk N ws)(hN:N<1000000)(hll:ll.length<1000000):
  ∃z:Int,pcall (F159 n cl lv (.func (.func 160) ⟨[]⟩ ⟨[pt x]⟩) h)=some (.int .i64 z)/\FstI ll.length (fun k=>Meets (ll.getD k []) bs) z:=by
 have hlen:=hl.len;have key: ∀(d q i:Nat)(h1:PH),ll.length-i<=d->d<q->i<=ll.length->(∀k,k<i-> ¬ Meets (ll.getD k []) bs)->Sl h h1 S OM.emp []->
   Ret (lp q (F159_3 n cl) [lv,.func (.func 160) ⟨[]⟩ ⟨[pt x]⟩,.int .i64 (ll.length:Nat),.int .i64 (i:Nat)] h1) fun u _=> ∃z:Int,u= .int .i64 z/\FstI ll.length (fun k=>Meets (ll.getD k []) bs) z:=by
  intro d
  induction d with
  |zero=>
   intro q i h1 a1 a2 a3 hno st;obtain⟨q,rfl⟩: ∃r,q=r+1:=⟨q-1,by omega⟩;rw[lp_succ];have d:decide (((i:Nat):Int)<((ll.length:Nat):Int))=false:=by simp;omega
   simp only[F159_3,F159_2,ucons_cons,xLt_i,d,vb_some,bite_f];exact Ret.of ⟨-1,rfl,.inl ⟨rfl,fun k hk=>hno k (by omega)⟩⟩
  |succ d ih=>
   intro q i h1 a1 a2 a3 hno st
   by_cases hi:i<ll.length
   ·obtain⟨q,rfl⟩: ∃r,q=r+1:=⟨q-1,by omega⟩;rw[lp_succ];generalize hL:lp q (F159_3 n cl)=LL;have d:decide (((i:Nat):Int)<((ll.length:Nat):Int))=true:=by simp;omega
    have hy:=List.getElem?_eq_getElem hi;have hD:ll.getD i []=ll[i]:=by rw[List.getD_eq_getElem?_getD,hy];rfl
    have hm:=kl _ (List.getElem_mem hi);obtain⟨b1,o1,cs1,xv,e1,e2,e3,e4⟩:=hl.at hy;have l1:=st.ldS e2 e3;simp only[F159_3,F159_2,F159_1,ucons_cons,xLt_i,d,vb_some,bite_t,e1,l1];have hcall:xCall cl (.func (.func 160) ⟨[]⟩ ⟨[pt x]⟩) [xv] h1=F160 n cl' xv (pt x) h1:=h109 xv (pt x) h1;rw[hcall];refine Ret.hb (c160 (n:=n) (cl:=cl') (cl':=cl'') hn h107 st hx hb e4 kb hm hN) fun v h2 ⟨bb,hv,hbb,st2⟩=>?_;subst hv;cases bb with
    |true=>
     simp only[bite_t];exact Ret.of ⟨i,rfl,.inr ⟨i,rfl,hi,by show Meets (ll.getD i []) bs;rw[hD];exact hbb.1 rfl,hno⟩⟩
    |false=>
     simp only[bite_f,F159_0,vN_eq,xAdd_i,wrapN (show i<4611686018427387904 by omega),vb_some];rw[<-hL];refine ih q (i+1) h2 (by omega) (by omega) (by omega) (fun k hk=>?_) st2
     by_cases e:k=i
     ·subst e;rw[hD];exact fun h=>by cases hbb.2 h
     ·exact hno k (by omega)
   ·exact ih q i h1 (by omega) (by omega) a3 hno st
 obtain⟨u,h1,e,z,rfl,hz⟩:=key ll.length n 0 h (by omega) (by omega) (Nat.zero_le _) (by omega) (Sl.start h hS);refine⟨z,?_,hz⟩;unfold F159;simp only[hlen,vb_some,vN_eq];rw[e];exact pcall_some rfl
theorem c144[OkH h](hn:4611686018427387904<=n)(h109: ∀u v h,cl 160 [u,v] h=F160 n cl' u v h)(h107: ∀v h,cl' 158 [v] h=F158 n cl'' v h)(hS:Vw.le S h.cells){bp N:Nat}{ps:List Value}{bv lv:Value}{bs:List Nat}{ll:List (List Nat)}(hp:S bp=some ps)(h3:ps[3]?=some lv)(hb:Bx S bv bs)(hl:Bl S lv ll)(kb:Bk N bs)(kl: ∀ws∈ll,Bk N ws)(hN:N<1000000)(hll:ll.length<1000000):
  ∃z:Int,pcall (F144 n cl (pt bp) bv h)=some (.int .i64 z)/\FstI ll.length (fun k=>Meets (ll.getD k []) bs) z:=by
 have key:Ret (F144 n cl (pt bp) bv h) fun v _=> ∃z:Int,v= .int .i64 z/\FstI ll.length (fun k=>Meets (ll.getD k []) bs) z:=by
  unfold F144;refine Ret.lbox (Sl.start h hS) fun h1 x st1=>?_;have hc:cellsL bv=[bv]:=by obtain⟨b,c,rfl,_⟩:=hb;rfl
  rw[hc]at st1;have l3:xLd (.pointer (some ⟨bp,3,none⟩)) h1=some lv:=st1.ldS hp h3;have:=st1.ok;have le:Vw.le S (vall S (over [(x,.row .own 1 [bv])] OM.emp)):=st1.sm.S_all;obtain⟨z,p1,p2⟩:=c159 (n:=n) (cl:=cl) (cl':=cl') (cl'':=cl'') (h:=h1.fzn) (S:=vall S (over [(x,.row .own 1 [bv])] OM.emp)) hn h109 h107 st1.fz (x:=x) (vall_m (st1.mem (.head _))) (hb.mono le) (hl.mono le) kb kl hN hll;simp only[xNil_p,vb_some,xFld_p,Nat.zero_add,l3,p1];exact Ret.of ⟨z,rfl,p2⟩
 obtain⟨v,h1,e,z,rfl,hz⟩:=key;exact⟨z,by rw[e];exact pcall_some rfl,hz⟩
end
def Gq(v:Value)(k:Nat)(cells:List Value)(ex:Rws):Prop:=Gl 1 v k cells ex\/ ∃b,v= .slice (some ⟨b,0,none⟩) k k/\ex=[(b,.row .own 1 cells)]/\cells.length=k/\k<1000000000
theorem Gq.len{v:Value}{k:Nat}{cells:List Value}{ex:Rws}(g:Gq v k cells ex):xLenS v=some (.int .i64 (k:Nat)):=by
 rcases g with g|⟨b,rfl,_⟩
 ·exact g.len
 ·simp
theorem Gq.one{v:Value}{k:Nat}{cells:List Value}{ex:Rws}(g:Gq v k cells ex):v.oneCell'=true:=by
 rcases g with g|⟨b,rfl,_⟩
 ·exact g.one
 ·rfl
theorem Gq.veq{v:Value}{k:Nat}{cells:List Value}{ex:Rws}(g:Gq v k cells ex):Go.Am.veq v v=true:=by
 rcases g with g|⟨b,rfl,_⟩
 ·exact g.veq
 ·exact veq_sl
theorem Gq.length{v:Value}{k:Nat}{cells:List Value}{ex:Rws}(g:Gq v k cells ex):cells.length=k:=by
 rcases g with g|⟨b,rfl,_,h,_⟩
 ·have:=g.length;omega
 ·exact h
section
variable {Q:Value->PH->Prop}{n:Nat}{cl cl':CL}{h h0:PH}{S:Vw}{m:OM}{rows:Rws}{K2:Value->PH->R}
theorem Gq.at{ex:Rws}{v x:Value}{k i:Nat}{cells:List Value}(g:Gq v k cells ex)(s:Sl h0 h S m rows)(hex: ∀p∈ex,p∈rows)(hi:cells[i]?=some x): ∃b o,xIdxS 1 v (.int .i64 (i:Nat))=some (.pointer (some ⟨b,o,none⟩))/\xLd (.pointer (some ⟨b,o,none⟩)) h=some x:=by
 have hlen:=g.length;have hlt:=(List.getElem?_eq_some_iff.1 hi).1;rcases g with g|⟨b,rfl,rfl,h1,h2⟩
 ·rcases g.h with⟨rfl,rfl,rfl,rfl⟩|⟨b,o,cap,all,rfl,rfl,h1,h2,_⟩
  ·simp at hi
  ·refine⟨b,o+i,?_,?_⟩
   ·rw[xIdxS_at (by omega) (by omega)];simp
   ·rw[h1,Nat.mul_one,List.getElem?_take]at hi
    split at hi
    ·rw[List.getElem?_drop]at hi;exact s.ld (hex _ (.head _)) hi
    ·cases hi
 ·refine⟨b,i,?_,?_⟩
  ·rw[xIdxS_at (by omega) (by omega)];simp
  ·exact s.ld (hex _ (.head _)) hi
theorem Ret.gqapp{ex:Rws}(s:Sl h0 h S m (ex++rows)){P:Program}{T:TypeId}{ats:Array TypeId}{parts:List (Nat×Value)}{bt k:Nat}{v x:Value}{cells:List Value}(g:Gq v k cells ex)
  (hb:bsRow P T 1 parts=some (1,[x])) (ha:appInfo P ats=some (1,bt)) (hone:x.oneCell'=true) (hsz:(2*(k+1)+512)*bt<=281474976710656)
  (hk: ∀h' v' ex',Sl h0 h' S m (ex'++rows)->Gq v' (k+1) (cells++[x]) ex'->Ret (K2 v' h') Q):Ret (Go.Am.hb (xBS 1 (bsRow P T 1 parts) h) fun v1 h=>Go.Am.hb (xApp (appInfo P ats) v v1 h) K2) Q:=by
 have hone':oneCells [x]=true:=by unfold oneCells;simp[hone]
 rcases g with g|⟨b,rfl,rfl,h1,h2⟩
 ·exact Ret.gapp s g hb ha rfl hone' hsz fun h' v' ex' s' g'=>hk h' v' ex' s' (.inl g')
 ·refine Ret.lbs s hb fun h1' b1 st=>?_;have hx:=st.ptail (n:=1) (sz:=1) (c:=1) (b:=b1) (.head _) rfl;rw[ha];refine Ret.lappF st (st.mem (.tail _ (.head _))) (by omega) (by omega) hx (by omega) hone' hsz fun h' b' st'=>?_;rw[List.drop_zero,Nat.mul_one,List.take_of_length_le (by omega)]at st';have hd:((b',AObj.row .opn 1 (cells++[x]))::rows).Sublist ((b',AObj.row .opn 1 (cells++[x]))::(b1,.row .own 1 [x])::([(b,.row .own 1 cells)]++rows)):=
   .cons_cons _ (.cons _ (.cons _ (List.Sublist.refl _)))
  refine hk h' _ [(b',.row .opn 1 (cells++[x]))] (st'.drop hd) (.inl ⟨.inr ⟨b',0,openCap,cells++[x],rfl,rfl,?_,?_,?_,Nat.le_refl _,by decide⟩⟩)
  ·rw[List.drop_zero,List.take_of_length_le];rw[List.length_append];simp;omega
  ·rw[List.length_append];simp;omega
  ·rw[Nat.sub_self,Nat.zero_mul]
theorem Gq.settle{ex:Rws}{k:Nat}{v:Value}{cells:List Value}(s:Sl h0 h S m (ex++rows))(g:Gq v k cells ex): ∃S',Vw.le S S'/\Sl h0 h S' m rows/\SlC S' 1 v k cells:=by
 rcases g with g|⟨b,rfl,rfl,h1,h2⟩
 ·exact Gl.settle s g
 ·obtain⟨s1,hS⟩:=s.settle (i:=0) rfl;refine⟨_,Vw.le_put hS,s1,.inr ⟨b,0,k,cells,rfl,Vw.put_self,by omega,?_⟩⟩;rw[List.drop_zero,Nat.mul_one,List.take_of_length_le (by omega)]
theorem Bx.settle{b c:Nat}{md:Mode}{e:Nat}{ws:List Nat}(s:Sl h0 h S m ((b,.row md e (bw ws))::rows)): ∃S',Vw.le S S'/\Sl h0 h S' m rows/\Bx S' (.slice (some ⟨b,0,none⟩) ws.length c) ws:=by
 obtain⟨s1,hS⟩:=s.settle (i:=0) rfl;exact⟨_,Vw.le_put hS,s1,b,c,rfl,Vw.put_self⟩
end
theorem pmA{α:Type}(x y:α)(a r:List α):(x::y::(a++r)).Perm (a++(x::y::r)):=(List.perm_middle.trans (.cons _ List.perm_middle)).symm
theorem pmB{α:Type}(x y:α)(a b r:List α):(x::y::(a++(b++r))).Perm (b++(x::y::(a++r))):=
 ((List.Perm.cons _ (.cons _ (List.perm_append_comm_assoc a b r))).trans (pmA x y b (a++r)))
theorem pmC{α:Type}(x y:α)(a b c r:List α):(x::y::(a++(b++(c++r)))).Perm (c++(x::y::(a++(b++r)))):=
 (List.Perm.cons _ (.cons _ (List.Perm.append_left a (List.perm_append_comm_assoc b c r)))).trans (pmB x y a c (b++r))
structure Pp where
 N:Nat
 first:List Nat
 follow:List (List Nat)
 last:List (List Nat)
 null:List Bool
 takes:List (List Nat)
structure Pp.Ok(p:Pp):Prop where
 n:p.N<100000
 first:Bk p.N p.first
 fol: ∀ws∈p.follow,Bk p.N ws
 last: ∀ws∈p.last,Bk p.N ws
 takes: ∀ws∈p.takes,Bk p.N ws
 tl:p.takes.length=256
 fl:p.follow.length=p.N
 ll:p.last.length=p.null.length
 nl:p.null.length<1000
def bvs(l:List Bool):List Value:=l.map .bool
def Pm(S:Vw)(bp:Nat)(p:Pp):Prop:= ∃ps v1 v2 v3 v4,S bp=some ps/\ps[0]?=some (.int .i64 (p.N:Nat))/\(ps[1]?=some v1/\Bx S v1 p.first)/\(ps[2]?=some v2/\Bl S v2 p.follow)/\(ps[3]?=some v3/\Bl S v3 p.last)/\(ps[4]?=some v4/\SlV S v4 (bvs p.null))/\ ∀(c:Nat) ws,p.takes[c]?=some ws-> ∃x,ps[5+c]?=some x/\Bx S x ws
theorem Pm.mono{V W:Vw}{bp:Nat}{p:Pp}(hs:Vw.le V W)(h:Pm V bp p):Pm W bp p:=by
 obtain⟨ps,v1,v2,v3,v4,a0,a1,⟨a2,a3⟩,⟨a4,a5⟩,⟨a6,a7⟩,⟨a8,a9⟩,a10⟩:=h;exact⟨ps,v1,v2,v3,v4,hs _ _ a0,a1,⟨a2,a3.mono hs⟩,⟨a4,a5.mono hs⟩,⟨a6,a7.mono hs⟩,⟨a8,a9.mono hs⟩,fun c ws hc=>let⟨x,q1,q2⟩:=a10 c ws hc;⟨x,q1,q2.mono hs⟩⟩
structure Ss where
 alls:List (List Nat)
 nexts:List (List Int)
 oks:List Int
def KVok(kv:List ((ByteArray×Nat)×Nat))(alls:List (List Nat)):Prop:=kv.length+1=alls.length/\ ∀(i:Nat) p,kv[i]?=some p-> ∃ws,alls[i+1]?=some ws/\p.1=(bstr (kyb ws),i+1)
def Ms(S:Vw)(bx bp:Nat)(rows rest:Rws)(s:Ss):Prop:= ∃bk kv c av nv ov exA exN exO cA cN,rows=(bx,.row .own 1 [pt bp,.map (some bk),av,nv,ov])::(bk,.map (mS kv) c)::(exA++(exN++(exO++rest)))/\
 Gq av s.alls.length cA exA/\(∀(i:Nat) ws,s.alls[i]?=some ws-> ∃x,cA[i]?=some x/\Bx S x ws)/\Gq nv s.nexts.length cN exN/\(∀(i:Nat) r,s.nexts[i]?=some r-> ∃x,cN[i]?=some x/\SlV S x (zv r))/\Gq ov s.oks.length (zv s.oks) exO/\KVok kv s.alls
theorem Ms.mono{V W:Vw}{bx bp:Nat}{rows rest:Rws}{s:Ss}(hs:Vw.le V W)(h:Ms V bx bp rows rest s):Ms W bx bp rows rest s:=by
 obtain⟨bk,kv,c,av,nv,ov,exA,exN,exO,cA,cN,a0,a1,a2,a3,a4,a5,a6⟩:=h;exact⟨bk,kv,c,av,nv,ov,exA,exN,exO,cA,cN,a0,a1,fun i ws hi=>let⟨x,q1,q2⟩:=a2 i ws hi;⟨x,q1,q2.mono hs⟩,a3,fun i r hi=>let⟨x,q1,q2⟩:=a4 i r hi;⟨x,q1,q2.mono hs⟩,a5,a6⟩
def Dis(alls:List (List Nat)):Prop:= ∀(i j:Nat) a,1<=i->i<j->alls[i]?=some a->alls[j]?≠some a
structure Ss.Ok(N:Nat)(s:Ss):Prop where
 bk: ∀ws∈s.alls,Bk N ws
 dis:Dis s.alls
 one:1<=s.alls.length
 sz:s.alls.length<=3000
 ol:s.oks.length=s.alls.length
 nl:s.nexts.length<=s.alls.length
theorem kv_none{N:Nat}{kv:List ((ByteArray×Nat)×Nat)}{alls:List (List Nat)}{bs:List Nat}(hk:KVok kv alls)(hb: ∀ws∈alls,Bk N ws)(kb:Bk N bs)(hno: ∀j,1<=j->alls[j]?≠some bs): ∀p∈kv,p.1.1≠bstr (kyb bs):=by
 intro p hp e;obtain⟨i,hi⟩:=List.getElem?_of_mem hp;obtain⟨ws,h1,h2⟩:=hk.2 i p hi;rw[h2]at e;have hw:=hb ws (List.mem_of_getElem? h1);have:=keyS_inj (hw.same kb) hw.wd kb.wd e;subst this;exact hno (i+1) (by omega) h1
theorem kv_hit{N:Nat}{kv:List ((ByteArray×Nat)×Nat)}{alls:List (List Nat)}{bs:List Nat}{i:Nat}(hk:KVok kv alls)(hb: ∀ws∈alls,Bk N ws)(kb:Bk N bs)(hd:Dis alls)(h1:1<=i)(hi:alls[i]?=some bs):
  ∃l1 l2 c,kv=l1++((bstr (kyb bs),i),c)::l2/\ ∀p∈l1,p.1.1≠bstr (kyb bs):=by
 have hlt:=(List.getElem?_eq_some_iff.1 hi).1;have hl:=hk.1;have hx:=List.getElem?_eq_getElem (l:=kv) (i:=i-1) (by omega);obtain⟨ws,q1,q2⟩:=hk.2 _ _ hx;have e:i-1+1=i:=by omega
 rw[e,hi]at q1;obtain rfl:=Option.some.inj q1;rw[e]at q2;refine⟨kv.take (i-1),kv.drop i,(kv[i-1]'(by omega)).2,?_,fun p hp he=>?_⟩
 ·have h3:kv.drop (i-1)=kv[i-1]'(by omega)::kv.drop (i-1+1):=List.drop_eq_getElem_cons (by omega);rw[e]at h3;have h4:kv[i-1]'(by omega)=((bstr (kyb bs),i),(kv[i-1]'(by omega)).2):=by rw[<-q2]
  rw[<-h4, <-h3,List.take_append_drop]
 ·obtain⟨j,hj⟩:=List.getElem?_of_mem hp;rw[List.getElem?_take]at hj
  split at hj
  ·rename_i hji;obtain⟨us,r1,r2⟩:=hk.2 j p hj;rw[r2]at he;have hw:=hb us (List.mem_of_getElem? r1);have:=keyS_inj (hw.same kb) hw.wd kb.wd he;subst this;exact hd (j+1) i us (by omega) (by omega) r1 hi
  ·cases hj
theorem bs172{b n c:Nat}:bsRow Tryz.prog 172 1 [(0,.slice (some ⟨b,0,none⟩) n c)]=some (1,[.slice (some ⟨b,0,none⟩) n c]):=by kernel_rfl
theorem ai172:appInfo Tryz.prog #[172,172]=some (1,24):=by kernel_rfl
def StR(p:Pp)(s:Ss)(bs:List Nat)(z:Int)(s':Ss):Prop:=
 ((∀j,hs bs j=false)/\z= -1/\s'=s)\/((∃j,hs bs j=true)/\ ∃i:Nat,z=i/\1<=i/\s'.alls[i]?=some bs/\s'.nexts=s.nexts/\
  (s'=s\/(i=s.alls.length/\(∀j,1<=j->s.alls[j]?≠some bs)/\s'.alls=s.alls++[bs]/\ ∃a,s'.oks=s.oks++[a]/\FstI p.last.length (fun k=>Meets (p.last.getD k []) bs) a)))
section
variable {Q:Value->PH->Prop}{n:Nat}{cl cl' cl'':CL}{h h0:PH}{S:Vw}{m:OM}{rows rest:Rws}{K2:Value->PH->R}
theorem c116(hn:4611686018427387904<=n)(h109: ∀u v h,cl 160 [u,v] h=F160 n cl' u v h)(h107: ∀v h,cl 158 [v] h=F158 n cl' v h)(h107': ∀v h,cl' 158 [v] h=F158 n cl'' v h)
  (st:Sl h0 h S OM.emp rows) {bx bp:Nat} {p:Pp} {s:Ss} {bv:Value} {bs:List Nat} (hp:Pm S bp p) (hpo:p.Ok) (ms:Ms S bx bp rows rest s) (hso:s.Ok p.N) (hb:Bx S bv bs) (kb:Bk p.N bs):
  Ret (F116 n cl (pt bx) bv h) fun v h'=> ∃z rows' s',v= .int .i64 z/\Sl h0 h' S OM.emp rows'/\Ms S bx bp rows' rest s'/\StR p s bs z s':=by
 have hN:=hpo.n;have hbl:bs.length<1000000:=by rw[kb.len];omega
 have:=st.ok;obtain⟨bb,p1,p2⟩:=c142 (n:=n) (cl:=cl) (cl':=cl') (h:=h.fzn) (S:=S) hn h107 (fun b cs e=>st.leS b cs e) hb.slv hbl;rw[hs_none kb.wd]at p2;have pk:=c143 (n:=n) (cl:=cl) (h:=h.fzn) (S:=S) hn (fun b cs e=>st.leS b cs e) hb.slv kb.wd hbl;unfold F116;simp only[p1,vb_some];cases bb with
 |true=>
  simp only[bite_t];exact Ret.of ⟨-1,rows,s,rfl,st,ms,.inl ⟨p2.1 rfl,rfl,rfl⟩⟩
 |false=>
  have hne: ∃j,hs bs j=true:=by
   refine Classical.byContradiction fun hno=>?_;have:false=true:=p2.2 fun j=>by
    cases hq:hs bs j with
    |false=>rfl
    |true=>exact absurd ⟨j,hq⟩ hno
   cases this
  obtain⟨ps,v1,v2,v3,v4,a0,a1,⟨a2,a3⟩,⟨a4,a5⟩,⟨a6,a7⟩,⟨a8,a9⟩,a10⟩:=hp;obtain⟨bk,kv,c,av,nv,ov,exA,exN,exO,cA,cN,rfl,gA,hA,gN,hNx,gO,hkv⟩:=ms;have l1:xLd (.pointer (some ⟨bx,1,none⟩)) h=some (.map (some bk)):=st.ld (.head _) rfl;have hmk:over ((bx,.row .own 1 [pt bp,.map (some bk),av,nv,ov])::(bk,.map (mS kv) c)::(exA++(exN++(exO++rest)))) OM.emp bk=some (.map (mS kv) c):=st.mem (.tail _ (.head _));simp only[bite_f,F116_2,pk,vb_some,xNil_p,xFld_p,Nat.zero_add,l1,keyS]
  by_cases hex: ∃i,1<=i/\s.alls[i]?=some bs
  ·obtain⟨i,hi1,hi⟩:=hex;obtain⟨k1,k2,c',rfl,hk1⟩:=kv_hit hkv hso.bk kb hso.dis hi1 hi;simp only[lkS_hit st hmk hk1 (ok:=true),if_true,vb_some,xExt_t',List.getElem?_cons_zero,List.getElem?_cons_succ,jn_eq,F116_1,xNot_b,Bool.not_true,bite_f,ucons_cons];exact Ret.of ⟨i,_,s,rfl,st,⟨bk,_,c,av,nv,ov,exA,exN,exO,cA,cN,rfl,gA,hA,gN,hNx,gO,hkv⟩,.inr ⟨hne,i,rfl,hi1,hi,rfl,.inl rfl⟩⟩
  ·have hno: ∀j,1<=j->s.alls[j]?≠some bs:=fun j h1 h2=>hex ⟨j,h1,h2⟩;have hkn:=kv_none hkv hso.bk kb hno;have l2:xLd (.pointer (some ⟨bx,2,none⟩)) h=some av:=st.ld (.head _) rfl;simp only[lkS_none st hmk hkn (ok:=true),if_true,vb_some,xExt_t',List.getElem?_cons_zero,List.getElem?_cons_succ,jn_eq,F116_1,xNot_b,Bool.not_false,bite_t,F116_0,xNil_p,xFld_p,Nat.zero_add,l2,gA.len,l1];refine Ret.lmupS st 1 rfl hkn fun h1 st1=>?_;have st1:Sl h0 h1 S OM.emp ((bx,.row .own 1 [pt bp,.map (some bk),av,nv,ov])::(bk,.map (mS (kv++[((bstr (kyb bs),s.alls.length),c)])) (c+1))::(exA++(exN++(exO++rest)))):=st1;have l2':xLd (.pointer (some ⟨bx,2,none⟩)) h1=some av:=st1.ld (.head _) rfl;simp only[l2',vb_some];obtain⟨b,cb,rfl,hbS⟩:=hb;have hsz:=hso.sz;have st1p:=st1.perm (pmA _ _ exA _);refine Ret.gqapp st1p gA bs172 ai172 rfl (sz_le (c:=3000) hsz (by decide)) fun h2 av' exA' st2 gA'=>?_;have st2:=st2.perm (pmA _ _ exA' _).symm;refine Ret.lst1 st2 0 rfl rfl (by simp) gA'.one fun h3 st3=>?_;have st3:Sl h0 h3 S OM.emp ((bx,.row .own 1 [pt bp,.map (some bk),av',nv,ov])::(bk,.map (mS (kv++[((bstr (kyb bs),s.alls.length),c)])) (c+1))::(exA'++(exN++(exO++rest)))):=st3;have l4:xLd (.pointer (some ⟨bx,4,none⟩)) h3=some ov:=st3.ld (.head _) rfl;have l0:xLd (.pointer (some ⟨bx,0,none⟩)) h3=some (pt bp):=st3.ld (.head _) rfl;have:=st3.ok;obtain⟨z,z1,z2⟩:=c144 (n:=n) (cl:=cl) (cl':=cl') (cl'':=cl'') (h:=h3.fzn) (S:=S) hn h109 h107' (fun b cs e=>st3.leS b cs e) a0 a6 (bv:=.slice (some ⟨b,0,none⟩) bs.length cb) (bs:=bs) ⟨b,cb,rfl,hbS⟩ a7 kb hpo.last (by omega) (by have:=hpo.ll;have:=hpo.nl;omega);simp only[l4,l0,vb_some,z1,lchk_t gO.veq];have st3p:=st3.perm (pmC _ _ exA' exN exO rest);have hol:=hso.ol;refine Ret.gqapp st3p gO bs49 ai49 rfl (sz_le (c:=3000) (by omega) (by decide)) fun h4 ov' exO' st4 gO'=>?_;have st4:=st4.perm (pmC _ _ exA' exN exO' rest).symm;refine Ret.lst1 st4 0 rfl rfl (by simp) gO'.one fun h5 st5=>?_;have st5:Sl h0 h5 S OM.emp ((bx,.row .own 1 [pt bp,.map (some bk),av',nv,ov'])::(bk,.map (mS (kv++[((bstr (kyb bs),s.alls.length),c)])) (c+1))::(exA'++(exN++(exO'++rest)))):=st5;simp only[ucons_cons];have hlA:=gA.length;refine Ret.of ⟨s.alls.length,_,⟨s.alls++[bs],s.nexts,s.oks++[z]⟩,rfl,st5,⟨bk,_,_,av',nv,ov',exA',exN,exO',cA++[.slice (some ⟨b,0,none⟩) bs.length cb],cN,rfl,?_,?_,gN,hNx,?_,?_⟩,.inr ⟨hne,s.alls.length,rfl,hso.one,?_,rfl,.inr ⟨rfl,hno,rfl,z,rfl,z2⟩⟩⟩
   ·show Gq av' (s.alls++[bs]).length _ exA'
    rw[List.length_append];exact gA'
   ·intro i ws hi
    show∃x,(cA++[.slice (some ⟨b,0,none⟩) bs.length cb])[i]?=some x/\Bx S x ws
    have hi:(s.alls++[bs])[i]?=some ws:=hi
    by_cases hlt:i<s.alls.length
    ·rw[List.getElem?_append_left hlt]at hi;obtain⟨x,q1,q2⟩:=hA i ws hi;exact⟨x,by rw[List.getElem?_append_left (by omega)];exact q1,q2⟩
    ·rw[List.getElem?_append_right (by omega)]at hi;have hi0:i-s.alls.length=0:=by
      have:=(List.getElem?_eq_some_iff.1 hi).1;simp at this;omega
     rw[hi0]at hi;obtain rfl:bs=ws:=by simpa using hi
     refine⟨_,?_,b,cb,rfl,hbS⟩;rw[List.getElem?_append_right (by omega),show i-cA.length=0 by omega];rfl
   ·show Gq ov' (s.oks++[z]).length (zv (s.oks++[z])) exO'
    have e:zv (s.oks++[z])=zv s.oks++[.int .i64 z]:=by simp[zv]
    rw[List.length_append,e];exact gO'
   ·refine⟨by have:=hkv.1;simp;omega,fun i q hq=>?_⟩
    show∃ws,(s.alls++[bs])[i+1]?=some ws/\q.1=(bstr (kyb ws),i+1)
    have hk1:=hkv.1
    by_cases hlt:i<kv.length
    ·rw[List.getElem?_append_left hlt]at hq;obtain⟨ws,r1,r2⟩:=hkv.2 i q hq;exact⟨ws,by rw[List.getElem?_append_left (by omega)];exact r1,r2⟩
    ·rw[List.getElem?_append_right (by omega)]at hq;have hi0:i-kv.length=0:=by
      have:=(List.getElem?_eq_some_iff.1 hq).1;simp at this;omega
     rw[hi0]at hq;obtain rfl:=(by simpa using hq:((bstr (kyb bs),s.alls.length),c)=q);refine⟨bs,?_,?_⟩
     ·rw[List.getElem?_append_right (by omega),show i+1-s.alls.length=0 by omega];rfl
     ·show(bstr (kyb bs),s.alls.length)=(bstr (kyb bs),i+1)
      rw[show i+1=s.alls.length by omega]
   ·show(s.alls++[bs])[s.alls.length]?=some bs
    rw[List.getElem?_append_right (Nat.le_refl _),Nat.sub_self];rfl
end
def MayP(p:Pp)(alls:List (List Nat))(i j:Nat):Prop:=if i=0 then hs p.first j=true else∃x,x<p.N/\hs (alls.getD i []) x=true/\hs (p.follow.getD x []) j=true
def Tgt(p:Pp)(alls:List (List Nat))(i c:Nat)(t:List Nat):Prop:=Bk p.N t/\ ∀j,hs t j=true↔MayP p alls i j/\hs (p.takes.getD c []) j=true
def Lead(alls:List (List Nat))(t:List Nat)(z:Int):Prop:=((∀j,hs t j=false)/\z= -1)\/((∃j,hs t j=true)/\ ∃m:Nat,z=m/\1<=m/\alls[m]?=some t)
structure Ss.Mk(p:Pp)(a0:Int)(s:Ss):Prop where
 ok:s.Ok p.N
 ne: ∀(k:Nat) ws,1<=k->s.alls[k]?=some ws-> ∃j,hs ws j=true
 row: ∀(k:Nat) r,s.nexts[k]?=some r->r.length=256/\ ∀(c:Nat) z,r[c]?=some z-> ∃t,Tgt p s.alls k c t/\Lead s.alls t z
 acc0:s.oks[0]?=some a0
 acc: ∀(k:Nat) ws a,1<=k->s.alls[k]?=some ws->s.oks[k]?=some a->FstI p.last.length (fun q=>Meets (p.last.getD q []) ws) a
 from': ∀(k:Nat) ws,1<=k->s.alls[k]?=some ws-> ∃j c,j<k/\c<256/\Tgt p s.alls j c ws
theorem getD_app{alls l:List (List Nat)}{i:Nat}(h:i<alls.length):(alls++l).getD i []=alls.getD i []:=by
 rw[List.getD_eq_getElem?_getD,List.getD_eq_getElem?_getD,List.getElem?_append_left h]
theorem get_app{alls l:List (List Nat)}{i:Nat}{t:List Nat}(h:alls[i]?=some t):(alls++l)[i]?=some t:=by
 rw[List.getElem?_append_left (List.getElem?_eq_some_iff.1 h).1];exact h
theorem Tgt.app{p:Pp}{alls l:List (List Nat)}{i c:Nat}{t:List Nat}(hi:i<alls.length)(h:Tgt p alls i c t):Tgt p (alls++l) i c t:=by
 refine⟨h.1,fun j=>?_⟩;rw[h.2];unfold MayP;rw[getD_app hi]
theorem Lead.app{alls l:List (List Nat)}{t:List Nat}{z:Int}(h:Lead alls t z):Lead (alls++l) t z:=by
 rcases h with h|⟨h1,m,h2,h3,h4⟩
 ·exact .inl h
 ·exact .inr ⟨h1,m,h2,h3,get_app h4⟩
theorem Ss.Mk.step{p:Pp}{a0:Int}{s s':Ss}{t:List Nat}{z:Int}{i c:Nat}(h:s.Mk p a0)(hsz:s.alls.length<3000)(hi:i<s.alls.length)(hc:c<256)(ht:Tgt p s.alls i c t)(hr:StR p s t z s'):
  s'.Mk p a0/\Lead s'.alls t z/\(∃l,s'.alls=s.alls++l)/\s'.nexts=s.nexts/\s'.alls.length<=s.alls.length+1:=by
 rcases hr with⟨h1,h2,rfl⟩|⟨h1,k,h2,h3,h4,h5,h6⟩
 ·exact⟨h,.inl ⟨h1,h2⟩,⟨[],by simp⟩,rfl,by omega⟩
 ·rcases h6 with rfl|⟨hk,hno,hal,a,hoks,hfa⟩
  ·exact⟨h,.inr ⟨h1,k,h2,h3,h4⟩,⟨[],by simp⟩,rfl,by omega⟩
  ·have hlast: ∀(q:Nat) ws,s'.alls[q]?=some ws->s.alls[q]?=some ws\/(q=s.alls.length/\ws=t):=by
    intro q ws hq;rw[hal]at hq
    by_cases hlt:q<s.alls.length
    ·rw[List.getElem?_append_left hlt]at hq;exact .inl hq
    ·rw[List.getElem?_append_right (by omega)]at hq;have hi0:q-s.alls.length=0:=by
      have:=(List.getElem?_eq_some_iff.1 hq).1;simp at this;omega
     rw[hi0]at hq;exact .inr ⟨by omega,by simpa using hq.symm⟩
   have hol:=h.ok.ol;refine⟨⟨⟨fun ws hw=>?_,?_,?_,?_,?_,?_⟩,?_,?_,?_,?_,?_⟩,.inr ⟨h1,k,h2,h3,h4⟩,⟨[t],hal⟩,h5,by rw[hal];simp⟩
   ·rw[hal]at hw;rcases List.mem_append.1 hw with hw|hw
    ·exact h.ok.bk ws hw
    ·have:ws=t:=by simpa using hw
     rw[this];exact ht.1
   ·intro x y b hx hxy hbx hby
    rcases hlast x b hbx with q1|⟨q1,q2⟩
    ·rcases hlast y b hby with r1|⟨r1,r2⟩
     ·exact h.ok.dis x y b hx hxy q1 r1
     ·rw[r2]at q1;exact hno x hx q1
    ·have:=(List.getElem?_eq_some_iff.1 hby).1;rw[hal]at this;simp at this;omega
   ·rw[hal];simp
   ·rw[hal];simp;omega
   ·rw[hal,hoks];simp[hol]
   ·rw[hal,h5];have:=h.ok.nl;simp;omega
   ·intro q ws hq hqw;rcases hlast q ws hqw with q1|⟨q1,q2⟩
    ·exact h.ne q ws hq q1
    ·rw[q2];exact h1
   ·intro q r hq;rw[h5]at hq;obtain⟨r1,r2⟩:=h.row q r hq;have hql:q<s.alls.length:=by have:=(List.getElem?_eq_some_iff.1 hq).1;have:=h.ok.nl;omega
    refine⟨r1,fun c' z' hz=>?_⟩;obtain⟨t',e1,e2⟩:=r2 c' z' hz;rw[hal];exact⟨t',e1.app hql,e2.app⟩
   ·rw[hoks,List.getElem?_append_left (by rw[hol];exact h.ok.one)];exact h.acc0
   ·intro q ws b hq hqw hqb;rcases hlast q ws hqw with q1|⟨q1,q2⟩
    ·have hlt:=(List.getElem?_eq_some_iff.1 q1).1;rw[hoks,List.getElem?_append_left (by omega)]at hqb;exact h.acc q ws b hq q1 hqb
    ·rw[hoks,List.getElem?_append_right (by omega),show q-s.oks.length=0 by omega]at hqb;have:a=b:=by simpa using hqb
     rw[<-this,q2];exact hfa
   ·intro q ws hq hqw;rcases hlast q ws hqw with q1|⟨q1,q2⟩
    ·obtain⟨j,c',e1,e2,e3⟩:=h.from' q ws hq q1;have:=(List.getElem?_eq_some_iff.1 q1).1;rw[hal];exact⟨j,c',e1,e2,e3.app (by omega)⟩
    ·rw[hal,q2];exact⟨i,c,by omega,hc,ht.app hi⟩
theorem Ms.frame{S:Vw}{bx bp:Nat}{rows rest:Rws}{s:Ss}(h:Ms S bx bp rows rest s): ∃A,rows=A++rest/\ ∀rest',Ms S bx bp (A++rest') rest' s:=by
 obtain⟨bk,kv,c,av,nv,ov,exA,exN,exO,cA,cN,rfl,gA,hA,gN,hNx,gO,hkv⟩:=h;refine⟨(bx,.row .own 1 [pt bp,.map (some bk),av,nv,ov])::(bk,.map (mS kv) c)::(exA++(exN++exO)),by simp[List.append_assoc],fun rest'=>⟨bk,kv,c,av,nv,ov,exA,exN,exO,cA,cN,by simp[List.append_assoc],gA,hA,gN,hNx,gO,hkv⟩⟩
section
variable {Q:Value->PH->Prop}{n:Nat}{cl cl' cl'':CL}{h h0:PH}{S:Vw}{m:OM}{rows rest:Rws}{K2:Value->PH->R}
theorem Ret.lst1M{A R:Rws}{b o e:Nat}{md:Mode}{cs:List Value}{v:Value}(s:Sl h0 h S m (A++(b,.row md e cs)::R))(hm:mro md=false)(ho:o<cs.length)(hv:v.oneCell'=true)(hk: ∀h',Sl h0 h' S m (A++(b,.row md e (cs.set o v))::R)->Ret (K2 undef h') Q):
  Ret (Go.Am.hb (xSt1 (.pointer (some ⟨b,o,none⟩)) v h) K2) Q:=by
 have hi:(A++(b,AObj.row md e cs)::R)[A.length]?=some (b,.row md e cs):=by
  rw[List.getElem?_append_right (Nat.le_refl _),Nat.sub_self];rfl
 refine Ret.lst1 s A.length hi hm ho hv fun h' s'=>hk h' ?_;rw[List.set_append_right _ _ (Nat.le_refl _),Nat.sub_self,List.set_cons_zero]at s';exact s'
end
theorem zv_set{l:List Int}{i:Nat}{z:Int}:(zv l).set i (.int .i64 z)=zv (l.set i z):=by
 unfold zv;rw[List.map_set]
theorem zv_zrows{N:Nat}:zrows [.int .i64 0] N=zv (List.replicate N 0):=by
 apply List.ext_getElem?
 intro j
 by_cases hj:j<N
 ·have h1:(zv (List.replicate N 0))[j]?=some (.int .i64 0):=by simp[zv,hj]
  rw[h1,zrows_get _ _ _ (by simpa using hj)];simp[Nat.mod_one]
 ·rw[List.getElem?_eq_none (by rw[zrows_length];simp;omega),List.getElem?_eq_none (by rw[zv_len];simp;omega)]
section
variable {Q:Value->PH->Prop}{n:Nat}{cl cl' cl'':CL}{h h0:PH}{S:Vw}{m:OM}{rows rest:Rws}{K2:Value->PH->R}
theorem Ms.ld0{bx bp:Nat}{s:Ss}(st:Sl h0 h S m rows){V:Vw}(ms:Ms V bx bp rows rest s):xLd (.pointer (some ⟨bx,0,none⟩)) h=some (pt bp):=by
 obtain⟨bk,kv,c,av,nv,ov,exA,exN,exO,cA,cN,rfl,_⟩:=ms;exact st.ld (.head _) rfl
theorem loop91i(hn:4611686018427387904<=n)(h109: ∀u v h,cl 160 [u,v] h=F160 n cl' u v h)(h107: ∀v h,cl 158 [v] h=F158 n cl' v h)(h107': ∀v h,cl' 158 [v] h=F158 n cl'' v h)
  {bx bp bn i:Nat} {p:Pp} {a0:Int} {mayv:Value} {us:List Nat} {al0:List (List Nat)} {nx0:List (List Int)} {r2:Kt} {S0:Vw} (hpo:p.Ok) (kus:Bk p.N us) (hmp: ∀j,hs us j=true↔MayP p al0 i j) (hi0:i<al0.length) (hal0:al0.length<=2000)
  (hk: ∀S' h' rows' s' nr',Vw.le S0 S'->Pm S' bp p->Sl h0 h' S' OM.emp rows'->Ms S' bx bp rows' ((bn,.row .own 1 (zv nr'))::rest) s'->s'.Mk p a0->nr'.length=256->(∃l,s'.alls=al0++l)->s'.nexts=nx0->s'.alls.length<=al0.length+256->(∀(c':Nat) z,nr'[c']?=some z-> ∃t,Tgt p s'.alls i c' t/\Lead s'.alls t z)->Ret (F91_2 n cl (pt bx) (.slice (some ⟨bn,0,none⟩) 256 256) (.int .i64 (i:Nat)) r2 h') Q):
  ∀(k q c:Nat)(S:Vw)(h:PH)(rows:Rws)(s:Ss)(nr:List Int),256-c<=k->k<q->c<=256->Vw.le S0 S->Pm S bp p->Bx S mayv us->Sl h0 h S OM.emp rows->Ms S bx bp rows ((bn,.row .own 1 (zv nr))::rest) s->s.Mk p a0->nr.length=256->(∃l,s.alls=al0++l)->s.nexts=nx0->s.alls.length<=al0.length+c->(∀(c':Nat) z,c'<c->nr[c']?=some z-> ∃t,Tgt p s.alls i c' t/\Lead s.alls t z)->
  Ret (lp q (F91_4 n cl r2) [pt bx,.int .i64 (i:Nat),mayv,.slice (some ⟨bn,0,none⟩) 256 256,.int .i64 ((256:Nat):Int),.int .i64 (c:Nat)] h) Q:=by
 intro k
 induction k with
 |zero=>
  intro q c S h rows s nr h1 h2 h3 le0 hp hm st ms hmk hnr hex hnx hsz hrow;obtain⟨q,rfl⟩: ∃r,q=r+1:=⟨q-1,by omega⟩;rw[lp_succ];have d:decide (((c:Nat):Int)<((256:Nat):Int))=false:=by simp;omega
  simp only[F91_4,F91_3,ucons_cons,xLt_i,d,vb_some,bite_f];have hc:c=256:=by omega
  subst hc;exact hk S h rows s nr le0 hp st ms hmk hnr hex hnx hsz fun c' z hz=>hrow c' z (by have:=(List.getElem?_eq_some_iff.1 hz).1;omega) hz
 |succ k ih=>
  intro q c S h rows s nr h1 h2 h3 le0 hp hm st ms hmk hnr hex hnx hsz hrow
  by_cases hc:c<256
  ·obtain⟨q,rfl⟩: ∃r,q=r+1:=⟨q-1,by omega⟩;rw[lp_succ];generalize hL:lp q (F91_4 n cl r2)=LL;have d:decide (((c:Nat):Int)<((256:Nat):Int))=true:=by simp;omega
   have hN:=hpo.n;have hx:=List.getElem?_eq_getElem (l:=p.takes) (i:=c) (by rw[hpo.tl];exact hc);have hD:p.takes.getD c []=p.takes[c]'(by rw[hpo.tl];exact hc):=by rw[List.getD_eq_getElem?_getD,hx];rfl
   have ktc:=hpo.takes _ (List.getElem_mem (l:=p.takes) (n:=c) (by rw[hpo.tl];exact hc));generalize p.takes[c]'(by rw[hpo.tl];exact hc)=tc at hx hD ktc;have hp0:=hp;obtain⟨ps,v1,v2,v3,v4,a0',a1,a2,a4,a6,a8,a10⟩:=hp;obtain⟨tv,t1,t2⟩:=a10 c tc hx;have l0:=ms.ld0 st;have l1:xLd (.pointer (some ⟨bp,5+c*1,none⟩)) h=some tv:=st.ldS a0' (by rw[Nat.mul_one];exact t1);obtain⟨b,cc,rfl,hbm⟩:=hm;have:=st.ok;simp only[F91_4,F91_3,F91_0,ucons_cons,xLt_i,d,vb_some,bite_t,xNil_p,xFld_p,Nat.zero_add,l0,xIdxA_at' hc,l1];refine Ret.lfcall st (f117 (n:=n) (cl:=cl) (h:=h.fzn) (S:=S) (c:=cc) hn (fun b cs e=>st.leS b cs e) hbm t2.slv (kus.same ktc) kus.wd ktc.wd kus.pos (by rw[kus.len];omega)) fun v h1 ex ⟨b',hv,he⟩ st1=>?_;subst hv;subst he;have kt:=kus.and ktc;have hlt:(List.zipWith (· &&& ·) us tc).length=us.length:=by rw[kt.len,kus.len]
   obtain⟨S1,le1,st2,hbt⟩:=Bx.settle (c:=openCap) st1;rw[hlt]at hbt;have hTgt:Tgt p s.alls i c (List.zipWith (· &&& ·) us tc):=by
    refine⟨kt,fun j=>?_⟩;rw[hs_and (kus.same ktc),Bool.and_eq_true,hmp,hD];obtain⟨l,hl⟩:=hex;unfold MayP;rw[hl,getD_app hi0]
   refine Ret.hb (c116 (n:=n) (cl:=cl) (cl':=cl') (cl'':=cl'') hn h109 h107 h107' st2 (hp0.mono le1) hpo (ms.mono le1) hmk.ok hbt kt) fun v h3 ⟨z,rows3,s3,hv,st3,ms3,hst⟩=>?_;subst hv;obtain⟨l,hl⟩:=hex;have hil:i<s.alls.length:=by rw[hl,List.length_append];omega
   obtain⟨hmk3,hld,⟨l3,hl3⟩,hnx3,hsz3⟩:=hmk.step (by omega) hil hc hTgt hst;have e1:xIdxS 1 (.slice (some ⟨bn,0,none⟩) 256 256) (.int .i64 (c:Nat))=some (.pointer (some ⟨bn,c,none⟩)):=by
    rw[xIdxS_at (by omega) (by omega)];simp
   simp only[e1,vb_some];obtain⟨A,hA,hfr⟩:=ms3.frame;subst hA;refine Ret.lst1M st3 rfl (by rw[zv_len,hnr];exact hc) rfl fun h4 st4=>?_;rw[zv_set]at st4;simp only[vN_eq,xAdd_i,wrapN (show c<4611686018427387904 by omega),vb_some];rw[<-hL];refine ih q (c+1) S1 h4 _ s3 (nr.set c z) (by omega) (by omega) (by omega) (le0.trans le1) (hp0.mono le1) ⟨b,cc,rfl,le1 _ _ hbm⟩ st4 (hfr _) hmk3 (by rw[List.length_set];exact hnr) ⟨l++l3,by rw[hl3,hl,List.append_assoc]⟩ (hnx3.trans hnx) (by omega) fun c' z' hc' hz'=>?_
   by_cases e:c'=c
   ·subst e;rw[List.getElem?_set_self (by omega)]at hz';obtain rfl:=Option.some.inj hz';rw[hl3];exact⟨_,hTgt.app hil,by rw[<-hl3];exact hld⟩
   ·rw[List.getElem?_set_ne (fun h=>e h.symm)]at hz';obtain⟨t,q1,q2⟩:=hrow c' z' (by omega) hz';rw[hl3];exact⟨t,q1.app hil,q2.app⟩
  ·exact ih q c S h rows s nr (by omega) (by omega) h3 le0 hp hm st ms hmk hnr hex hnx hsz hrow
theorem c91(hn:4611686018427387904<=n)(h109: ∀u v h,cl 160 [u,v] h=F160 n cl' u v h)(h107: ∀v h,cl 158 [v] h=F158 n cl' v h)(h107': ∀v h,cl' 158 [v] h=F158 n cl'' v h)
  (st:Sl h0 h S OM.emp rows) {bx bp:Nat} {p:Pp} {a0:Int} {s:Ss} (hp:Pm S bp p) (hpo:p.Ok) (ms:Ms S bx bp rows rest s) (hmk:s.Mk p a0) (hs0:s.nexts=[]) (hsz:s.alls.length<=2000):
  Ret (F91 n cl (pt bx) h) fun v h'=> ∃bb S' rows' s',v= .bool bb/\Vw.le S S'/\Sl h0 h' S' OM.emp rows'/\Ms S' bx bp rows' rest s'/\s'.Mk p a0/\(bb=true->s'.nexts.length=s'.alls.length/\s'.alls.length<=2000)/\(bb=false->2000<s'.alls.length):=by
 have key: ∀(d q i:Nat)(S':Vw)(h:PH)(rows:Rws)(s:Ss),2001-i<=d->d<q->Vw.le S S'->Sl h0 h S' OM.emp rows->Ms S' bx bp rows rest s->s.Mk p a0->s.nexts.length=i->s.alls.length<=2000->
   Ret (lp q (fun r2 y1 h=>ucons y1 fun v3 y4=>ucons y4 fun v5 y6=>F91_10 n cl v3 v5 r2 h) [pt bx,.int .i64 (i:Nat)] h) fun v h'=> ∃bb S' rows' s',v= .bool bb/\Vw.le S S'/\Sl h0 h' S' OM.emp rows'/\Ms S' bx bp rows' rest s'/\s'.Mk p a0/\(bb=true->s'.nexts.length=s'.alls.length/\s'.alls.length<=2000)/\(bb=false->2000<s'.alls.length):=by
  intro d
  induction d with
  |zero=>
   intro q i S' h rows s h1 h2 le st ms hmk hnl hal;have:=hmk.ok.nl;omega
  |succ d ih=>
   intro q i S' h rows s h1 h2 le st ms hmk hnl hal;obtain⟨q,rfl⟩: ∃r,q=r+1:=⟨q-1,by omega⟩;rw[lp_succ];generalize hL:lp q (fun r2 y1 h=>ucons y1 fun v3 y4=>ucons y4 fun v5 y6=>F91_10 n cl v3 v5 r2 h)=LL;have hN:=hpo.n;have ms0:=ms;have hnlA:=hmk.ok.nl;have l0:=ms.ld0 st;obtain⟨bk,kv,c,av,nv,ov,exA,exN,exO,cA,cN,hrows,gA,hA,gN,hNx,gO,hkv⟩:=ms;have l2:xLd (.pointer (some ⟨bx,2,none⟩)) h=some av:=st.ld (by rw[hrows];exact .head _) rfl;simp only[ucons_cons,F91_10,xNil_p,xFld_p,Nat.zero_add,vb_some,l2,gA.len,xLt_i]
   by_cases hi:i<s.alls.length
   ·have d:decide (((i:Nat):Int)<((s.alls.length:Nat):Int))=true:=by simp;omega
    have hpS:=hp.mono le;have hpS0:=hpS;obtain⟨ps,v1,v2,v3,v4,a0',a1,⟨a2,a3⟩,⟨a4,a5⟩,a6,a8,a10⟩:=hpS;have lf:xLd (.pointer (some ⟨bp,1,none⟩)) h=some v1:=st.ldS a0' a2;have go: ∀(S1:Vw)(h1:PH)(rows1:Rws)(mayv:Value)(us:List Nat),Vw.le S' S1->Sl h0 h1 S1 OM.emp rows1->Ms S1 bx bp rows1 rest s->Bx S1 mayv us->Bk p.N us->(∀j,hs us j=true↔MayP p s.alls i j)->Ret (F91_5 n cl LL (pt bx) (.int .i64 (i:Nat)) mayv h1) fun v h'=> ∃bb S' rows' s',v= .bool bb/\Vw.le S S'/\Sl h0 h' S' OM.emp rows'/\Ms S' bx bp rows' rest s'/\s'.Mk p a0/\(bb=true->s'.nexts.length=s'.alls.length/\s'.alls.length<=2000)/\(bb=false->2000<s'.alls.length):=by
     intro S1 h1 rows1 mayv us le1 st1 ms1 hmay kus hmp;unfold F91_5;rw[vN_eq];refine Ret.lmk st1 zi49 (by omega) (by omega) (by omega) (by omega) fun h2 bn st2=>?_;rw[Int.toNat_natCast,zv_zrows]at st2;rw[Int.toNat_natCast];obtain⟨A,hA1,hfr⟩:=ms1.frame;subst hA1;have st2:=st2.perm (rows':=A++(bn,.row .own 1 (zv (List.replicate 256 0)))::rest) List.perm_middle.symm;have hlen:xLenS (.slice (some ⟨bn,0,none⟩) 256 256)=some (.int .i64 ((256:Nat):Int)):=by simp
     simp only[hlen,vb_some];refine loop91i hn h109 h107 h107' hpo kus hmp hi hal (S0:=S1) (nx0:=s.nexts) (fun S3 h3 rows3 s3 nr le3 hp3 st3 ms3 hmk3 hnr hex3 hnx3 hsz3 hrow3=>?_) 256 n 0 S1 h2 _ s (List.replicate 256 0) (by omega) (by omega) (by omega) (Vw.le.refl _) (hpS0.mono le1) hmay st2 (hfr _) hmk (by rw[List.length_replicate]) ⟨[],by rw[List.append_nil]⟩ rfl (by omega) (fun c' z hc'=>by omega);obtain⟨l3,hl3⟩:=hex3;have hil3:i<s3.alls.length:=by rw[hl3,List.length_append];omega
     obtain⟨A3,hA3,hfr3⟩:=ms3.frame;subst hA3;have st3:=st3.perm (rows':=(bn,.row .own 1 (zv nr))::(A3++rest)) List.perm_middle;obtain⟨st4,hbnS⟩:=st3.settle (i:=0) rfl;have st4:Sl h0 h3 (S3.put bn (zv nr)) OM.emp (A3++rest):=st4;have le4:Vw.le S3 (S3.put bn (zv nr)):=Vw.le_put hbnS;have hnv:SlV (S3.put bn (zv nr)) (.slice (some ⟨bn,0,none⟩) 256 256) (zv nr):=.inr ⟨bn,0,256,zv nr,by rw[zv_len,hnr],Vw.put_self,by omega,fun j x hx=>by rw[Nat.zero_add];exact hx⟩;have ms4:=(hfr3 rest).mono le4;obtain⟨bk,kv,c,av,nv,ov,exA,exN,exO,cA,cN,hrows,gA,hA,gN,hNx,gO,hkv⟩:=ms4;rw[hrows]at st4;have ln:xLd (.pointer (some ⟨bx,3,none⟩)) h3=some nv:=st4.ld (.head _) rfl;simp only[F91_2,xNil_p,xFld_p,Nat.zero_add,vb_some,ln];have st4p:=st4.perm (pmB _ _ exA exN (exO++rest));have hsx:s3.nexts.length<=3000:=by rw[hnx3];omega
     refine Ret.gqapp st4p gN (bs74 rfl) ai74 rfl (sz_le (c:=3000) hsx (by decide)) fun h5 nv' exN' st5 gN'=>?_;have st5:=st5.perm (pmB _ _ exA exN' (exO++rest)).symm;refine Ret.lst1 st5 0 rfl rfl (by simp) gN'.one fun h6 st6=>?_;have st6:Sl h0 h6 (S3.put bn (zv nr)) OM.emp ((bx,.row .own 1 [pt bp,.map (some bk),av,nv',ov])::(bk,.map (mS kv) c)::(exA++(exN'++(exO++rest)))):=st6;have la:xLd (.pointer (some ⟨bx,2,none⟩)) h6=some av:=st6.ld (.head _) rfl;have hms6:Ms (S3.put bn (zv nr)) bx bp ((bx,.row .own 1 [pt bp,.map (some bk),av,nv',ov])::(bk,.map (mS kv) c)::(exA++(exN'++(exO++rest)))) rest ⟨s3.alls,s3.nexts++[nr],s3.oks⟩:=by
      refine⟨bk,kv,c,av,nv',ov,exA,exN',exO,cA,cN++[.slice (some ⟨bn,0,none⟩) 256 256],rfl,gA,hA,?_,fun q r hq=>?_,gO,hkv⟩
      ·show Gq nv' (s3.nexts++[nr]).length _ exN'
       rw[List.length_append];exact gN'
      ·have hq:(s3.nexts++[nr])[q]?=some r:=hq;have hlN:=gN.length
       by_cases hlt:q<s3.nexts.length
       ·rw[List.getElem?_append_left hlt]at hq;obtain⟨x,e1,e2⟩:=hNx q r hq;exact⟨x,by rw[List.getElem?_append_left (by omega)];exact e1,e2⟩
       ·rw[List.getElem?_append_right (by omega)]at hq;have hi0:q-s3.nexts.length=0:=by
         have:=(List.getElem?_eq_some_iff.1 hq).1;simp at this;omega
        rw[hi0]at hq;obtain rfl:nr=r:=by simpa using hq
        refine⟨_,?_,hnv⟩;rw[List.getElem?_append_right (by omega),show q-cN.length=0 by omega];rfl
     have hmk6:Ss.Mk p a0 ⟨s3.alls,s3.nexts++[nr],s3.oks⟩:=by
      refine⟨⟨hmk3.ok.bk,hmk3.ok.dis,hmk3.ok.one,hmk3.ok.sz,hmk3.ok.ol,?_⟩,hmk3.ne,fun q r hq=>?_,hmk3.acc0,hmk3.acc,hmk3.from'⟩
      ·show(s3.nexts++[nr]).length<=s3.alls.length
       rw[List.length_append,hnx3,hnl];simp;omega
      ·have hq:(s3.nexts++[nr])[q]?=some r:=hq
       by_cases hlt:q<s3.nexts.length
       ·rw[List.getElem?_append_left hlt]at hq;exact hmk3.row q r hq
       ·rw[List.getElem?_append_right (by omega)]at hq;have hi0:q-s3.nexts.length=0:=by
         have:=(List.getElem?_eq_some_iff.1 hq).1;simp at this;omega
        rw[hi0]at hq;obtain rfl:nr=r:=by simpa using hq
        have hqi:q=i:=by rw[hnx3,hnl]at hi0 hlt;omega
        subst hqi;exact⟨hnr,hrow3⟩
     have leF:Vw.le S (S3.put bn (zv nr)):=((le.trans le1).trans le3).trans le4;simp only[la,vb_some,gA.len,vN_eq,xGt_i]
     by_cases hbig:2000<s3.alls.length
     ·have d2:decide (((2000:Nat):Int)<((s3.alls.length:Nat):Int))=true:=by simp;omega
      simp only[d2,bite_t];exact Ret.of ⟨false,_,_,_,rfl,leF,st6,hms6,hmk6,(fun h=>by cases h),fun _=>hbig⟩
     ·have d2:decide (((2000:Nat):Int)<((s3.alls.length:Nat):Int))=false:=by simp;omega
      simp only[d2,bite_f,F91_1,vN_eq,xAdd_i,wrapN (show i<4611686018427387904 by omega),vb_some];rw[<-hL];refine ih q (i+1) _ h6 _ _ (by omega) (by omega) leF st6 hms6 hmk6 ?_ (by show s3.alls.length<=2000;omega)
      show(s3.nexts++[nr]).length=i+1
      rw[List.length_append,hnx3,hnl];rfl
    simp only[d,bite_t,F91_9,xNil_p,xFld_p,Nat.zero_add,vb_some,l0,lf,jn_eq,F91_8,vN_eq,xGt_i]
    by_cases hz:i=0
    ·have d2:decide (((0:Nat):Int)<((i:Nat):Int))=false:=by simp[hz]
     simp only[d2,bite_f,F91_7,ucons_cons];exact go S' h rows v1 p.first (Vw.le.refl _) st ms0 a3 hpo.first fun j=>by unfold MayP;rw[if_pos hz]
    ·have d2:decide (((0:Nat):Int)<((i:Nat):Int))=true:=by simp;omega
     have hx:=List.getElem?_eq_getElem hi;have hD:s.alls.getD i []=s.alls[i]:=by rw[List.getD_eq_getElem?_getD,hx];rfl
     have kb:=hmk.ok.bk _ (List.getElem_mem hi);obtain⟨bv,q1,q2⟩:=hA i _ hx;obtain⟨bb,ob,e1,e2⟩:=gA.at st (fun pr hpr=>by rw[hrows];exact .tail _ (.tail _ (List.mem_append_left _ hpr))) q1;simp only[d2,bite_t,F91_6,xNil_p,xFld_p,Nat.zero_add,vb_some,l0,l2,e1,e2];refine Ret.hb (c115 hn st a0' a1 (by omega) a4 a5 hpo.fl hpo.fol q2 kb) fun v h1 ⟨b,us,hv,st1,kus,hus⟩=>?_;subst hv;obtain⟨S1,le1,st2,hbx⟩:=Bx.settle (c:=us.length) st1;simp only[F91_7,ucons_cons];exact go S1 h1 rows _ us le1 st2 (ms0.mono le1) hbx kus fun j=>by unfold MayP;rw[if_neg hz,hus,hD]
   ·have d:decide (((i:Nat):Int)<((s.alls.length:Nat):Int))=false:=by simp;omega
    simp only[d,bite_f];exact Ret.of ⟨true,S',rows,s,rfl,le,st,ms0,hmk,(fun _=>⟨by omega,hal⟩),fun h=>by cases h⟩
 unfold F91;rw[vN_eq];exact key 2001 n 0 S h rows s (by omega) (by omega) (Vw.le.refl _) st ms hmk (by rw[hs0];rfl) hsz
end
structure Rr where
 first:List Nat
 follow:List (List Nat)
 last:List (List Nat)
 null:List Bool
 tks:Nat->List Nat
def slW(b W:Nat):Value:=.slice (some ⟨b,0,none⟩) W W
def tvs(ft:Nat->Nat)(W:Nat):List Value:=(List.range 256).map fun c=>slW (ft c) W
theorem tvs_get{ft:Nat->Nat}{W c:Nat}(hc:c<256):(tvs ft W)[c]?=some (slW (ft c) W):=by
 unfold tvs;rw[List.getElem?_map,List.getElem?_range hc];rfl
theorem tvs_len{ft:Nat->Nat}{W:Nat}:(tvs ft W).length=256:=by unfold tvs;rw[List.length_map,List.length_range]
structure Tk(m:OM)(N bf:Nat)(ft:Nat->Nat)(tks:Nat->List Nat):Prop where
 row: ∀c,c<256->m (ft c)=some (.row .own 1 (bw (tks c)))
 bk: ∀c,c<256->Bk N (tks c)
 ne: ∀c,c<256->ft c≠bf
 inj: ∀c d,c<256->d<256->ft c=ft d->c=d
theorem Tk.upd{m:OM}{N bf:Nat}{ft:Nat->Nat}{tks:Nat->List Nat}(t:Tk m N bf ft tks){c:Nat}(hc:c<256){ws:List Nat}(hw:Bk N ws):Tk (m.upd (ft c) (.row .own 1 (bw ws))) N bf ft (fun d=>if d=c then ws else tks d):=by
 refine⟨fun d hd=>?_,fun d hd=>?_,t.ne,t.inj⟩
 ·by_cases e:d=c
  ·subst e;rw[OM.upd_self,if_pos rfl]
  ·rw[OM.upd_ne (fun h=>e (t.inj d c hd hc h)),if_neg e];exact t.row d hd
 ·by_cases e:d=c
  ·rw[if_pos e];exact hw
  ·rw[if_neg e];exact t.bk d hd
section
variable {Q:Value->PH->Prop}{n:Nat}{cl cl' cl'':CL}{h h0:PH}{S:Vw}{m:OM}{rows rest:Rws}{K2:Value->PH->R}{tks0:Nat->List Nat}
theorem loop114c(hn:4611686018427387904<=n){bp bf bs from' i N:Nat}{ft:Nat->Nat}{cells:List Value}{st4:List Int}{v90 v92 v98 v100 v102:Value}{r35:Kt}(hrow:(bp,AObj.row .own 1 cells)∈rows)(hcl: ∀c,c<256->cells[5+c]?=some (slW (ft c) (N / 64+1)))(hset:(bs,AObj.row .own 1 (u64s st4))∈rows)(hs4:st4.length=4)(hN:N<100000)(hfi:from'+i<N)
  (hk: ∀h' m' tks',Sl h0 h' S m' rows->Tk m' N bf ft tks'->m' bf=m bf->(∀c,c<256-> ∀j,hs (tks' c) j=true↔hs (tks0 c) j=true\/(hasB st4 c=true/\j=from'+i))->Ret (F114_4 n cl v102 r35 (pt bp) (.int .i64 (from':Nat)) v90 v92 v98 v100 h') Q):
  ∀(k q c:Nat)(m1:OM)(h:PH)(tks:Nat->List Nat),256-c<=k->k<q->c<=256->Sl h0 h S m1 rows->Tk m1 N bf ft tks->m1 bf=m bf->(∀d,d<256-> ∀j,hs (tks d) j=true↔hs (tks0 d) j=true\/(d<c/\hasB st4 d=true/\j=from'+i))->
   Ret (lp q (F114_6 n cl r35) [pt bp,.int .i64 (from':Nat),v90,v92,.int .i64 (i:Nat),pt bs,v98,v100,v102,.int .i64 (c:Nat)] h) Q:=by
 intro k
 induction k with
 |zero=>
  intro q c m1 h tks h1 h2 h3 st tk hb hj;obtain⟨q,rfl⟩: ∃r,q=r+1:=⟨q-1,by omega⟩;rw[lp_succ];have dcl:decide (((c:Nat):Int)<((256:Nat):Int))=false:=by simp;omega
  simp only[F114_6,F114_5,ucons_cons,vN_eq,xLt_i,dcl,vb_some,bite_f];exact hk h m1 tks st tk hb fun d hd j=>by
   rw[hj d hd];exact⟨fun h=>h.imp id fun h=>h.2,fun h=>h.imp id fun h=>⟨by omega,h⟩⟩
 |succ k ih=>
  intro q c m1 h tks h1 h2 h3 st tk hb hj
  by_cases hc:c<256
  ·obtain⟨q,rfl⟩: ∃r,q=r+1:=⟨q-1,by omega⟩;rw[lp_succ];generalize hL:lp q (F114_6 n cl r35)=LL;have dcl:decide (((c:Nat):Int)<((256:Nat):Int))=true:=by simp;omega
   have hl4:(u64s st4).length=4:=by simp[u64s,hs4]
   have la:xLdA 4 (pt bs) h=some (.agg ⟨u64s st4⟩):=st.ldA hset (by rw[List.drop_zero, <-hl4,List.take_length]) (by omega);have:=st.ok;have hpc:=c139 (n:=n) (cl:=cl) (h:=h.fzn) hs4 hc;have hw8:IntKind.u8.wrap ((c:Nat):Int)=((c:Nat):Int):=wr8 hc;have hw:=wrapN (x:=c) (by omega);simp only[F114_6,F114_5,F114_3,ucons_cons,vN_eq,xLt_i,dcl,vb_some,bite_t,jn_eq,la,xConvI_i',hw8,hpc];cases hq:hasB st4 c with
   |true=>
    have l1:xLd (.pointer (some ⟨bp,5+c*1,none⟩)) h=some (slW (ft c) (N / 64+1)):=st.ld hrow (by rw[Nat.mul_one];exact hcl c hc);have ha:IntKind.i64.wrap (((from':Nat):Int)+((i:Nat):Int))=((from'+i:Nat):Int):=by rw[wrap_in (by omega) (by omega)];omega
    have kb:=tk.bk c hc;simp only[bite_t,F114_1,xNil_p,vb_some,xFld_p,Nat.zero_add,xIdxA_at' hc,l1,xAdd_i,ha];have e:slW (ft c) (N / 64+1)= .slice (some ⟨ft c,0,none⟩) (tks c).length (N / 64+1):=by unfold slW;rw[kb.len]
    rw[e];refine Ret.hb (c140 (n:=n) (cl:=cl) st (tk.row c hc) rfl kb.wd (kb.in hfi) (by omega)) fun v h2 ⟨hv,st2⟩=>?_;subst hv;simp only[F114_2,ucons_cons,F114_0,vN_eq,xAdd_i,hw,vb_some];rw[<-hL];refine ih q (c+1) _ h2 _ (by omega) (by omega) (by omega) st2 (tk.upd hc (kb.add hfi)) (by rw[OM.upd_ne (tk.ne c hc).symm];exact hb) fun d hd j=>?_
    by_cases e:d=c
    ·subst e;simp only[if_true];rw[hs_add (kb.in hfi),Bool.or_eq_true,hj d hd,decide_eq_true_eq];constructor
     ·rintro((h|⟨h,_⟩)|h)
      ·exact .inl h
      ·omega
      ·exact .inr ⟨by omega,hq,h⟩
     ·rintro(h|⟨_,_,h⟩)
      ·exact .inl (.inl h)
      ·exact .inr h
    ·simp only[e,if_false];rw[hj d hd];exact⟨fun h=>h.imp id fun h=>⟨by omega,h.2⟩,fun h=>h.imp id fun h=>⟨by omega,h.2⟩⟩
   |false=>
    simp only[bite_f,F114_2,ucons_cons,F114_0,vN_eq,xAdd_i,hw,vb_some];rw[<-hL];refine ih q (c+1) m1 h tks (by omega) (by omega) (by omega) st tk hb fun d hd j=>?_;rw[hj d hd];constructor
    ·exact fun h=>h.imp id fun h=>⟨by omega,h.2⟩
    ·rintro(h|⟨h1,h2,h3⟩)
     ·exact .inl h
     ·by_cases e:d=c
      ·subst e;rw[hq]at h2;cases h2
      ·exact .inr ⟨by omega,h2,h3⟩
  ·exact ih q c m1 h tks (by omega) (by omega) h3 st tk hb hj
end
def Rm(S:Vw)(m:OM)(bp:Nat)(rows rest:Rws)(N:Nat)(r:Rr):Prop:= ∃bf ft fv lv nv exF exL exN cF cL,
 rows=(bp,.row .own 1 ([.int .i64 (N:Nat),slW bf (N / 64+1),fv,lv,nv]++tvs ft (N / 64+1)))::(exF++(exL++(exN++rest)))/\m bf=some (.row .own 1 (bw r.first))/\Bk N r.first/\Tk m N bf ft r.tks/\
 Gq fv r.follow.length cF exF/\(∀(i:Nat) ws,r.follow[i]?=some ws-> ∃x,cF[i]?=some x/\Bx S x ws)/\Gq lv r.last.length cL exL/\(∀(i:Nat) ws,r.last[i]?=some ws-> ∃x,cL[i]?=some x/\Bx S x ws)/\Gq nv r.null.length (bvs r.null) exN
theorem Rm.frame{S:Vw}{m:OM}{bp:Nat}{rows rest:Rws}{N:Nat}{r:Rr}(h:Rm S m bp rows rest N r): ∃A,rows=A++rest/\ ∀rest',Rm S m bp (A++rest') rest' N r:=by
 obtain⟨bf,ft,fv,lv,nv,exF,exL,exN,cF,cL,rfl,a1,a2,a3,a4,a5,a6,a7,a8⟩:=h;exact⟨(bp,.row .own 1 ([.int .i64 (N:Nat),slW bf (N / 64+1),fv,lv,nv]++tvs ft (N / 64+1)))::(exF++(exL++exN)),by simp[List.append_assoc],fun rest'=>⟨bf,ft,fv,lv,nv,exF,exL,exN,cF,cL,by simp[List.append_assoc],a1,a2,a3,a4,a5,a6,a7,a8⟩⟩
theorem pm1{α:Type}(x:α)(a r:List α):(x::(a++r)).Perm (a++(x::r)):=List.perm_middle.symm
theorem pm2{α:Type}(x:α)(a b r:List α):(x::(a++(b++r))).Perm (b++(x::(a++r))):=
 (List.Perm.cons _ (List.perm_append_comm_assoc a b r)).trans (pm1 x b (a++r))
theorem pm3{α:Type}(x:α)(a b c r:List α):(x::(a++(b++(c++r)))).Perm (c++(x::(a++(b++r)))):=
 (List.Perm.cons _ (List.Perm.append_left a (List.perm_append_comm_assoc b c r))).trans (pm2 x a c (b++r))
theorem zc82:zcells Tryz.prog 82=some [.int .u64 0,.int .u64 0,.int .u64 0,.int .u64 0]:=by kernel_rfl
structure Rp(po:Po)(from' N i:Nat)(r0 r:Rr):Prop where
 first:r.first=r0.first
 last:r.last=r0.last
 null:r.null=r0.null
 fol: ∃l,r.follow=r0.follow++l/\l.length=i/\ ∀(y:Nat) ws,l[y]?=some ws->Bk N ws/\ ∀j,hs ws j=true↔ ∃z∈po.follow.getD y [],z<po.sets.length/\j=from'+z
 tks: ∀c,c<256-> ∀j,hs (r.tks c) j=true↔hs (r0.tks c) j=true\/ ∃y,y<i/\takesB po c y=true/\j=from'+y
section
variable {Q:Value->PH->Prop}{n:Nat}{cl cl' cl'':CL}{h h0:PH}{S:Vw}{m:OM}{rows rest:Rws}{K2:Value->PH->R}
theorem loop114p(hn:4611686018427387904<=n){bp x1 from' N:Nat}{po:Po}{ps:List Value}{S0:Vw}{r0:Rr}(hN:N<100000)(hfn:from'+po.sets.length<=N)(hin:po.In)(hp:PoV S0 po ps)(hx1:(x1,AObj.row .own 1 ps)∈rest)(hf0:r0.follow.length+po.sets.length<=200000)(hfl: ∀w∈po.follow,w.length<1000000)
  (hk: ∀S' h' m' rows' r',Vw.le S0 S'->Sl h0 h' S' m' rows'->Rm S' m' bp rows' rest N r'->Rp po from' N po.sets.length r0 r'->Q (.tuple ⟨[]⟩) h') {sv:Value} (hsv:SlC S0 4 sv po.sets.length (po.sets.flatMap u64s)):
  ∀(k q i:Nat)(S:Vw)(h:PH)(m:OM)(rows:Rws)(r:Rr),po.sets.length-i<=k->k<q->i<=po.sets.length->Vw.le S0 S->Sl h0 h S m rows->Rm S m bp rows rest N r->Rp po from' N i r0 r->
   Ret (lp q (F114_13 n cl) [pt bp,.int .i64 (from':Nat),pt x1,.int .i64 (po.sets.length:Nat),sv,.int .i64 (po.sets.length:Nat),.int .i64 (i:Nat)] h) Q:=by
 intro k
 induction k with
 |zero=>
  intro q i S h m rows r h1 h2 h3 le st rm rp;obtain⟨q,rfl⟩: ∃r,q=r+1:=⟨q-1,by omega⟩;rw[lp_succ];have hi:i=po.sets.length:=by omega
  subst hi;have dc:decide (((po.sets.length:Nat):Int)<((po.sets.length:Nat):Int))=false:=by simp
  simp only[F114_13,F114_12,ucons_cons,xLt_i,dc,vb_some,bite_f];exact Ret.of (hk S h m rows r le st rm rp)
 |succ k ih=>
  intro q i S h m rows r h1 h2 h3 le st rm rp
  by_cases hi:i<po.sets.length
  ·obtain⟨q,rfl⟩: ∃r,q=r+1:=⟨q-1,by omega⟩;rw[lp_succ];generalize hL:lp q (F114_13 n cl)=LL;have dc:decide (((i:Nat):Int)<((po.sets.length:Nat):Int))=true:=by simp;omega
   have hx:=List.getElem?_eq_getElem hi;have hs4:=hin.s4 _ (List.getElem_mem hi);have hD:po.sets.getD i []=po.sets[i]:=by rw[List.getD_eq_getElem?_getD,hx];rfl
   obtain⟨b2,o2,cs2,f1,f2,f3,f4⟩:=hsv.at (kk:=.i64) hi;rw[sets_at hin.s4 hx]at f4;generalize po.sets[i]=st4 at hx hs4 hD f4;have l2:=st.ldSA (le _ _ f2) f4 f3;have hl4:(u64s st4).length=4:=by simp[u64s,hs4]
   simp only[F114_13,F114_12,F114_11,ucons_cons,xLt_i,dc,vb_some,bite_t,f1,l2];refine Ret.lalloc st zc82 fun h2 bs st2=>?_;refine Ret.lstA st2 0 rfl rfl hl4 (by simp) (oneCells_u64s _) fun h3 st3=>?_;rw[setsL_all (by rw[hl4];rfl)]at st3;have st3:Sl h0 h3 S m ((bs,.row .own 1 (u64s st4))::rows):=st3;have rm0:=rm;obtain⟨bf,ft,fv,lv,nv,exF,exL,exN,cF,cL,hrows,a1,a2,a3,a4,a5,a6,a7,a8⟩:=rm;have hmem:(bp,AObj.row .own 1 ([.int .i64 (N:Nat),slW bf (N / 64+1),fv,lv,nv]++tvs ft (N / 64+1)))∈(bs,AObj.row .own 1 (u64s st4))::rows:=by rw[hrows];exact .tail _ (.head _)
   have:=st3.ok;refine Ret.lfcall st3 (f89 (n:=n) (cl:=cl) (h:=h3.fzn) (S:=vall S (over ((bs,.row .own 1 (u64s st4))::rows) m)) st3.fz (vall_m (st3.mem hmem)) rfl (by omega)) fun v h4 ex ⟨b54,hv,he⟩ st4'=>?_;subst hv;subst he;have st4':Sl h0 h4 S m ((b54,.row .own 1 (bw (List.replicate (N / 64+1) 0)))::(bs,.row .own 1 (u64s st4))::rows):=st4';have go: ∀(h5:PH)(b5:Nat)(ws5:List Nat)(v54:Value),Sl h0 h5 S m ((b5,.row .own 1 (bw ws5))::(bs,.row .own 1 (u64s st4))::rows)->Bk N ws5->(∀j,hs ws5 j=true↔ ∃z∈po.follow.getD i [],z<po.sets.length/\j=from'+z)->
     Ret (F114_9 n cl LL [pt bp,.int .i64 (from':Nat),pt x1,.int .i64 (po.sets.length:Nat),.int .i64 (i:Nat),pt bs,.slice (some ⟨b5,0,none⟩) ws5.length ws5.length,sv,.int .i64 (po.sets.length:Nat),.int .i64 (i:Nat)] h5) Q:=by
    intro h5 b5 ws5 _ st5 k5 hj5;obtain⟨S1,le1,st6,hb5⟩:=Bx.settle (c:=ws5.length) st5;rw[hrows]at st6;have st6:=st6.perm (rows':=(bp,.row .own 1 ([.int .i64 (N:Nat),slW bf (N / 64+1),fv,lv,nv]++tvs ft (N / 64+1)))::(exF++((bs,.row .own 1 (u64s st4))::(exL++(exN++rest))))) ((List.Perm.swap _ _ _).trans (.cons _ (pm1 _ exF _)));have lf:xLd (.pointer (some ⟨bp,2,none⟩)) h5=some fv:=st6.ld (.head _) rfl;simp only[F114_9,ucons_cons,F114_7,xNil_p,vb_some,xFld_p,Nat.zero_add,lf];have st6p:=st6.perm (pm1 _ exF _);obtain⟨l,hl1,hl2,hl3⟩:=rp.fol;have hfs:r.follow.length<=200000:=by rw[hl1,List.length_append];omega
    refine Ret.gqapp st6p a4 bs172 ai172 rfl (sz_le (c:=200000) hfs (by decide)) fun h7 fv' exF' st7 gF'=>?_;have st7:=st7.perm (pm1 _ exF' _).symm;refine Ret.lst1 st7 0 rfl rfl (by simp) gF'.one fun h8 st8=>?_;have st8:Sl h0 h8 S1 m ((bp,.row .own 1 ([.int .i64 (N:Nat),slW bf (N / 64+1),fv',lv,nv]++tvs ft (N / 64+1)))::(exF'++((bs,.row .own 1 (u64s st4))::(exL++(exN++rest))))):=st8;refine loop114c (tks0:=r.tks) (m:=m) (st4:=st4) hn (.head _) (fun c hc=>?_) (List.mem_cons_of_mem _ (List.mem_append_right _ (.head _))) hs4 hN (by omega) (fun h9 m9 tks9 st9 tk9 hb9 hj9=>?_) 256 n 0 m h8 r.tks (by omega) (by omega) (by omega) st8 a3 rfl (fun d hd j=>by simp)
    ·show([.int .i64 (N:Nat),slW bf (N / 64+1),fv',lv,nv]++tvs ft (N / 64+1))[5+c]?=_
     rw[List.getElem?_append_right (by simp)];have:5+c- [Value.int .i64 (N:Nat),slW bf (N / 64+1),fv',lv,nv].length=c:=by simp
     rw[this,tvs_get hc]
    simp only[F114_4,vN_eq,xAdd_i,wrapN (show i<4611686018427387904 by have:=hin.sl;omega),vb_some];rw[<-hL];have st10:Sl h0 h9 S1 m9 ((bp,.row .own 1 ([.int .i64 (N:Nat),slW bf (N / 64+1),fv',lv,nv]++tvs ft (N / 64+1)))::(exF'++(exL++(exN++rest)))):=
     st9.drop (.cons_cons _ (List.Sublist.append (List.Sublist.refl _) (List.sublist_cons_self _ _)))
    refine ih q (i+1) S1 h9 m9 _ ⟨r.first,r.follow++[ws5],r.last,r.null,tks9⟩ (by omega) (by omega) (by omega) (le.trans le1) st10 ?_ ?_
    ·refine⟨bf,ft,fv',lv,nv,exF',exL,exN,cF++[.slice (some ⟨b5,0,none⟩) ws5.length ws5.length],cL,rfl,hb9.trans a1,a2,tk9,?_,?_,a6,fun q ws hq=>?_,a8⟩
     ·show Gq fv' (r.follow++[ws5]).length _ exF'
      rw[List.length_append];exact gF'
     ·intro q ws hq;have hq:(r.follow++[ws5])[q]?=some ws:=hq;have hlF:=a4.length
      by_cases hlt:q<r.follow.length
      ·rw[List.getElem?_append_left hlt]at hq;obtain⟨x,e1,e2⟩:=a5 q ws hq;exact⟨x,by rw[List.getElem?_append_left (by omega)];exact e1,e2.mono le1⟩
      ·rw[List.getElem?_append_right (by omega)]at hq;have hi0:q-r.follow.length=0:=by
        have:=(List.getElem?_eq_some_iff.1 hq).1;simp at this;omega
       rw[hi0]at hq;obtain rfl:ws5=ws:=by simpa using hq
       refine⟨_,?_,hb5⟩;rw[List.getElem?_append_right (by omega),show q-cF.length=0 by omega];rfl
     ·obtain⟨x,e1,e2⟩:=a7 q ws hq;exact⟨x,e1,e2.mono le1⟩
    ·refine⟨rp.first,rp.last,rp.null,⟨l++[ws5],by show r.follow++[ws5]=_;rw[hl1,List.append_assoc],by simp[hl2],fun y ws hy=>?_⟩,fun c hc j=>?_⟩
     ·by_cases hlt:y<l.length
      ·rw[List.getElem?_append_left hlt]at hy;exact hl3 y ws hy
      ·rw[List.getElem?_append_right (by omega)]at hy;have hi0:y-l.length=0:=by
        have:=(List.getElem?_eq_some_iff.1 hy).1;simp at this;omega
       rw[hi0]at hy;obtain rfl:ws5=ws:=by simpa using hy
       have:y=i:=by omega
       subst this;exact⟨k5,hj5⟩
     ·show hs (tks9 c) j=true↔_
      rw[hj9 c hc,rp.tks c hc];have hT:takesB po c i=hasB st4 c:=by unfold takesB;rw[hD];simp[hi]
      constructor
      ·rintro((h|⟨y,h1,h2,h3⟩)|⟨h1,h2⟩)
       ·exact .inl h
       ·exact .inr ⟨y,by omega,h2,h3⟩
       ·exact .inr ⟨i,by omega,by rw[hT];exact h1,h2⟩
      ·rintro(h|⟨y,y1,y2,y3⟩)
       ·exact .inl (.inl h)
       ·by_cases e:y=i
        ·rw[e,hT]at y2;exact .inr ⟨y2,by rw[y3,e]⟩
        ·exact .inl (.inr ⟨y,by omega,y2,y3⟩)
   have hx1':(x1,AObj.row .own 1 ps)∈rows:=by rw[hrows];exact .tail _ (List.mem_append_right _ (List.mem_append_right _ (List.mem_append_right _ hx1)))
   obtain⟨sv',fv0,lv0,wv,wl,hps,p1,p2,p3,p4,p5,p6⟩:=hp;have lw:xLd (.pointer (some ⟨x1,4,none⟩)) h4=some wv:=st4'.ld (.tail _ (.tail _ hx1')) (by rw[hps];rfl);simp only[jn_eq,F114_10,xFld_p,Nat.zero_add,lw,vb_some,p4.len,xLt_i];have hrl:(List.replicate (N / 64+1) 0).length=N / 64+1:=by simp
   by_cases hfi:i<po.follow.length
   ·have d1:decide (((i:Nat):Int)<((wl.length:Nat):Int))=true:=by simp;omega
    have hfy:=List.getElem?_eq_getElem hfi;have hDf:po.follow.getD i []=po.follow[i]:=by simp[List.getD_eq_getElem?_getD,hfy]
    have hfm:=hfl _ (List.getElem_mem hfi);obtain⟨w,g1,g2⟩:=p6 i _ hfy;obtain⟨b3,o3,cs3,e1,e2,e3⟩:=p4.at (k:=.i64) g1;have l5:=st4'.ldS (le _ _ e2) e3;simp only[d1,bite_t,F114_8,xFld_p,Nat.zero_add,lw,vb_some,e1,l5];have:=st4'.ok;have le4:Vw.le S (vall S (over ((b54,.row .own 1 (bw (List.replicate (N / 64+1) 0)))::(bs,.row .own 1 (u64s st4))::rows) m)):=st4'.sm.S_all;refine Ret.lfcall st4' (f138 (n:=n) (cl:=cl) (h:=h4.fzn) (S:=vall S (over ((b54,.row .own 1 (bw (List.replicate (N / 64+1) 0)))::(bs,.row .own 1 (u64s st4))::rows) m)) hn st4'.fz (vall_m (st4'.mem (.tail _ hmem))) rfl (by omega) ((g2.mono le).mono le4) hfm hfn) fun v h5 ex ⟨b5,ws5,hv,he,k5,hj5⟩ st5=>?_;subst hv;subst he;have st5:Sl h0 h5 S m ((b5,.row .own 1 (bw ws5))::(b54,.row .own 1 (bw (List.replicate (N / 64+1) 0)))::(bs,.row .own 1 (u64s st4))::rows):=st5;exact go h5 b5 ws5 undef (st5.drop (.cons_cons _ (List.sublist_cons_self _ _))) k5 (fun j=>by rw[hDf];exact hj5 j)
   ·have d1:decide (((i:Nat):Int)<((wl.length:Nat):Int))=false:=by simp;omega
    have hDf:po.follow.getD i []=[]:=by rw[List.getD_eq_getElem?_getD,List.getElem?_eq_none (by omega)];rfl
    simp only[d1,bite_f];have:=go h4 b54 (List.replicate (N / 64+1) 0) undef st4' (Bk.rep N) (fun j=>by rw[hs_rep,hDf];simp);rw[hrl]at this;exact this
  ·exact ih q i S h m rows r (by omega) (by omega) h3 le st rm rp
end
structure Rq(po:Po)(from' N:Nat)(r0 r:Rr):Prop where
 fk:Bk N r.first
 first: ∀j,hs r.first j=true↔hs r0.first j=true\/ ∃y∈po.first,y<po.sets.length/\j=from'+y
 last: ∃w,r.last=r0.last++[w]/\Bk N w/\ ∀j,hs w j=true↔ ∃y∈po.last,y<po.sets.length/\j=from'+y
 null:r.null=r0.null++[po.null]
 fol: ∃l,r.follow=r0.follow++l/\l.length=po.sets.length/\ ∀(y:Nat) ws,l[y]?=some ws->Bk N ws/\ ∀j,hs ws j=true↔ ∃z∈po.follow.getD y [],z<po.sets.length/\j=from'+z
 tks: ∀c,c<256-> ∀j,hs (r.tks c) j=true↔hs (r0.tks c) j=true\/ ∃y,y<po.sets.length/\takesB po c y=true/\j=from'+y
theorem bs151'{b:Bool}:bsRow Tryz.prog 151 1 [(0,.bool b)]=some (1,[.bool b]):=by cases b<;>kernel_rfl
section
variable {Q:Value->PH->Prop}{n:Nat}{cl cl' cl'':CL}{h h0:PH}{S:Vw}{m:OM}{rows rest:Rws}{K2:Value->PH->R}
theorem c114(hn:4611686018427387904<=n){bp from' N:Nat}{po:Po}{ps:List Value}{r:Rr}(st:Sl h0 h S m rows)(rm:Rm S m bp rows rest N r)(hN:N<100000)(hfn:from'+po.sets.length<=N)(hin:po.In)(hp:PoV S po ps)(hf0:r.follow.length+po.sets.length<=200000)(hl0:r.last.length<=1000)(hn0:r.null.length<=1000):
  Ret (F114 n cl (pt bp) (.agg ⟨ps⟩) (.int .i64 (from':Nat)) h) fun v h'=> ∃S' m' rows' r',v= .tuple ⟨[]⟩/\Vw.le S S'/\Sl h0 h' S' m' rows'/\Rm S' m' bp rows' rest N r'/\Rq po from' N r r':=by
 unfold F114;refine Ret.lbox st fun h1 x1 st1=>?_;have st1:Sl h0 h1 S m ((x1,.row .own 1 ps)::rows):=st1;obtain⟨bf,ft,fv,lv,nv,exF,exL,exN,cF,cL,rfl,a1,a2,a3,a4,a5,a6,a7,a8⟩:=rm;have hp0:=hp;obtain⟨sv,xf,xl,wv,wl,rfl,p1,p2,p3,p4,p5,p6⟩:=hp;have e0:xLd (.pointer (some ⟨x1,0,none⟩)) h1=some sv:=st1.ld (.head _) rfl;have e2:xLd (.pointer (some ⟨x1,2,none⟩)) h1=some xf:=st1.ld (.head _) rfl;have e1:xLd (.pointer (some ⟨bp,1,none⟩)) h1=some (slW bf (N / 64+1)):=st1.ld (.tail _ (.head _)) rfl;simp only[xFld_p,Nat.zero_add,vb_some,e0,p1.len,xNil_p,e1,e2];have:=st1.ok;have hmem:(bp,AObj.row .own 1 ([.int .i64 (N:Nat),slW bf (N / 64+1),fv,lv,nv]++tvs ft (N / 64+1)))∈(x1,AObj.row .own 1 [sv,.bool po.null,xf,xl,wv])::(bp,AObj.row .own 1 ([.int .i64 (N:Nat),slW bf (N / 64+1),fv,lv,nv]++tvs ft (N / 64+1)))::(exF++(exL++(exN++rest))):=.tail _ (.head _);have hS1:=st1.sm.S_all;refine Ret.lfcall st1 (f138 (n:=n) (cl:=cl) (h:=h1.fzn) hn st1.fz (vall_m (st1.mem hmem)) rfl (by omega) (p2.mono hS1) hin.fl hfn) fun v h2 ex ⟨b10,ws10,hv,he,k10,hj10⟩ st2=>?_;subst hv;subst he;have st2:Sl h0 h2 S m ((b10,.row .own 1 (bw ws10))::(x1,.row .own 1 [sv,.bool po.null,xf,xl,wv])::(bp,.row .own 1 ([.int .i64 (N:Nat),slW bf (N / 64+1),fv,lv,nv]++tvs ft (N / 64+1)))::(exF++(exL++(exN++rest)))):=st2;have e1':xLd (.pointer (some ⟨bp,1,none⟩)) h2=some (slW bf (N / 64+1)):=st2.ld (.tail _ (.tail _ (.head _))) rfl;rw[e1',lchk_t (show Go.Am.veq (slW bf (N / 64+1)) (slW bf (N / 64+1))=true from veq_sl)];obtain⟨S2,le2,st3,hb10⟩:=Bx.settle (c:=ws10.length) st2;have e:slW bf (N / 64+1)= .slice (some ⟨bf,0,none⟩) r.first.length (N / 64+1):=by unfold slW;rw[a2.len]
 have hstep:Ret (F137 n cl (slW bf (N / 64+1)) (.slice (some ⟨b10,0,none⟩) ws10.length ws10.length) h2) fun v h'=>v= .tuple ⟨[]⟩/\Sl h0 h' S2 (m.upd bf (.row .own 1 (bw (List.zipWith (· ||| ·) r.first ws10)))) ((x1,.row .own 1 [sv,.bool po.null,xf,xl,wv])::(bp,.row .own 1 ([.int .i64 (N:Nat),slW bf (N / 64+1),fv,lv,nv]++tvs ft (N / 64+1)))::(exF++(exL++(exN++rest)))):=by
  have:=c137 (n:=n) (cl:=cl) (c:=N / 64+1) hn st3 rfl a1 hb10.slv (a2.same k10) a2.wd k10.wd (by rw[a2.len];omega);rw[a2.len]at this;exact this
 refine Ret.hb hstep fun v h3 ⟨hv,st4⟩=>?_;subst hv;have kF:=a2.or k10;have tk4:Tk (m.upd bf (.row .own 1 (bw (List.zipWith (· ||| ·) r.first ws10)))) N bf ft r.tks:=⟨fun c hc=>by rw[OM.upd_ne (a3.ne c hc)];exact a3.row c hc,a3.bk,a3.ne,a3.inj⟩;have e3:xLd (.pointer (some ⟨bp,3,none⟩)) h3=some lv:=st4.ld (.tail _ (.head _)) rfl;have e4:xLd (.pointer (some ⟨x1,3,none⟩)) h3=some xl:=st4.ld (.head _) rfl;simp only[xFld_p,Nat.zero_add,vb_some,xNil_p,e3,e4];have:=st4.ok;have hS4:=st4.sm.S_all;refine Ret.lfcall st4 (f138 (n:=n) (cl:=cl) (h:=h3.fzn) hn st4.fz (vall_m (st4.mem hmem)) rfl (by omega) ((p3.mono le2).mono hS4) hin.ll hfn) fun v h5 ex ⟨b17,ws17,hv,he,k17,hj17⟩ st5=>?_;subst hv;subst he;have st5:Sl h0 h5 S2 (m.upd bf (.row .own 1 (bw (List.zipWith (· ||| ·) r.first ws10)))) ((b17,.row .own 1 (bw ws17))::(x1,.row .own 1 [sv,.bool po.null,xf,xl,wv])::(bp,.row .own 1 ([.int .i64 (N:Nat),slW bf (N / 64+1),fv,lv,nv]++tvs ft (N / 64+1)))::(exF++(exL++(exN++rest)))):=st5;have e3':xLd (.pointer (some ⟨bp,3,none⟩)) h5=some lv:=st5.ld (.tail _ (.tail _ (.head _))) rfl;rw[e3',lchk_t a6.veq];obtain⟨S3,le3,st6,hb17⟩:=Bx.settle (c:=ws17.length) st5;have st6:=st6.perm (rows':=(bp,.row .own 1 ([.int .i64 (N:Nat),slW bf (N / 64+1),fv,lv,nv]++tvs ft (N / 64+1)))::(exF++(exL++(exN++((x1,.row .own 1 [sv,.bool po.null,xf,xl,wv])::rest))))) (by
  refine(List.Perm.swap _ _ _).trans (.cons _ ?_);have h1:=pm1 (x1,AObj.row .own 1 [sv,.bool po.null,xf,xl,wv]) (exF++(exL++exN)) rest;simpa[List.append_assoc]using h1)
 have st6p:=st6.perm (pm2 _ exF exL _);refine Ret.gqapp st6p a6 bs172 ai172 rfl (sz_le (c:=1000) hl0 (by decide)) fun h7 lv' exL' st7 gL'=>?_;have st7:=st7.perm (pm2 _ exF exL' _).symm;refine Ret.lst1 st7 0 rfl rfl (by simp) gL'.one fun h8 st8=>?_;have st8:Sl h0 h8 S3 (m.upd bf (.row .own 1 (bw (List.zipWith (· ||| ·) r.first ws10)))) ((bp,.row .own 1 ([.int .i64 (N:Nat),slW bf (N / 64+1),fv,lv',nv]++tvs ft (N / 64+1)))::(exF++(exL'++(exN++((x1,.row .own 1 [sv,.bool po.null,xf,xl,wv])::rest))))):=st8;have hx1:(x1,AObj.row .own 1 [sv,.bool po.null,xf,xl,wv])∈(bp,AObj.row .own 1 ([.int .i64 (N:Nat),slW bf (N / 64+1),fv,lv',nv]++tvs ft (N / 64+1)))::(exF++(exL'++(exN++((x1,AObj.row .own 1 [sv,.bool po.null,xf,xl,wv])::rest)))):=
  .tail _ (List.mem_append_right _ (List.mem_append_right _ (List.mem_append_right _ (.head _))))
 have e5:xLd (.pointer (some ⟨bp,4,none⟩)) h8=some nv:=st8.ld (.head _) rfl;have e6:xLd (.pointer (some ⟨x1,1,none⟩)) h8=some (.bool po.null):=st8.ld hx1 rfl;simp only[xFld_p,Nat.zero_add,vb_some,xNil_p,e5,e6];have st8p:=st8.perm (pm3 _ exF exL' exN _);refine Ret.gqapp st8p a8 bs151' ai151 rfl (sz_le (c:=1000) hn0 (by decide)) fun h9 nv' exN' st9 gN'=>?_;have st9:=st9.perm (pm3 _ exF exL' exN' _).symm;refine Ret.lst1 st9 0 rfl rfl (by simp) gN'.one fun h10 st10=>?_;have st10:Sl h0 h10 S3 (m.upd bf (.row .own 1 (bw (List.zipWith (· ||| ·) r.first ws10)))) ((bp,.row .own 1 ([.int .i64 (N:Nat),slW bf (N / 64+1),fv,lv',nv']++tvs ft (N / 64+1)))::(exF++(exL'++(exN'++((x1,.row .own 1 [sv,.bool po.null,xf,xl,wv])::rest))))):=st10;have hx1':(x1,AObj.row .own 1 [sv,.bool po.null,xf,xl,wv])∈(bp,AObj.row .own 1 ([.int .i64 (N:Nat),slW bf (N / 64+1),fv,lv',nv']++tvs ft (N / 64+1)))::(exF++(exL'++(exN'++((x1,AObj.row .own 1 [sv,.bool po.null,xf,xl,wv])::rest)))):=
  .tail _ (List.mem_append_right _ (List.mem_append_right _ (List.mem_append_right _ (.head _))))
 have e7:xLd (.pointer (some ⟨x1,0,none⟩)) h10=some sv:=st10.ld hx1' rfl;simp only[xFld_p,Nat.zero_add,vb_some,e7,p1.len,vN_eq];have leT:Vw.le S S3:=le2.trans le3;refine loop114p (rest:=(x1,.row .own 1 [sv,.bool po.null,xf,xl,wv])::rest) (S0:=S3) (r0:=⟨List.zipWith (· ||| ·) r.first ws10,r.follow,r.last++[ws17],r.null++[po.null],r.tks⟩) hn hN hfn hin (hp0.mono leT) (.head _) hf0 hin.wll (fun S' h' m' rows' r' le' st' rm' rp'=>?_) (p1.mono leT) po.sets.length n 0 S3 h10 _ _ ⟨List.zipWith (· ||| ·) r.first ws10,r.follow,r.last++[ws17],r.null++[po.null],r.tks⟩ (by omega) (by have:=hin.sl;omega) (Nat.zero_le _) (Vw.le.refl _) st10 ?_ ?_
 ·obtain⟨A,hA,hfr⟩:=rm'.frame;subst hA;refine⟨S',m',A++rest,r',rfl,leT.trans le',st'.drop (List.Sublist.append (List.Sublist.refl _) (List.sublist_cons_self _ _)),hfr rest,⟨?_,?_,⟨ws17,rp'.last,k17,hj17⟩,rp'.null,rp'.fol,rp'.tks⟩⟩
  ·rw[rp'.first];exact kF
  ·intro j;rw[rp'.first]
   show hs (List.zipWith (· ||| ·) r.first ws10) j=true↔_
   rw[hs_or (a2.same k10),Bool.or_eq_true,hj10]
 ·refine⟨bf,ft,fv,lv',nv',exF,exL',exN',cF,cL++[.slice (some ⟨b17,0,none⟩) ws17.length ws17.length],rfl,OM.upd_self,kF,tk4,a4,fun i ws hi=>?_,?_,fun i ws hi=>?_,?_⟩
  ·obtain⟨x,q1,q2⟩:=a5 i ws hi;exact⟨x,q1,q2.mono leT⟩
  ·show Gq lv' (r.last++[ws17]).length _ exL'
   rw[List.length_append];exact gL'
  ·have hi:(r.last++[ws17])[i]?=some ws:=hi;have hlL:=a6.length
   by_cases hlt:i<r.last.length
   ·rw[List.getElem?_append_left hlt]at hi;obtain⟨x,q1,q2⟩:=a7 i ws hi;exact⟨x,by rw[List.getElem?_append_left (by omega)];exact q1,q2.mono leT⟩
   ·rw[List.getElem?_append_right (by omega)]at hi;have hi0:i-r.last.length=0:=by
     have:=(List.getElem?_eq_some_iff.1 hi).1;simp at this;omega
    rw[hi0]at hi;obtain rfl:ws17=ws:=by simpa using hi
    refine⟨_,?_,hb17⟩;rw[List.getElem?_append_right (by omega),show i-cL.length=0 by omega];rfl
  ·show Gq nv' (r.null++[po.null]).length (bvs (r.null++[po.null])) exN'
   have e:bvs (r.null++[po.null])=bvs r.null++[.bool po.null]:=by simp[bvs]
   rw[List.length_append,e];exact gN'
 ·exact⟨rfl,rfl,rfl,⟨[],by simp,rfl,fun y ws hy=>by simp at hy⟩,fun c hc j=>by simp⟩
end
def tot:List Po->Nat
 | []=>0
 |po::l=>po.sets.length+tot l
theorem tot_app: ∀(a b:List Po),tot (a++b)=tot a+tot b
 | [],b=>by simp[tot]
 |x::a,b=>by
  show x.sets.length+tot (a++b)=x.sets.length+tot a+tot b
  rw[tot_app a b];omega
def off(l:List Po)(k:Nat):Nat:=tot (l.take k)
theorem off_succ{l:List Po}{k:Nat}{po:Po}(h:l[k]?=some po):off l (k+1)=off l k+po.sets.length:=by
 unfold off;rw[List.take_add_one,h,tot_app]
 show tot (l.take k)+(po.sets.length+0)=_
 omega
theorem off_le{l:List Po}{k:Nat}:off l k<=tot l:=by
 unfold off;have:=tot_app (l.take k) (l.drop k);rw[List.take_append_drop]at this;omega
theorem off_lt{l:List Po}{k y:Nat}{po:Po}(h:l[k]?=some po)(hy:y<po.sets.length):off l k+y<tot l:=by
 have h1:=off_succ h;have h2:=off_le (l:=l) (k:=k+1);omega
theorem off_mono{l:List Po}{i j:Nat}(h:i<=j):off l i<=off l j:=by
 unfold off;have e:l.take i=(l.take j).take i:=by rw[List.take_take,Nat.min_eq_left h]
 have:=tot_app ((l.take j).take i) ((l.take j).drop i);rw[List.take_append_drop, <-e]at this;omega
theorem off_inj{l:List Po}{i j y z:Nat}{p q:Po}(hi:l[i]?=some p)(hj:l[j]?=some q)(hy:y<p.sets.length)(hz:z<q.sets.length)(e:off l i+y=off l j+z):i=j/\y=z:=by
 have h1:=off_succ hi;have h2:=off_succ hj;have:i=j:=by
  rcases Nat.lt_trichotomy i j with h|h|h
  ·have:=off_mono (l:=l) (show i+1<=j from h);omega
  ·exact h
  ·have:=off_mono (l:=l) (show j+1<=i from h);omega
 subst this;exact⟨rfl,by omega⟩
theorem off_app{l:List Po}{po:Po}{k:Nat}(h:k<=l.length):off (l++[po]) k=off l k:=by
 unfold off;rw[List.take_append_of_le_length h]
theorem get_snoc{l:List Po}{po q:Po}{k:Nat}:(l++[po])[k]?=some q↔(k<l.length/\l[k]?=some q)\/(k=l.length/\q=po):=by
 constructor
 ·intro h
  by_cases hlt:k<l.length
  ·rw[List.getElem?_append_left hlt]at h;exact .inl ⟨hlt,h⟩
  ·rw[List.getElem?_append_right (by omega)]at h;have hi0:k-l.length=0:=by
    have:=(List.getElem?_eq_some_iff.1 h).1;simp at this;omega
   rw[hi0]at h;exact .inr ⟨by omega,by simpa using h.symm⟩
 ·rintro(⟨h1,h2⟩|⟨rfl,rfl⟩)
  ·rw[List.getElem?_append_left h1];exact h2
  ·rw[List.getElem?_append_right (Nat.le_refl _),Nat.sub_self];rfl
structure RdOk(N:Nat)(l:List Po)(r:Rr):Prop where
 fk:Bk N r.first
 first: ∀j,hs r.first j=true↔ ∃k po y,l[k]?=some po/\y∈po.first/\y<po.sets.length/\j=off l k+y
 ll:r.last.length=l.length
 last: ∀(k:Nat) w,r.last[k]?=some w->Bk N w/\ ∀j,hs w j=true↔ ∃po y,l[k]?=some po/\y∈po.last/\y<po.sets.length/\j=off l k+y
 null:r.null=l.map (·.null)
 fl:r.follow.length=tot l
 fol: ∀(g:Nat) w,r.follow[g]?=some w->Bk N w/\ ∀j,hs w j=true↔ ∃k po y z,l[k]?=some po/\y<po.sets.length/\g=off l k+y/\z∈po.follow.getD y []/\z<po.sets.length/\j=off l k+z
 tks: ∀c,c<256-> ∀j,hs (r.tks c) j=true↔ ∃k po y,l[k]?=some po/\y<po.sets.length/\takesB po c y=true/\j=off l k+y
theorem RdOk.step{N:Nat}{l:List Po}{po:Po}{r0 r:Rr}(h:RdOk N l r0)(hq:Rq po (tot l) N r0 r):RdOk N (l++[po]) r:=by
 have offl:off (l++[po]) l.length=tot l:=by rw[off_app (Nat.le_refl _)];unfold off;rw[List.take_length]
 obtain⟨wl,hl1,hl2,hl3⟩:=hq.last;obtain⟨lf,hf1,hf2,hf3⟩:=hq.fol;refine⟨hq.fk,fun j=>?_,?_,fun k w hk=>?_,?_,?_,fun g w hg=>?_,fun c hc j=>?_⟩
 ·rw[hq.first,h.first];constructor
  ·rintro(⟨k,q,y,h1,h2,h3,h4⟩|⟨y,h1,h2,h3⟩)
   ·have hk:=(List.getElem?_eq_some_iff.1 h1).1;exact⟨k,q,y,get_snoc.2 (.inl ⟨hk,h1⟩),h2,h3,by rw[off_app (by omega)];exact h4⟩
   ·exact⟨l.length,po,y,get_snoc.2 (.inr ⟨rfl,rfl⟩),h1,h2,by rw[offl];exact h3⟩
  ·rintro⟨k,q,y,h1,h2,h3,h4⟩;rcases get_snoc.1 h1 with⟨hk,h1⟩|⟨rfl,rfl⟩
   ·exact .inl ⟨k,q,y,h1,h2,h3,by rw[off_app (by omega)]at h4;exact h4⟩
   ·exact .inr ⟨y,h2,h3,by rw[offl]at h4;exact h4⟩
 ·rw[hl1,List.length_append,List.length_append,h.ll];rfl
 ·rw[hl1]at hk;have hll:=h.ll
  by_cases hlt:k<r0.last.length
  ·rw[List.getElem?_append_left hlt]at hk;obtain⟨q1,q2⟩:=h.last k w hk;refine⟨q1,fun j=>?_⟩;rw[q2];have e:(l++[po])[k]?=l[k]?:=List.getElem?_append_left (by omega);rw[e,off_app (by omega)]
  ·rw[List.getElem?_append_right (by omega)]at hk;have hi0:k-r0.last.length=0:=by
    have:=(List.getElem?_eq_some_iff.1 hk).1;simp at this;omega
   rw[hi0]at hk;obtain rfl:wl=w:=by simpa using hk
   have hkl:k=l.length:=by omega
   subst hkl;refine⟨hl2,fun j=>?_⟩;rw[hl3,offl];constructor
   ·rintro⟨y,h1,h2,h3⟩;exact⟨po,y,get_snoc.2 (.inr ⟨rfl,rfl⟩),h1,h2,h3⟩
   ·rintro⟨q,y,h0,h1,h2,h3⟩;rcases get_snoc.1 h0 with⟨hk,_⟩|⟨_,rfl⟩
    ·omega
    ·exact⟨y,h1,h2,h3⟩
 ·rw[hq.null,h.null];simp
 ·rw[hf1,List.length_append,h.fl,hf2,tot_app];simp[tot]
 ·rw[hf1]at hg;have hfl:=h.fl
  by_cases hlt:g<r0.follow.length
  ·rw[List.getElem?_append_left hlt]at hg;obtain⟨q1,q2⟩:=h.fol g w hg;refine⟨q1,fun j=>?_⟩;rw[q2];constructor
   ·rintro⟨k,q,y,z,h1,h2,h3,h4,h5,h6⟩;have hk:=(List.getElem?_eq_some_iff.1 h1).1;have e:=off_app (l:=l) (po:=po) (k:=k) (by omega);exact⟨k,q,y,z,get_snoc.2 (.inl ⟨hk,h1⟩),h2,by rw[e];exact h3,h4,h5,by rw[e];exact h6⟩
   ·rintro⟨k,q,y,z,h1,h2,h3,h4,h5,h6⟩;rcases get_snoc.1 h1 with⟨hk,h1⟩|⟨rfl,rfl⟩
    ·have e:=off_app (l:=l) (po:=po) (k:=k) (by omega);rw[e]at h3 h6;exact⟨k,q,y,z,h1,h2,h3,h4,h5,h6⟩
    ·rw[offl]at h3;omega
  ·rw[List.getElem?_append_right (by omega)]at hg;obtain⟨q1,q2⟩:=hf3 _ w hg;have hgl:=(List.getElem?_eq_some_iff.1 hg).1;refine⟨q1,fun j=>?_⟩;rw[q2];constructor
   ·rintro⟨z,h1,h2,h3⟩;exact⟨l.length,po,g-r0.follow.length,z,get_snoc.2 (.inr ⟨rfl,rfl⟩),by omega,by rw[offl];omega,h1,h2,by rw[offl];exact h3⟩
   ·rintro⟨k,q,y,z,h1,h2,h3,h4,h5,h6⟩;rcases get_snoc.1 h1 with⟨hk,h1⟩|⟨rfl,rfl⟩
    ·rw[off_app (by omega)]at h3;have:=off_lt h1 h2;omega
    ·rw[offl]at h3 h6;have:g-r0.follow.length=y:=by omega
     rw[this];exact⟨z,h4,h5,h6⟩
 ·rw[hq.tks c hc,h.tks c hc];constructor
  ·rintro(⟨k,q,y,h1,h2,h3,h4⟩|⟨y,h1,h2,h3⟩)
   ·have hk:=(List.getElem?_eq_some_iff.1 h1).1;exact⟨k,q,y,get_snoc.2 (.inl ⟨hk,h1⟩),h2,h3,by rw[off_app (by omega)];exact h4⟩
   ·exact⟨l.length,po,y,get_snoc.2 (.inr ⟨rfl,rfl⟩),h1,h2,by rw[offl];exact h3⟩
  ·rintro⟨k,q,y,h1,h2,h3,h4⟩;rcases get_snoc.1 h1 with⟨hk,h1⟩|⟨rfl,rfl⟩
   ·exact .inl ⟨k,q,y,h1,h2,h3,by rw[off_app (by omega)]at h4;exact h4⟩
   ·exact .inr ⟨y,h2,h3,by rw[offl]at h4;exact h4⟩
def PoL(V:Vw)(v:Value)(l:List Po):Prop:=(l=[]/\ ∃a c,v= .slice a 0 c)\/ ∃b o c cs,v= .slice (some ⟨b,o,none⟩) l.length c/\V b=some cs/\o+l.length*5<=cs.length/\ ∀(i:Nat) po,l[i]?=some po->PoV V po ((cs.drop (o+i*5)).take 5)
theorem PoL.len{V:Vw}{v:Value}{l:List Po}(h:PoL V v l):xLenS v=some (.int .i64 (l.length:Nat)):=by
 rcases h with⟨rfl,a,c,rfl⟩|⟨b,o,c,cs,rfl,_⟩<;>simp
theorem PoL.at{V:Vw}{v:Value}{l:List Po}(h:PoL V v l){i:Nat}{po:Po}(hi:l[i]?=some po): ∃b o cs ps,xIdxS 5 v (.int .i64 (i:Nat))=some (.pointer (some ⟨b,o,none⟩))/\V b=some cs/\(cs.drop o).take 5=ps/\o+5<=cs.length/\PoV V po ps:=by
 have hlt:=(List.getElem?_eq_some_iff.1 hi).1;rcases h with⟨rfl,_⟩|⟨b,o,c,cs,rfl,h2,h3,h4⟩
 ·simp at hi
 ·refine⟨b,o+i*5,cs,_,?_,h2,rfl,by omega,h4 i po hi⟩;rw[xIdxS_at (by omega) (by omega)];simp
def z88(N:Nat)(fv:Value):List Value:=[.int .i64 (N:Nat),fv,nils,nils,nils]
theorem ab176:abuild Tryz.prog 176 []=some (.agg ⟨z88 0 nils++List.replicate 256 nils⟩):=by kernel_rfl
theorem z88_lt{N i:Nat}{v:Value}(hi:i<5):i<(z88 N v++List.replicate 256 nils).length:=by
 rw[List.length_append];have:(z88 N v).length=5:=rfl;omega
structure PpOf(l:List Po)(p:Pp):Prop where
 ok:p.Ok
 N:p.N=tot l
 first: ∀j,hs p.first j=true↔ ∃k po y,l[k]?=some po/\y∈po.first/\y<po.sets.length/\j=off l k+y
 ll:p.last.length=l.length
 last: ∀(k:Nat) w,p.last[k]?=some w-> ∀j,hs w j=true↔ ∃po y,l[k]?=some po/\y∈po.last/\y<po.sets.length/\j=off l k+y
 null:p.null=l.map (·.null)
 fol: ∀(g:Nat) w,p.follow[g]?=some w-> ∀j,hs w j=true↔ ∃k po y z,l[k]?=some po/\y<po.sets.length/\g=off l k+y/\z∈po.follow.getD y []/\z<po.sets.length/\j=off l k+z
 tks: ∀c,c<256-> ∀j,hs (p.takes.getD c []) j=true↔ ∃k po y,l[k]?=some po/\y<po.sets.length/\takesB po c y=true/\j=off l k+y
section
variable {Q:Value->PH->Prop}{n:Nat}{cl cl' cl'':CL}{h h0:PH}{S:Vw}{m:OM}{rows rest:Rws}{K2:Value->PH->R}
theorem Tk.settle{N bf:Nat}{ft:Nat->Nat}{tks:Nat->List Nat}(st:Sl h0 h S m rows)(tk:Tk m N bf ft tks): ∀k,k<=256-> ∃S' m',Vw.le S S'/\Sl h0 h S' m' rows/\(∀c,c<k->S' (ft c)=some (bw (tks c)))/\(∀c,k<=c->c<256->m' (ft c)=m (ft c))/\m' bf=m bf
 |0,_=>⟨S,m,Vw.le.refl _,st,by omega,fun c _ _=>rfl,rfl⟩
 |k+1,hk=>by
  obtain⟨S',m',le,st',h1,h2,h3⟩:=Tk.settle st tk k (by omega);obtain⟨st2,hS⟩:=st'.settleB (b:=ft k) ((h2 k (Nat.le_refl _) (by omega)).trans (tk.row k (by omega)));have le2:Vw.le S' (S'.put (ft k) (bw (tks k))):=Vw.le_put hS;refine⟨_,_,le.trans le2,st2,fun c hc=>?_,fun c hc hc2=>?_,?_⟩
  ·by_cases e:c=k
   ·subst e;exact Vw.put_self
   ·exact le2 _ _ (h1 c (by omega))
  ·rw[OM.del_ne (fun e=>by have:=tk.inj c k hc2 (by omega) e;omega)];exact h2 c (by omega) hc2
  ·rw[OM.del_ne (tk.ne k (by omega)).symm];exact h3
theorem loop88a(hn:4611686018427387904<=n){bp:Nat}{av:Value}{l:List Po}(hav:PoL S av l)(hl:l.length<=1000)(hsz:tot l<100000)
  (hk: ∀h',Sl h0 h' S OM.emp ((bp,.row .own 1 (z88 (tot l) nils++List.replicate 256 nils))::rows)->Ret (F88_8 n cl (pt bp) av h') Q):
  ∀(k q i:Nat)(h:PH),l.length-i<=k->k<q->i<=l.length->Sl h0 h S OM.emp ((bp,.row .own 1 (z88 (off l i) nils++List.replicate 256 nils))::rows)->
   Ret (lp q (F88_10 n cl) [av,pt bp,av,.int .i64 (l.length:Nat),.int .i64 (i:Nat)] h) Q:=by
 intro k
 induction k with
 |zero=>
  intro q i h h1 h2 h3 st;obtain⟨q,rfl⟩: ∃r,q=r+1:=⟨q-1,by omega⟩;rw[lp_succ];have dc:decide (((i:Nat):Int)<((l.length:Nat):Int))=false:=by simp;omega
  simp only[F88_10,F88_9,ucons_cons,xLt_i,dc,vb_some,bite_f];have e:off l i=tot l:=by unfold off;rw[List.take_of_length_le (by omega)]
  rw[e]at st;exact hk h st
 |succ k ih=>
  intro q i h h1 h2 h3 st
  by_cases hi:i<l.length
  ·obtain⟨q,rfl⟩: ∃r,q=r+1:=⟨q-1,by omega⟩;rw[lp_succ];generalize hL:lp q (F88_10 n cl)=LL;have dc:decide (((i:Nat):Int)<((l.length:Nat):Int))=true:=by simp;omega
   have hx:=List.getElem?_eq_getElem hi;have hos:=off_succ hx;have hol:=off_le (l:=l) (k:=i+1);generalize l[i]=po at hx hos;obtain⟨b,o,cs,ps,e1,e2,e3,e4,hpo⟩:=hav.at hx;have la:=st.ldSA e2 e3 e4;have hps:=hpo.ps;simp only[F88_10,F88_9,F88_0,ucons_cons,xLt_i,dc,vb_some,bite_t,e1,la];refine Ret.lalloc st zc90 fun h2 b2 st2=>?_;refine Ret.lstA st2 0 rfl rfl hps.1 (by simp) hps.2 fun h3 st3=>?_;rw[setsL_all (by rw[hps.1];rfl)]at st3;have st3:Sl h0 h3 S OM.emp ((b2,.row .own 1 ps)::(bp,.row .own 1 (z88 (off l i) nils++List.replicate 256 nils))::rows):=st3;obtain⟨sv,xf,xl,wv,wl,rfl,p1,_⟩:=hpo;have l0:xLd (.pointer (some ⟨bp,0,none⟩)) h3=some (.int .i64 (off l i:Nat)):=st3.ld (.tail _ (.head _)) rfl;have l1:xLd (.pointer (some ⟨b2,0,none⟩)) h3=some sv:=st3.ld (.head _) rfl;have ha:IntKind.i64.wrap (((off l i:Nat):Int)+((po.sets.length:Nat):Int))=((off l (i+1):Nat):Int):=by rw[wrap_in (by omega) (by omega)];omega
   simp only[xNil_p,vb_some,xFld_p,Nat.zero_add,l0,l1,p1.len,xAdd_i,ha];have st3:=st3.drop (List.sublist_cons_self _ _);refine Ret.lst1 st3 0 rfl rfl (z88_lt (by decide)) rfl fun h4 st4=>?_;simp only[vN_eq,xAdd_i,wrapN (show i<4611686018427387904 by omega),vb_some];rw[<-hL];exact ih q (i+1) h4 (by omega) (by omega) (by omega) st4
  ·exact ih q i h (by omega) (by omega) h3 st
theorem loop88b(hn:4611686018427387904<=n){bp bf N:Nat}{av:Value}(hN:N<100000)
  (hk: ∀h' m' ft,Sl h0 h' S m' ((bp,.row .own 1 (z88 N (slW bf (N / 64+1))++tvs ft (N / 64+1)))::rows)->Tk m' N bf ft (fun _=>List.replicate (N / 64+1) 0)->m' bf=some (.row .own 1 (bw (List.replicate (N / 64+1) 0)))->Ret (F88_5 n cl av (pt bp) h') Q):
  ∀(k q c:Nat)(m:OM)(h:PH)(ft:Nat->Nat)(cells:List Value),256-c<=k->k<q->c<=256->Sl h0 h S m ((bp,.row .own 1 cells)::rows)->cells.length=261->(∀i,i<5->cells[i]?=(z88 N (slW bf (N / 64+1)))[i]?)->(∀d,d<c->cells[5+d]?=some (slW (ft d) (N / 64+1)))->
   (∀d,d<c->m (ft d)=some (.row .own 1 (bw (List.replicate (N / 64+1) 0))))->(∀d,d<c->ft d≠bf)->(∀d e,d<c->e<c->ft d=ft e->d=e)->m bf=some (.row .own 1 (bw (List.replicate (N / 64+1) 0)))->
   Ret (lp q (F88_7 n cl) [av,pt bp,.int .i64 (c:Nat)] h) Q:=by
 intro k
 induction k with
 |zero=>
  intro q c m h ft cells h1 h2 h3 st hl hz ht hr hne hij hb;obtain⟨q,rfl⟩: ∃r,q=r+1:=⟨q-1,by omega⟩;rw[lp_succ];have hc:c=256:=by omega
  subst hc;have dc:decide (((256:Nat):Int)<((256:Nat):Int))=false:=by decide
  simp only[F88_7,F88_6,ucons_cons,vN_eq,xLt_i,dc,vb_some,bite_f];have e:cells=z88 N (slW bf (N / 64+1))++tvs ft (N / 64+1):=by
   apply List.ext_getElem?
   intro j
   by_cases h5:j<5
   ·rw[hz j h5,List.getElem?_append_left (by simp[z88];omega)]
   ·rw[List.getElem?_append_right (by simp[z88];omega)];have e5:(z88 N (slW bf (N / 64+1))).length=5:=rfl;rw[e5]
    by_cases hj:j-5<256
    ·have:=ht (j-5) hj;rw[show 5+(j-5)=j by omega]at this;rw[this,tvs_get hj]
    ·rw[List.getElem?_eq_none (by omega),List.getElem?_eq_none (by rw[tvs_len];omega)]
  rw[e]at st;exact hk h m ft st ⟨fun d hd=>hr d hd,fun d hd=>Bk.rep N,fun d hd=>hne d hd,fun d e hd he=>hij d e hd he⟩ hb
 |succ k ih=>
  intro q c m h ft cells h1 h2 h3 st hl hz ht hr hne hij hb
  by_cases hc:c<256
  ·obtain⟨q,rfl⟩: ∃r,q=r+1:=⟨q-1,by omega⟩;rw[lp_succ];generalize hL:lp q (F88_7 n cl)=LL;have dc:decide (((c:Nat):Int)<((256:Nat):Int))=true:=by simp;omega
   simp only[F88_7,F88_6,F88_1,ucons_cons,vN_eq,xLt_i,dc,vb_some,bite_t,xNil_p,xFld_p,Nat.zero_add];have:=st.ok;have h0c:cells[0]?=some (.int .i64 (N:Nat)):=hz 0 (by omega);refine Ret.lfcall st (f89 (n:=n) (cl:=cl) (h:=h.fzn) (S:=vall S (over ((bp,.row .own 1 cells)::rows) m)) st.fz (vall_m (st.mem (.head _))) h0c (by omega)) fun v h2 ex ⟨b,hv,he⟩ st2=>?_;subst hv;subst he;have st2:Sl h0 h2 S m ((b,.row .own 1 (bw (List.replicate (N / 64+1) 0)))::(bp,.row .own 1 cells)::rows):=st2;obtain⟨st3,hmb⟩:=st2.sink (i:=0) rfl;have st3:Sl h0 h2 S (m.upd b (.row .own 1 (bw (List.replicate (N / 64+1) 0)))) ((bp,.row .own 1 cells)::rows):=st3;simp only[xIdxA_at' hc,vb_some];refine Ret.lst1 st3 0 rfl rfl (by omega) rfl fun h4 st4=>?_;have st4:Sl h0 h4 S (m.upd b (.row .own 1 (bw (List.replicate (N / 64+1) 0)))) ((bp,.row .own 1 (cells.set (5+c*1) (slW b (N / 64+1))))::rows):=st4;rw[Nat.mul_one]at st4;simp only[vN_eq,xAdd_i,wrapN (show c<4611686018427387904 by omega),vb_some];rw[<-hL];have hnb: ∀d,d<c->ft d≠b:=fun d hd e=>by have:=hr d hd;rw[e,hmb]at this;cases this
   have hbb:bf≠b:=fun e=>by rw[e,hmb]at hb;cases hb
   refine ih q (c+1) _ h4 (fun d=>if d=c then b else ft d) _ (by omega) (by omega) (by omega) st4 (by rw[List.length_set];exact hl) (fun i hi=>by rw[List.getElem?_set_ne (by omega)];exact hz i hi) (fun d hd=>?_) (fun d hd=>?_) (fun d hd=>?_) (fun d e hd he hde=>?_) (by rw[OM.upd_ne hbb];exact hb)
   ·by_cases e:d=c
    ·rw[e,List.getElem?_set_self (by omega),if_pos rfl]
    ·rw[List.getElem?_set_ne (by omega),if_neg e];exact ht d (by omega)
   ·by_cases e:d=c
    ·rw[if_pos e,OM.upd_self]
    ·rw[if_neg e,OM.upd_ne (hnb d (by omega))];exact hr d (by omega)
   ·by_cases e:d=c
    ·rw[if_pos e];exact hbb.symm
    ·rw[if_neg e];exact hne d (by omega)
   ·by_cases e1:d=c<;>by_cases e2:e=c
    ·omega
    ·rw[if_pos e1,if_neg e2]at hde;exact absurd hde.symm (hnb e (by omega))
    ·rw[if_neg e1,if_pos e2]at hde;exact absurd hde (hnb d (by omega))
    ·rw[if_neg e1,if_neg e2]at hde;exact hij d e (by omega) (by omega) hde
  ·exact ih q c m h ft cells (by omega) (by omega) h3 st hl hz ht hr hne hij hb
theorem loop88c(hn:4611686018427387904<=n){bp N:Nat}{av:Value}{l:List Po}{S0:Vw}(hav:PoL S0 av l)(hl:l.length<=1000)(hN:tot l=N)(hsz:N<100000)(hin: ∀po∈l,po.In)
  (hk: ∀S' h' m' rows' r',Vw.le S0 S'->Sl h0 h' S' m' rows'->Rm S' m' bp rows' rest N r'->RdOk N l r'->Q (pt bp) h'):
  ∀(k q i:Nat)(S:Vw)(h:PH)(m:OM)(rows:Rws)(r:Rr),l.length-i<=k->k<q->i<=l.length->Vw.le S0 S->Sl h0 h S m rows->Rm S m bp rows rest N r->RdOk N (l.take i) r->
   Ret (lp q (F88_4 n cl) [pt bp,.int .i64 (off l i:Nat),av,.int .i64 (l.length:Nat),.int .i64 (i:Nat)] h) Q:=by
 intro k
 induction k with
 |zero=>
  intro q i S h m rows r h1 h2 h3 le st rm ro;obtain⟨q,rfl⟩: ∃r,q=r+1:=⟨q-1,by omega⟩;rw[lp_succ];have dc:decide (((i:Nat):Int)<((l.length:Nat):Int))=false:=by simp;omega
  rw[List.take_of_length_le (by omega)]at ro;simp only[F88_4,F88_3,ucons_cons,xLt_i,dc,vb_some,bite_f];exact Ret.of (hk S h m rows r le st rm ro)
 |succ k ih=>
  intro q i S h m rows r h1 h2 h3 le st rm ro
  by_cases hi:i<l.length
  ·obtain⟨q,rfl⟩: ∃r,q=r+1:=⟨q-1,by omega⟩;rw[lp_succ];generalize hL:lp q (F88_4 n cl)=LL;have dc:decide (((i:Nat):Int)<((l.length:Nat):Int))=true:=by simp;omega
   have hx:=List.getElem?_eq_getElem hi;have hos:=off_succ hx;have hol:=off_le (l:=l) (k:=i+1);have hpin:=hin _ (List.getElem_mem hi);have htk:l.take (i+1)=l.take i++[l[i]]:=by rw[List.take_add_one,hx];rfl
   generalize l[i]=po at hx hos hpin htk;obtain⟨b,o,cs,ps,e1,e2,e3,e4,hpo⟩:=hav.at hx;have la:=st.ldSA (le _ _ e2) e3 e4;have hps:=hpo.ps;simp only[F88_4,F88_3,F88_2,ucons_cons,xLt_i,dc,vb_some,bite_t,e1,la];refine Ret.lalloc st zc90 fun h2 b2 st2=>?_;refine Ret.lstA st2 0 rfl rfl hps.1 (by simp) hps.2 fun h3 st3=>?_;rw[setsL_all (by rw[hps.1];rfl)]at st3;have st3:Sl h0 h3 S m ((b2,.row .own 1 ps)::rows):=st3;have lb:xLdA 5 (pt b2) h3=some (.agg ⟨ps⟩):=st3.ldA (.head _) (by rw[List.drop_zero, <-hps.1,List.take_length]) (by rw[hps.1];exact Nat.le_refl _);simp only[lb,vb_some];obtain⟨A,hA,hfr⟩:=rm.frame;subst hA;have st3:=st3.perm (pm1 _ A rest);have hlT:(l.take i).length=i:=by rw[List.length_take];omega
   have hfl:=ro.fl;have hll:=ro.ll;have hnl:r.null.length=i:=by rw[ro.null,List.length_map,hlT]
   have hoff:off l i=tot (l.take i):=rfl;refine Ret.hb (c114 (n:=n) (cl:=cl) hn st3 (hfr _) hsz (by omega) hpin (hpo.mono le) (by omega) (by omega) (by omega)) fun v h4 ⟨S4,m4,rows4,r4,hv,le4,st4,rm4,rq⟩=>?_;subst hv;obtain⟨A4,hA4,hfr4⟩:=rm4.frame;subst hA4;obtain⟨sv,xf,xl,wv,wl,rfl,p1,_⟩:=hpo;have l0:xLd (.pointer (some ⟨b2,0,none⟩)) h4=some sv:=st4.ld (List.mem_append_right _ (.head _)) rfl;have ha:IntKind.i64.wrap (((off l i:Nat):Int)+((po.sets.length:Nat):Int))=((off l (i+1):Nat):Int):=by rw[wrap_in (by omega) (by omega)];omega
   simp only[vb_some,xFld_p,Nat.zero_add,l0,p1.len,xAdd_i,ha,vN_eq,wrapN (show i<4611686018427387904 by omega)];rw[<-hL];refine ih q (i+1) S4 h4 m4 _ r4 (by omega) (by omega) (by omega) (le.trans le4) (st4.drop (List.Sublist.append (List.Sublist.refl _) (List.sublist_cons_self _ _))) (hfr4 rest) ?_;rw[htk];exact ro.step rq
  ·exact ih q i S h m rows r (by omega) (by omega) h3 le st rm ro
theorem c88(hn:4611686018427387904<=n)(st:Sl h0 h S OM.emp rows){av:Value}{l:List Po}(hav:PoL S av l)(hl:l.length<=900)(hsz:tot l<100000)(hin: ∀po∈l,po.In):
  Ret (F88 n cl av h) fun v h'=> ∃S' bp p,v=pt bp/\Vw.le S S'/\Sl h0 h' S' OM.emp rows/\Pm S' bp p/\PpOf l p:=by
 unfold F88;refine Ret.vb ab176 ?_;refine Ret.lbox st fun h1 bp st1=>?_;have st1:Sl h0 h1 S OM.emp ((bp,.row .own 1 (z88 (off l 0) nils++List.replicate 256 nils))::rows):=st1;simp only[hav.len,vb_some,vN_eq];refine loop88a hn hav (by omega) hsz (fun h2 st2=>?_) l.length n 0 h1 (by omega) (by omega) (Nat.zero_le _) st1;unfold F88_8;have:=st2.ok;refine Ret.lfcall st2 (f89 (n:=n) (cl:=cl) (h:=h2.fzn) (S:=vall S (over ((bp,.row .own 1 (z88 (tot l) nils++List.replicate 256 nils))::rows) OM.emp)) (N:=tot l) st2.fz (vall_m (st2.mem (.head _))) rfl (by omega)) fun v h3 ex ⟨bf,hv,he⟩ st3=>?_;subst hv;subst he;have st3:Sl h0 h3 S OM.emp ((bf,.row .own 1 (bw (List.replicate (tot l / 64+1) 0)))::(bp,.row .own 1 (z88 (tot l) nils++List.replicate 256 nils))::rows):=st3;obtain⟨st4,hmb⟩:=st3.sink (i:=0) rfl;have st4:Sl h0 h3 S (OM.emp.upd bf (.row .own 1 (bw (List.replicate (tot l / 64+1) 0)))) ((bp,.row .own 1 (z88 (tot l) nils++List.replicate 256 nils))::rows):=st4;simp only[xNil_p,vb_some,xFld_p,Nat.zero_add,vN_eq];refine Ret.lst1 st4 0 rfl rfl (z88_lt (by decide)) rfl fun h5 st5=>?_;have st5:Sl h0 h5 S (OM.emp.upd bf (.row .own 1 (bw (List.replicate (tot l / 64+1) 0)))) ((bp,.row .own 1 (z88 (tot l) (slW bf (tot l / 64+1))++List.replicate 256 nils))::rows):=st5;refine loop88b (N:=tot l) hn hsz (fun h6 m6 ft st6 tk6 hb6=>?_) 256 n 0 _ h5 (fun _=>0) _ (by omega) (by omega) (by omega) st5 (by rw[List.length_append,List.length_replicate];rfl) (fun i hi=>by rw[List.getElem?_append_left (by simp[z88];omega)]) (by omega) (by omega) (by omega) (by omega) OM.upd_self;simp only[F88_5,hav.len,vb_some,vN_eq];refine loop88c (rest:=rows) (N:=tot l) hn hav (by omega) rfl hsz hin (fun S7 h7 m7 rows7 r7 le7 st7 rm7 ro7=>?_) l.length n 0 S h6 m6 _ ⟨List.replicate (tot l / 64+1) 0,[],[],[],fun _=>List.replicate (tot l / 64+1) 0⟩ (by omega) (by omega) (Nat.zero_le _) (Vw.le.refl _) st6 ?_ ?_
 ·obtain⟨bf7,ft7,fv,lv,nv,exF,exL,exN,cF,cL,rfl,a1,a2,a3,a4,a5,a6,a7,a8⟩:=rm7;have s1:=st7.perm (pm1 _ exF _);obtain⟨S8,le8,s2,hF⟩:=a4.settle s1;have s3:=s2.perm (pm1 _ exL _);obtain⟨S9,le9,s4,hLl⟩:=a6.settle s3;have s5:=s4.perm (pm1 _ exN _);obtain⟨S10,le10,s6,hNl⟩:=a8.settle s5;obtain⟨s7,hSp⟩:=s6.settle (i:=0) rfl;have s7:Sl h0 h7 (S10.put bp ([.int .i64 (tot l:Nat),slW bf7 (tot l / 64+1),fv,lv,nv]++tvs ft7 (tot l / 64+1))) m7 rows:=s7;have le11:Vw.le S10 (S10.put bp ([.int .i64 (tot l:Nat),slW bf7 (tot l / 64+1),fv,lv,nv]++tvs ft7 (tot l / 64+1))):=Vw.le_put hSp;obtain⟨S12,m12,le12,s8,q1,q2,q3⟩:=a3.settle s7 256 (Nat.le_refl _);obtain⟨s9,hSb⟩:=s8.settleB (b:=bf7) (q3.trans a1);have le13:Vw.le S12 (S12.put bf7 (bw r7.first)):=Vw.le_put hSb;have leA:Vw.le S7 (S12.put bf7 (bw r7.first)):=le8.trans (le9.trans (le10.trans (le11.trans (le12.trans le13))));have hlenF:r7.follow.length=tot l:=ro7.fl;refine⟨S12.put bf7 (bw r7.first),bp,⟨tot l,r7.first,r7.follow,r7.last,r7.null,(List.range 256).map r7.tks⟩,rfl,le7.trans leA,s9.weakM (fun b o hb=>by cases hb),?_,?_⟩
  ·refine⟨_,slW bf7 (tot l / 64+1),fv,lv,nv,le13 _ _ (le12 _ _ Vw.put_self),rfl,⟨rfl,bf7,tot l / 64+1,by unfold slW;rw[a2.len],Vw.put_self⟩,⟨rfl,⟨cF,(hF.mono (le9.trans (le10.trans (le11.trans (le12.trans le13))))).slv,a4.length,fun i ws hi=>?_⟩⟩,⟨rfl,⟨cL,(hLl.mono (le10.trans (le11.trans (le12.trans le13)))).slv,a6.length,fun i ws hi=>?_⟩⟩,⟨rfl,?_⟩,fun c ws hc=>?_⟩
   ·obtain⟨x,x1,x2⟩:=a5 i ws hi;exact⟨x,x1,x2.mono leA⟩
   ·obtain⟨x,x1,x2⟩:=a7 i ws hi;exact⟨x,x1,x2.mono leA⟩
   ·exact(hNl.mono (le11.trans (le12.trans le13))).slv
   ·have hc2:c<256:=by have:=(List.getElem?_eq_some_iff.1 hc).1;simp at this;omega
    rw[List.getElem?_map,List.getElem?_range hc2]at hc;obtain rfl:r7.tks c=ws:=by simpa using hc
    refine⟨slW (ft7 c) (tot l / 64+1),?_,ft7 c,tot l / 64+1,by unfold slW;rw[(a3.bk c hc2).len],le13 _ _ (q1 c hc2)⟩;rw[List.getElem?_append_right (by simp)];have:5+c- [Value.int .i64 (tot l:Nat),slW bf7 (tot l / 64+1),fv,lv,nv].length=c:=by simp
    rw[this,tvs_get hc2]
  ·refine⟨⟨hsz,ro7.fk,fun ws hw=>?_,fun ws hw=>?_,fun ws hw=>?_,?_,hlenF,?_,?_⟩,rfl,ro7.first,ro7.ll,fun k w hk=>(ro7.last k w hk).2,ro7.null,fun g w hg=>(ro7.fol g w hg).2,fun c hc j=>?_⟩
   ·obtain⟨i,hi⟩:=List.getElem?_of_mem hw;exact(ro7.fol i ws hi).1
   ·obtain⟨i,hi⟩:=List.getElem?_of_mem hw;exact(ro7.last i ws hi).1
   ·have hw:ws∈(List.range 256).map r7.tks:=hw;obtain⟨c,hc,rfl⟩:=List.mem_map.1 hw;exact a3.bk c (by simpa using hc)
   ·show((List.range 256).map r7.tks).length=256
    rw[List.length_map,List.length_range]
   ·show r7.last.length=r7.null.length
    rw[ro7.ll,ro7.null,List.length_map]
   ·show r7.null.length<1000
    rw[ro7.null,List.length_map];omega
   ·have hg:((List.range 256).map r7.tks).getD c []=r7.tks c:=by
     rw[List.getD_eq_getElem?_getD,List.getElem?_map,List.getElem?_range hc];rfl
    show hs (((List.range 256).map r7.tks).getD c []) j=true↔_
    rw[hg];exact ro7.tks c hc j
 ·exact⟨bf,ft,nils,nils,nils,[],[],[],[],[],rfl,hb6,Bk.rep _,tk6,.inl Gl.nil,(fun i ws hi=>by simp at hi),.inl Gl.nil,(fun i ws hi=>by simp at hi),.inl Gl.nil⟩
 ·refine⟨Bk.rep _,fun j=>?_,rfl,fun k w hk=>by simp at hk,rfl,rfl,fun g w hg=>by simp at hg,fun c hc j=>?_⟩
  ·show hs (List.replicate (tot l / 64+1) 0) j=true↔_
   rw[hs_rep];simp
  ·show hs (List.replicate (tot l / 64+1) 0) j=true↔_
   rw[hs_rep];simp
end
def cod(z:Int):Nat:=if z= -1 then 16777215 else z.toNat
def b3(z:Int):List Nat:=[cod z % 256,cod z / 256 % 256,cod z / 65536 % 256]
def Sm3(z:Int):Prop:=z= -1\/(0<=z/\z<16777215)
theorem b3_256{z:Int}: ∀x∈b3 z,x<256:=by
 intro x hx;unfold b3 at hx;simp only[List.mem_cons,List.not_mem_nil,or_false]at hx;rcases hx with rfl|rfl|rfl<;>exact Nat.mod_lt _ (by decide)
theorem cod_inj{a b:Int}(ha:Sm3 a)(hb:Sm3 b)(h:cod a=cod b):a=b:=by
 unfold cod at h;unfold Sm3 at ha hb
 split at h<;>split at h<;>omega
theorem cod_lt{a:Int}(ha:Sm3 a):cod a<16777216:=by
 unfold cod;unfold Sm3 at ha
 split<;>omega
theorem b3_inj{a b:Int}(ha:Sm3 a)(hb:Sm3 b)(h:b3 a=b3 b):a=b:=by
 refine cod_inj ha hb ?_;have h1:=cod_lt ha;have h2:=cod_lt hb;unfold b3 at h;simp only[List.cons.injEq,and_true]at h;omega
theorem w8z{z:Int}(h:Sm3 z):IntKind.u8.wrap z=((cod z % 256:Nat):Int):=by
 unfold Sm3 at h;rcases h with rfl|⟨h1,h2⟩
 ·rfl
 ·obtain⟨k,rfl⟩: ∃k:Nat,z=k:=⟨z.toNat,by omega⟩;rw[wrap8];have:cod (k:Int)=k:=by unfold cod;rw[if_neg (by omega)];simp
  rw[this]
theorem shr_z{z:Int}(h:Sm3 z){s:Nat}(hs:s=8\/s=16):IntKind.u8.wrap (shrI z s)=((cod z / 2 ^ s % 256:Nat):Int):=by
 unfold Sm3 at h;rcases h with rfl|⟨h1,h2⟩
 ·rcases hs with rfl|rfl<;>rfl
 ·obtain⟨k,rfl⟩: ∃k:Nat,z=k:=⟨z.toNat,by omega⟩;have:cod (k:Int)=k:=by unfold cod;rw[if_neg (by omega)];simp
  rw[this]
  show IntKind.u8.wrap (((k>>>s:Nat):Nat):Int)=_
  rw[wrap8,Nat.shiftRight_eq_div_pow]
theorem bs33_0:bsRow Tryz.prog 33 0 []=some (1,[]):=by kernel_rfl
theorem bs33_3{a b c:Int}:bsRow Tryz.prog 33 3 [(0,.int .u8 a),(1,.int .u8 b),(2,.int .u8 c)]=some (1,[.int .u8 a,.int .u8 b,.int .u8 c]):=by kernel_rfl
theorem zc33:zcells Tryz.prog 33=some [nils]:=by kernel_rfl
section
variable {Q:Value->PH->Prop}{n:Nat}{cl cl' cl'':CL}{h h0:PH}{S:Vw}{m:OM}{rows rest:Rws}{K2:Value->PH->R}
theorem Ret.gqapps{ex:Rws}(s:Sl h0 h S m (ex++rows)){P:Program}{T:TypeId}{ats:Array TypeId}{parts:List (Nat×Value)}{bt k j:Nat}{v:Value}{cells new:List Value}(g:Gq v k cells ex)
  (hb:bsRow P T j parts=some (1,new)) (ha:appInfo P ats=some (1,bt)) (hl:new.length=j) (hj:0<j) (hone:oneCells new=true) (hsz:(2*(k+j)+512)*bt<=281474976710656)
  (hk: ∀h' v' ex',Sl h0 h' S m (ex'++rows)->Gq v' (k+j) (cells++new) ex'->Ret (K2 v' h') Q):Ret (Go.Am.hb (xBS j (bsRow P T j parts) h) fun v1 h=>Go.Am.hb (xApp (appInfo P ats) v v1 h) K2) Q:=by
 refine Ret.lbs s hb fun h1' b1 st=>?_;rw[ha];rcases g with g|⟨b,rfl,rfl,h1,h2⟩
 ·have st1:=st.perm (rows':=ex++(b1,.row .own 1 new)::rows) List.perm_middle.symm;have hx:=st1.ptail (n:=j) (sz:=1) (c:=j) (b:=b1) (List.mem_append_right _ (.head _)) (by rw[hl,Nat.mul_one]);refine Ret.lapp st1 g hx (by rw[hl,Nat.mul_one]) hj hone hsz fun h' v' ex' st' g'=>?_;exact hk h' v' ex' (st'.drop (List.Sublist.append (List.Sublist.refl _) (List.sublist_cons_self _ _))) (.inl g')
 ·have hx:=st.ptail (n:=j) (sz:=1) (c:=j) (b:=b1) (.head _) (by rw[hl,Nat.mul_one]);refine Ret.lappF st (st.mem (.tail _ (.head _))) (by omega) (by omega) hx hj hone hsz fun h' b' st'=>?_;rw[List.drop_zero,Nat.mul_one,List.take_of_length_le (by omega)]at st';have hd:((b',AObj.row .opn 1 (cells++new))::rows).Sublist ((b',AObj.row .opn 1 (cells++new))::(b1,.row .own 1 new)::([(b,.row .own 1 cells)]++rows)):=
   .cons_cons _ (.cons _ (.cons _ (List.Sublist.refl _)))
  refine hk h' _ [(b',.row .opn 1 (cells++new))] (st'.drop hd) (.inl ⟨.inr ⟨b',0,openCap,cells++new,rfl,rfl,?_,?_,?_,Nat.le_refl _,by decide⟩⟩)
  ·rw[List.drop_zero,List.take_of_length_le];rw[List.length_append];omega
  ·rw[List.length_append];omega
  ·rw[Nat.sub_self,Nat.zero_mul]
theorem Sl.b2q{ex:Rws}(s:Sl h0 h S m (ex++rows)){v:Value}{l:List Nat}(g:Gq v l.length (bys l) ex):xB2S v h=some (.string (bstr l)):=by
 rcases g with g|⟨b,rfl,rfl,h1,h2⟩
 ·exact s.b2s g
 ·have hb:=(s.sm.own b _ (s.mem (.head _))).1;have h3:Nat.ble (Nat.add 0 l.length) (bys l).length=true:=ble_t' (by rw[h1];show 0+l.length<=_;omega)
  by_cases e0:l=[]
  ·subst e0;rfl
  have hn0:Nat.beq l.length 0=false:=by
   cases hq:Nat.beq l.length 0 with
   |false=>rfl
   |true=>exact absurd (List.eq_nil_of_length_eq_zero (Nat.eq_of_beq_eq_true hq)) e0
  show(match Nat.beq l.length 0 with
   |true=>some (Value.string ByteArray.empty)
   |false=>match h.raw b with
   |some (.row _ _ cs)=>match Nat.ble (Nat.add 0 l.length) cs.length with
    |true=>match bytes8 ((cs.drop 0).take l.length)with
     |some ns=>some (Value.string ⟨⟨ns⟩⟩)
     |none=>none
    |false=>none
   |_=>none)=_
  rw[hn0];dsimp only;rw[hb];dsimp only;rw[h3];dsimp only;rw[List.drop_zero,List.take_of_length_le (by omega),bytes8_bys]
  rfl
theorem bys_app(a b:List Nat):bys (a++b)=bys a++bys b:=by simp[bys]
theorem c146{bo:Nat}{v:Value}{l:List Nat}{z:Int}{ex:Rws}(hz:Sm3 z)(st:Sl h0 h S m (ex++(bo,.row .own 1 [v])::rows))(g:Gq v l.length (bys l) ex)(hl:l.length<=100000):
  Ret (F146 n cl (.int .i64 z) (pt bo) h) fun u h'=> ∃v' ex',u= .tuple ⟨[]⟩/\Sl h0 h' S m (ex'++(bo,.row .own 1 [v'])::rows)/\Gq v' (l++b3 z).length (bys (l++b3 z)) ex':=by
 unfold F146;have l1:xLd (pt bo) h=some v:=st.ld (List.mem_append_right _ (.head _)) rfl;have e1:=xShr_is (k:=.i64) (k':=.u64) (x:=z) (s:=8) (by decide);have e2:=xShr_is (k:=.i64) (k':=.u64) (x:=z) (s:=16) (by decide);have e1:xShr (.int .i64 z) (.int .u64 (.ofNat 8))=some (.int .i64 (shrI z 8)):=e1;have e2:xShr (.int .i64 z) (.int .u64 (.ofNat 16))=some (.int .i64 (shrI z 16)):=e2;simp only[l1,vb_some,xConvI_i',w8z hz,e1,shr_z hz (.inl rfl),e2,shr_z hz (.inr rfl)];refine Ret.gqapps st g bs33_3 ai33 rfl (by decide) rfl (by omega) fun h' v' ex' st' g'=>?_;have hi:(ex'++(bo,AObj.row .own 1 [v])::rows)[ex'.length]?=some (bo,.row .own 1 [v]):=by
  rw[List.getElem?_append_right (Nat.le_refl _),Nat.sub_self];rfl
 refine Ret.lst1M st' rfl (by simp) g'.one fun h2 st2=>?_;refine Ret.of ⟨v',ex',rfl,st2,?_⟩;rw[bys_app,List.length_append];exact g'
end
def Sv(S:Vw)(bx:Nat)(s:Ss):Prop:= ∃fs av nv ov vs,S bx=some fs/\fs[2]?=some av/\xLenS av=some (.int .i64 (s.alls.length:Nat))/\fs[3]?=some nv/\SlV S nv vs/\(∀(i:Nat) r,s.nexts[i]?=some r-> ∃x,vs[i]?=some x/\SlV S x (zv r))/\fs[4]?=some ov/\SlV S ov (zv s.oks)
theorem Sv.mono{V W:Vw}{bx:Nat}{s:Ss}(hs:Vw.le V W)(h:Sv V bx s):Sv W bx s:=by
 obtain⟨fs,av,nv,ov,vs,a1,a2,a3,a4,a5,a6,a7,a8⟩:=h;exact⟨fs,av,nv,ov,vs,hs _ _ a1,a2,a3,a4,a5.mono hs,fun i r hi=>let⟨x,q1,q2⟩:=a6 i r hi;⟨x,q1,q2.mono hs⟩,a7,a8.mono hs⟩
structure Ss.Fin(s:Ss):Prop where
 nl:s.nexts.length=s.alls.length
 rl: ∀(i:Nat) r,s.nexts[i]?=some r->r.length=256
 to: ∀(i:Nat) r (c:Nat) (z:Int),s.nexts[i]?=some r->r[c]?=some z->z= -1\/(0<=z/\z<s.alls.length)
 ol:s.oks.length=s.alls.length
 one:1<=s.alls.length
 sz:s.alls.length<=3000
def mvZ(s:Ss)(i c:Nat):Int:=(s.nexts.getD i []).getD c (-1)
def mv(s:Ss)(i c:Nat):Nat:=if i<s.alls.length then(if mvZ s i c= -1 then s.alls.length else(mvZ s i c).toNat)else s.alls.length
theorem mvZ_at{s:Ss}{i c:Nat}{r:List Int}{z:Int}(h1:s.nexts[i]?=some r)(h2:r[c]?=some z):mvZ s i c=z:=by
 unfold mvZ;rw[List.getD_eq_getElem?_getD (l:=s.nexts),h1]
 show r.getD c (-1)=z
 rw[List.getD_eq_getElem?_getD,h2];rfl
theorem mv_le{s:Ss}(hf:s.Fin)(i c:Nat):mv s i c<=s.alls.length:=by
 unfold mv
 split
 ·rename_i hi
  split
  ·exact Nat.le_refl _
  ·rename_i hz
   by_cases hc:c<256
   ·have hx:=List.getElem?_eq_getElem (l:=s.nexts) (i:=i) (by rw[hf.nl];exact hi);have hr:=hf.rl i _ hx;have hy:=List.getElem?_eq_getElem (l:=s.nexts[i]'(by rw[hf.nl];exact hi)) (i:=c) (by omega);rw[mvZ_at hx hy]at hz ⊢;have:=hf.to i _ c _ hx hy;omega
   ·exfalso
    apply hz
    have hx:=List.getElem?_eq_getElem (l:=s.nexts) (i:=i) (by rw[hf.nl];exact hi);have hr:=hf.rl i _ hx;unfold mvZ;rw[List.getD_eq_getElem?_getD (l:=s.nexts),hx]
    show(s.nexts[i]'(by rw[hf.nl];exact hi)).getD c (-1)= -1
    rw[List.getD_eq_getElem?_getD,List.getElem?_eq_none (by omega)];rfl
 ·exact Nat.le_refl _
def sgt(s:Ss)(cls:List Int)(i k:Nat):List Nat:=(List.range k).flatMap fun c=>b3 (cls.getD (mv s i c) 0)
def sgb(s:Ss)(cls:List Int)(i:Nat):List Nat:=b3 (cls.getD i 0)++sgt s cls i 256
theorem sgt_succ(s:Ss)(cls:List Int)(i k:Nat):sgt s cls i (k+1)=sgt s cls i k++b3 (cls.getD (mv s i k) 0):=by
 unfold sgt;rw[List.range_succ,List.flatMap_append];simp
theorem sgt_len(s:Ss)(cls:List Int)(i k:Nat):(sgt s cls i k).length=3*k:=by
 induction k with
 |zero=>rfl
 |succ k ih=>rw[sgt_succ,List.length_append,ih];show 3*k+3=_;omega
theorem sgt_256{s:Ss}{cls:List Int}{i:Nat}: ∀k, ∀x∈sgt s cls i k,x<256:=by
 intro k x hx;unfold sgt at hx;rw[List.mem_flatMap]at hx;obtain⟨c,_,hx⟩:=hx;exact b3_256 x hx
theorem sgb_256{s:Ss}{cls:List Int}{i:Nat}: ∀x∈sgb s cls i,x<256:=by
 intro x hx;unfold sgb at hx;rcases List.mem_append.1 hx with hx|hx
 ·exact b3_256 x hx
 ·exact sgt_256 _ x hx
theorem getD_sm{cls:List Int}(h: ∀z∈cls,Sm3 z)(i:Nat):Sm3 (cls.getD i 0):=by
 rw[List.getD_eq_getElem?_getD];cases hq:cls[i]? with
 |none=>exact .inr ⟨by decide,by decide⟩
 |some z=>exact h z (List.mem_of_getElem? hq)
theorem sgt_inj{s:Ss}{cls:List Int}(hc: ∀z∈cls,Sm3 z){i k:Nat}: ∀m,sgt s cls i m=sgt s cls k m↔ ∀c,c<m->cls.getD (mv s i c) 0=cls.getD (mv s k c) 0
 |0=>⟨fun _ c h=>by omega,fun _=>rfl⟩
 |m+1=>by
  rw[sgt_succ,sgt_succ];constructor
  ·intro h c hcm;obtain⟨h1,h2⟩:=List.append_inj h (by rw[sgt_len,sgt_len])
   by_cases e:c=m
   ·subst e;exact b3_inj (getD_sm hc _) (getD_sm hc _) h2
   ·exact(sgt_inj hc m).1 h1 c (by omega)
  ·intro h;rw[(sgt_inj hc m).2 fun c hcm=>h c (by omega),h m (by omega)]
theorem sgb_inj{s:Ss}{cls:List Int}(hc: ∀z∈cls,Sm3 z){i k:Nat}:bstr (sgb s cls i)=bstr (sgb s cls k)↔cls.getD i 0=cls.getD k 0/\ ∀c,c<256->cls.getD (mv s i c) 0=cls.getD (mv s k c) 0:=by
 constructor
 ·intro h;have h:=bstr_inj sgb_256 sgb_256 h;unfold sgb at h;obtain⟨h1,h2⟩:=List.append_inj h rfl;exact⟨b3_inj (getD_sm hc _) (getD_sm hc _) h1,(sgt_inj hc 256).1 h2⟩
 ·rintro⟨h1,h2⟩;unfold sgb;rw[h1,(sgt_inj hc 256).2 h2]
section
variable {Q:Value->PH->Prop}{n:Nat}{cl cl' cl'':CL}{h h0:PH}{S:Vw}{m:OM}{rows rest:Rws}{K2:Value->PH->R}
theorem c119[OkH h](hn:4611686018427387904<=n)(h99: ∀u v h,cl 146 [u,v] h=F146 n cl' u v h)(hS:Vw.le S h.cells){bx i:Nat}{s:Ss}{cv:Value}{cls:List Int}(sv:Sv S bx s)(hf:s.Fin)(hcv:SlV S cv (zv cls))(hcl:cls.length=s.alls.length+1)(hsm: ∀z∈cls,Sm3 z)(hi:i<=s.alls.length):
  pcall (F119 n cl (pt bx) cv (.int .i64 (i:Nat)) h)=some (.string (bstr (sgb s cls i))):=by
 obtain⟨fs,av,nv,ov,vs,a1,a2,a3,a4,a5,a6,a7,a8⟩:=sv;have hsz:=hf.sz;have key:Ret (F119 n cl (pt bx) cv (.int .i64 (i:Nat)) h) fun u _=>u= .string (bstr (sgb s cls i)):=by
  unfold F119;have st0:=Sl.start h hS;have l2:xLd (.pointer (some ⟨bx,2,none⟩)) h=some av:=st0.ldS a1 a2;simp only[xNil_p,vb_some,xFld_p,Nat.zero_add,l2,a3];refine Ret.lbs st0 bs33_0 fun h1 b0 st1=>?_;refine Ret.lalloc st1 zc33 fun h2 bo st2=>?_;refine Ret.lst1 st2 0 rfl rfl (by simp) rfl fun h3 st3=>?_;have st3:Sl h h3 S OM.emp ((bo,.row .own 1 [.slice (some ⟨b0,0,none⟩) 0 0])::[(b0,.row .own 1 [])]):=st3;have st3:Sl h h3 S OM.emp ([(b0,.row .own 1 [])]++[(bo,.row .own 1 [.slice (some ⟨b0,0,none⟩) 0 0])]):=st3.perm (List.Perm.swap _ _ _);have hx:=List.getElem?_eq_getElem (l:=cls) (i:=i) (by omega);have hD:cls.getD i 0=cls[i]'(by omega):=by rw[List.getD_eq_getElem?_getD,hx];rfl
  have hsi:=hsm _ (List.getElem_mem (l:=cls) (n:=i) (by omega));obtain⟨b1,o1,cs1,e1,e2,e3⟩:=hcv.at (k:=.i64) (zv_get hx);have l3:=st3.ldS e2 e3;simp only[vb_some,e1,l3];have hcall: ∀z h,xCall cl (.func (.func 146) ⟨[]⟩ ⟨[pt bo]⟩) [.int .i64 z] h=F146 n cl' (.int .i64 z) (pt bo) h:=fun z h=>h99 _ _ _;rw[hcall];have g0:Gq (.slice (some ⟨b0,0,none⟩) 0 0) ([]:List Nat).length (bys []) [(b0,.row .own 1 [])]:=.inr ⟨b0,rfl,rfl,rfl,by decide⟩;refine Ret.hb (c146 (n:=n) (cl:=cl') (rows:=[]) hsi st3 g0 (by simp)) fun u h4 ⟨v',ex',hu,st4,g4⟩=>?_;subst hu;rw[List.nil_append, <-hD]at g4;have loop: ∀(k q c:Nat)(h1:PH)(v:Value)(ex:Rws),256-c<=k->k<q->c<=256->Sl h h1 S OM.emp (ex++[(bo,.row .own 1 [v])])->Gq v (b3 (cls.getD i 0)++sgt s cls i c).length (bys (b3 (cls.getD i 0)++sgt s cls i c)) ex->
    Ret (lp q (F119_8 n cl) [pt bx,cv,.int .i64 (i:Nat),.int .i64 (s.alls.length:Nat),pt bo,.func (.func 146) ⟨[]⟩ ⟨[pt bo]⟩,.int .i64 (c:Nat)] h1) fun u _=>u= .string (bstr (sgb s cls i)):=by
   intro k
   induction k with
   |zero=>
    intro q c h1 v ex c1 c2 c3 st g;obtain⟨q,rfl⟩: ∃r,q=r+1:=⟨q-1,by omega⟩;rw[lp_succ];have hc:c=256:=by omega
    subst hc;have dc:decide (((256:Nat):Int)<((256:Nat):Int))=false:=by decide
    have lo:xLd (pt bo) h1=some v:=st.ld (List.mem_append_right _ (.head _)) rfl;simp only[F119_8,F119_7,F119_6,ucons_cons,vN_eq,xLt_i,dc,vb_some,bite_f,lo,st.b2q g];exact Ret.of rfl
   |succ k ih=>
    intro q c h1 v ex c1 c2 c3 st g
    by_cases hc:c<256
    ·obtain⟨q,rfl⟩: ∃r,q=r+1:=⟨q-1,by omega⟩;rw[lp_succ];generalize hL:lp q (F119_8 n cl)=LL;have dc:decide (((c:Nat):Int)<((256:Nat):Int))=true:=by simp;omega
     have go: ∀h1,Sl h h1 S OM.emp (ex++[(bo,.row .own 1 [v])])->Ret (F119_1 n cl LL [pt bx,cv,.int .i64 (i:Nat),.int .i64 (s.alls.length:Nat),pt bo,.func (.func 146) ⟨[]⟩ ⟨[pt bo]⟩,.int .i64 (mv s i c:Nat),.int .i64 (c:Nat)] h1) fun u _=>u= .string (bstr (sgb s cls i)):=by
      intro h1 st;have hml:=mv_le hf i c;have hy:=List.getElem?_eq_getElem (l:=cls) (i:=mv s i c) (by omega);have hDm:cls.getD (mv s i c) 0=cls[mv s i c]'(by omega):=by rw[List.getD_eq_getElem?_getD,hy];rfl
      have hsc:=hsm _ (List.getElem_mem (l:=cls) (n:=mv s i c) (by omega));obtain⟨b2,o2,cs2,f1,f2,f3⟩:=hcv.at (k:=.i64) (zv_get hy);have l4:=st.ldS f2 f3;simp only[F119_1,F119_0,ucons_cons,f1,vb_some,l4,hcall];have hlen:(b3 (cls.getD i 0)++sgt s cls i c).length<=100000:=by rw[List.length_append,sgt_len];show 3+3*c<=_;omega
      refine Ret.hb (c146 (n:=n) (cl:=cl') (rows:=[]) hsc st g hlen) fun u h5 ⟨v5,ex5,hu,st5,g5⟩=>?_;subst hu;simp only[vN_eq,xAdd_i,wrapN (show c<4611686018427387904 by omega),vb_some];rw[<-hL];refine ih q (c+1) h5 v5 ex5 (by omega) (by omega) (by omega) st5 ?_;rw[sgt_succ, <-List.append_assoc,hDm];exact g5
     by_cases hin:i<s.alls.length
     ·have dn:decide (((i:Nat):Int)<((s.alls.length:Nat):Int))=true:=by simp;omega
      have hr:=List.getElem?_eq_getElem (l:=s.nexts) (i:=i) (by rw[hf.nl];exact hin);have hrl:=hf.rl i _ hr;obtain⟨xr,x1,x2⟩:=a6 i _ hr;have hz:=List.getElem?_eq_getElem (l:=s.nexts[i]'(by rw[hf.nl];exact hin)) (i:=c) (by omega);have hto:=hf.to i _ c _ hr hz;have hmz:=mvZ_at hr hz;generalize(s.nexts[i]'(by rw[hf.nl];exact hin))[c]'(by omega)=z at hz hto hmz;obtain⟨b2,o2,cs2,f1,f2,f3⟩:=a5.at (k:=.i64) x1;obtain⟨b4,o4,cs4,g1,g2,g3⟩:=x2.at (k:=.i64) (zv_get hz);have l3:xLd (.pointer (some ⟨bx,3,none⟩)) h1=some nv:=st.ldS a1 a4;have l4:=st.ldS f2 f3;have l5:=st.ldS g2 g3;simp only[F119_8,F119_7,ucons_cons,vN_eq,xLt_i,dc,vb_some,bite_t,jn_eq,F119_5,dn,F119_3,xNil_p,xFld_p,Nat.zero_add,l3,f1,l4,g1,l5,F119_4,F119_2];have em:vM 0= .int .i64 (-1):=rfl;simp only[em,xEq_i,vb_some]
      by_cases hz1:z= -1
      ·have dz:decide (z= -1)=true:=by simp[hz1]
       have hm:mv s i c=s.alls.length:=by unfold mv;rw[if_pos hin,hmz,if_pos hz1]
       have:=go h1 st;rw[hm]at this;simp only[dz,bite_t];exact this
      ·have dz:decide (z= -1)=false:=by simp[hz1]
       have hm:((mv s i c:Nat):Int)=z:=by unfold mv;rw[if_pos hin,hmz,if_neg hz1];omega
       have:=go h1 st;rw[hm]at this;simp only[dz,bite_f];exact this
     ·have dn:decide (((i:Nat):Int)<((s.alls.length:Nat):Int))=false:=by simp;omega
      have hm:mv s i c=s.alls.length:=by unfold mv;rw[if_neg hin]
      have em:vM 0= .int .i64 (-1):=rfl;have dz:decide ((-1:Int)= -1)=true:=by decide
      have:=go h1 st;rw[hm]at this;simp only[F119_8,F119_7,ucons_cons,vN_eq,xLt_i,dc,vb_some,bite_t,jn_eq,F119_5,dn,bite_f,F119_4,F119_2,em,xEq_i,dz];exact this
    ·exact ih q c h1 v ex (by omega) (by omega) c3 st g
  have:=loop 256 n 0 h4 v' ex' (by omega) (by omega) (by omega) st4 (by
   have e:b3 (cls.getD i 0)++sgt s cls i 0=b3 (cls.getD i 0):=by simp[sgt]
   rw[e];exact g4)
  rw[vN_eq];exact this
 obtain⟨u,h1,e,rfl⟩:=key;rw[e];exact pcall_some rfl
end
theorem all_le: ∀{K:Nat}{l:List Nat},(∀t,t<K->t∈l)->K<=l.length
 |0,_,_=>Nat.zero_le _
 |K+1,l,h=>by
  have hm:=h K (Nat.lt_succ_self _);have:=all_le (K:=K) (l:=l.erase K) fun t ht=>(List.mem_erase_of_ne (by omega)).2 (h t (by omega));rw[List.length_erase_of_mem hm]at this;have:=List.length_pos_of_mem hm;omega
theorem onto_inj{K:Nat}{f:Nat->Nat}(h: ∀t,t<K-> ∃j,j<K/\f j=t){a b:Nat}(ha:a<K)(hb:b<K)(he:f a=f b):a=b:=by
 refine Classical.byContradiction fun hne=>?_;have:=all_le (K:=K) (l:=((List.range K).erase b).map f) fun t ht=>by
  obtain⟨j,hj,rfl⟩:=h t ht
  by_cases e:j=b
  ·subst e;exact List.mem_map.2 ⟨a,(List.mem_erase_of_ne hne).2 (by simpa using ha),he⟩
  ·exact List.mem_map.2 ⟨j,(List.mem_erase_of_ne e).2 (by simpa using hj),rfl⟩
 rw[List.length_map,List.length_erase_of_mem (by simpa using hb),List.length_range]at this;omega
def accv(s:Ss)(j:Nat):Int:=(s.oks++[-1]).getD j (-1)
def SE(s:Ss)(cls:List Int)(i k:Nat):Prop:=cls.getD i 0=cls.getD k 0/\ ∀c,c<256->cls.getD (mv s i c) 0=cls.getD (mv s k c) 0
def Bisim(s:Ss)(R:Nat->Nat->Prop):Prop:= ∀j k,j<=s.alls.length->k<=s.alls.length->R j k->accv s j=accv s k/\ ∀c,c<256->R (mv s j c) (mv s k c)
structure Num(s:Ss)(cls:List Int)(K:Nat):Prop where
 len:cls.length=s.alls.length+1
 num: ∀j,j<=s.alls.length-> ∃t:Nat,t<K/\cls[j]?=some (t:Int)
 onto: ∀t,t<K-> ∃j,j<=s.alls.length/\cls[j]?=some ((t:Nat):Int)
theorem Num.getD{s:Ss}{cls:List Int}{K:Nat}(h:Num s cls K){j:Nat}(hj:j<=s.alls.length): ∃t:Nat,t<K/\cls.getD j 0=(t:Int)/\cls[j]?=some (t:Int):=by
 obtain⟨t,h1,h2⟩:=h.num j hj;exact⟨t,h1,by rw[List.getD_eq_getElem?_getD,h2];rfl,h2⟩
theorem Num.le{s:Ss}{cls:List Int}{K:Nat}(h:Num s cls K):K<=s.alls.length+1:=by
 have:=all_le (K:=K) (l:=cls.map Int.toNat) fun t ht=>by
  obtain⟨j,hj,hx⟩:=h.onto t ht;exact List.mem_map.2 ⟨_,List.mem_of_getElem? hx,by simp⟩
 rw[List.length_map,h.len]at this;exact this
theorem Num.sm{s:Ss}{cls:List Int}{K:Nat}(h:Num s cls K)(hs:s.alls.length<=3000): ∀z∈cls,Sm3 z:=by
 intro z hz;obtain⟨j,hj⟩:=List.getElem?_of_mem hz;have hlt:=(List.getElem?_eq_some_iff.1 hj).1;obtain⟨t,h1,h2⟩:=h.num j (by have:=h.len;omega);rw[hj]at h2;have:=Option.some.inj h2;have:=h.le;exact .inr ⟨by omega,by omega⟩
theorem Num.refine{s:Ss}{cls cls':List Int}{K K':Nat}(h:Num s cls K)(h':Num s cls' K')(hr: ∀j k,j<=s.alls.length->k<=s.alls.length->cls'.getD j 0=cls'.getD k 0->cls.getD j 0=cls.getD k 0):K<=K'/\(K=K'-> ∀j k,j<=s.alls.length->k<=s.alls.length->cls.getD j 0=cls.getD k 0->cls'.getD j 0=cls'.getD k 0):=by
 classical
 let rep:Nat->Nat:=fun t=>if ht:t<K' then Classical.choose (h'.onto t ht)else 0
 have hrep: ∀t,t<K'->rep t<=s.alls.length/\cls'[rep t]?=some ((t:Nat):Int):=by
  intro t ht;have:rep t=Classical.choose (h'.onto t ht):=dif_pos ht;rw[this];exact Classical.choose_spec (h'.onto t ht)
 let f:Nat->Nat:=fun t=>(cls.getD (rep t) 0).toNat
 have hf: ∀j t,j<=s.alls.length->t<K'->cls'[j]?=some ((t:Nat):Int)->cls.getD j 0=(f t:Int):=by
  intro j t hj ht hx;obtain⟨r1,r2⟩:=hrep t ht;have e:cls.getD j 0=cls.getD (rep t) 0:=hr j (rep t) hj r1 (by rw[List.getD_eq_getElem?_getD,List.getD_eq_getElem?_getD,hx,r2]);obtain⟨u,_,u2,_⟩:=h.getD r1;rw[e]
  show cls.getD (rep t) 0=(((cls.getD (rep t) 0).toNat:Nat):Int)
  rw[u2];simp
 have onto: ∀t,t<K-> ∃u,u<K'/\f u=t:=by
  intro t ht;obtain⟨j,hj,hx⟩:=h.onto t ht;obtain⟨u,hu,hux⟩:=h'.num j hj;refine⟨u,hu,?_⟩;have:=hf j u hj hu hux;rw[List.getD_eq_getElem?_getD,hx]at this;have this:((t:Nat):Int)=((f u:Nat):Int):=this;omega
 refine⟨?_,fun hK=>?_⟩
 ·have:=all_le (K:=K) (l:=(List.range K').map f) fun t ht=>by
   obtain⟨u,hu,rfl⟩:=onto t ht;exact List.mem_map.2 ⟨u,by simpa using hu,rfl⟩
  simpa using this
 ·subst hK;intro j k hj hk he;obtain⟨t,t1,t2,t3⟩:=h'.getD hj;obtain⟨u,u1,u2,u3⟩:=h'.getD hk;rw[hf j t hj t1 t3,hf k u hk u1 u3]at he;have:t=u:=onto_inj onto t1 u1 (by omega);rw[t2,u2,this]
theorem nil28{b o n c:Nat}{o1 o2:Operand}:abin Tryz.prog .eql 49 o1 o2 (.slice (some ⟨b,o,none⟩) n c) nils=some (.bool false):=by kernel_rfl
theorem bs49_0:bsRow Tryz.prog 49 0 []=some (1,[]):=by kernel_rfl
theorem zv_one(l:List Int):oneCells (zv l)=true:=by
 unfold oneCells zv;rw[List.all_map];exact List.all_eq_true.2 fun x _=>rfl
section
variable {Q:Value->PH->Prop}{n:Nat}{cl cl' cl'':CL}{h h0:PH}{S:Vw}{m:OM}{rows rest:Rws}{K2:Value->PH->R}
theorem SlV.take{V:Vw}{v:Value}{vs:List Value}{b o c:Nat}{cs:List Value}(h1:o+vs.length<=cs.length)(h2: ∀(i:Nat) x,vs[i]?=some x->cs[o+i]?=some x):(cs.drop o).take vs.length=vs:=by
 apply List.ext_getElem?
 intro i
 by_cases hi:i<vs.length
 ·have hx:=List.getElem?_eq_getElem hi;rw[List.getElem?_take,if_pos hi,List.getElem?_drop,hx];exact h2 i _ hx
 ·rw[List.getElem?_take,if_neg hi,List.getElem?_eq_none (by omega)]
theorem f118[OkH h](hS:Vw.le S h.cells){v:Value}{l:List Int}(hv:SlV S v (zv l))(h0l:0<l.length)(hl:l.length<1000000):
  Fr h S (F118 n cl v h) fun u ex=>Gq u l.length (zv l) ex:=by
 rcases hv with⟨he,_⟩|⟨b,o,c,cs,rfl,h1,h2,h3⟩
 ·have:=congrArg List.length he;rw[zv_len]at this;have this:l.length=0:=this;omega
 ·rw[zv_len]at h2 ⊢;unfold Fr F118;simp only[nil28,vb_some,bite_f,F118_0];refine Ret.lbs (Sl.start h hS) bs49_0 fun h1' b1 st=>?_;have hx:=st.sm.ptailS (b:=b) (o:=o) (n:=l.length) (sz:=1) (c:=c) h1 (by omega);have htk:(cs.drop o).take (l.length*1)=zv l:=by
   rw[Nat.mul_one];have:=SlV.take (V:=S) (v:=nils) (vs:=zv l) (b:=b) (o:=o) (c:=c) (cs:=cs) (by rw[zv_len];omega) h3
   rwa [zv_len]at this
  rw[htk]at hx;rw[ai49];refine Ret.lappF st (st.mem (.head _)) (by simp) (by omega) hx h0l (zv_one _) (by omega) fun h2' b2 st2=>?_;rw[Nat.zero_add];refine Fr.ret (st2.drop (rows':=[(b2,.row .opn 1 (zv l))]) (.cons_cons _ (List.nil_sublist _))) (.inl ⟨.inr ⟨b2,0,openCap,zv l,rfl,rfl,?_,?_,?_,Nat.le_refl _,by decide⟩⟩)
  ·rw[List.drop_zero,Nat.mul_one,List.take_of_length_le (by rw[zv_len];omega)]
  ·rw[zv_len];omega
  ·rw[Nat.sub_self,Nat.zero_mul]
theorem Gq.view{ex:Rws}{v:Value}{k:Nat}{cells:List Value}(g:Gq v k cells ex)(s:Sl h0 h S m rows)(hex: ∀p∈ex,p∈rows):SlV (vall S (over rows m)) v cells:=by
 rcases g with g|⟨b,rfl,rfl,h1,h2⟩
 ·rcases g.h with⟨rfl,rfl,rfl,rfl⟩|⟨b,o,cap,all,rfl,rfl,h1,h2,_⟩
  ·exact .inl ⟨rfl,rfl⟩
  ·have hl:cells.length=k:=by rw[h1,List.length_take,List.length_drop];omega
   refine .inr ⟨b,o,cap,all,by rw[hl],vall_m (s.mem (hex _ (.head _))),by omega,fun i x hx=>?_⟩;rw[h1,List.getElem?_take]at hx
   split at hx
   ·rw[List.getElem?_drop]at hx;exact hx
   ·cases hx
 ·exact .inr ⟨b,0,k,cells,by rw[h1],vall_m (s.mem (hex _ (.head _))),by omega,fun i x hx=>by rw[Nat.zero_add];exact hx⟩
end
structure ClsOk(s:Ss)(cls:List Int):Prop where
 len:cls.length=s.alls.length+1
 num: ∀j,j<=s.alls.length-> ∃t:Nat,t<=s.alls.length/\cls[j]?=some (t:Int)
 acc: ∀j k,j<=s.alls.length->k<=s.alls.length->cls.getD j 0=cls.getD k 0->accv s j=accv s k
 stab: ∀j k,j<=s.alls.length->k<=s.alls.length->cls.getD j 0=cls.getD k 0-> ∀c,c<256->cls.getD (mv s j c) 0=cls.getD (mv s k c) 0
 coarse: ∀R,Bisim s R-> ∀j k,j<=s.alls.length->k<=s.alls.length->R j k->cls.getD j 0=cls.getD k 0
structure Kn(s:Ss)(cls:List Int)(kv:List ((ByteArray×Nat)×Nat))(nx:List Int)(i:Nat):Prop where
 len:nx.length=s.alls.length+1
 ent: ∀(t:Nat) p,kv[t]?=some p->p.1.2=t/\ ∃j,j<i/\p.1.1=bstr (sgb s cls j)/\nx[j]?=some ((t:Nat):Int)
 dis: ∀(t u:Nat)(p q:(ByteArray×Nat)×Nat),kv[t]?=some p->kv[u]?=some q->p.1.1=q.1.1->t=u
 got: ∀j,j<i-> ∃(t:Nat) (p:(ByteArray×Nat)×Nat),kv[t]?=some p/\p.1.1=bstr (sgb s cls j)/\nx[j]?=some ((t:Nat):Int)
theorem Kn.num{s:Ss}{cls:List Int}{kv:List ((ByteArray×Nat)×Nat)}{nx:List Int}(h:Kn s cls kv nx (s.alls.length+1)):Num s nx kv.length:=by
 refine⟨h.len,fun j hj=>?_,fun t ht=>?_⟩
 ·obtain⟨t,p,h1,h2,h3⟩:=h.got j (by omega);exact⟨t,(List.getElem?_eq_some_iff.1 h1).1,h3⟩
 ·obtain⟨h1,j,h2,h3,h4⟩:=h.ent t _ (List.getElem?_eq_getElem ht);exact⟨j,by omega,h4⟩
theorem Kn.eq_iff{s:Ss}{cls:List Int}{kv:List ((ByteArray×Nat)×Nat)}{nx:List Int}(hsm: ∀z∈cls,Sm3 z)(h:Kn s cls kv nx (s.alls.length+1)){j k:Nat}(hj:j<=s.alls.length)(hk:k<=s.alls.length):nx.getD j 0=nx.getD k 0↔SE s cls j k:=by
 obtain⟨t,p,h1,h2,h3⟩:=h.got j (by omega);obtain⟨u,q,g1,g2,g3⟩:=h.got k (by omega);have e1:nx.getD j 0=(t:Int):=by rw[List.getD_eq_getElem?_getD,h3];rfl
 have e2:nx.getD k 0=(u:Int):=by rw[List.getD_eq_getElem?_getD,g3];rfl
 rw[e1,e2];have hSE:SE s cls j k↔bstr (sgb s cls j)=bstr (sgb s cls k):=(sgb_inj hsm).symm;rw[hSE];constructor
 ·intro e;have e:t=u:=by omega
  subst e;rw[h1]at g1;cases g1;rw[<-h2, <-g2]
 ·intro e;have:=h.dis t u p q h1 g1 (by rw[h2,g2,e]);rw[this]
section
variable {Q:Value->PH->Prop}{n:Nat}{cl cl' cl'':CL}{h h0:PH}{S:Vw}{m:OM}{rows rest:Rws}{K2:Value->PH->R}
theorem loop92i(hn:4611686018427387904<=n)(h99: ∀u v h,cl 146 [u,v] h=F146 n cl' u v h){bx bn bm:Nat}{s:Ss}{cls:List Int}{cv cnt:Value}{exC:Rws}{r12:Kt}(sv:Sv S bx s)(hf:s.Fin)(g:Gq cv (s.alls.length+1) (zv cls) exC)(hcl:cls.length=s.alls.length+1)(hsm: ∀z∈cls,Sm3 z)
  (hk: ∀h' kv c nx,Sl h0 h' S OM.emp ((bm,.map (mS kv) c)::(bn,.row .own 1 (zv nx))::exC)->Kn s cls kv nx (s.alls.length+1)->Ret (F92_7 n cl (.map (some bm)) cnt (.slice (some ⟨bn,0,none⟩) (s.alls.length+1) (s.alls.length+1)) (.int .i64 (s.alls.length:Nat)) r12 (pt bx) h') Q):
  ∀(k q i c:Nat)(h:PH)(kv:List ((ByteArray×Nat)×Nat))(nx:List Int),s.alls.length+1-i<=k->k<q->i<=s.alls.length+1->Sl h0 h S OM.emp ((bm,.map (mS kv) c)::(bn,.row .own 1 (zv nx))::exC)->Kn s cls kv nx i->
   Ret (lp q (F92_9 n cl r12) [pt bx,.int .i64 (s.alls.length:Nat),cv,cnt,.map (some bm),.slice (some ⟨bn,0,none⟩) (s.alls.length+1) (s.alls.length+1),.int .i64 ((s.alls.length+1:Nat):Int),.int .i64 (i:Nat)] h) Q:=by
 intro k
 induction k with
 |zero=>
  intro q i c h kv nx h1 h2 h3 st kn;obtain⟨q,rfl⟩: ∃r,q=r+1:=⟨q-1,by omega⟩;rw[lp_succ];have hi:i=s.alls.length+1:=by omega
  subst hi;have dc:decide (((s.alls.length+1:Nat):Int)<((s.alls.length+1:Nat):Int))=false:=by simp
  simp only[F92_9,F92_8,ucons_cons,xLt_i,dc,vb_some,bite_f];exact hk h kv c nx st kn
 |succ k ih=>
  intro q i c h kv nx h1 h2 h3 st kn
  by_cases hi:i<s.alls.length+1
  ·obtain⟨q,rfl⟩: ∃r,q=r+1:=⟨q-1,by omega⟩;rw[lp_succ];generalize hL:lp q (F92_9 n cl r12)=LL;have hsz:=hf.sz;have dc:decide (((i:Nat):Int)<((s.alls.length+1:Nat):Int))=true:=by simp;omega
   have:=st.ok;have hmem: ∀p∈exC,p∈(bm,AObj.map (mS kv) c)::(bn,AObj.row .own 1 (zv nx))::exC:=fun p hp=>.tail _ (.tail _ hp);have hpc:=c119 (n:=n) (cl:=cl) (cl':=cl') (h:=h.fzn) hn h99 st.fz (sv.mono st.sm.S_all) hf (g.view st hmem) hcl hsm (i:=i) (by omega);simp only[F92_9,F92_8,F92_4,ucons_cons,xLt_i,dc,vb_some,bite_t,hpc,jn_eq,F92_3];have go: ∀(h:PH)(kv':List ((ByteArray×Nat)×Nat))(c' t:Nat) l1 l2 cc,kv'=l1++((bstr (sgb s cls i),t),cc)::l2->(∀p∈l1,p.1.1≠bstr (sgb s cls i))->Sl h0 h S OM.emp ((bm,.map (mS kv') c')::(bn,.row .own 1 (zv nx))::exC)->Kn s cls kv' (nx.set i (t:Int)) (i+1)->
     Ret (F92_2 n cl LL [pt bx,.int .i64 (s.alls.length:Nat),cv,cnt,.map (some bm),.slice (some ⟨bn,0,none⟩) (s.alls.length+1) (s.alls.length+1),.int .i64 (i:Nat),.string (bstr (sgb s cls i)),.int .i64 ((s.alls.length+1:Nat):Int),.int .i64 (i:Nat)] h) Q:=by
    intro h kv' c' t l1 l2 cc hkv hl1 st kn';have hmk:over ((bm,.map (mS kv') c')::(bn,.row .own 1 (zv nx))::exC) OM.emp bm=some (.map (mS kv') c'):=st.mem (.head _);subst hkv;have e1:xIdxS 1 (.slice (some ⟨bn,0,none⟩) (s.alls.length+1) (s.alls.length+1)) (.int .i64 (i:Nat))=some (.pointer (some ⟨bn,i,none⟩)):=by
     rw[xIdxS_at (by omega) (by omega)];simp
    simp only[F92_2,F92_0,ucons_cons,lkS_hit st hmk hl1 (ok:=false),Bool.false_eq_true,if_false,vb_some,e1];refine Ret.lst1 st 1 rfl rfl (by rw[zv_len,kn.len];exact hi) rfl fun h2 st2=>?_;have st2:Sl h0 h2 S OM.emp ((bm,.map (mS (l1++((bstr (sgb s cls i),t),cc)::l2)) c')::(bn,.row .own 1 ((zv nx).set i (.int .i64 (t:Nat))))::exC):=st2;rw[zv_set]at st2;simp only[vN_eq,xAdd_i,wrapN (show i<4611686018427387904 by omega),vb_some];rw[<-hL];exact ih q (i+1) c' h2 _ _ (by omega) (by omega) (by omega) st2 kn'
   have hmk:over ((bm,.map (mS kv) c)::(bn,.row .own 1 (zv nx))::exC) OM.emp bm=some (.map (mS kv) c):=st.mem (.head _);have hset: ∀j (t:Int),j<i->(nx.set i t)[j]?=nx[j]?:=fun j t hj=>List.getElem?_set_ne (by omega);have hself: ∀t:Int,(nx.set i t)[i]?=some t:=fun t=>List.getElem?_set_self (by rw[kn.len];exact hi)
   by_cases hex: ∃(t:Nat) (p:(ByteArray×Nat)×Nat),kv[t]?=some p/\p.1.1=bstr (sgb s cls i)
   ·obtain⟨t,p,ht,hp⟩:=hex;have hlt:=(List.getElem?_eq_some_iff.1 ht).1;have h3:kv.drop t=kv[t]::kv.drop (t+1):=List.drop_eq_getElem_cons hlt;have hpe:kv[t]=p:=by rw[List.getElem?_eq_getElem hlt]at ht;exact Option.some.inj ht
    have hp2:=(kn.ent t p ht).1;have hkv:kv=kv.take t++((bstr (sgb s cls i),t),p.2)::kv.drop (t+1):=by
     have e:p=((bstr (sgb s cls i),t),p.2):=by
      obtain⟨⟨p1,p2⟩,p3⟩:=p;simp only at hp hp2 ⊢;rw[hp,hp2]
     rw[<-e, <-hpe, <-h3,List.take_append_drop]
    have hl1: ∀q∈kv.take t,q.1.1≠bstr (sgb s cls i):=by
     intro q hq e;obtain⟨u,hu⟩:=List.getElem?_of_mem hq;rw[List.getElem?_take]at hu
     split at hu
     ·have:=kn.dis u t q p hu ht (by rw[e,hp]);omega
     ·cases hu
    have hmk':over ((bm,.map (mS kv) c)::(bn,.row .own 1 (zv nx))::exC) OM.emp bm=some (.map (mS (kv.take t++((bstr (sgb s cls i),t),p.2)::kv.drop (t+1))) c):=by rw[<-hkv];exact hmk
    have hlk:=lkS_hit st hmk' hl1 (ok:=true);simp only[hlk,if_true,vb_some,xExt_t',List.getElem?_cons_zero,List.getElem?_cons_succ,xNot_b,Bool.not_true,bite_f];refine go h kv c t _ _ _ hkv hl1 st ⟨by rw[List.length_set];exact kn.len,fun u q hu=>?_,kn.dis,fun j hj=>?_⟩
    ·obtain⟨q1,j,q2,q3,q4⟩:=kn.ent u q hu;exact⟨q1,j,by omega,q3,by rw[hset j _ q2];exact q4⟩
    ·by_cases e:j=i
     ·subst e;exact⟨t,p,ht,hp,hself _⟩
     ·obtain⟨u,q,q1,q2,q3⟩:=kn.got j (by omega);exact⟨u,q,q1,q2,by rw[hset j _ (by omega)];exact q3⟩
   ·have hno: ∀p∈kv,p.1.1≠bstr (sgb s cls i):=by
     intro p hp e;obtain⟨t,ht⟩:=List.getElem?_of_mem hp;exact hex ⟨t,p,ht,e⟩
    simp only[lkS_none st hmk hno (ok:=true),if_true,vb_some,xExt_t',List.getElem?_cons_zero,List.getElem?_cons_succ,xNot_b,Bool.not_false,bite_t,F92_1,xMLenS st hmk];have hml:(mS kv).length=kv.length:=by simp[mS]
    rw[hml];refine Ret.lmupS st 0 rfl hno fun h2 st2=>?_;have st2:Sl h0 h2 S OM.emp ((bm,.map (mS (kv++[((bstr (sgb s cls i),kv.length),c)])) (c+1))::(bn,.row .own 1 (zv nx))::exC):=st2;have hlast: ∀(u:Nat) q,(kv++[((bstr (sgb s cls i),kv.length),c)])[u]?=some q->kv[u]?=some q\/(u=kv.length/\q=((bstr (sgb s cls i),kv.length),c)):=by
     intro u q hu
     by_cases hlt:u<kv.length
     ·rw[List.getElem?_append_left hlt]at hu;exact .inl hu
     ·rw[List.getElem?_append_right (by omega)]at hu;have hi0:u-kv.length=0:=by
       have:=(List.getElem?_eq_some_iff.1 hu).1;simp at this;omega
      rw[hi0]at hu;exact .inr ⟨by omega,by simpa using hu.symm⟩
    refine go h2 _ (c+1) kv.length kv [] c rfl hno st2 ⟨by rw[List.length_set];exact kn.len,fun u q hu=>?_,fun t u p q ht hu e=>?_,fun j hj=>?_⟩
    ·rcases hlast u q hu with hu|⟨rfl,rfl⟩
     ·obtain⟨q1,j,q2,q3,q4⟩:=kn.ent u q hu;exact⟨q1,j,by omega,q3,by rw[hset j _ q2];exact q4⟩
     ·exact⟨rfl,i,by omega,rfl,hself _⟩
    ·rcases hlast t p ht with ht|⟨rfl,rfl⟩<;>rcases hlast u q hu with hu|⟨rfl,rfl⟩
     ·exact kn.dis t u p q ht hu e
     ·exact absurd e (hno p (List.mem_of_getElem? ht))
     ·exact absurd e.symm (hno q (List.mem_of_getElem? hu))
     ·rfl
    ·by_cases e:j=i
     ·subst e;exact⟨kv.length,_,by rw[List.getElem?_append_right (Nat.le_refl _),Nat.sub_self];rfl,rfl,hself _⟩
     ·obtain⟨u,q,q1,q2,q3⟩:=kn.got j (by omega);exact⟨u,q,by rw[List.getElem?_append_left (List.getElem?_eq_some_iff.1 q1).1];exact q1,q2,by rw[hset j _ (by omega)];exact q3⟩
  ·exact ih q i c h kv nx (by omega) (by omega) h3 st kn
end
theorem getD_in{l:List Int}{j:Nat}{d e:Int}(h:j<l.length):l.getD j d=l.getD j e:=by
 rw[List.getD_eq_getElem?_getD,List.getD_eq_getElem?_getD,List.getElem?_eq_getElem h];rfl
structure Mid(s:Ss)(cls:List Int)(K:Nat):Prop where
 len:cls.length=s.alls.length+1
 sm: ∀z∈cls,Sm3 z
 num:1<=K->Num s cls K
 acc: ∀j k,j<=s.alls.length->k<=s.alls.length->cls.getD j 0=cls.getD k 0->accv s j=accv s k
 coarse: ∀R,Bisim s R-> ∀j k,j<=s.alls.length->k<=s.alls.length->R j k->cls.getD j 0=cls.getD k 0
theorem Mid.start{s:Ss}(hf:s.Fin)(ho: ∀z∈s.oks,Sm3 z):Mid s (s.oks++[-1]) 0:=by
 have hl:(s.oks++[-1]).length=s.alls.length+1:=by rw[List.length_append,hf.ol];rfl
 have e: ∀j,j<=s.alls.length->(s.oks++[-1]).getD j 0=accv s j:=fun j hj=>getD_in (by omega);refine⟨hl,fun z hz=>?_,by omega,fun j k hj hk h=>?_,fun R hR j k hj hk h=>?_⟩
 ·rcases List.mem_append.1 hz with hz|hz
  ·exact ho z hz
  ·exact .inl (by simpa using hz)
 ·rw[e j hj,e k hk]at h;exact h
 ·rw[e j hj,e k hk];exact(hR j k hj hk h).1
theorem Mid.round{s:Ss}{cls nx:List Int}{K:Nat}{kv:List ((ByteArray×Nat)×Nat)}(hf:s.Fin)(m:Mid s cls K)(kn:Kn s cls kv nx (s.alls.length+1)):
  Mid s nx kv.length/\1<=kv.length/\kv.length<=s.alls.length+1/\K<=kv.length/\(kv.length=K->ClsOk s nx):=by
 have num:=kn.num;have iff: ∀{j k},j<=s.alls.length->k<=s.alls.length->(nx.getD j 0=nx.getD k 0↔SE s cls j k):=fun hj hk=>kn.eq_iff m.sm hj hk;have acc: ∀j k,j<=s.alls.length->k<=s.alls.length->nx.getD j 0=nx.getD k 0->accv s j=accv s k:=fun j k hj hk h=>m.acc j k hj hk ((iff hj hk).1 h).1;have coarse: ∀R,Bisim s R-> ∀j k,j<=s.alls.length->k<=s.alls.length->R j k->nx.getD j 0=nx.getD k 0:=fun R hR j k hj hk h=>
  (iff hj hk).2 ⟨m.coarse R hR j k hj hk h,fun c hc=>m.coarse R hR _ _ (mv_le hf j c) (mv_le hf k c) ((hR j k hj hk h).2 c hc)⟩
 have one:1<=kv.length:=by
  obtain⟨t,h1,_⟩:=num.num 0 (Nat.zero_le _);omega
 have href:=fun h1:1<=K=>(m.num h1).refine num fun j k hj hk h=>((iff hj hk).1 h).1;refine⟨⟨num.len,num.sm hf.sz,fun _=>num,acc,coarse⟩,one,num.le,?_,fun hK=>⟨num.len,fun j hj=>?_,acc,fun j k hj hk h c hc=>?_,coarse⟩⟩
 ·by_cases h1:1<=K
  ·exact(href h1).1
  ·omega
 ·obtain⟨t,h1,h2⟩:=num.num j hj;have:=num.le;exact⟨t,by omega,h2⟩
 ·exact(href (by omega)).2 hK.symm _ _ (mv_le hf j c) (mv_le hf k c) (((iff hj hk).1 h).2 c hc)
section
variable {Q:Value->PH->Prop}{n:Nat}{cl cl' cl'':CL}{h h0:PH}{S:Vw}{m:OM}{rows rest:Rws}{K2:Value->PH->R}
theorem f92[OkH h](hn:4611686018427387904<=n)(h99: ∀u v h,cl 146 [u,v] h=F146 n cl' u v h)(hS:Vw.le S h.cells){bx:Nat}{s:Ss}(sv:Sv S bx s)(hf:s.Fin)(ho: ∀z∈s.oks,Sm3 z):
  Fr h S (F92 n cl (pt bx) h) fun v ex=> ∃b c cls,v= .tuple ⟨[.slice (some ⟨b,0,none⟩) s.alls.length c,.int .i64 (cls.getD s.alls.length 0)]⟩/\ex=[(b,.row .own 1 (zv cls))]/\ClsOk s cls:=by
 have hsz:=hf.sz;have sv0:=sv;obtain⟨fs,av,nv,ov,vs,a1,a2,a3,a4,a5,a6,a7,a8⟩:=sv;unfold Fr F92;have st0:=Sl.start h hS;have l2:xLd (.pointer (some ⟨bx,2,none⟩)) h=some av:=st0.ldS a1 a2;have l4:xLd (.pointer (some ⟨bx,4,none⟩)) h=some ov:=st0.ldS a1 a7;simp only[xNil_p,vb_some,xFld_p,Nat.zero_add,l2,a3,l4];have hol:=hf.ol;have hone:=hf.one;refine Ret.lfcall st0 (f118 (n:=n) (cl:=cl) (h:=h.fzn) (S:=S) (fun b cs e=>st0.leS b cs e) a8 (by omega) (by omega)) fun v8 h1 ex8 g8 st1=>?_;have em:vM 0= .int .i64 (-1):=rfl;rw[em];refine Ret.gqapp st1 g8 bs49 ai49 rfl (sz_le (c:=3000) (by omega) (by decide)) fun h2 v10 ex10 st2 g10=>?_;have e1:zv s.oks++[.int .i64 (-1)]=zv (s.oks++[-1]):=by simp[zv]
 rw[e1,hol]at g10;rw[List.append_nil]at st2;have key: ∀(k q K:Nat)(h1:PH)(cv:Value)(cls:List Int)(exC:Rws),s.alls.length+2-K<=k->k<q->Mid s cls K->Gq cv (s.alls.length+1) (zv cls) exC->Sl h h1 S OM.emp exC->
   Ret (lp q (F92_11 n cl) [pt bx,.int .i64 (s.alls.length:Nat),cv,.int .i64 (K:Nat)] h1) fun v h'=> ∃rows,Sl h h' S OM.emp rows/\ ∃b c cls,v= .tuple ⟨[.slice (some ⟨b,0,none⟩) s.alls.length c,.int .i64 (cls.getD s.alls.length 0)]⟩/\rows=[(b,.row .own 1 (zv cls))]/\ClsOk s cls:=by
  intro k
  induction k with
  |zero=>
   intro q K h1 cv cls exC h3 h4 mid g st;have:=(mid.num (by omega)).le;omega
  |succ k ih=>
   intro q K h1 cv cls exC h3 h4 mid g st;obtain⟨q,rfl⟩: ∃r,q=r+1:=⟨q-1,by omega⟩;rw[lp_succ];generalize hL:lp q (F92_11 n cl)=LL;have hw:IntKind.i64.wrap (((s.alls.length:Nat):Int)+((1:Nat):Int))=((s.alls.length+1:Nat):Int):=by rw[wrap_in (by omega) (by omega)];omega
   simp only[F92_11,F92_10,ucons_cons];refine Ret.lmmk st fun h5 bm st5=>?_;simp only[vN_eq,xAdd_i,hw,vb_some];refine Ret.lmk st5 zi49 (by omega) (by omega) (by omega) (by omega) fun h6 bn st6=>?_;rw[Int.toNat_natCast,zv_zrows]at st6;rw[Int.toNat_natCast];have st6:Sl h h6 S OM.emp ((bm,.map (mS []) 0)::(bn,.row .own 1 (zv (List.replicate (s.alls.length+1) 0)))::exC):=st6.perm (List.Perm.swap _ _ _);refine loop92i hn h99 sv0 hf g mid.len mid.sm (fun h7 kv c nx st7 kn=>?_) (s.alls.length+1) n 0 0 h6 [] (List.replicate (s.alls.length+1) 0) (by omega) (by omega) (by omega) st6 ⟨by rw[List.length_replicate],(fun t p h=>by simp at h),(fun t u p q h=>by simp at h),fun j hj=>by omega⟩;obtain⟨mid',o1,o2,o3,hok⟩:=mid.round hf kn;have hmk:over ((bm,.map (mS kv) c)::(bn,.row .own 1 (zv nx))::exC) OM.emp bm=some (.map (mS kv) c):=st7.mem (.head _);have hml:(mS kv).length=kv.length:=by simp[mS]
   have hnl:=kn.len;have st8:Sl h h7 S OM.emp [(bn,.row .own 1 (zv nx))]:=st7.drop (.cons _ (.cons_cons _ (List.nil_sublist _)));simp only[F92_7,xMLenS st7 hmk,hml,vb_some,xEq_i]
   by_cases hK:kv.length=K
   ·have d:decide (((kv.length:Nat):Int)=((K:Nat):Int))=true:=by simp[hK]
    have hc:=hok hK;obtain⟨inf,hu,hi',hsz1⟩:=u49;have hcut:=acut_at (P:=Tryz.prog) (T:=49) (e:=3) (b:=bn) (o:=0) (n:=s.alls.length+1) (c:=s.alls.length+1) (l:=0) (r:=s.alls.length) (lo:=none) (hi:=some (.int .i64 (s.alls.length:Nat))) hu hi' (CapOk.self (by omega)) (bd_i (by omega) (by omega)) rfl (Nat.zero_le _) (by omega);have hne: ¬ s.alls.length+1=0:=by omega
    rw[if_neg hne,Nat.zero_mul,Nat.sub_zero,Nat.sub_zero]at hcut;have hx:=List.getElem?_eq_getElem (l:=nx) (i:=s.alls.length) (by omega);have hD:nx.getD s.alls.length 0=nx[s.alls.length]'(by omega):=by rw[List.getD_eq_getElem?_getD,hx];rfl
    have e2:xIdxS 1 (.slice (some ⟨bn,0,none⟩) (s.alls.length+1) (s.alls.length+1)) (.int .i64 (s.alls.length:Nat))=some (.pointer (some ⟨bn,s.alls.length,none⟩)):=by
     rw[xIdxS_at (by omega) (by omega)];simp
    have l5:xLd (.pointer (some ⟨bn,s.alls.length,none⟩)) h7=some (.int .i64 (nx.getD s.alls.length 0)):=by
     rw[hD];exact st8.ld (.head _) (zv_get hx)
    simp only[d,bite_t,F92_5,hcut,vb_some,e2,l5];exact Ret.of ⟨_,st8,bn,s.alls.length+1,nx,rfl,rfl,hc⟩
   ·have d:decide (((kv.length:Nat):Int)=((K:Nat):Int))=false:=by simp;omega
    simp only[d,bite_f,F92_6,xMLenS st7 hmk,hml,vb_some];rw[<-hL];exact ih q kv.length h7 _ nx [(bn,.row .own 1 (zv nx))] (by omega) (by omega) mid' (.inr ⟨bn,rfl,rfl,by rw[zv_len,hnl],by omega⟩) st8
 rw[vN_eq];exact key (s.alls.length+2) n 0 h2 v10 (s.oks++[-1]) ex10 (by omega) (by omega) (Mid.start hf ho) g10 st2
end
theorem inj_le: ∀(n k:Nat)(f:Nat->Nat),(∀i,i<k->f i<n)->(∀i j,i<k->j<k->f i=f j->i=j)->k<=n
 |0,k,f,h1,_=>by
  by_cases e:k=0
  ·omega
  ·have:=h1 0 (by omega);omega
 |n+1,k,f,h1,h2=>by
  by_cases hex: ∃i,i<k/\f i=n
  ·obtain⟨i0,hi0,hf⟩:=hex;have:=inj_le n (k-1) (fun j=>if j<i0 then f j else f (j+1)) (fun j hj=>by
    show(if j<i0 then f j else f (j+1))<n
    split
    ·rename_i hlt;have h3:=h1 j (by omega);have h4:f j≠n:=fun e=>by have:=h2 j i0 (by omega) hi0 (by rw[e,hf]);omega
     omega
    ·rename_i hlt;have h3:=h1 (j+1) (by omega);have h4:f (j+1)≠n:=fun e=>by have:=h2 (j+1) i0 (by omega) hi0 (by rw[e,hf]);omega
     omega) (fun a b ha hb hab=>by
    have hab:(if a<i0 then f a else f (a+1))=(if b<i0 then f b else f (b+1)):=hab
    split at hab<;>split at hab
    ·exact h2 a b (by omega) (by omega) hab
    ·have:=h2 a (b+1) (by omega) (by omega) hab;omega
    ·have:=h2 (a+1) b (by omega) (by omega) hab;omega
    ·have:=h2 (a+1) (b+1) (by omega) (by omega) hab;omega)
   omega
  ·have:=inj_le n k f (fun i hi=>by
    have h3:=h1 i hi;have h4:f i≠n:=fun e=>hex ⟨i,hi,e⟩;omega) h2
   omega
def Nw(h0:PH)(V:Vw):Vw:=fun b=>if h0.n<=b then V b else none
theorem Nw.mono{h0:PH}{V W:Vw}(h:Vw.le V W):Vw.le (Nw h0 V) (Nw h0 W):=by
 intro b cs hb;unfold Nw at hb ⊢
 split at hb
 ·rename_i hn;rw[if_pos hn];exact h _ _ hb
 ·cases hb
theorem Nw.at{h0:PH}{V:Vw}{b:Nat}{cs:List Value}(hn:h0.n<=b)(h:V b=some cs):Nw h0 V b=some cs:=by
 unfold Nw;rw[if_pos hn];exact h
section
variable {Q:Value->PH->Prop}{n:Nat}{cl cl' cl'':CL}{h h0:PH}{S:Vw}{m:OM}{rows rest:Rws}{K2:Value->PH->R}
theorem Ret.lfcallN(s:Sl h0 h S m rows){r:R}{P:Value->Vw->Prop}(hP: ∀v V W,Vw.le V W->P v V->P v W)(a:Ret r fun v h1=> ∃S',Sl h.fzn h1 S' OM.emp []/\P v (Nw h.fzn S'))
  (hk: ∀v h' S2,Vw.le S S2->Sl h0 h' S2 m rows->P v S2->Ret (K2 v h') Q):Ret (Go.Am.hb (Go.Am.fcall h r) K2) Q:=by
 obtain⟨v,h1,rfl,S',s1,hp⟩:=a;have ok:=s.ok;have e:Go.Am.fcall h (some (v,h1))=some (v,h.back h1):=by
  show Bool.rec (motive:=fun _=>R) none (some (v,h.back h1)) (Nat.ble h.fz h.n)=_
  rw[Nat.ble_eq_true_of_le ok.fz]
 rw[e];have kp:=s1.sm.kp;have hle:h.n<=h1.n:=kp.le;have le0:=s.sm.kp.le;have hraw: ∀b,(h.back h1).raw b=h1.raw b:=fun b=>rfl;have hold: ∀b,b<h.n->h1.raw b=h.raw b:=fun b hb=>kp.raw b hb;refine hk v (h.back h1) (fun b=>if h.n<=b then S' b else S b) ?_ ⟨⟨⟨⟨by show h.fz<=h1.n;have:=ok.fz;omega,kp.ok.full⟩,by show h0.n<=h1.n;omega,s.sm.kp.fz,fun b hb=>?_,opK_of fun b hb=>?_⟩,s.sm.fz,fun b o hb=>?_,fun b cs hb=>?_⟩,s.nd,s.out⟩ (hP _ _ _ ?_ hp)
 ·intro b cs hb;have hlt:=s.sm.ltS hb
  show(if h.n<=b then S' b else S b)=_
  rw[if_neg (by omega)];exact hb
 ·rw[hraw,hold b (by omega)];exact s.sm.kp.raw b hb
 ·rw[hraw,hold b (by omega)];exact s.sm.kp.raw b hb
 ·have:=s.sm.own b o hb;exact⟨by rw[hraw,hold b (s.sm.lt hb)];exact this.1,this.2⟩
 ·have hb:(if h.n<=b then S' b else S b)=some cs:=hb
  split at hb
  ·rename_i hn;obtain⟨h2,h3⟩:=s1.sm.see b cs hb;refine⟨?_,?_⟩
   ·unfold PH.cells at h2 ⊢;rw[hraw];exact h2
   ·cases hq:over rows m b with
    |none=>rfl
    |some o=>have:=s.sm.lt hq;omega
  ·rename_i hn;obtain⟨h2,h3⟩:=s.sm.see b cs hb;refine⟨?_,h3⟩;unfold PH.cells at h2 ⊢;rw[hraw,hold b (by omega)];exact h2
 ·intro b cs hb;unfold Nw at hb
  show(if h.n<=b then S' b else S b)=_
  split at hb
  ·rename_i hn;have hn:h.n<=b:=hn;rw[if_pos hn];exact hb
  ·cases hb
theorem Gq.settleN{ex:Rws}{k:Nat}{v:Value}{cells:List Value}(s:Sl h0 h S m (ex++rows))(g:Gq v k cells ex): ∃S',Vw.le S S'/\Sl h0 h S' m rows/\SlV (Nw h0 S') v cells:=by
 rcases g with g|⟨b,rfl,rfl,h1,h2⟩
 ·rcases g.h with⟨rfl,rfl,rfl,rfl⟩|⟨b,o,cap,all,rfl,rfl,h1,h2,_⟩
  ·exact⟨S,Vw.le.refl _,s,.inl ⟨rfl,rfl⟩⟩
  ·have hn:=(s.sm.own b _ (s.mem (.head _))).2;obtain⟨s1,hS⟩:=s.settle (i:=0) rfl;have hl:cells.length=k:=by rw[h1,List.length_take,List.length_drop];omega
   refine⟨_,Vw.le_put hS,s1,.inr ⟨b,o,cap,all,by rw[hl],Nw.at hn Vw.put_self,by omega,fun i x hx=>?_⟩⟩;rw[h1,List.getElem?_take]at hx
   split at hx
   ·rw[List.getElem?_drop]at hx;exact hx
   ·cases hx
 ·have hn:=(s.sm.own b _ (s.mem (.head _))).2;obtain⟨s1,hS⟩:=s.settle (i:=0) rfl;exact⟨_,Vw.le_put hS,s1,.inr ⟨b,0,k,cells,by rw[h1],Nw.at hn Vw.put_self,by omega,fun i x hx=>by rw[Nat.zero_add];exact hx⟩⟩
end
structure Dfa where
 next:List (List Int)
 acc:List Int
def DfV(V:Vw)(v:Value)(d:Dfa):Prop:= ∃nv av vs,v= .agg ⟨[nv,av]⟩/\SlV V nv vs/\vs.length=d.next.length/\(∀(i:Nat) r,d.next[i]?=some r-> ∃x,vs[i]?=some x/\SlV V x (zv r))/\SlV V av (zv d.acc)
theorem DfV.mono{V W:Vw}{v:Value}{d:Dfa}(hs:Vw.le V W)(h:DfV V v d):DfV W v d:=by
 obtain⟨nv,av,vs,a1,a2,a3,a4,a5⟩:=h;exact⟨nv,av,vs,a1,a2.mono hs,a3,fun i r hi=>let⟨x,q1,q2⟩:=a4 i r hi;⟨x,q1,q2.mono hs⟩,a5.mono hs⟩
def Tb(nxs:List (List Int))(nr:List Int)(c i' c':Nat)(z:Int):Prop:=(∃r,nxs[i']?=some r/\r[c']?=some z)\/(i'=nxs.length/\c'<c/\nr[c']?=some z)
def Ent(s:Ss)(cls:List Int)(st:List Nat)(q c:Nat)(z:Int):Prop:=
 (cls.getD (mv s q c) 0=cls.getD s.alls.length 0/\z= -1)\/(cls.getD (mv s q c) 0≠cls.getD s.alls.length 0/\ ∃j:Nat,z=j/\ ∃u,st[j]?=some u/\cls.getD u 0=cls.getD (mv s q c) 0)
theorem Ent.app{s:Ss}{cls:List Int}{st l:List Nat}{q c:Nat}{z:Int}(h:Ent s cls st q c z):Ent s cls (st++l) q c z:=by
 rcases h with h|⟨h1,j,h2,u,h3,h4⟩
 ·exact .inl h
 ·exact .inr ⟨h1,j,h2,u,by rw[List.getElem?_append_left (List.getElem?_eq_some_iff.1 h3).1];exact h3,h4⟩
def Bef(i'' c'' i' c':Nat):Prop:=i''<i'\/(i''=i'/\c''<c')
structure Nb(s:Ss)(cls:List Int)(st:List Nat)(nxs:List (List Int))(accs:List Int)(nr:List Int)(c:Nat):Prop where
 st0:st[0]?=some 0
 stl: ∀u∈st,u<s.alls.length
 dis: ∀(i j u v:Nat),st[i]?=some u->st[j]?=some v->cls.getD u 0=cls.getD v 0->i=j
 rl: ∀r∈nxs,r.length=256
 nrl:nr.length=256
 al:accs.length=nxs.length
 acc: ∀(i q:Nat),i<nxs.length->st[i]?=some q->accs[i]?=s.oks[q]?
 il:nxs.length<=st.length
 e: ∀(i' c':Nat) z,Tb nxs nr c i' c' z-> ∃q,st[i']?=some q/\Ent s cls st q c' z
 o: ∀k,1<=k->k<st.length-> ∃i' c',i'<k/\Tb nxs nr c i' c' ((k:Nat):Int)
 d: ∀(i' c' j k:Nat),Tb nxs nr c i' c' ((j:Nat):Int)->1<=k->k<j-> ∃i'' c'',Bef i'' c'' i' c'/\Tb nxs nr c i'' c'' ((k:Nat):Int)
theorem Nb.len{s:Ss}{cls:List Int}{st:List Nat}{nxs:List (List Int)}{accs nr:List Int}{c:Nat}(h:Nb s cls st nxs accs nr c):st.length<=s.alls.length:=by
 refine inj_le _ _ (fun i=>st.getD i 0) (fun i hi=>?_) (fun i j hi hj he=>?_)
 ·have hx:=List.getElem?_eq_getElem hi
  show st.getD i 0<_
  rw[List.getD_eq_getElem?_getD,hx];exact h.stl _ (List.getElem_mem hi)
 ·have hx:=List.getElem?_eq_getElem hi;have hy:=List.getElem?_eq_getElem hj;have he:st.getD i 0=st.getD j 0:=he;rw[List.getD_eq_getElem?_getD,List.getD_eq_getElem?_getD,hx,hy]at he;have he:st[i]=st[j]:=he;exact h.dis i j _ _ hx hy (by rw[he])
theorem Tb.set{nxs:List (List Int)}{nr:List Int}{c i' c':Nat}{z z':Int}(hc:c<nr.length):Tb nxs (nr.set c z) (c+1) i' c' z'↔Tb nxs nr c i' c' z'\/(i'=nxs.length/\c'=c/\z'=z):=by
 unfold Tb;constructor
 ·rintro(h|⟨h1,h2,h3⟩)
  ·exact .inl (.inl h)
  ·by_cases e:c'=c
   ·rw[e,List.getElem?_set_self hc]at h3;exact .inr ⟨h1,e,(Option.some.inj h3).symm⟩
   ·rw[List.getElem?_set_ne (fun h=>e h.symm)]at h3;exact .inl (.inr ⟨h1,by omega,h3⟩)
 ·rintro((h|⟨h1,h2,h3⟩)|⟨h1,h2,h3⟩)
  ·exact .inl h
  ·exact .inr ⟨h1,by omega,by rw[List.getElem?_set_ne (by omega)];exact h3⟩
  ·exact .inr ⟨h1,by omega,by rw[h2,h3,List.getElem?_set_self hc]⟩
theorem Nb.put{s:Ss}{cls:List Int}{st:List Nat}{nxs:List (List Int)}{accs nr:List Int}{c q:Nat}{z:Int}(h:Nb s cls st nxs accs nr c)(hc:c<256)(hq:st[nxs.length]?=some q)(he:Ent s cls st q c z)(hz:z<st.length):Nb s cls st nxs accs (nr.set c z) (c+1):=by
 have hcl:c<nr.length:=by rw[h.nrl];exact hc
 refine⟨h.st0,h.stl,h.dis,h.rl,by rw[List.length_set];exact h.nrl,h.al,h.acc,h.il,fun i' c' z' ht=>?_,fun k h1 h2=>?_,fun i' c' j k ht h1 h2=>?_⟩
 ·rcases(Tb.set hcl).1 ht with ht|⟨rfl,rfl,rfl⟩
  ·exact h.e i' c' z' ht
  ·exact⟨q,hq,he⟩
 ·obtain⟨i',c',e1,e2⟩:=h.o k h1 h2;exact⟨i',c',e1,(Tb.set hcl).2 (.inl e2)⟩
 ·rcases(Tb.set hcl).1 ht with ht|⟨rfl,rfl,e⟩
  ·obtain⟨i'',c'',e1,e2⟩:=h.d i' c' j k ht h1 h2;exact⟨i'',c'',e1,(Tb.set hcl).2 (.inl e2)⟩
  ·obtain⟨i'',c'',e1,e2⟩:=h.o k h1 (by omega);refine⟨i'',c'',?_,(Tb.set hcl).2 (.inl e2)⟩;rcases e2 with⟨r,r1,_⟩|⟨r1,r2,_⟩
   ·exact .inl (List.getElem?_eq_some_iff.1 r1).1
   ·exact .inr ⟨r1,r2⟩
theorem Nb.more{s:Ss}{cls:List Int}{st:List Nat}{nxs:List (List Int)}{accs nr:List Int}{c q:Nat}(h:Nb s cls st nxs accs nr c)(hc:c<256)(hq:st[nxs.length]?=some q)(hm:mv s q c<s.alls.length)(hne:cls.getD (mv s q c) 0≠cls.getD s.alls.length 0)(hno: ∀(j u:Nat),st[j]?=some u->cls.getD u 0≠cls.getD (mv s q c) 0):
  Nb s cls (st++[mv s q c]) nxs accs (nr.set c ((st.length:Nat):Int)) (c+1):=by
 have hcl:c<nr.length:=by rw[h.nrl];exact hc
 have hql:=(List.getElem?_eq_some_iff.1 hq).1;have hget: ∀{i u:Nat},(st++[mv s q c])[i]?=some u->st[i]?=some u\/(i=st.length/\u=mv s q c):=by
  intro i u hi
  by_cases hlt:i<st.length
  ·rw[List.getElem?_append_left hlt]at hi;exact .inl hi
  ·rw[List.getElem?_append_right (by omega)]at hi;have hi0:i-st.length=0:=by
    have:=(List.getElem?_eq_some_iff.1 hi).1;simp at this;omega
   rw[hi0]at hi;exact .inr ⟨by omega,by simpa using hi.symm⟩
 have hlast:(st++[mv s q c])[st.length]?=some (mv s q c):=by rw[List.getElem?_append_right (Nat.le_refl _),Nat.sub_self];rfl
 have hold: ∀{i u:Nat},st[i]?=some u->(st++[mv s q c])[i]?=some u:=fun {i u} hi=>by rw[List.getElem?_append_left (List.getElem?_eq_some_iff.1 hi).1];exact hi
 refine⟨hold h.st0,fun u hu=>?_,fun i j u v hi hj huv=>?_,h.rl,by rw[List.length_set];exact h.nrl,h.al,fun i r hi hr=>?_,by rw[List.length_append];have:=h.il;omega,fun i' c' z' ht=>?_,fun k h1 h2=>?_,fun i' c' j k ht h1 h2=>?_⟩
 ·rcases List.mem_append.1 hu with hu|hu
  ·exact h.stl u hu
  ·have:u=mv s q c:=by simpa using hu
   rw[this];exact hm
 ·rcases hget hi with hi|⟨rfl,rfl⟩<;>rcases hget hj with hj|⟨rfl,rfl⟩
  ·exact h.dis i j u v hi hj huv
  ·exact absurd huv (hno i u hi)
  ·exact absurd huv.symm (hno j v hj)
  ·rfl
 ·rcases hget hr with hr|⟨rfl,rfl⟩
  ·exact h.acc i r hi hr
  ·have:=h.il;omega
 ·rcases(Tb.set hcl).1 ht with ht|⟨rfl,rfl,rfl⟩
  ·obtain⟨q',e1,e2⟩:=h.e i' c' z' ht;exact⟨q',hold e1,e2.app⟩
  ·exact⟨q,hold hq,.inr ⟨hne,st.length,rfl,_,hlast,rfl⟩⟩
 ·rw[List.length_append]at h2
  by_cases e:k=st.length
  ·exact⟨nxs.length,c,by omega,(Tb.set hcl).2 (.inr ⟨rfl,rfl,by rw[e]⟩)⟩
  ·obtain⟨i',c',e1,e2⟩:=h.o k h1 (by simp at h2;omega);exact⟨i',c',e1,(Tb.set hcl).2 (.inl e2)⟩
 ·rcases(Tb.set hcl).1 ht with ht|⟨rfl,rfl,e⟩
  ·obtain⟨i'',c'',e1,e2⟩:=h.d i' c' j k ht h1 h2;exact⟨i'',c'',e1,(Tb.set hcl).2 (.inl e2)⟩
  ·obtain⟨i'',c'',e1,e2⟩:=h.o k h1 (by omega);refine⟨i'',c'',?_,(Tb.set hcl).2 (.inl e2)⟩;rcases e2 with⟨r,r1,_⟩|⟨r1,r2,_⟩
   ·exact .inl (List.getElem?_eq_some_iff.1 r1).1
   ·exact .inr ⟨r1,r2⟩
theorem Tb.end'{nxs:List (List Int)}{nr nr':List Int}{i' c':Nat}{z:Int}(hl:nr.length=256):Tb (nxs++[nr]) nr' 0 i' c' z↔Tb nxs nr 256 i' c' z:=by
 unfold Tb;constructor
 ·rintro(⟨r,h1,h2⟩|⟨_,h,_⟩)
  ·by_cases hlt:i'<nxs.length
   ·rw[List.getElem?_append_left hlt]at h1;exact .inl ⟨r,h1,h2⟩
   ·rw[List.getElem?_append_right (by omega)]at h1;have hi0:i'-nxs.length=0:=by
     have:=(List.getElem?_eq_some_iff.1 h1).1;simp at this;omega
    rw[hi0]at h1;obtain rfl:nr=r:=by simpa using h1
    exact .inr ⟨by omega,by have:=(List.getElem?_eq_some_iff.1 h2).1;omega,h2⟩
  ·omega
 ·rintro(⟨r,h1,h2⟩|⟨rfl,h2,h3⟩)
  ·exact .inl ⟨r,by rw[List.getElem?_append_left (List.getElem?_eq_some_iff.1 h1).1];exact h1,h2⟩
  ·exact .inl ⟨nr,by rw[List.getElem?_append_right (Nat.le_refl _),Nat.sub_self];rfl,h3⟩
theorem Nb.row{s:Ss}{cls:List Int}{st:List Nat}{nxs:List (List Int)}{accs nr nr':List Int}{q:Nat}{a:Int}(h:Nb s cls st nxs accs nr 256)(hq:st[nxs.length]?=some q)(ha:s.oks[q]?=some a)(hl':nr'.length=256):Nb s cls st (nxs++[nr]) (accs++[a]) nr' 0:=by
 have hql:=(List.getElem?_eq_some_iff.1 hq).1;refine⟨h.st0,h.stl,h.dis,fun r hr=>?_,hl',by rw[List.length_append,List.length_append,h.al];rfl,fun i r hi hr=>?_,by rw[List.length_append];exact hql,fun i' c' z ht=>h.e i' c' z ((Tb.end' h.nrl).1 ht),fun k h1 h2=>?_,fun i' c' j k ht h1 h2=>?_⟩
 ·rcases List.mem_append.1 hr with hr|hr
  ·exact h.rl r hr
  ·have:r=nr:=by simpa using hr
   rw[this];exact h.nrl
 ·have hal:=h.al
  by_cases hlt:i<nxs.length
  ·rw[List.getElem?_append_left (by omega)];exact h.acc i r hlt hr
  ·rw[List.length_append]at hi;have hi:i<nxs.length+1:=hi;have e:i=nxs.length:=by omega
   subst e;rw[hq]at hr;cases hr;rw[List.getElem?_append_right (by omega),show nxs.length-accs.length=0 by omega,ha];rfl
 ·obtain⟨i',c',e1,e2⟩:=h.o k h1 h2;exact⟨i',c',e1,(Tb.end' h.nrl).2 e2⟩
 ·obtain⟨i'',c'',e1,e2⟩:=h.d i' c' j k ((Tb.end' h.nrl).1 ht) h1 h2;exact⟨i'',c'',e1,(Tb.end' h.nrl).2 e2⟩
def KI(kv:List ((Int×Nat)×Nat))(st:List Nat)(cls:List Int):Prop:=kv.length=st.length/\ ∀(k:Nat) p,kv[k]?=some p-> ∃u,st[k]?=some u/\p.1=(cls.getD u 0,k)
theorem KI.hit{kv:List ((Int×Nat)×Nat)}{st:List Nat}{cls:List Int}(h:KI kv st cls)(hd: ∀(i j u v:Nat),st[i]?=some u->st[j]?=some v->cls.getD u 0=cls.getD v 0->i=j){j u:Nat}{z:Int}(hj:st[j]?=some u)(hz:cls.getD u 0=z): ∃l1 l2 c,kv=l1++((z,j),c)::l2/\ ∀p∈l1,p.1.1≠z:=by
 have hlt:=(List.getElem?_eq_some_iff.1 hj).1;have hl:=h.1;have hx:=List.getElem?_eq_getElem (l:=kv) (i:=j) (by omega);obtain⟨u',q1,q2⟩:=h.2 _ _ hx;rw[hj]at q1;cases q1;rw[hz]at q2;refine⟨kv.take j,kv.drop (j+1),(kv[j]'(by omega)).2,?_,fun p hp he=>?_⟩
 ·have h3:kv.drop j=kv[j]'(by omega)::kv.drop (j+1):=List.drop_eq_getElem_cons (by omega);have h4:kv[j]'(by omega)=((z,j),(kv[j]'(by omega)).2):=by rw[<-q2]
  rw[<-h4, <-h3,List.take_append_drop]
 ·obtain⟨i,hi⟩:=List.getElem?_of_mem hp;rw[List.getElem?_take]at hi
  split at hi
  ·rename_i hij;obtain⟨v,r1,r2⟩:=h.2 i p hi;rw[r2]at he;have:=hd i j v u r1 hj (by rw[hz];exact he);omega
  ·cases hi
theorem KI.none{kv:List ((Int×Nat)×Nat)}{st:List Nat}{cls:List Int}(h:KI kv st cls){z:Int}(hno: ∀(j u:Nat),st[j]?=some u->cls.getD u 0≠z): ∀p∈kv,p.1.1≠z:=by
 intro p hp he;obtain⟨k,hk⟩:=List.getElem?_of_mem hp;obtain⟨u,h1,h2⟩:=h.2 k p hk;rw[h2]at he;exact hno k u h1 he
theorem KI.snoc{kv:List ((Int×Nat)×Nat)}{st:List Nat}{cls:List Int}(h:KI kv st cls){u c:Nat}:KI (kv++[((cls.getD u 0,st.length),c)]) (st++[u]) cls:=by
 refine⟨by rw[List.length_append,List.length_append,h.1];rfl,fun k p hk=>?_⟩;have hl:=h.1
 by_cases hlt:k<kv.length
 ·rw[List.getElem?_append_left hlt]at hk;obtain⟨v,h1,h2⟩:=h.2 k p hk;exact⟨v,by rw[List.getElem?_append_left (by omega)];exact h1,h2⟩
 ·rw[List.getElem?_append_right (by omega)]at hk;have hi0:k-kv.length=0:=by
   have:=(List.getElem?_eq_some_iff.1 hk).1;simp at this;omega
  rw[hi0]at hk;have hp:((cls.getD u 0,st.length),c)=p:=by simpa using hk
  refine⟨u,?_,?_⟩
  ·rw[List.getElem?_append_right (by omega),show k-st.length=0 by omega];rfl
  ·rw[<-hp,show k=st.length by omega]
theorem zc76:zcells Tryz.prog 76=some [nils,nils]:=by kernel_rfl
theorem ns_snoc'(l:List Nat)(i:Nat):ns l++[.int .i64 (i:Nat)]=ns (l++[i]):=by simp[ns]
def Nm(h0:PH)(S:Vw)(rows rest:Rws)(d2 bm:Nat)(sv:Value)(cls:List Int)(st:List Nat)(nxs:List (List Int))(accs:List Int):Prop:= ∃kv c nv av exS exN exA cN,
 rows=(d2,.row .own 1 [nv,av])::(bm,.map (mI kv) c)::(exS++(exN++(exA++rest)))/\KI kv st cls/\Gq sv st.length (ns st) exS/\Gq nv nxs.length cN exN/\(∀(i:Nat) r,nxs[i]?=some r-> ∃x,cN[i]?=some x/\SlV (Nw h0 S) x (zv r))/\Gq av accs.length (zv accs) exA
theorem Nm.mono{h0:PH}{V W:Vw}{rows rest:Rws}{d2 bm:Nat}{sv:Value}{cls:List Int}{st:List Nat}{nxs:List (List Int)}{accs:List Int}(hs:Vw.le V W)(h:Nm h0 V rows rest d2 bm sv cls st nxs accs):Nm h0 W rows rest d2 bm sv cls st nxs accs:=by
 obtain⟨kv,c,nv,av,exS,exN,exA,cN,a1,a2,a3,a4,a5,a6⟩:=h;exact⟨kv,c,nv,av,exS,exN,exA,cN,a1,a2,a3,a4,fun i r hi=>let⟨x,q1,q2⟩:=a5 i r hi;⟨x,q1,q2.mono (Nw.mono hs)⟩,a6⟩
theorem Nm.frame{h0:PH}{V:Vw}{rows rest:Rws}{d2 bm:Nat}{sv:Value}{cls:List Int}{st:List Nat}{nxs:List (List Int)}{accs:List Int}(h:Nm h0 V rows rest d2 bm sv cls st nxs accs): ∃A,rows=A++rest/\ ∀rest',Nm h0 V (A++rest') rest' d2 bm sv cls st nxs accs:=by
 obtain⟨kv,c,nv,av,exS,exN,exA,cN,rfl,a2,a3,a4,a5,a6⟩:=h;exact⟨(d2,.row .own 1 [nv,av])::(bm,.map (mI kv) c)::(exS++(exN++exA)),by simp[List.append_assoc],fun rest'=>⟨kv,c,nv,av,exS,exN,exA,cN,by simp[List.append_assoc],a2,a3,a4,a5,a6⟩⟩
section
variable {Q:Value->PH->Prop}{n:Nat}{cl cl' cl'':CL}{h h0:PH}{S:Vw}{m:OM}{rows rest:Rws}{K2:Value->PH->R}
theorem loop93i(hn:4611686018427387904<=n){bx d1 d2 bm bn q0:Nat}{s:Ss}{cls:List Int}{cv:Value}{S0:Vw}{nxs:List (List Int)}{accs:List Int}{r8:Kt}(sv:Sv S0 bx s)(hf:s.Fin)(ck:ClsOk s cls)(hcv:SlV S0 cv (zv (cls.take s.alls.length)))
  (hk: ∀h' rows' stv st nr,Sl h0 h' S OM.emp rows'->Nm h0 S rows' ((bn,.row .own 1 (zv nr))::rest) d2 bm stv cls st nxs accs->Nb s cls st nxs accs nr 256->st[nxs.length]?=some q0->Ret (F93_7 n cl (pt d2) (.slice (some ⟨bn,0,none⟩) 256 256) (pt bx) stv (.int .i64 (nxs.length:Nat)) r8 cv (.int .i64 (cls.getD s.alls.length 0)) (pt d1) (.map (some bm)) h') Q) (le:Vw.le S0 S):
  ∀(k q c:Nat)(h:PH)(rows:Rws)(stv:Value)(st:List Nat)(nr:List Int),256-c<=k->k<q->c<=256->Sl h0 h S OM.emp rows->Nm h0 S rows ((bn,.row .own 1 (zv nr))::rest) d2 bm stv cls st nxs accs->Nb s cls st nxs accs nr c->st[nxs.length]?=some q0->
   Ret (lp q (F93_9 n cl r8) [pt bx,cv,.int .i64 (cls.getD s.alls.length 0),pt d1,pt d2,.map (some bm),stv,.int .i64 (nxs.length:Nat),.slice (some ⟨bn,0,none⟩) 256 256,.int .i64 ((256:Nat):Int),.int .i64 (c:Nat)] h) Q:=by
 obtain⟨fs,av0,nv0,ov0,vs0,b1,b2,b3',b4,b5,b6,b7,b8⟩:=sv;have hsz:=hf.sz;intro k
 induction k with
 |zero=>
  intro q c h rows stv st nr h1 h2 h3 sl nm nb hq0;obtain⟨q,rfl⟩: ∃r,q=r+1:=⟨q-1,by omega⟩;rw[lp_succ];have hc:c=256:=by omega
  subst hc;have dc:decide (((256:Nat):Int)<((256:Nat):Int))=false:=by decide
  simp only[F93_9,F93_8,ucons_cons,xLt_i,dc,vb_some,bite_f];exact hk h rows stv st nr sl nm nb hq0
 |succ k ih=>
  intro q c h rows stv st nr h1 h2 h3 sl nm nb hq0
  by_cases hc:c<256
  ·obtain⟨q,rfl⟩: ∃r,q=r+1:=⟨q-1,by omega⟩;rw[lp_succ];generalize hL:lp q (F93_9 n cl r8)=LL;have dc:decide (((c:Nat):Int)<((256:Nat):Int))=true:=by simp;omega
   have hw:=wrapN (x:=c) (by omega);have hnrl:=nb.nrl;have e1:xIdxS 1 (.slice (some ⟨bn,0,none⟩) 256 256) (.int .i64 (c:Nat))=some (.pointer (some ⟨bn,c,none⟩)):=by
    rw[xIdxS_at (by omega) (by omega)];simp
   simp only[F93_9,F93_8,F93_6,ucons_cons,xLt_i,dc,vb_some,bite_t,jn_eq,e1];obtain⟨A,hA,hfr⟩:=nm.frame;subst hA;have em:vM 0= .int .i64 (-1):=rfl;rw[em];refine Ret.lst1M sl rfl (by rw[zv_len,hnrl];exact hc) rfl fun h2 sl2=>?_;rw[zv_set]at sl2;have nm2:=hfr ((bn,.row .own 1 (zv (nr.set c (-1))))::rest);have nm2':=nm2;obtain⟨kv,kc,nv,av,exS,exN,exA,cN,hrows,hKI,gS,gN,hNx,gA⟩:=nm2;have hqn:=nb.stl q0 (List.mem_of_getElem? hq0);have l3:xLd (.pointer (some ⟨bx,3,none⟩)) h2=some nv0:=sl2.ldS (le _ _ b1) b4;obtain⟨sb,so,f1,f2⟩:=gS.at sl2 (fun pr hpr=>by rw[hrows];exact .tail _ (.tail _ (List.mem_append_left _ hpr))) (ns_get hq0);have hr:=List.getElem?_eq_getElem (l:=s.nexts) (i:=q0) (by rw[hf.nl];exact hqn);have hrl:=hf.rl q0 _ hr;obtain⟨xr,x1,x2⟩:=b6 q0 _ hr;obtain⟨b9,o9,cs9,g1,g2,g3⟩:=b5.at (k:=.i64) x1;have l4:=sl2.ldS (le _ _ g2) g3;have hz:=List.getElem?_eq_getElem (l:=s.nexts[q0]'(by rw[hf.nl];exact hqn)) (i:=c) (by omega);have hto:=hf.to q0 _ c _ hr hz;have hmz:=mvZ_at hr hz;generalize(s.nexts[q0]'(by rw[hf.nl];exact hqn))[c]'(by omega)=z at hz hto hmz;obtain⟨b10,o10,cs10,g4,g5,g6⟩:=x2.at (k:=.i64) (zv_get hz);have l5:=sl2.ldS (le _ _ g5) g6;simp only[xNil_p,xFld_p,Nat.zero_add,vb_some,l3,f1,f2,g1,l4,g4,l5,xEq_i];have next: ∀(h:PH)(rows:Rws)(stv:Value)(st:List Nat)(nr':List Int),Sl h0 h S OM.emp rows->Nm h0 S rows ((bn,.row .own 1 (zv nr'))::rest) d2 bm stv cls st nxs accs->Nb s cls st nxs accs nr' (c+1)->st[nxs.length]?=some q0->
     Ret (F93_5 n cl LL [pt bx,cv,.int .i64 (cls.getD s.alls.length 0),pt d1,pt d2,.map (some bm),stv,.int .i64 (nxs.length:Nat),.slice (some ⟨bn,0,none⟩) 256 256,.int .i64 ((256:Nat):Int),.int .i64 (c:Nat)] h) Q:=by
    intro h rows stv st nr' sl nm nb hq0;simp only[F93_5,F93_0,ucons_cons,vN_eq,xAdd_i,hw,vb_some];rw[<-hL];exact ih q (c+1) h rows stv st nr' (by omega) (by omega) (by omega) sl nm nb hq0
   have skip:cls.getD (mv s q0 c) 0=cls.getD s.alls.length 0->Ret (F93_5 n cl LL [pt bx,cv,.int .i64 (cls.getD s.alls.length 0),pt d1,pt d2,.map (some bm),stv,.int .i64 (nxs.length:Nat),.slice (some ⟨bn,0,none⟩) 256 256,.int .i64 ((256:Nat):Int),.int .i64 (c:Nat)] h2) Q:=fun he=>
    next h2 _ stv st _ sl2 nm2' (nb.put hc hq0 (.inl ⟨he,rfl⟩) (by omega)) hq0
   by_cases hz1:z= -1
   ·have dz:decide (z= -1)=true:=by simp[hz1]
    have hm:mv s q0 c=s.alls.length:=by unfold mv;rw[if_pos hqn,hmz,if_pos hz1]
    simp only[dz,isB_f,Bool.not_true,gd_false,vb_some,xPick_t,bite_t];exact skip (by rw[hm])
   ·have dz:decide (z= -1)=false:=by simp[hz1]
    have hm:((mv s q0 c:Nat):Int)=z:=by unfold mv;rw[if_pos hqn,hmz,if_neg hz1];omega
    have hml:mv s q0 c<s.alls.length:=by omega
    obtain⟨t,t1,t2⟩:=ck.num (mv s q0 c) (by omega);have hck:(cls.take s.alls.length)[mv s q0 c]?=some (t:Int):=by rw[List.getElem?_take,if_pos hml];exact t2
    have hDt:cls.getD (mv s q0 c) 0=(t:Int):=by rw[List.getD_eq_getElem?_getD,t2];rfl
    obtain⟨b11,o11,cs11,u1,u2,u3⟩:=hcv.at (k:=.i64) (zv_get hck);have l6:=sl2.ldS (le _ _ u2) u3;rw[<-hm];have dz:decide (((mv s q0 c:Nat):Int)= -1)=false:=by simp
    simp only[dz,isB_f,Bool.not_false,gd_true,vb_some,u1,l6,xEq_i,xPick_f]
    by_cases he:cls.getD (mv s q0 c) 0=cls.getD s.alls.length 0
    ·have d2':decide ((t:Int)=cls.getD s.alls.length 0)=true:=decide_eq_true (by rw[<-hDt];exact he);simp only[d2',bite_t];exact skip he
    ·have d2':decide ((t:Int)=cls.getD s.alls.length 0)=false:=decide_eq_false (by rw[<-hDt];exact he);simp only[d2',bite_f,jn_eq,F93_4,u1,vb_some,l6];have hmk:over (A++(bn,.row .own 1 (zv (nr.set c (-1))))::rest) OM.emp bm=some (.map (mI kv) kc):=sl2.mem (by rw[hrows];exact .tail _ (.head _));have put: ∀(h3:PH)(rows3:Rws)(stv3:Value)(st3:List Nat)(j u:Nat),Sl h0 h3 S OM.emp rows3->Nm h0 S rows3 ((bn,.row .own 1 (zv (nr.set c (-1))))::rest) d2 bm stv3 cls st3 nxs accs->st3[j]?=some u->cls.getD u 0=(t:Int)->(∀(i j u v:Nat),st3[i]?=some u->st3[j]?=some v->cls.getD u 0=cls.getD v 0->i=j)->Nb s cls st3 nxs accs (nr.set c (j:Int)) (c+1)->st3[nxs.length]?=some q0->
       Ret (F93_3 n cl (F93_5 n cl LL) [pt bx,cv,.int .i64 (cls.getD s.alls.length 0),pt d1,pt d2,.map (some bm),stv3,.int .i64 (nxs.length:Nat),.slice (some ⟨bn,0,none⟩) 256 256,.int .i64 (c:Nat),.int .i64 (mv s q0 c:Nat),.int .i64 ((256:Nat):Int),.int .i64 (c:Nat)] h3) Q:=by
      intro h3 rows3 stv3 st3 j u sl3 nm3 hj hu hd3 nb3 hq3;obtain⟨A3,hA3,hfr3⟩:=nm3.frame;subst hA3;obtain⟨kv3,kc3,nv3,av3,exS3,exN3,exA3,cN3,hrows3,hKI3,_⟩:=nm3;obtain⟨l1,l2,cc,rfl,hl1⟩:=hKI3.hit hd3 hj hu;have hmk3:over (A3++(bn,.row .own 1 (zv (nr.set c (-1))))::rest) OM.emp bm=some (.map (mI (l1++(((t:Int),j),cc)::l2)) kc3):=sl3.mem (by rw[hrows3];exact .tail _ (.head _));have l7:=sl3.ldS (le _ _ u2) u3;have hlk:=lkI_hit sl3 hmk3 hl1 (ok:=false);simp only[F93_3,F93_1,ucons_cons,u1,vb_some,l7,hlk,Bool.false_eq_true,if_false,e1];refine Ret.lst1M sl3 rfl (by rw[zv_len,List.length_set,hnrl];exact hc) rfl fun h4 sl4=>?_;rw[zv_set,List.set_set]at sl4;exact next h4 _ stv3 st3 _ sl4 (hfr3 _) nb3 hq3
     by_cases hex: ∃(j u:Nat),st[j]?=some u/\cls.getD u 0=(t:Int)
     ·obtain⟨j,u,hj,hu⟩:=hex;obtain⟨l1,l2,cc,hkv,hl1⟩:=hKI.hit nb.dis hj hu;have hmk':over (A++(bn,.row .own 1 (zv (nr.set c (-1))))::rest) OM.emp bm=some (.map (mI (l1++(((t:Int),j),cc)::l2)) kc):=by rw[<-hkv];exact hmk
      have hlk:=lkI_hit sl2 hmk' hl1 (ok:=true);simp only[hlk,if_true,vb_some,xExt_t',List.getElem?_cons_zero,List.getElem?_cons_succ,xNot_b,Bool.not_true,bite_f];have hjl:=(List.getElem?_eq_some_iff.1 hj).1;exact put h2 _ stv st j u sl2 nm2' hj hu nb.dis (nb.put hc hq0 (.inr ⟨he,j,rfl,u,hj,by rw[hDt];exact hu⟩) (by omega)) hq0
     ·have hno: ∀(j u:Nat),st[j]?=some u->cls.getD u 0≠(t:Int):=fun j u hj hu=>hex ⟨j,u,hj,hu⟩;have hkn:=hKI.none hno;simp only[lkI_none sl2 hmk hkn (ok:=true),if_true,vb_some,xExt_t',List.getElem?_cons_zero,List.getElem?_cons_succ,xNot_b,Bool.not_false,bite_t,F93_2,u1,l6,gS.len];rw[hrows]at sl2;refine Ret.lmupI sl2 1 rfl hkn fun h3 sl3=>?_;have sl3:Sl h0 h3 S OM.emp ((d2,.row .own 1 [nv,av])::(bm,.map (mI (kv++[(((t:Int),st.length),kc)])) (kc+1))::(exS++(exN++(exA++(bn,.row .own 1 (zv (nr.set c (-1))))::rest)))):=sl3;have sl3p:=sl3.perm (pmA _ _ exS _);have hstl:=nb.len;refine Ret.gqapp sl3p gS bs49 ai49 rfl (sz_le (c:=3000) (by omega) (by decide)) fun h4 stv' exS' sl4 gS'=>?_;have sl4:=sl4.perm (pmA _ _ exS' _).symm;have hmore:=nb.more hc hq0 hml he (fun j u hj=>by rw[hDt];exact hno j u hj);refine put h4 _ stv' (st++[mv s q0 c]) st.length (mv s q0 c) sl4 ?_ (by rw[List.getElem?_append_right (Nat.le_refl _),Nat.sub_self];rfl) hDt hmore.dis hmore (by rw[List.getElem?_append_left (List.getElem?_eq_some_iff.1 hq0).1];exact hq0);refine⟨_,_,nv,av,exS',exN,exA,cN,rfl,?_,?_,gN,hNx,gA⟩
      ·rw[<-hDt];exact hKI.snoc
      ·show Gq stv' (st++[mv s q0 c]).length (ns (st++[mv s q0 c])) exS'
       rw[List.length_append, <-ns_snoc'];exact gS'
  ·exact ih q c h rows stv st nr (by omega) (by omega) h3 sl nm nb hq0
end
def NumD(s:Ss)(cls:List Int)(d:Dfa):Prop:= ∃st nr,Nb s cls st d.next d.acc nr 0/\d.next.length=st.length
theorem Nb.any{s:Ss}{cls:List Int}{st:List Nat}{nxs:List (List Int)}{accs nr nr':List Int}(h:Nb s cls st nxs accs nr 0)(hl:nr'.length=256):Nb s cls st nxs accs nr' 0:=by
 have e: ∀{i' c':Nat}{z:Int},Tb nxs nr' 0 i' c' z↔Tb nxs nr 0 i' c' z:=fun {i' c' z}=>by
  unfold Tb;exact⟨fun h=>h.elim .inl fun h=>by omega,fun h=>h.elim .inl fun h=>by omega⟩
 exact⟨h.st0,h.stl,h.dis,h.rl,hl,h.al,h.acc,h.il,fun i' c' z ht=>h.e i' c' z (e.1 ht),fun k h1 h2=>let⟨i',c',q1,q2⟩:=h.o k h1 h2;⟨i',c',q1,e.2 q2⟩,fun i' c' j k ht h1 h2=>let⟨i'',c'',q1,q2⟩:=h.d i' c' j k (e.1 ht) h1 h2;⟨i'',c'',q1,e.2 q2⟩⟩
section
variable {Q:Value->PH->Prop}{n:Nat}{cl cl' cl'':CL}{h h0:PH}{S:Vw}{m:OM}{rows rest:Rws}{K2:Value->PH->R}
theorem loop93o(hn:4611686018427387904<=n){bx d1 d2 bm:Nat}{s:Ss}{cls:List Int}{cv:Value}{S0:Vw}{x1 x2:Value}(sv:Sv S0 bx s)(hf:s.Fin)(ck:ClsOk s cls)(hcv:SlV S0 cv (zv (cls.take s.alls.length))):
  ∀(k q:Nat)(S:Vw)(h:PH)(rows:Rws)(stv:Value)(st:List Nat)(nxs:List (List Int))(accs nr:List Int),s.alls.length+1-nxs.length<=k->k<q->Vw.le S0 S->Sl h0 h S OM.emp rows->Nm h0 S rows [(d1,.row .own 1 [x1,x2])] d2 bm stv cls st nxs accs->Nb s cls st nxs accs nr 0->
   Ret (lp q (F93_13 n cl) [pt bx,cv,.int .i64 (cls.getD s.alls.length 0),pt d1,pt d2,.map (some bm),stv,.int .i64 (nxs.length:Nat)] h) fun v h'=> ∃S' d,Sl h0 h' S' OM.emp []/\DfV (Nw h0 S') v d/\NumD s cls d:=by
 have hsz:=hf.sz;have sv0:=sv;obtain⟨fs,av0,nv0,ov0,vs0,b1,b2,b3',b4,b5,b6,b7,b8⟩:=sv;intro k
 induction k with
 |zero=>
  intro q S h rows stv st nxs accs nr h1 h2 le sl nm nb;have:=nb.len;have:=nb.il;omega
 |succ k ih=>
  intro q S h rows stv st nxs accs nr h1 h2 le sl nm nb;obtain⟨q,rfl⟩: ∃r,q=r+1:=⟨q-1,by omega⟩;rw[lp_succ];generalize hL:lp q (F93_13 n cl)=LL;have nm0:=nm;have hstl:=nb.len;obtain⟨kv,kc,nv,av,exS,exN,exA,cN,hrows,hKI,gS,gN,hNx,gA⟩:=nm;simp only[F93_13,F93_12,ucons_cons,gS.len,vb_some,xLt_i]
  by_cases hi:nxs.length<st.length
  ·have dc:decide (((nxs.length:Nat):Int)<((st.length:Nat):Int))=true:=by simp;omega
   obtain⟨q0,hq0⟩: ∃q0,st[nxs.length]?=some q0:=⟨_,List.getElem?_eq_getElem hi⟩;have hqn:=nb.stl q0 (List.mem_of_getElem? hq0);simp only[dc,bite_t,F93_10,vN_eq];refine Ret.lmk sl zi49 (by omega) (by omega) (by omega) (by omega) fun h2 bn sl2=>?_;rw[Int.toNat_natCast,zv_zrows]at sl2;rw[Int.toNat_natCast];have hlen:xLenS (.slice (some ⟨bn,0,none⟩) 256 256)=some (.int .i64 ((256:Nat):Int)):=by simp
   obtain⟨A,hA,hfr⟩:=nm0.frame;subst hA;have sl2:=sl2.perm (rows':=A++(bn,.row .own 1 (zv (List.replicate 256 0)))::[(d1,.row .own 1 [x1,x2])]) List.perm_middle.symm;simp only[hlen,vb_some];refine loop93i (rest:=[(d1,.row .own 1 [x1,x2])]) (q0:=q0) hn sv0 hf ck hcv (fun h3 rows3 stv3 st3 nr3 sl3 nm3 nb3 hq3=>?_) le 256 n 0 h2 _ stv st (List.replicate 256 0) (by omega) (by omega) (by omega) sl2 (hfr _) (nb.any (by rw[List.length_replicate])) hq0;obtain⟨A3,hA3,hfr3⟩:=nm3.frame;subst hA3;have sl3:=sl3.perm (rows':=(bn,.row .own 1 (zv nr3))::(A3++[(d1,.row .own 1 [x1,x2])])) List.perm_middle;have hnb:=(sl3.sm.own bn _ (sl3.mem (.head _))).2;obtain⟨sl4,hSb⟩:=sl3.settle (i:=0) rfl;have sl4:Sl h0 h3 (S.put bn (zv nr3)) OM.emp (A3++[(d1,.row .own 1 [x1,x2])]):=sl4;have le4:Vw.le S (S.put bn (zv nr3)):=Vw.le_put hSb;have hnrl:=nb3.nrl;have hnv:SlV (Nw h0 (S.put bn (zv nr3))) (.slice (some ⟨bn,0,none⟩) 256 256) (zv nr3):=.inr ⟨bn,0,256,zv nr3,by rw[zv_len,hnrl],Nw.at hnb Vw.put_self,by omega,fun j x hx=>by rw[Nat.zero_add];exact hx⟩;have nm4:=(hfr3 [(d1,.row .own 1 [x1,x2])]).mono le4;obtain⟨kv,kc,nv,av,exS,exN,exA,cN,hrows,hKI,gS,gN,hNx,gA⟩:=nm4;rw[hrows]at sl4;have ln:xLd (.pointer (some ⟨d2,0,none⟩)) h3=some nv:=sl4.ld (.head _) rfl;simp only[F93_7,xFld_p,Nat.zero_add,vb_some,ln];have sl4p:=sl4.perm (pmB _ _ exS exN (exA++[(d1,.row .own 1 [x1,x2])]));have hstl3:=nb3.len;have hil3:=nb3.il;have hal3:=nb3.al;refine Ret.gqapp sl4p gN (bs74 rfl) ai74 rfl (sz_le (c:=3000) (by omega) (by decide)) fun h5 nv' exN' sl5 gN'=>?_;have sl5:=sl5.perm (pmB _ _ exS exN' (exA++[(d1,.row .own 1 [x1,x2])])).symm;refine Ret.lst1 sl5 0 rfl rfl (by simp) gN'.one fun h6 sl6=>?_;have sl6:Sl h0 h6 (S.put bn (zv nr3)) OM.emp ((d2,.row .own 1 [nv',av])::(bm,.map (mI kv) kc)::(exS++(exN'++(exA++[(d1,.row .own 1 [x1,x2])])))):=sl6;have leT:Vw.le S0 (S.put bn (zv nr3)):=le.trans le4;have la:xLd (.pointer (some ⟨d2,1,none⟩)) h6=some av:=sl6.ld (.head _) rfl;have lo:xLd (.pointer (some ⟨bx,4,none⟩)) h6=some ov0:=sl6.ldS (leT _ _ b1) b7;obtain⟨sb,so,f1,f2⟩:=gS.at sl6 (fun pr hpr=>.tail _ (.tail _ (List.mem_append_left _ hpr))) (ns_get hq3);have hol:=hf.ol;have hoq:=List.getElem?_eq_getElem (l:=s.oks) (i:=q0) (by omega);generalize s.oks[q0]'(by omega)=a at hoq;obtain⟨b9,o9,cs9,g1,g2,g3⟩:=b8.at (k:=.i64) (zv_get hoq);have l9:=sl6.ldS (leT _ _ g2) g3;simp only[xFld_p,Nat.zero_add,xNil_p,vb_some,la,lo,f1,f2,g1,l9];have sl6p:=sl6.perm (pmC _ _ exS exN' exA [(d1,.row .own 1 [x1,x2])]);refine Ret.gqapp sl6p gA bs49 ai49 rfl (sz_le (c:=3000) (by omega) (by decide)) fun h7 av' exA' sl7 gA'=>?_;have sl7:=sl7.perm (pmC _ _ exS exN' exA' [(d1,.row .own 1 [x1,x2])]).symm;refine Ret.lst1 sl7 0 rfl rfl (by simp) gA'.one fun h8 sl8=>?_;have sl8:Sl h0 h8 (S.put bn (zv nr3)) OM.emp ((d2,.row .own 1 [nv',av'])::(bm,.map (mI kv) kc)::(exS++(exN'++(exA'++[(d1,.row .own 1 [x1,x2])])))):=sl8;simp only[vN_eq,xAdd_i,wrapN (show nxs.length<4611686018427387904 by omega),vb_some];rw[<-hL];have hlast:=ih q (S.put bn (zv nr3)) h8 _ stv3 st3 (nxs++[nr3]) (accs++[a]) (List.replicate 256 0) (by rw[List.length_append];show s.alls.length+1-(nxs.length+1)<=k;omega) (by omega) leT sl8 ?_ (nb3.row hq3 hoq (by rw[List.length_replicate]))
   ·rw[List.length_append]at hlast;exact hlast
   ·refine⟨kv,kc,nv',av',exS,exN',exA',cN++[.slice (some ⟨bn,0,none⟩) 256 256],rfl,hKI,gS,?_,fun i r hir=>?_,?_⟩
    ·rw[List.length_append];exact gN'
    ·have hlN:=gN.length
     by_cases hlt:i<nxs.length
     ·rw[List.getElem?_append_left hlt]at hir;obtain⟨x,e1,e2⟩:=hNx i r hir;exact⟨x,by rw[List.getElem?_append_left (by omega)];exact e1,e2⟩
     ·rw[List.getElem?_append_right (by omega)]at hir;have hi0:i-nxs.length=0:=by
       have:=(List.getElem?_eq_some_iff.1 hir).1;simp at this;omega
      rw[hi0]at hir;obtain rfl:nr3=r:=by simpa using hir
      refine⟨_,?_,hnv⟩;rw[List.getElem?_append_right (by omega),show i-cN.length=0 by omega];rfl
    ·have e:zv (accs++[a])=zv accs++[.int .i64 a]:=by simp[zv]
     rw[List.length_append,e];exact gA'
  ·have dc:decide (((nxs.length:Nat):Int)<((st.length:Nat):Int))=false:=by simp;omega
   rw[hrows]at sl;have ld2:xLdA 2 (pt d2) h=some (.agg ⟨[nv,av]⟩):=sl.ldA (.head _) rfl (by simp);have hmem1:(exS++(exN++(exA++[(d1,AObj.row .own 1 [x1,x2])])))=(exS++(exN++exA))++[(d1,AObj.row .own 1 [x1,x2])]:=by simp[List.append_assoc]
   have sl1:Sl h0 h S OM.emp ((d1,.row .own 1 [x1,x2])::(exN++exA)):=by
    have hs:(exN++(exA++[(d1,AObj.row .own 1 [x1,x2])])).Sublist ((d2,AObj.row .own 1 [nv,av])::(bm,.map (mI kv) kc)::(exS++(exN++(exA++[(d1,.row .own 1 [x1,x2])])))):=.cons _ (.cons _ (List.sublist_append_right _ _));refine(sl.drop hs).perm ?_;have:=(pm1 (d1,AObj.row .own 1 [x1,x2]) (exN++exA) []).symm;simpa[List.append_assoc]using this
   simp only[dc,bite_f,F93_11,ld2,vb_some];have hone:oneCells [nv,av]=true:=by unfold oneCells;simp[gN.one,gA.one]
   refine Ret.lstA sl1 0 rfl rfl rfl (by simp) hone fun h2 sl2=>?_;rw[setsL_all (by rfl)]at sl2;have sl2:Sl h0 h2 S OM.emp ((d1,.row .own 1 [nv,av])::(exN++exA)):=sl2;have ld1:xLdA 2 (pt d1) h2=some (.agg ⟨[nv,av]⟩):=sl2.ldA (.head _) rfl (by simp);simp only[ld1,vb_some];have sl3:Sl h0 h2 S OM.emp (exN++exA):=sl2.drop (List.sublist_cons_self _ _);obtain⟨S3,le3,sl4,hN⟩:=gN.settleN sl3;obtain⟨S4,le4,sl5,hA⟩:=gA.settleN (rows:=[]) (by rw[List.append_nil];exact sl4);have heq:nxs.length=st.length:=by have:=nb.il;omega
   have lNw:Vw.le (Nw h0 S) (Nw h0 S4):=Nw.mono (le3.trans le4);exact Ret.of ⟨S4,⟨nxs,accs⟩,sl5,⟨nv,av,cN,rfl,hN.mono (Nw.mono le4),gN.length,fun i r hi=>let⟨x,e1,e2⟩:=hNx i r hi;⟨x,e1,e2.mono lNw⟩,hA⟩,st,nr,nb,heq⟩
theorem c93[OkH h](hn:4611686018427387904<=n)(hS:Vw.le S h.cells){bx:Nat}{s:Ss}{cls:List Int}{cv:Value}(sv:Sv S bx s)(hf:s.Fin)(ck:ClsOk s cls)(hcv:SlV S cv (zv (cls.take s.alls.length))):
  Ret (F93 n cl (pt bx) cv (.int .i64 (cls.getD s.alls.length 0)) h) fun v h'=> ∃S' d,Sl h h' S' OM.emp []/\DfV (Nw h S') v d/\NumD s cls d:=by
 have hone:=hf.one;unfold F93;refine Ret.lalloc (Sl.start h hS) zc76 fun h1 d1 sl1=>?_;refine Ret.lalloc sl1 zc76 fun h2 d2 sl2=>?_;refine Ret.lmmk sl2 fun h3 bm sl3=>?_;have sl3:Sl h h3 S OM.emp ((bm,.map (mI []) 0)::(d2,.row .own 1 [nils,nils])::[(d1,.row .own 1 [nils,nils])]):=sl3;obtain⟨t,t1,t2⟩:=ck.num 0 (Nat.zero_le _);have hck:(cls.take s.alls.length)[0]?=some (t:Int):=by rw[List.getElem?_take,if_pos (by omega)];exact t2
 have hDt:cls.getD 0 0=(t:Int):=by rw[List.getD_eq_getElem?_getD,t2];rfl
 obtain⟨b11,o11,cs11,u1,u2,u3⟩:=hcv.at (k:=.i64) (zv_get hck);have l6:=sl3.ldS u2 u3;simp only[vN_eq,u1,vb_some,l6];refine Ret.lmupI sl3 0 rfl (fun p hp=>by cases hp) fun h4 sl4=>?_;have sl4:Sl h h4 S OM.emp ((bm,.map (mI [(((t:Int),0),0)]) 1)::(d2,.row .own 1 [nils,nils])::[(d1,.row .own 1 [nils,nils])]):=sl4;refine Ret.lbs sl4 bs49 fun h5 b0 sl5=>?_;have sl6:Sl h h5 S OM.emp ((d2,.row .own 1 [nils,nils])::(bm,.map (mI [(((t:Int),0),0)]) 1)::([(b0,.row .own 1 [.int .i64 ((0:Nat):Int)])]++([]++([]++[(d1,.row .own 1 [nils,nils])])))):=by
  refine sl5.perm ?_;have h1: [(b0,AObj.row .own 1 [Value.int .i64 ((0:Nat):Int)]),(bm,.map (mI [(((t:Int),0),0)]) 1),(d2,.row .own 1 [nils,nils]),(d1,.row .own 1 [nils,nils])].Perm [(d2,.row .own 1 [nils,nils]),(bm,.map (mI [(((t:Int),0),0)]) 1),(b0,AObj.row .own 1 [Value.int .i64 ((0:Nat):Int)]),(d1,.row .own 1 [nils,nils])]:=
   ((List.Perm.swap _ _ _).trans (.cons _ (List.Perm.swap _ _ _))).trans (List.Perm.swap _ _ _)
  exact h1
 have hst0:([0]:List Nat)[0]?=some 0:=rfl;have hg: ∀{i u:Nat},([0]:List Nat)[i]?=some u->i=0/\u=0:=fun {i u} hi=>by
  have:=(List.getElem?_eq_some_iff.1 hi).1;have e:i=0:=by simp at this;omega
  subst e;exact⟨rfl,by simpa using hi.symm⟩
 refine loop93o (x1:=nils) (x2:=nils) hn sv hf ck hcv (s.alls.length+1) n S h5 _ (.slice (some ⟨b0,0,none⟩) 1 1) [0] [] [] (List.replicate 256 0) (by simp) (by have:=hf.sz;omega) (Vw.le.refl _) sl6 ?_ ?_
 ·refine⟨_,_,nils,nils,_,[],[],[],rfl,⟨rfl,fun k p hk=>?_⟩,.inr ⟨b0,rfl,rfl,rfl,by decide⟩,.inl Gl.nil,(fun i r hi=>by simp at hi),.inl Gl.nil⟩;have hk1:=(List.getElem?_eq_some_iff.1 hk).1;have e:k=0:=by simp at hk1;omega
  subst e;have hp:(((t:Int),0),0)=p:=by simpa using hk
  exact⟨0,rfl,by rw[<-hp,hDt]⟩
 ·refine⟨rfl,fun u hu=>?_,fun i j u v hi hj _=>?_,(fun r hr=>by cases hr),by rw[List.length_replicate],rfl,(fun i q hi=>by simp at hi),by simp,fun i' c' z ht=>?_,fun k h1 h2=>by simp at h2;omega,fun i' c' j k ht=>?_⟩
  ·have:u=0:=by simpa using hu
   omega
  ·have:=(hg hi).1;have:=(hg hj).1;omega
  ·rcases ht with⟨r,hr,_⟩|⟨_,h,_⟩
   ·simp at hr
   ·omega
  ·rcases ht with⟨r,hr,_⟩|⟨_,h,_⟩
   ·simp at hr
   ·omega
end
theorem ab76:abuild Tryz.prog 76 []=some (.agg ⟨[nils,nils]⟩):=by kernel_rfl
theorem ab178{bp bm b1 b2:Nat}{n1 c1 n2 c2:Nat}:abuild Tryz.prog 178 [(0,pt bp),(1,.map (some bm)),(2,.slice (some ⟨b1,0,none⟩) n1 c1),(4,.slice (some ⟨b2,0,none⟩) n2 c2)]=some (.agg ⟨[pt bp,.map (some bm),.slice (some ⟨b1,0,none⟩) n1 c1,nils,.slice (some ⟨b2,0,none⟩) n2 c2]⟩):=by kernel_rfl
section
variable {Q:Value->PH->Prop}{n:Nat}{cl cl' cl'':CL}{h h0:PH}{S:Vw}{m:OM}{rows rest:Rws}{K2:Value->PH->R}
theorem Ret.lfillBox(s:Sl h0 h S m rows)(i:Nat){b:Nat}{v:Value}(hi:rows[i]?=some (b,.hole))(hk: ∀h',Sl h0 h' S m (rows.set i (b,.row .own 1 (cellsL v)))->Ret (K2 (.pointer (some ⟨b,0,none⟩)) h') Q):Ret (Go.Am.hb (xfill b h (xBox v hE)) K2) Q:=by
 obtain⟨h1',hp,hg⟩:=hE_push (.row .own 1 (cellsL v));refine Ret.lfill s i hi (v1:=.pointer (some ⟨0,0,none⟩)) (h1:=h1') ?_ hg ?_ hk
 ·unfold xBox xNewP;rw[hp];rfl
 ·unfold atB;rw[seqN_eq]
theorem c90[OkH h](hn:4611686018427387904<=n)(hS:Vw.le S h.cells){v:Value}{l:List Bool}(hv:SlV S v (bvs l))(hl:l.length<1000000): ∃z:Int,pcall (F90 n cl v tt h)=some (.int .i64 z)/\FstI l.length (fun k=>l[k]?=some true) z:=by
 have hlen:=hv.len;have hbl:(bvs l).length=l.length:=by simp[bvs]
 rw[hbl]at hlen;have key: ∀(d q i:Nat),l.length-i<=d->d<q->i<=l.length->(∀k,k<i-> ¬ l[k]?=some true)->
   Ret (lp q (F90_3 n cl) [v,tt,.int .i64 (l.length:Nat),.int .i64 (i:Nat)] h) fun u _=> ∃z:Int,u= .int .i64 z/\FstI l.length (fun k=>l[k]?=some true) z:=by
  intro d
  induction d with
  |zero=>
   intro q i a1 a2 a3 hno;obtain⟨q,rfl⟩: ∃r,q=r+1:=⟨q-1,by omega⟩;rw[lp_succ];have dc:decide (((i:Nat):Int)<((l.length:Nat):Int))=false:=by simp;omega
   simp only[F90_3,F90_2,ucons_cons,xLt_i,dc,vb_some,bite_f];exact Ret.of ⟨-1,rfl,.inl ⟨rfl,fun k hk=>hno k (by omega)⟩⟩
  |succ d ih=>
   intro q i a1 a2 a3 hno
   by_cases hi:i<l.length
   ·obtain⟨q,rfl⟩: ∃r,q=r+1:=⟨q-1,by omega⟩;rw[lp_succ];generalize hL:lp q (F90_3 n cl)=LL;have dc:decide (((i:Nat):Int)<((l.length:Nat):Int))=true:=by simp;omega
    have hy:=List.getElem?_eq_getElem hi;generalize l[i]=x at hy;obtain⟨b1,o1,cs1,e1,e2,e3⟩:=hv.at (k:=.i64) (i:=i) (x:=.bool x) (by simp[bvs,hy]);have l1:=(Sl.start h hS).ldS e2 e3;have htt:tt= .bool true:=rfl;simp only[F90_3,F90_2,F90_1,ucons_cons,xLt_i,dc,vb_some,bite_t,e1,l1,htt];refine Ret.vb abeq' ?_;cases x with
    |true=>
     simp only[beq_self_eq_true,bite_t];exact Ret.of ⟨i,rfl,.inr ⟨i,rfl,hi,hy,hno⟩⟩
    |false=>
     have:(true==false)=false:=rfl;simp only[this,bite_f,F90_0,vN_eq,xAdd_i,wrapN (show i<4611686018427387904 by omega),vb_some];rw[<-hL];have:=ih q (i+1) (by omega) (by omega) (by omega) fun k hk=>by
      by_cases e:k=i
      ·subst e;rw[hy];simp
      ·exact hno k (by omega)
     exact this
   ·exact ih q i (by omega) (by omega) a3 hno
 obtain⟨u,h1,e,z,rfl,hz⟩:=key l.length n 0 (by omega) (by omega) (Nat.zero_le _) (by omega);refine⟨z,?_,hz⟩;unfold F90;simp only[hlen,vb_some,vN_eq];rw[e];exact pcall_some rfl
theorem FstI.sm{n:Nat}{P:Nat->Prop}{z:Int}(h:FstI n P z)(hn:n<1000000):Sm3 z:=by
 rcases h with⟨rfl,_⟩|⟨k,rfl,hk,_⟩
 ·exact .inl rfl
 ·exact .inr ⟨by omega,by omega⟩
theorem Ss.Mk.fin{p:Pp}{a0:Int}{s:Ss}(h:s.Mk p a0)(hnl:s.nexts.length=s.alls.length):s.Fin:=by
 refine⟨hnl,fun i r hr=>(h.row i r hr).1,fun i r c z hr hz=>?_,h.ok.ol,h.ok.one,h.ok.sz⟩;obtain⟨t,_,h2⟩:=(h.row i r hr).2 c z hz;rcases h2 with⟨_,rfl⟩|⟨_,m,rfl,_,hm⟩
 ·exact .inl rfl
 ·have:=(List.getElem?_eq_some_iff.1 hm).1;exact .inr ⟨by omega,by omega⟩
theorem Ss.Mk.osm{p:Pp}{a0:Int}{s:Ss}(h:s.Mk p a0)(ha:Sm3 a0)(hl:p.last.length<1000000): ∀z∈s.oks,Sm3 z:=by
 intro z hz;obtain⟨k,hk⟩:=List.getElem?_of_mem hz
 by_cases e:k=0
 ·subst e;rw[h.acc0]at hk;cases hk;exact ha
 ·have hlt:=(List.getElem?_eq_some_iff.1 hk).1;have hol:=h.ok.ol;exact(h.acc k _ z (by omega) (List.getElem?_eq_getElem (by omega)) hk).sm hl
def OfV(l:List Po)(V:Vw)(v:Value):Prop:=
 (40<l.length/\v= .tuple ⟨[.agg ⟨[nils,nils]⟩,.int .i64 3]⟩)\/(l.length<=40/\ ∃p a0 s,PpOf l p/\FstI l.length (fun k=> ∃po:Po,l[k]?=some po/\po.null=true) a0/\s.Mk p a0/\
  ((2000<s.alls.length/\v= .tuple ⟨[.agg ⟨[nils,nils]⟩,.int .i64 3]⟩)\/(s.Fin/\ ∃cls d dv,v= .tuple ⟨[dv,.int .i64 0]⟩/\DfV V dv d/\ClsOk s cls/\NumD s cls d)))
theorem fst_null{l:List Po}{z:Int}(h:FstI (l.map (·.null)).length (fun k=>(l.map (·.null))[k]?=some true) z):FstI l.length (fun k=> ∃po:Po,l[k]?=some po/\po.null=true) z:=by
 have e: ∀k,(l.map (·.null))[k]?=some true↔ ∃po:Po,l[k]?=some po/\po.null=true:=fun k=>by
  rw[List.getElem?_map,Option.map_eq_some_iff]
 simp only[e,List.length_map]at h;exact h
theorem c63(hn:4611686018427387904<=n)(h109: ∀u v h,cl 160 [u,v] h=F160 n cl' u v h)(h107: ∀v h,cl 158 [v] h=F158 n cl' v h)(h107': ∀v h,cl' 158 [v] h=F158 n cl'' v h)(h99: ∀u v h,cl 146 [u,v] h=F146 n cl' u v h)
  (st:Sl h0 h S OM.emp rows) {av:Value} {l:List Po} (hav:PoL S av l) (hl:l.length<1000000000) (hsz:l.length<=40->tot l<100000) (hin: ∀po∈l,po.In):
  Ret (F63 n cl av h) fun v h'=> ∃S',Vw.le S S'/\Sl h0 h' S' OM.emp rows/\OfV l S' v:=by
 unfold F63;refine Ret.lalloc st zc76 fun h1 v1 sl1=>?_;simp only[hav.len,vb_some,vN_eq,xGt_i]
 by_cases h40:40<l.length
 ·have dc:decide (((40:Nat):Int)<((l.length:Nat):Int))=true:=by simp;omega
  simp only[dc,bite_t,F63_0];refine Ret.vb ab76 ?_;refine Ret.lstA sl1 0 rfl rfl rfl (by simp) rfl fun h2 sl2=>?_;have sl2:Sl h0 h2 S OM.emp ((v1,.row .own 1 [nils,nils])::rows):=sl2;have ld:xLdA 2 (pt v1) h2=some (.agg ⟨[nils,nils]⟩):=sl2.ldA (.head _) rfl (by simp);simp only[ld,vb_some];exact Ret.of ⟨S,Vw.le.refl _,sl2.drop (List.sublist_cons_self _ _),.inl ⟨h40,rfl⟩⟩
 have dc:decide (((40:Nat):Int)<((l.length:Nat):Int))=false:=by simp;omega
 simp only[dc,bite_f,F63_3];refine Ret.hb (c88 (n:=n) (cl:=cl) hn sl1 hav (by omega) (hsz (by omega)) hin) fun v h2 ⟨S2,bp,p,hv,le2,sl2,hpm,hpo⟩=>?_;subst hv;refine Ret.lkp sl2 fun h3 q sl3 hq1 hq2=>?_;have sl3:Sl h0 h3 S2 OM.emp ((q+1+1+1,.hole)::(q+1+1,.hole)::(q+1,.hole)::(q,.hole)::(v1,.row .own 1 [nils,nils])::rows):=sl3;have hpm0:=hpm;obtain⟨ps,w1,w2,w3,w4,a0',a1,a2,a4,a6,⟨a8,a9⟩,a10⟩:=hpm;have l4:xLd (.pointer (some ⟨bp,4,none⟩)) h3=some w4:=sl3.ldS a0' a8;have hbq:bp<q:=hq2 bp _ a0';simp only[xNil_p,vb_some,xFld_p,Nat.zero_add,l4];have av6:avL q 4 [pt bp]=true:=by simp[avL,avV,avV0,av1_t hbq]
 rw[avk_t av6];have hN:=hpo.ok.n;have:=sl3.ok;refine Ret.lfcall sl3 (f89 (n:=n) (cl:=cl) (h:=h3.fzn) (S:=S2) (fun b cs e=>sl3.leS b cs e) a0' a1 (by omega)) fun v h4 ex ⟨b11,hv,he⟩ sl4=>?_;subst hv;subst he;have sl4:Sl h0 h4 S2 OM.emp ((b11,.row .own 1 (bw (List.replicate (p.N / 64+1) 0)))::(q+1+1+1,.hole)::(q+1+1,.hole)::(q+1,.hole)::(q,.hole)::(v1,.row .own 1 [nils,nils])::rows):=sl4;have avt:avL q 4 [w4,tt]=true:=by
  rcases a9 with⟨_,rfl⟩|⟨b,o,c,cs,rfl,hb,_⟩
  ·rfl
  ·have:=hq2 b _ hb;have htt:tt= .bool true:=rfl;simp[avL,avV,avV0,av1_t this,htt]
 rw[avk_t avt];have:=sl4.ok;obtain⟨z,z1,z2⟩:=c90 (n:=n) (cl:=cl) (h:=h4.fzn) (S:=S2) hn (fun b cs e=>sl4.leS b cs e) a9 (by have:=hpo.ok.nl;omega);rw[hpo.null]at z2;have ha0:=fst_null z2;obtain⟨S5,le5,sl5,hb11⟩:=Bx.settle (c:=p.N / 64+1) sl4;have hrl:(List.replicate (p.N / 64+1) 0).length=p.N / 64+1:=by simp
 rw[hrl]at hb11;simp only[z1,vb_some];refine Ret.lfillMM sl5 3 rfl fun h6 sl6=>?_;have sl6:Sl h0 h6 S5 OM.emp ((q+1+1+1,.hole)::(q+1+1,.hole)::(q+1,.hole)::(q,.map [] 0)::(v1,.row .own 1 [nils,nils])::rows):=sl6;refine Ret.lfillBS sl6 2 rfl bs172 fun h7 sl7=>?_;have sl7:Sl h0 h7 S5 OM.emp ((q+1+1+1,.hole)::(q+1+1,.hole)::(q+1,.row .own 1 [.slice (some ⟨b11,0,none⟩) (p.N / 64+1) (p.N / 64+1)])::(q,.map [] 0)::(v1,.row .own 1 [nils,nils])::rows):=sl7;refine Ret.lfillBS sl7 1 rfl bs49 fun h8 sl8=>?_;have sl8:Sl h0 h8 S5 OM.emp ((q+1+1+1,.hole)::(q+1+1,.row .own 1 [.int .i64 z])::(q+1,.row .own 1 [.slice (some ⟨b11,0,none⟩) (p.N / 64+1) (p.N / 64+1)])::(q,.map [] 0)::(v1,.row .own 1 [nils,nils])::rows):=sl8;refine Ret.vb ab178 ?_;refine Ret.lfillBox sl8 0 rfl fun h9 sl9=>?_;have sl9:Sl h0 h9 S5 OM.emp ((q+1+1+1,.row .own 1 [pt bp,.map (some q),.slice (some ⟨q+1,0,none⟩) 1 1,nils,.slice (some ⟨q+1+1,0,none⟩) 1 1])::(q+1+1,.row .own 1 [.int .i64 z])::(q+1,.row .own 1 [.slice (some ⟨b11,0,none⟩) (p.N / 64+1) (p.N / 64+1)])::(q,.map [] 0)::(v1,.row .own 1 [nils,nils])::rows):=sl9;have sl9:Sl h0 h9 S5 OM.emp ((q+1+1+1,.row .own 1 [pt bp,.map (some q),.slice (some ⟨q+1,0,none⟩) 1 1,nils,.slice (some ⟨q+1+1,0,none⟩) 1 1])::(q,.map (mS []) 0)::([(q+1,.row .own 1 [.slice (some ⟨b11,0,none⟩) (p.N / 64+1) (p.N / 64+1)])]++([]++([(q+1+1,.row .own 1 [.int .i64 z])]++(v1,.row .own 1 [nils,nils])::rows)))):=by
  refine sl9.perm (.cons _ ?_);exact((List.Perm.swap _ _ _).trans (.cons _ (List.Perm.swap _ _ _))).trans (List.Perm.swap _ _ _)
 have hz0:Sm3 z:=ha0.sm (by omega);have hms:Ms S5 (q+1+1+1) bp _ ((v1,.row .own 1 [nils,nils])::rows) ⟨[List.replicate (p.N / 64+1) 0],[],[z]⟩:=
  ⟨q,[],0,_,nils,_,[(q+1,.row .own 1 [.slice (some ⟨b11,0,none⟩) (p.N / 64+1) (p.N / 64+1)])],[],[(q+1+1,.row .own 1 [.int .i64 z])],[.slice (some ⟨b11,0,none⟩) (p.N / 64+1) (p.N / 64+1)],[],rfl,.inr ⟨q+1,rfl,rfl,rfl,by show(1:Nat)<_;decide⟩,fun i ws hi=>by
   have h1:=(List.getElem?_eq_some_iff.1 hi).1;have e:i=0:=by simp at h1;omega
   subst e;have:List.replicate (p.N / 64+1) 0=ws:=by simpa using hi
   exact⟨_,rfl,by rw[<-this];exact hb11⟩,.inl Gl.nil,(fun i r hi=>by simp at hi),.inr ⟨q+1+1,rfl,rfl,rfl,by show(1:Nat)<_;decide⟩,rfl,fun i p hp=>by simp at hp⟩
 have hone: ∀{k:Nat}{ws:List Nat},1<=k->([List.replicate (p.N / 64+1) 0]:List (List Nat))[k]?=some ws->False:=fun {k ws} h1 h2=>by
  have:=(List.getElem?_eq_some_iff.1 h2).1;simp at this;omega
 have hmk:Ss.Mk p z ⟨[List.replicate (p.N / 64+1) 0],[],[z]⟩:=by
  refine⟨⟨fun ws hw=>?_,fun i j a h1 h2 h3=>(hone h1 h3).elim,by show 1<=1;omega,by show 1<=3000;omega,rfl,by show 0<=1;omega⟩,fun k ws h1 h2=>(hone h1 h2).elim,fun k r hr=>by simp at hr,rfl,fun k ws a h1 h2=>(hone h1 h2).elim,fun k ws h1 h2=>(hone h1 h2).elim⟩;have:ws=List.replicate (p.N / 64+1) 0:=by simpa using hw
  rw[this];exact Bk.rep _
 refine Ret.hb (c91 (n:=n) (cl:=cl) (cl':=cl') (cl'':=cl'') hn h109 h107 h107' sl9 ((hpm0.mono le5)) hpo.ok hms hmk rfl (by show 1<=2000;omega)) fun v h10 ⟨bb,S6,rows6,s6,hv,le6,sl10,ms6,mk6,ht6,hf6⟩=>?_;subst hv;have leT:Vw.le S S6:=le2.trans (le5.trans le6);obtain⟨A,hA,hfr⟩:=ms6.frame;subst hA;have sl10v:=sl10.perm (rows':=(v1,.row .own 1 [nils,nils])::(A++rows)) List.perm_middle;simp only[xNot_b,vb_some];cases bb with
 |false=>
  simp only[Bool.not_false,bite_t,F63_1];refine Ret.vb ab76 ?_;refine Ret.lstA sl10v 0 rfl rfl rfl (by simp) rfl fun h11 sl11=>?_;have sl11:Sl h0 h11 S6 OM.emp ((v1,.row .own 1 [nils,nils])::(A++rows)):=sl11;have ld:xLdA 2 (pt v1) h11=some (.agg ⟨[nils,nils]⟩):=sl11.ldA (.head _) rfl (by simp);simp only[ld,vb_some,vN_eq];exact Ret.of ⟨S6,leT,sl11.drop (.cons _ (List.sublist_append_right _ _)),.inr ⟨by omega,p,z,s6,hpo,ha0,mk6,.inl ⟨hf6 rfl,rfl⟩⟩⟩
 |true=>
  obtain⟨hnl6,hle6⟩:=ht6 rfl;have fin:=mk6.fin hnl6;have hosm:=mk6.osm hz0 (by rw[hpo.ll];omega);simp only[Bool.not_true,bite_f,F63_2];have msx:=ms6;obtain⟨bk,kv,c,av',nv',ov',exA,exN,exO,cA,cN,hrows,gA,hAx,gN,hNx,gO,hkv⟩:=msx;have sv6:Sv (vall S6 (over (A++(v1,.row .own 1 [nils,nils])::rows) OM.emp)) (q+1+1+1) s6:=by
   refine⟨_,av',nv',ov',cN,vall_m (sl10.mem (by rw[hrows];exact .head _)),rfl,gA.len,rfl,gN.view sl10 (fun pr hpr=>?_),fun i r hi=>?_,rfl,gO.view sl10 (fun pr hpr=>?_)⟩
   ·rw[hrows];exact .tail _ (.tail _ (List.mem_append_right _ (List.mem_append_left _ hpr)))
   ·obtain⟨x,e1,e2⟩:=hNx i r hi;exact⟨x,e1,e2.mono sl10.sm.S_all⟩
   ·rw[hrows];exact .tail _ (.tail _ (List.mem_append_right _ (List.mem_append_right _ (List.mem_append_left _ hpr))))
  have:=sl10.ok;refine Ret.lfcall sl10 (f92 (n:=n) (cl:=cl) (cl':=cl') (h:=h10.fzn) hn h99 sl10.fz sv6 fin hosm) fun v h11 ex ⟨bc,cc,cls,hv,he,hck⟩ sl11=>?_;subst hv;subst he;have sl11:Sl h0 h11 S6 OM.emp ((bc,.row .own 1 (zv cls))::(A++(v1,.row .own 1 [nils,nils])::rows)):=sl11;simp only[xExt_t',List.getElem?_cons_zero,List.getElem?_cons_succ,vb_some];have:=sl11.ok;have hbc:vall S6 (over ((bc,.row .own 1 (zv cls))::(A++(v1,.row .own 1 [nils,nils])::rows)) OM.emp) bc=some (zv cls):=vall_m (sl11.mem (.head _));have hcl:=hck.len;have hcv:SlV (vall S6 (over ((bc,.row .own 1 (zv cls))::(A++(v1,.row .own 1 [nils,nils])::rows)) OM.emp)) (.slice (some ⟨bc,0,none⟩) s6.alls.length cc) (zv (cls.take s6.alls.length)):=by
   have hln:(zv (cls.take s6.alls.length)).length=s6.alls.length:=by rw[zv_len,List.length_take];omega
   refine .inr ⟨bc,0,cc,zv cls,by rw[hln],hbc,by rw[hln,zv_len];omega,fun i x hx=>?_⟩;have hil:=(List.getElem?_eq_some_iff.1 hx).1;rw[hln]at hil;rw[Nat.zero_add];unfold zv at hx ⊢;rw[List.getElem?_map,List.getElem?_take,if_pos hil]at hx;rw[List.getElem?_map];exact hx
  have sv11:Sv (vall S6 (over ((bc,.row .own 1 (zv cls))::(A++(v1,.row .own 1 [nils,nils])::rows)) OM.emp)) (q+1+1+1) s6:=by
   refine⟨_,av',nv',ov',cN,vall_m (sl11.mem (by rw[hrows];exact .tail _ (.head _))),rfl,gA.len,rfl,gN.view sl11 (fun pr hpr=>?_),fun i r hi=>?_,rfl,gO.view sl11 (fun pr hpr=>?_)⟩
   ·rw[hrows];exact .tail _ (.tail _ (.tail _ (List.mem_append_right _ (List.mem_append_left _ hpr))))
   ·obtain⟨x,e1,e2⟩:=hNx i r hi;exact⟨x,e1,e2.mono sl11.sm.S_all⟩
   ·rw[hrows];exact .tail _ (.tail _ (.tail _ (List.mem_append_right _ (List.mem_append_right _ (List.mem_append_left _ hpr)))))
  refine Ret.lfcallN sl11 (P:=fun v V=> ∃d,DfV V v d/\NumD s6 cls d) (fun v V W le ⟨d,h1,h2⟩=>⟨d,h1.mono le,h2⟩) ((c93 (n:=n) (cl:=cl) (h:=h11.fzn) hn sl11.fz sv11 fin hck hcv).mono fun v h' ⟨S',d,q1,q2,q3⟩=>⟨S',q1,d,q2,q3⟩) fun dv h12 S7 le7 sl12 ⟨d,hdv,hnd⟩=>?_;have sl12:Sl h0 h12 S7 OM.emp ((v1,.row .own 1 [nils,nils])::(A++rows)):=(sl12.drop (List.sublist_cons_self _ _)).perm List.perm_middle;have hdv0:=hdv;obtain⟨dn,da,dvs,rfl,d1,d2,d3,d4⟩:=hdv;have hone2:oneCells [dn,da]=true:=by unfold oneCells;simp[d1.one,d4.one]
  refine Ret.lstA sl12 0 rfl rfl rfl (by simp) hone2 fun h13 sl13=>?_;rw[setsL_all (by rfl)]at sl13;have sl13:Sl h0 h13 S7 OM.emp ((v1,.row .own 1 [dn,da])::(A++rows)):=sl13;have ld:xLdA 2 (pt v1) h13=some (.agg ⟨[dn,da]⟩):=sl13.ldA (.head _) rfl (by simp);simp only[ld,vb_some,vN_eq];exact Ret.of ⟨S7,leT.trans le7,sl13.drop (.cons _ (List.sublist_append_right _ _)),.inr ⟨by omega,p,z,s6,hpo,ha0,mk6,.inr ⟨fin,cls,d,_,rfl,hdv0,hck,hnd⟩⟩⟩
end
def DP(po:Po):List Nat->Nat->Prop
 | [],_=>False
 |c::cs,y=>nowP po (fun i=>i∈po.first/\takesB po c i=true) cs y
theorem nowP_snoc{po:Po}: ∀(cs:List Nat)(X:Nat->Prop)(c i:Nat),nowP po X (cs++[c]) i↔(∃y,nowP po X cs y/\i∈po.follow.getD y [])/\takesB po c i=true
 | [],X,c,i=>Iff.rfl
 |d::cs,X,c,i=>nowP_snoc cs _ c i
theorem DP_snoc{po:Po}{w:List Nat}{c y:Nat}:DP po (w++[c]) y↔(if w=[]then y∈po.first else∃x,DP po w x/\y∈po.follow.getD x [])/\takesB po c y=true:=by
 cases w with
 |nil=>exact Iff.rfl
 |cons d cs=>
  rw[if_neg (by simp)];exact nowP_snoc cs _ c y
theorem takesB_lt{po:Po}{c y:Nat}(h:takesB po c y=true):y<po.sets.length:=by
 unfold takesB at h;rw[Bool.and_eq_true,decide_eq_true_eq]at h;exact h.1
theorem DP_lt{po:Po}{w:List Nat}{y:Nat}(h:DP po w y):y<po.sets.length:=by
 rcases List.eq_nil_or_concat w with rfl|⟨v,c,rfl⟩
 ·exact h.elim
 ·rw[List.concat_eq_append]at h;exact takesB_lt (DP_snoc.1 h).2
theorem takesP_DP{po:Po}{w:List Nat}(hw:w≠[]):takesP po w↔ ∃y,DP po w y/\y∈po.last:=by
 cases w with
 |nil=>exact absurd rfl hw
 |cons c cs=>exact Iff.rfl
def runm(s:Ss)(q:Nat)(w:List Nat):Nat:=w.foldl (fun q c=>mv s q c) q
theorem runm_snoc{s:Ss}{q:Nat}{w:List Nat}{c:Nat}:runm s q (w++[c])=mv s (runm s q w) c:=by
 unfold runm;rw[List.foldl_append];rfl
theorem mv_n{s:Ss}{c:Nat}:mv s s.alls.length c=s.alls.length:=by
 unfold mv;rw[if_neg (by omega)]
def SetIs(l:List Po)(s:Ss)(q:Nat)(D:Po->Nat->Prop):Prop:=
 (q=s.alls.length/\ ∀(k:Nat) po y,l[k]?=some po-> ¬ D po y)\/(1<=q/\q<s.alls.length/\ ∀g,hs (s.alls.getD q []) g=true↔ ∃k po y,l[k]?=some po/\g=off l k+y/\D po y)
section
variable {l:List Po}{p:Pp}{a0:Int}{s:Ss}
theorem mv_tgt(hmk:s.Mk p a0)(hf:s.Fin){i c:Nat}(hi:i<s.alls.length)(hc:c<256):
  (mv s i c=s.alls.length/\ ∀g, ¬(MayP p s.alls i g/\hs (p.takes.getD c []) g=true))\/(1<=mv s i c/\mv s i c<s.alls.length/\ ∀g,hs (s.alls.getD (mv s i c) []) g=true↔MayP p s.alls i g/\hs (p.takes.getD c []) g=true):=by
 have hr:=List.getElem?_eq_getElem (l:=s.nexts) (i:=i) (by rw[hf.nl];exact hi);have hrl:=hf.rl i _ hr;have hz:=List.getElem?_eq_getElem (l:=s.nexts[i]'(by rw[hf.nl];exact hi)) (i:=c) (by omega);have hmz:=mvZ_at hr hz;obtain⟨t,h1,h2⟩:=(hmk.row i _ hr).2 c _ hz;rcases h2 with⟨h2,h3⟩|⟨h2,m,h3,h4,h5⟩
 ·left
  refine⟨by unfold mv;rw[if_pos hi,hmz,if_pos h3],fun g hg=>?_⟩;have:=(h1.2 g).2 hg;rw[h2 g]at this;cases this
 ·right
  have hm:mv s i c=m:=by unfold mv;rw[if_pos hi,hmz,h3,if_neg (by omega)];simp
  have hml:=(List.getElem?_eq_some_iff.1 h5).1;have hD:s.alls.getD m []=t:=by rw[List.getD_eq_getElem?_getD,h5];rfl
  rw[hm];exact⟨h4,hml,fun g=>by rw[hD];exact h1.2 g⟩
theorem set_run(hpo:PpOf l p)(hmk:s.Mk p a0)(hf:s.Fin): ∀(n:Nat)(w:List Nat),w.length=n->w≠[]->(∀c∈w,c<256)->SetIs l s (runm s 0 w) (fun po y=>DP po w y):=by
 intro n
 induction n with
 |zero=>intro w hl hw;exact absurd (List.eq_nil_of_length_eq_zero hl) hw
 |succ n ih=>
  intro w hl hw hb;obtain⟨v,c,rfl⟩: ∃v c,w=v++[c]:=by
   rcases List.eq_nil_or_concat w with rfl|⟨v,c,rfl⟩
   ·exact absurd rfl hw
   ·exact⟨v,c,by rw[List.concat_eq_append]⟩
  have hc:c<256:=hb c (by simp);rw[runm_snoc];have hone:=hf.one;have may:runm s 0 v<s.alls.length-> ∀g,(MayP p s.alls (runm s 0 v) g/\hs (p.takes.getD c []) g=true)↔ ∃k po y,l[k]?=some po/\g=off l k+y/\DP po (v++[c]) y:=by
   intro hq g;rw[hpo.tks c hc];constructor
   ·rintro⟨h1,k,po,y,h2,h3,h4,rfl⟩;refine⟨k,po,y,h2,rfl,DP_snoc.2 ⟨?_,h4⟩⟩
    by_cases hv:v=[]
    ·subst hv;rw[if_pos rfl];have h1:hs p.first (off l k+y)=true:=h1;obtain⟨k',po',y',e1,e2,e3,e4⟩:=(hpo.first _).1 h1;obtain⟨rfl,rfl⟩:=off_inj h2 e1 h3 e3 e4;rw[h2]at e1;cases e1;exact e2
    ·rw[if_neg hv];rcases ih v (by simp at hl;exact hl) hv (fun d hd=>hb d (by simp[hd]))with⟨e,_⟩|⟨e1,e2,e3⟩
     ·omega
     ·unfold MayP at h1;rw[if_neg (by omega)]at h1;obtain⟨x,x1,x2,x3⟩:=h1;obtain⟨k1,po1,y1,f1,rfl,f3⟩:=(e3 x).1 x2;have hfo:=List.getElem?_eq_getElem (l:=p.follow) (i:=off l k1+y1) (by rw[hpo.ok.fl];exact x1);have hD:p.follow.getD (off l k1+y1) []=p.follow[off l k1+y1]'(by rw[hpo.ok.fl];exact x1):=by rw[List.getD_eq_getElem?_getD,hfo];rfl
      rw[hD]at x3;obtain⟨k2,po2,y2,z2,g1,g2,g3,g4,g5,g6⟩:=(hpo.fol _ _ hfo _).1 x3;have hy1:=DP_lt f3;obtain⟨rfl,rfl⟩:=off_inj f1 g1 hy1 g2 g3;rw[f1]at g1;cases g1;obtain⟨rfl,rfl⟩:=off_inj h2 f1 h3 g5 g6;rw[h2]at f1;cases f1;exact⟨y1,f3,g4⟩
   ·rintro⟨k,po,y,h2,rfl,h3⟩;obtain⟨h4,h5⟩:=DP_snoc.1 h3;have hy:=takesB_lt h5;refine⟨?_,k,po,y,h2,hy,h5,rfl⟩
    by_cases hv:v=[]
    ·subst hv;rw[if_pos rfl]at h4
     show hs p.first (off l k+y)=true
     exact(hpo.first _).2 ⟨k,po,y,h2,h4,hy,rfl⟩
    ·rw[if_neg hv]at h4;obtain⟨x,x1,x2⟩:=h4;rcases ih v (by simp at hl;exact hl) hv (fun d hd=>hb d (by simp[hd]))with⟨e,_⟩|⟨e1,e2,e3⟩
     ·omega
     ·have hxl:=DP_lt x1;have hoff:=off_lt h2 hxl;have hN:p.N=tot l:=hpo.N;unfold MayP;rw[if_neg (by omega)];refine⟨off l k+x,by omega,(e3 _).2 ⟨k,po,x,h2,rfl,x1⟩,?_⟩;have hfo:=List.getElem?_eq_getElem (l:=p.follow) (i:=off l k+x) (by rw[hpo.ok.fl];omega);have hD:p.follow.getD (off l k+x) []=p.follow[off l k+x]'(by rw[hpo.ok.fl];omega):=by rw[List.getD_eq_getElem?_getD,hfo];rfl
      rw[hD];exact(hpo.fol _ _ hfo _).2 ⟨k,po,x,y,h2,hxl,rfl,x2,hy,rfl⟩
  by_cases hq:runm s 0 v<s.alls.length
  ·rcases mv_tgt hmk hf hq hc with⟨h1,h2⟩|⟨h1,h2,h3⟩
   ·refine .inl ⟨h1,fun k po y h3 h4=>h2 _ ((may hq _).2 ⟨k,po,y,h3,rfl,h4⟩)⟩
   ·exact .inr ⟨h1,h2,fun g=>(h3 g).trans (may hq g)⟩
  ·
   have hv:v≠[]:=by
    rintro rfl;have:runm s 0 []=0:=rfl;omega
   rcases ih v (by simp at hl;exact hl) hv (fun d hd=>hb d (by simp[hd]))with⟨e1,e2⟩|⟨e1,e2,e3⟩
   ·rw[e1,mv_n];refine .inl ⟨rfl,fun k po y h3 h4=>?_⟩;obtain⟨h5,_⟩:=DP_snoc.1 h4;rw[if_neg hv]at h5;obtain⟨x,x1,_⟩:=h5;exact e2 k po x h3 x1
   ·exact absurd e2 hq
theorem FstI.congr{n:Nat}{P P':Nat->Prop}{z:Int}(h: ∀k,k<n->(P k↔P' k))(hf:FstI n P z):FstI n P' z:=by
 rcases hf with⟨h1,h2⟩|⟨k,h1,h2,h3,h4⟩
 ·exact .inl ⟨h1,fun k hk hp=>h2 k hk ((h k hk).2 hp)⟩
 ·exact .inr ⟨k,h1,h2,(h k h2).1 h3,fun j hj hp=>h4 j hj ((h j (by omega)).2 hp)⟩
theorem FstI.uniq{n:Nat}{P:Nat->Prop}{y z:Int}(h:FstI n P y)(h':FstI n P z):y=z:=by
 rcases h with⟨rfl,h2⟩|⟨k,rfl,h2,h3,h4⟩<;>rcases h' with⟨rfl,g2⟩|⟨j,rfl,g2,g3,g4⟩
 ·rfl
 ·exact absurd g3 (h2 j g2)
 ·exact absurd h3 (g2 k h2)
 ·rcases Nat.lt_trichotomy k j with h|h|h
  ·exact absurd h3 (g4 k h)
  ·rw[h]
  ·exact absurd g3 (h4 j h)
theorem acc_run(hpo:PpOf l p)(hmk:s.Mk p a0)(hf:s.Fin)(ha0:FstI l.length (fun k=> ∃po:Po,l[k]?=some po/\po.null=true) a0){w:List Nat}(hb: ∀c∈w,c<256):FstI l.length (fun k=> ∃po,l[k]?=some po/\takesP po w) (accv s (runm s 0 w)):=by
 have hone:=hf.one;have hol:=hf.ol
 by_cases hw:w=[]
 ·subst hw;have e:accv s (runm s 0 [])=a0:=by
   show(s.oks++[-1]).getD 0 (-1)=a0
   rw[List.getD_eq_getElem?_getD,List.getElem?_append_left (by omega),hmk.acc0];rfl
  rw[e];exact ha0
 ·rcases set_run hpo hmk hf _ w rfl hw hb with⟨e1,e2⟩|⟨e1,e2,e3⟩
  ·have e:accv s (runm s 0 w)= -1:=by
    rw[e1];unfold accv;rw[List.getD_eq_getElem?_getD,List.getElem?_append_right (by omega),show s.alls.length-s.oks.length=0 by omega];rfl
   rw[e];refine .inl ⟨rfl,fun k hk ⟨po,h1,h2⟩=>?_⟩;obtain⟨y,h3,_⟩:=(takesP_DP hw).1 h2;exact e2 k po y h1 h3
  ·have hx:=List.getElem?_eq_getElem e2;have hD:s.alls.getD (runm s 0 w) []=s.alls[runm s 0 w]:=by rw[List.getD_eq_getElem?_getD,hx];rfl
   have ho:=List.getElem?_eq_getElem (l:=s.oks) (i:=runm s 0 w) (by omega);have e:accv s (runm s 0 w)=s.oks[runm s 0 w]'(by omega):=by
    unfold accv;rw[List.getD_eq_getElem?_getD,List.getElem?_append_left (by omega),ho];rfl
   rw[e];have hfi:=hmk.acc _ _ _ e1 hx ho;rw[hpo.ll]at hfi;refine hfi.congr fun k hk=>?_;have hlk:=List.getElem?_eq_getElem (l:=p.last) (i:=k) (by rw[hpo.ll];exact hk);have hDl:p.last.getD k []=p.last[k]'(by rw[hpo.ll];exact hk):=by rw[List.getD_eq_getElem?_getD,hlk];rfl
   rw[hDl, <-hD];constructor
   ·rintro⟨g,h1,h2⟩;obtain⟨po,y,f1,f2,f3,rfl⟩:=(hpo.last k _ hlk g).1 h1;obtain⟨k',po',y',g1,g2,g3⟩:=(e3 _).1 h2;obtain⟨rfl,rfl⟩:=off_inj f1 g1 f3 (DP_lt g3) g2;rw[f1]at g1;cases g1;exact⟨po,f1,(takesP_DP hw).2 ⟨y,g3,f2⟩⟩
   ·rintro⟨po,f1,h1⟩;obtain⟨y,h2,h3⟩:=(takesP_DP hw).1 h1;exact⟨off l k+y,(hpo.last k _ hlk _).2 ⟨po,y,f1,h3,DP_lt h2,rfl⟩,(e3 _).2 ⟨k,po,y,f1,rfl,h2⟩⟩
end
def dstep(d:Dfa)(i:Int)(c:Nat):Int:=if i<0 then -1 else(d.next.getD i.toNat []).getD c (-1)
def drun(d:Dfa)(i:Int)(w:List Nat):Int:=w.foldl (dstep d) i
def dacc(d:Dfa)(i:Int):Int:=if i<0 then -1 else d.acc.getD i.toNat (-1)
def RelD(s:Ss)(cls:List Int)(st:List Nat)(i:Int)(q:Nat):Prop:=
 (i= -1/\cls.getD q 0=cls.getD s.alls.length 0)\/ ∃(k u:Nat),i=k/\st[k]?=some u/\cls.getD u 0=cls.getD q 0
section
variable {l:List Po}{p:Pp}{a0:Int}{s:Ss}{cls:List Int}{d:Dfa}{st:List Nat}{nr:List Int}
theorem Nb.tb{nxs:List (List Int)}{accs:List Int}{k c:Nat}(nb:Nb s cls st nxs accs nr 0)(hl:nxs.length=st.length)(hk:k<st.length)(hc:c<256): ∃r z,nxs[k]?=some r/\r[c]?=some z/\(nxs.getD k []).getD c (-1)=z/\Tb nxs nr 0 k c z:=by
 have hr:=List.getElem?_eq_getElem (l:=nxs) (i:=k) (by omega);have hrl:=nb.rl _ (List.getElem_mem (l:=nxs) (n:=k) (by omega));have hz:=List.getElem?_eq_getElem (l:=nxs[k]'(by omega)) (i:=c) (by omega);refine⟨_,_,hr,hz,?_,.inl ⟨_,hr,hz⟩⟩;have e1:nxs.getD k []=nxs[k]'(by omega):=by rw[List.getD_eq_getElem?_getD,hr];rfl
 rw[e1,List.getD_eq_getElem?_getD,hz];rfl
theorem RelD.step(hf:s.Fin)(ck:ClsOk s cls)(nb:Nb s cls st d.next d.acc nr 0)(hl:d.next.length=st.length){i:Int}{q c:Nat}(hq:q<=s.alls.length)(hc:c<256)(h:RelD s cls st i q):RelD s cls st (dstep d i c) (mv s q c):=by
 rcases h with⟨rfl,h⟩|⟨k,u,rfl,h1,h2⟩
 ·refine .inl ⟨rfl,?_⟩;have:=ck.stab q s.alls.length hq (Nat.le_refl _) h c hc;rw[mv_n]at this;exact this
 ·have hk:=(List.getElem?_eq_some_iff.1 h1).1;obtain⟨r,z,hr,hz,hD,ht⟩:=nb.tb hl hk hc;have hu:=nb.stl u (List.mem_of_getElem? h1);have hst:=ck.stab u q (by omega) hq h2 c hc;have e:dstep d ((k:Nat):Int) c=z:=by
   unfold dstep;rw[if_neg (by omega)];exact hD
  rw[e];obtain⟨q',hq',he⟩:=nb.e k c z ht;rw[h1]at hq';cases hq';rcases he with⟨e1,rfl⟩|⟨e1,j,rfl,u',e2,e3⟩
  ·exact .inl ⟨rfl,by rw[<-hst];exact e1⟩
  ·exact .inr ⟨j,u',rfl,e2,by rw[e3,hst]⟩
theorem RelD.run(hf:s.Fin)(ck:ClsOk s cls)(nb:Nb s cls st d.next d.acc nr 0)(hl:d.next.length=st.length): ∀(w:List Nat){i:Int}{q:Nat},q<=s.alls.length->(∀c∈w,c<256)->RelD s cls st i q->RelD s cls st (drun d i w) (runm s q w)
 | [],i,q,hq,hw,h=>h
 |c::w,i,q,hq,hw,h=>RelD.run hf ck nb hl w (mv_le hf q c) (fun d hd=>hw d (.tail _ hd)) (h.step hf ck nb hl hq (hw c (.head _)))
theorem runm_le(hf:s.Fin){w:List Nat}{q:Nat}(hq:q<=s.alls.length):runm s q w<=s.alls.length:=by
 rcases List.eq_nil_or_concat w with rfl|⟨v,c,rfl⟩
 ·exact hq
 ·rw[List.concat_eq_append,runm_snoc];exact mv_le hf _ _
theorem accv_n(hf:s.Fin):accv s s.alls.length= -1:=by
 have:=hf.ol;unfold accv;rw[List.getD_eq_getElem?_getD,List.getElem?_append_right (by omega),show s.alls.length-s.oks.length=0 by omega];rfl
theorem accv_lt(hf:s.Fin){q:Nat}(hq:q<s.alls.length):s.oks[q]?=some (accv s q):=by
 have:=hf.ol;have ho:=List.getElem?_eq_getElem (l:=s.oks) (i:=q) (by omega);rw[ho];unfold accv;rw[List.getD_eq_getElem?_getD,List.getElem?_append_left (by omega),ho];rfl
theorem RelD.acc(hf:s.Fin)(ck:ClsOk s cls)(nb:Nb s cls st d.next d.acc nr 0)(hl:d.next.length=st.length){i:Int}{q:Nat}(hq:q<=s.alls.length)(h:RelD s cls st i q):dacc d i=accv s q:=by
 rcases h with⟨rfl,h⟩|⟨k,u,rfl,h1,h2⟩
 ·rw[ck.acc q s.alls.length hq (Nat.le_refl _) h,accv_n hf];rfl
 ·have hk:=(List.getElem?_eq_some_iff.1 h1).1;have hu:=nb.stl u (List.mem_of_getElem? h1);have ha:=nb.acc k u (by omega) h1;rw[accv_lt hf hu]at ha;rw[<-ck.acc u q (by omega) hq h2];unfold dacc;rw[if_neg (by omega),List.getD_eq_getElem?_getD]
  show(d.acc[((k:Nat):Int).toNat]?).getD (-1)=_
  rw[show((k:Nat):Int).toNat=k from rfl,ha];rfl
theorem RelD.start(nb:Nb s cls st d.next d.acc nr 0):RelD s cls st 0 0:=.inr ⟨0,0,rfl,nb.st0,rfl⟩
theorem of_run(hpo:PpOf l p)(hmk:s.Mk p a0)(hf:s.Fin)(ha0:FstI l.length (fun k=> ∃po:Po,l[k]?=some po/\po.null=true) a0)(ck:ClsOk s cls)(hd:NumD s cls d){w:List Nat}(hb: ∀c∈w,c<256):FstI l.length (fun k=> ∃po,l[k]?=some po/\takesP po w) (dacc d (drun d 0 w)):=by
 obtain⟨st,nr,nb,hl⟩:=hd;have h:=RelD.run hf ck nb hl w (Nat.zero_le _) hb (RelD.start nb);rw[h.acc hf ck nb hl (runm_le hf (Nat.zero_le _))];exact acc_run hpo hmk hf ha0 hb
end
end Go.Am
