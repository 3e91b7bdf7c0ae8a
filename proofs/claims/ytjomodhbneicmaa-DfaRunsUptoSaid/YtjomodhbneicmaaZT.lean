import Derived.Test.YtjomodhbneicmaaZS
import Derived.Test.YtjomodhbneicmaaZQ
import Derived.Test.YtjomodhbneicmaaZH
import Derived.Test.YtjomodhbneicmaaZW
set_option linter.unusedSimpArgs false
set_option linter.unusedVariables false
namespace Go.Am
open Go Go.RowKit Go.Proofs
def shrI(x:Int)(s:Nat):Int:=match x with
 | .ofNat m=>.ofNat (m>>>s)
 | .negSucc m=>.negSucc (m>>>s)
theorem xShr_is{k k':IntKind}{x:Int}{s:Nat}(h:s<=k.bits):xShr (.int k x) (.int k' (s:Nat))=some (.int k (shrI x s)):=by
 have h1:Nat.ble s k.bits=true:=ble_t' h;cases x with
 |ofNat m=>
  show(match Nat.ble s k.bits with|true=>(match shN (.ofNat m) s with|some q=>some (Value.int k q)|none=>none)|false=>none)=_
  rw[h1]
  show(match seqN (Nat.shiftRight m s) fun q=>some (Int.ofNat q)with|some q=>some (Value.int k q)|none=>none)=_
  rw[seqN_eq];rfl
 |negSucc m=>
  show(match Nat.ble s k.bits with|true=>(match shN (.negSucc m) s with|some q=>some (Value.int k q)|none=>none)|false=>none)=_
  rw[h1]
  show(match seqN (Nat.shiftRight m s) fun q=>some (Int.negSucc q)with|some q=>some (Value.int k q)|none=>none)=_
  rw[seqN_eq];rfl
def hasB(s:List Int)(c:Nat):Bool:=decide (IntKind.u64.wrap ((Nat.land (bitN .u64 (shrI (s.getD (c / 64) 0) (c % 64))) (bitN .u64 (.ofNat 1)):Nat):Int)= .ofNat 1)
theorem xRem_n{x y:Nat}(hy:0<y)(hx:x<4611686018427387904):xRem (.int .i64 (x:Nat)) (.int .i64 (y:Nat))=some (.int .i64 ((x % y:Nat):Int)):=by
 have h1:kb .i64 .i64=true:=rfl;have h2:ieq ((y:Nat):Int) 0=false:=by rw[ieq_eq];simp;omega
 have h3:Int.tmod ((x:Nat):Int) ((y:Nat):Int)=((x % y:Nat):Int):=by simp[Int.tmod]
 have h4:x % y<=x:=Nat.mod_le _ _;simp only[xRem,h1,h2,mkI_eq,wr_eq,h3]
section
variable {Q:Value->PH->Prop}{n:Nat}{cl:CL}{h h0:PH}{S:Vw}{m:OM}{rows:Rws}
theorem c44[OkH h]{s:List Int}(hs:s.length=4){c:Nat}(hc:c<256):pcall (F44 n cl (.agg ⟨u64s s⟩) (.int .u8 (c:Nat)) h)=some (.bool (hasB s c)):=by
 refine pcall_fr (h:=h) (S:=h.cells) ?_ rfl;unfold Fr F44;refine Ret.lbox (Sl.start h (Vw.le.refl _)) fun h1 b1 st1=>?_;have st1:Sl h h1 h.cells OM.emp [(b1,.row .own 1 (u64s s))]:=st1;have e1:xShr (.int .u8 (c:Nat)) (.int .u64 (.ofNat 6))=some (.int .u8 ((c / 64:Nat):Int)):=xShr_ex (k:=.u8) (k':=.u64) (x:=c) (s:=6) (by decide);have hj:c / 64<4:=by omega
 have hx:=List.getElem?_eq_getElem (l:=s) (i:=c / 64) (by omega);have hD:s.getD (c / 64) 0=s[c / 64]:=by simp[List.getD_eq_getElem?_getD,hx]
 have l1:xLd (.pointer (some ⟨b1,0+c / 64*1,none⟩)) h1=some (.int .u64 s[c / 64]):=st1.ld (.head _) (by rw[Nat.zero_add,Nat.mul_one];simp[u64s,hx]);have e2:=xShr_is (k:=.u64) (k':=.u64) (x:=s[c / 64]) (s:=c % 64) (by show c % 64<=64;omega);simp only[e1,vb_some,xIdxA_at' hj,l1,xBit63 hc,xConvI_i',wr64u (show c % 64<18446744073709551616 by omega),e2,xBit_ex,xEq_i];refine Fr.ret st1 ?_;unfold hasB;rw[hD]
theorem c103[OkH h]{s:List Int}(hs:s.length=4){c:Nat}(hc:c<256):pcall (F103 n cl (.agg ⟨u64s s⟩) (.int .i64 (c:Nat)) h)=some (.bool (hasB s c)):=by
 refine pcall_fr (h:=h) (S:=h.cells) ?_ rfl;unfold Fr F103;refine Ret.lbox (Sl.start h (Vw.le.refl _)) fun h1 b1 st1=>?_;have st1:Sl h h1 h.cells OM.emp [(b1,.row .own 1 (u64s s))]:=st1;have hj:c / 64<4:=by omega
 have hx:=List.getElem?_eq_getElem (l:=s) (i:=c / 64) (by omega);have hD:s.getD (c / 64) 0=s[c / 64]:=by simp[List.getD_eq_getElem?_getD,hx]
 have l1:xLd (.pointer (some ⟨b1,0+c / 64*1,none⟩)) h1=some (.int .u64 s[c / 64]):=st1.ld (.head _) (by rw[Nat.zero_add,Nat.mul_one];simp[u64s,hx]);have e1:=xQuo_n (x:=c) (y:=64) (by decide) (by omega);have e3:=xRem_n (x:=c) (y:=64) (by decide) (by omega);have e2:=xShr_is (k:=.u64) (k':=.i64) (x:=s[c / 64]) (s:=c % 64) (by show c % 64<=64;omega);simp only[vN_eq,e1,vb_some,xIdxA_at' hj,l1,e3,e2,xBit_ex,xEq_i];refine Fr.ret st1 ?_;unfold hasB;rw[hD]
theorem c84[OkH h]{s:List Int}(hs:s.length=4){c:Nat}(hc:c<256):pcall (F84 n cl (.agg ⟨u64s s⟩) (.int .u8 (c:Nat)) h)=some (.bool (hasB s c)):=by
 refine pcall_fr (h:=h) (S:=h.cells) ?_ rfl;unfold Fr F84;refine Ret.lbox (Sl.start h (Vw.le.refl _)) fun h1 b1 st1=>?_;have st1:Sl h h1 h.cells OM.emp [(b1,.row .own 1 (u64s s))]:=st1;have hl:(u64s s).length=4:=by simp[u64s,hs]
 have la:xLdA 4 (pt b1) h1=some (.agg ⟨u64s s⟩):=st1.ldA (.head _) (by rw[List.drop_zero, <-hl,List.take_length]) (by omega);have:=st1.ok;have hp:=c103 (n:=n) (cl:=cl) (h:=h1.fzn) hs hc;simp only[la,vb_some,xConvI_i',wrap_in (show -9223372036854775808<=((c:Nat):Int) by omega) (show((c:Nat):Int)<9223372036854775808 by omega),hp];exact Fr.ret st1 rfl
end
def takesB(po:Po)(c i:Nat):Bool:=decide (i<po.sets.length)&&hasB (po.sets.getD i []) c
def tk(po:Po)(c:Nat)(l:List Nat):List Nat:=l.filter fun i=>takesB po c i
section
variable {Q:Value->PH->Prop}{n:Nat}{cl:CL}{h h0:PH}{S:Vw}{m:OM}{rows:Rws}
end
section
variable {Q:Value->PH->Prop}{n:Nat}{cl:CL}{h h0:PH}{S:Vw}{m:OM}{rows:Rws}{K2:Value->PH->R}
def aft(po:Po)(l:List Nat):List Nat:=l.flatMap fun y=>po.follow.getD y []
end
def Rise(L cat:List Nat):Prop:=L.Pairwise (· < ·)/\ ∀y,y∈L↔y∈cat
section
variable {Q:Value->PH->Prop}{n:Nat}{cl:CL}{h h0:PH}{S:Vw}{m:OM}{rows:Rws}{K2:Value->PH->R}
end
section
variable {Q:Value->PH->Prop}{n:Nat}{cl:CL}{h h0:PH}{S:Vw}{m:OM}{rows:Rws}{K2:Value->PH->R}
theorem rise_len{N:Nat}: ∀(L:List Nat)(a:Nat),L.Pairwise (· < ·)->(∀y∈L,a<=y/\y<N)->L.length<=N-a
 | [],_,_,_=>by simp
 |y::L,a,hp,hb=>by
  rw[List.pairwise_cons]at hp;have h1:=hb y (.head _);have:=rise_len L (y+1) hp.2 fun z hz=>⟨hp.1 z hz,(hb z (.tail _ hz)).2⟩;rw[List.length_cons];omega
end
section
variable {Q:Value->PH->Prop}{n:Nat}{cl cl':CL}{h h0:PH}{S:Vw}{m:OM}{rows:Rws}{K2:Value->PH->R}
end
def nowP(po:Po):(Nat->Prop)->List Nat->(Nat->Prop)
 |X,[]=>X
 |X,c::cs=>nowP po (fun i=>(∃y,X y/\i∈po.follow.getD y [])/\takesB po c i=true) cs
def bys(l:List Nat):List Value:=l.map fun c=>.int .u8 (c:Nat)
theorem mem_aft{po:Po}{l:List Nat}{i:Nat}:i∈aft po l↔ ∃y,y∈l/\i∈po.follow.getD y []:=by
 unfold aft;rw[List.mem_flatMap]
section
variable {Q:Value->PH->Prop}{n:Nat}{cl cl':CL}{h h0:PH}{S:Vw}{m:OM}{rows:Rws}{K2:Value->PH->R}
end
def takesP(po:Po):List Nat->Prop
 | []=>po.null=true
 |c::cs=> ∃y,nowP po (fun i=>i∈po.first/\takesB po c i=true) cs y/\y∈po.last
theorem bys_len(l:List Nat):(bys l).length=l.length:=by simp[bys]
section
variable {Q:Value->PH->Prop}{n:Nat}{cl cl':CL}{h h0:PH}{S:Vw}{m:OM}{rows:Rws}{K2:Value->PH->R}
end
section
variable {Q:Value->PH->Prop}{n:Nat}{cl cl':CL}{h h0:PH}{S:Vw}{m:OM}{rows:Rws}{K2:Value->PH->R}
theorem loop19k(hn:4611686018427387904<=n){po:Po}{ps:List Value}{x c i:Nat}{bv now:Value}{bs l:List Nat}{K9:Kt}(hp:PoV S po ps)(hin:po.In)(hb:SlV S bv (bys bs))(hci:bs[i]?=some c)(hc:c<256)(hll:l.length<=1000)
  (hfs: ∀w∈po.follow,w.Pairwise (· < ·)) (hfy: ∀w∈po.follow, ∀y∈w,y<1000) (hfl: ∀w∈po.follow,w.length<=1000)
  (hk: ∀h' nv nl hv ex S',Vw.le S S'->Sl h0 h' S' OM.emp (ex++[(x,.row .own 1 ps)])->SlV S' nv (ns nl)->nl.Pairwise (· < ·)->(∀y,y∈nl↔y∈aft po (tk po c l))->Gl 1 hv (tk po c l).length (ns (tk po c l)) ex->Ret (F19_14 n cl bv (.int .i64 (i:Nat)) (pt x) hv K9 nv h') Q):
  ∀(k q j:Nat)(nv hv:Value)(nl:List Nat)(S':Vw)(h:PH)(ex:Rws),l.length-j<=k->k<q->j<=l.length->Vw.le S S'->Sl h0 h S' OM.emp (ex++[(x,.row .own 1 ps)])->SlV S' now (ns l)->SlV S' nv (ns nl)->nl.Pairwise (· < ·)->(∀y,y∈nl↔y∈aft po (tk po c (l.take j)))->Gl 1 hv (tk po c (l.take j)).length (ns (tk po c (l.take j))) ex->
  Ret (lp q (F19_16 n cl K9) [bv,pt x,now,.int .i64 (i:Nat),nv,hv,.int .i64 (j:Nat)] h) Q:=by
 have hps:=hp.ps;obtain⟨sv,fv,lv',wv,ws,rfl,a1,a2,a3,a4,a5,a6⟩:=hp;have hlenS:=a1.len;have hlenW:=a4.len;intro k
 induction k with
 |zero=>
  intro q j nv hv nl S' h ex h1 h2 h3 le st hnow hnv hs hX g;obtain⟨q,rfl⟩: ∃r,q=r+1:=⟨q-1,by omega⟩;rw[lp_succ];have hlen:=hnow.len;rw[ns_len]at hlen;have d:decide (((j:Nat):Int)<((l.length:Nat):Int))=false:=by simp;omega
  simp only[F19_16,F19_15,ucons_cons,hlen,xLt_i,d,vb_some,bite_f];rw[List.take_of_length_le (by omega)]at hX g;exact hk h nv nl hv ex S' le st hnv hs hX g
 |succ k ih=>
  intro q j nv hv nl S' h ex h1 h2 h3 le st hnow hnv hs hX g
  by_cases hj:j<l.length
  ·obtain⟨q,rfl⟩: ∃r,q=r+1:=⟨q-1,by omega⟩;rw[lp_succ];generalize hL:lp q (F19_16 n cl K9)=LL;have hlen:=hnow.len;rw[ns_len]at hlen;have d:decide (((j:Nat):Int)<((l.length:Nat):Int))=true:=by simp;omega
   have hx:=List.getElem?_eq_getElem hj;obtain⟨b1,o1,cs1,e1,e2,e3⟩:=hnow.at (k:=.i64) (i:=j) (x:=.int .i64 (l[j]:Nat)) (by simp[ns,hx]);have l1:=st.ldS e2 e3;have htk:tk po c (l.take (j+1))=tk po c (l.take j)++(if takesB po c l[j]=true then [l[j]]else []):=by
    unfold tk;rw[List.take_add_one,hx,List.filter_append]
    congr 1
    by_cases hq:takesB po c l[j]=true<;>simp[hq]
   generalize l[j]=y at hx e3 l1 htk;have l0:xLd (.pointer (some ⟨x,0,none⟩)) h=some sv:=st.ld (List.mem_append_right _ (.head _)) rfl;have hw:=wrapN (x:=j) (by omega);have d0:decide (((0:Nat):Int)<=((y:Nat):Int))=true:=by simp
   obtain⟨b3,o3,cs3,i1,i2,i3⟩:=hb.at (k:=.i64) (i:=i) (x:=.int .u8 (c:Nat)) (by simp[bys,hci]);have l3:=(st.weakS le).ldS i2 i3;have skip:takesB po c y=false->Ret (F19_4 n cl LL [bv,pt x,now,.int .i64 (i:Nat),nv,hv,.int .i64 (j:Nat)] h) Q:=by
    intro hq;simp only[F19_4,ucons_cons,F19_1,vN_eq,xAdd_i,hw,vb_some];rw[<-hL];rw[hq]at htk;simp only[Bool.false_eq_true,if_false,List.append_nil]at htk;exact ih q (j+1) nv hv nl S' h ex (by omega) (by omega) (by omega) le st hnow hnv hs (by rw[htk];exact hX) (by rw[htk];exact g)
   have yes:takesB po c y=true->Ret (F19_3 n cl (.int .i64 (y:Nat)) hv (pt x) nv (F19_4 n cl LL) bv now (.int .i64 (i:Nat)) (.int .i64 (j:Nat)) h) Q:=by
    intro hq;rw[hq,if_pos rfl]at htk;have hcnt:(tk po c (l.take j)).length<=1000:=by
     have q1:(tk po c (l.take j)).length<=(l.take j).length:=List.length_filter_le _ _;have q2:(l.take j).length<=l.length:=by rw[List.length_take];exact Nat.min_le_right _ _
     omega
    have hnl:nl.length<=1000:=by
     have:=rise_len (N:=1000) nl 0 hs fun z hz=>by
      obtain⟨u,_,hu⟩:=mem_aft.1 ((hX z).1 hz);rw[List.getD_eq_getElem?_getD]at hu;cases hq':po.follow[u]? with
      |none=>rw[hq']at hu;simp at hu
      |some w=>rw[hq']at hu;exact⟨Nat.zero_le _,hfy w (List.mem_of_getElem? hq') z (by simpa using hu)⟩
     omega
    have haft:aft po (tk po c (l.take (j+1)))=aft po (tk po c (l.take j))++po.follow.getD y []:=by
     rw[htk];unfold aft;rw[List.flatMap_append];simp
    simp only[F19_3];refine Ret.gapp st g bs28 ai28 rfl rfl (sz_le (c:=1000) hcnt (by decide)) fun h' v' ex' st' g'=>?_;have g':Gl 1 v' (tk po c (l.take (j+1))).length (ns (tk po c (l.take (j+1)))) ex':=by
     rw[htk, <-ns_snoc];simpa using g'
    have l4:xLd (.pointer (some ⟨x,4,none⟩)) h'=some wv:=st'.ld (List.mem_append_right _ (.head _)) rfl;simp only[xFld_p,Nat.zero_add,l4,hlenW,vb_some,xLt_i]
    by_cases hy:y<po.follow.length
    ·have d1:decide (((y:Nat):Int)<((ws.length:Nat):Int))=true:=by simp;omega
     have hfy':=List.getElem?_eq_getElem hy;have hD:po.follow.getD y []=po.follow[y]:=by simp[List.getD_eq_getElem?_getD,hfy']
     have hmemF:po.follow[y]∈po.follow:=List.getElem_mem hy;obtain⟨w,f1,f2⟩:=a6 y _ hfy';obtain⟨b2,o2,cs2,g1,g2,g3⟩:=a4.at (k:=.i64) f1;have l5:=(st'.weakS le).ldS g2 g3;simp only[d1,bite_t,F19_2,xFld_p,Nat.zero_add,l4,vb_some,g1,l5];have:=st'.ok;have hfw:=hfl _ hmemF;refine Ret.lfcall st' (c45 (n:=n) (cl:=cl) (h:=h'.fzn) (S:=S') hn (fun b cs e=>st'.leS b cs e) hnv (f2.mono le) (by omega) (by omega)) fun v2 h2' rows2 g5 st2=>?_;obtain⟨S2,le2,st3,hv2⟩:=Gl.settle st2 g5;simp only[F19_4,ucons_cons,F19_1,vN_eq,xAdd_i,hw,vb_some];rw[<-hL];refine ih q (j+1) v2 v' (mrg nl po.follow[y]) S2 h2' ex' (by omega) (by omega) (by omega) (le.trans le2) st3 (hnow.mono le2) hv2.slv (mrg_sorted hs (hfs _ hmemF)) (fun z=>?_) g';rw[haft,hD,mem_mrg,List.mem_append,hX]
    ·have d1:decide (((y:Nat):Int)<((ws.length:Nat):Int))=false:=by simp;omega
     have hD:po.follow.getD y []=[]:=by rw[List.getD_eq_getElem?_getD,List.getElem?_eq_none (by omega)];rfl
     simp only[d1,bite_f,F19_4,ucons_cons,F19_1,vN_eq,xAdd_i,hw,vb_some];rw[<-hL];refine ih q (j+1) nv v' nl S' h' ex' (by omega) (by omega) (by omega) le st' hnow hnv hs (fun z=>?_) g';rw[haft,hD,List.append_nil];exact hX z
   simp only[F19_16,F19_15,ucons_cons,hlen,xLt_i,d,vb_some,bite_t,jn_eq,F19_5,e1,l1,vN_eq,xGe_i,d0,isB_t,gd_true,xFld_p,Nat.zero_add,l0,hlenS,xPick_t]
   by_cases hy:y<po.sets.length
   ·have d1:decide (((y:Nat):Int)<((po.sets.length:Nat):Int))=true:=by simp;omega
    obtain⟨b2,o2,cs2,f1,f2,f3,f4⟩:=a1.at (kk:=.i64) hy;have hsy:=List.getElem?_eq_getElem hy;have hD:po.sets.getD y []=po.sets[y]:=by simp[List.getD_eq_getElem?_getD,hsy]
    have hs4:=hin.s4 _ (List.getElem_mem hy);rw[sets_at hin.s4 hsy]at f4;have l2:=(st.weakS le).ldSA f2 f4 f3;have:=st.ok;have hpc:=c44 (n:=n) (cl:=cl) (h:=h.fzn) hs4 hc;have hval:takesB po c y=hasB po.sets[y] c:=by unfold takesB;rw[hD];simp[hy]
    rw[hval]at skip yes;simp only[d1,isB_t,gd_true,vb_some,xFld_p,Nat.zero_add,l0,i1,f1,l2,l3,hpc,xPick_t];cases hq:hasB po.sets[y] c with
    |true=>simp only[bite_t];exact yes hq
    |false=>simp only[bite_f];exact skip hq
   ·have d1:decide (((y:Nat):Int)<((po.sets.length:Nat):Int))=false:=by simp;omega
    have hval:takesB po c y=false:=by unfold takesB;simp[hy]
    have:=skip hval;simp only[d1];simpa[gd_some']using this
  ·exact ih q j nv hv nl S' h ex (by omega) (by omega) h3 le st hnow hnv hs hX g
end
section
variable {Q:Value->PH->Prop}{n:Nat}{cl cl':CL}{h h0:PH}{S S':Vw}{m:OM}{rows:Rws}{K2:Value->PH->R}
theorem loop19l{po:Po}{lv hv:Value}{hl:List Nat}{x k y:Nat}{K:Kt}(st:Sl h0 h S OM.emp rows)(h3:xLd (.pointer (some ⟨x,3,none⟩)) h=some lv)(hlv:SlV S lv (ns po.last))(hhv:SlV S hv (ns hl))(hky:hl[k]?=some y)(hll:po.last.length<1000000)
  (hyes:y∈po.last->Q tt h) (hno:y∉po.last->Ret (F19_8 n cl (.int .i64 (k:Nat)) K (pt x) hv h) Q):
  ∀(d q j:Nat),po.last.length-j<=d->d<q->j<=po.last.length->y∉po.last.take j->Ret (lp q (F19_10 n cl K) [pt x,hv,.int .i64 (k:Nat),.int .i64 (j:Nat)] h) Q:=by
 have hlen:=hlv.len;rw[ns_len]at hlen;intro d
 induction d with
 |zero=>
  intro q j h1 h2 h4 h5;obtain⟨q,rfl⟩: ∃r,q=r+1:=⟨q-1,by omega⟩;rw[lp_succ];have d:decide (((j:Nat):Int)<((po.last.length:Nat):Int))=false:=by simp;omega
  rw[List.take_of_length_le (by omega)]at h5;simp only[F19_10,F19_9,ucons_cons,xFld_p,Nat.zero_add,h3,hlen,xLt_i,d,vb_some,bite_f];exact hno h5
 |succ d ih=>
  intro q j h1 h2 h4 h5
  by_cases hj:j<po.last.length
  ·obtain⟨q,rfl⟩: ∃r,q=r+1:=⟨q-1,by omega⟩;rw[lp_succ];generalize hL:lp q (F19_10 n cl K)=LL;have dd:decide (((j:Nat):Int)<((po.last.length:Nat):Int))=true:=by simp;omega
   have hx:=List.getElem?_eq_getElem hj;have htk:po.last.take (j+1)=po.last.take j++[po.last[j]]:=by rw[List.take_add_one,hx];rfl
   have hmem:=List.getElem_mem hj;obtain⟨b1,o1,cs1,e1,e2,e3⟩:=hlv.at (k:=.i64) (i:=j) (x:=.int .i64 (po.last[j]:Nat)) (by simp[ns,hx]);have l1:=st.ldS e2 e3;generalize po.last[j]=z at hx htk hmem e3 l1;obtain⟨b2,o2,cs2,f1,f2,f3⟩:=hhv.at (k:=.i64) (i:=k) (x:=.int .i64 (y:Nat)) (by simp[ns,hky]);have l2:=st.ldS f2 f3;simp only[F19_10,F19_9,ucons_cons,xFld_p,Nat.zero_add,h3,hlen,xLt_i,dd,vb_some,bite_t,F19_7,f1,e1,l1,l2,xEq_i]
   by_cases heq:z=y
   ·have d2:decide (((z:Nat):Int)=((y:Nat):Int))=true:=by simp[heq]
    simp only[d2,bite_t];exact Ret.of (hyes (by rw[<-heq];exact hmem))
   ·have d2:decide (((z:Nat):Int)=((y:Nat):Int))=false:=by simp;omega
    simp only[d2,bite_f,F19_6,vN_eq,xAdd_i,wrapN (show j<4611686018427387904 by omega),vb_some];rw[<-hL];refine ih q (j+1) (by omega) (by omega) (by omega) fun hm=>?_;rw[htk]at hm;rcases List.mem_append.1 hm with q|q
    ·exact h5 q
    ·exact heq (by
            have:y=z:=by simpa using q
            exact this.symm)
  ·exact ih q j (by omega) (by omega) h4 h5
theorem loop19h(hn:4611686018427387904<=n){po:Po}{lv hv:Value}{hl:List Nat}{x:Nat}(st:Sl h0 h S OM.emp rows)(h3:xLd (.pointer (some ⟨x,3,none⟩)) h=some lv)(hlv:SlV S lv (ns po.last))(hhv:SlV S hv (ns hl))(hll:po.last.length<1000000)(hhl:hl.length<1000000):
  ∀(d q k:Nat),hl.length-k<=d->d<q->k<=hl.length->(∀y∈hl.take k,y∉po.last)->Ret (lp q (F19_12 n cl) [pt x,hv,.int .i64 (k:Nat)] h) fun v _=> ∃bb:Bool,v= .bool bb/\(bb=true↔ ∃y,y∈hl/\y∈po.last):=by
 have hlen:=hhv.len;rw[ns_len]at hlen;intro d
 induction d with
 |zero=>
  intro q k h1 h2 h4 h5;obtain⟨q,rfl⟩: ∃r,q=r+1:=⟨q-1,by omega⟩;rw[lp_succ];have d:decide (((k:Nat):Int)<((hl.length:Nat):Int))=false:=by simp;omega
  rw[List.take_of_length_le (by omega)]at h5;simp only[F19_12,F19_11,ucons_cons,hlen,xLt_i,d,vb_some,bite_f];refine Ret.of ⟨false,rfl,⟨fun q=>?_,fun hq=>?_⟩⟩
  ·cases q
  ·obtain⟨y,q1,q2⟩:=hq;exact absurd q2 (h5 y q1)
 |succ d ih=>
  intro q k h1 h2 h4 h5
  by_cases hk:k<hl.length
  ·obtain⟨q,rfl⟩: ∃r,q=r+1:=⟨q-1,by omega⟩;rw[lp_succ];generalize hL:lp q (F19_12 n cl)=LL;have dd:decide (((k:Nat):Int)<((hl.length:Nat):Int))=true:=by simp;omega
   have hx:=List.getElem?_eq_getElem hk;have htk:hl.take (k+1)=hl.take k++[hl[k]]:=by rw[List.take_add_one,hx];rfl
   have hmem:=List.getElem_mem hk;generalize hl[k]=y at hx htk hmem;simp only[F19_12,F19_11,ucons_cons,hlen,xLt_i,dd,vb_some,bite_t,vN_eq];refine loop19l (po:=po) st h3 hlv hhv hx hll (fun hy=>⟨true,rfl,⟨fun _=>⟨y,hmem,hy⟩,fun _=>rfl⟩⟩) (fun hy=>?_) po.last.length n 0 (by omega) (by omega) (Nat.zero_le _) (by simp);simp only[F19_8,vN_eq,xAdd_i,wrapN (show k<4611686018427387904 by omega),vb_some];rw[<-hL];refine ih q (k+1) (by omega) (by omega) (by omega) fun z hm=>?_;rw[htk]at hm;rcases List.mem_append.1 hm with q|q
   ·exact h5 z q
   ·have:z=y:=by simpa using q
    rw[this];exact hy
  ·exact ih q k (by omega) (by omega) h4 h5
end
def refP(po:Po):(Nat->Prop)->List Nat->Prop
 |X,[]=>False
 |X,[c]=> ∃y,(X y/\takesB po c y=true)/\y∈po.last
 |X,c::c'::cs=>refP po (fun i=> ∃y,(X y/\takesB po c y=true)/\i∈po.follow.getD y []) (c'::cs)
theorem refP_now{po:Po}: ∀(cs:List Nat)(c:Nat)(X:Nat->Prop),refP po X (c::cs)↔ ∃y,nowP po (fun i=>X i/\takesB po c i=true) cs y/\y∈po.last
 | [],c,X=>Iff.rfl
 |c'::cs,c,X=>by
  unfold refP nowP;exact refP_now cs c' _
section
variable {Q:Value->PH->Prop}{n:Nat}{cl cl':CL}{h h0:PH}{S:Vw}{m:OM}{rows:Rws}{K2:Value->PH->R}
theorem loop19o(hn:4611686018427387904<=n){po:Po}{ps:List Value}{x:Nat}{bv:Value}{bs:List Nat}(hp:PoV S po ps)(hin:po.In)(hb:SlV S bv (bys bs))(hbs: ∀c∈bs,c<256)(hbl:bs.length<1000000)
  (hfs: ∀w∈po.follow,w.Pairwise (· < ·)) (hfy: ∀w∈po.follow, ∀y∈w,y<1000) (hfl: ∀w∈po.follow,w.length<=1000):
  ∀(k q i:Nat)(X:Nat->Prop)(nv:Value)(l:List Nat)(S':Vw)(h:PH),bs.length-i<=k->k<q->i<bs.length->Vw.le S S'->Sl h0 h S' OM.emp [(x,.row .own 1 ps)]->SlV S' nv (ns l)->(∀y,y∈l↔X y)->l.length<=1000->
  Ret (lp q (F19_18 n cl) [bv,pt x,nv,.int .i64 (i:Nat)] h) fun v _=> ∃bb:Bool,v= .bool bb/\(bb=true↔refP po X (bs.drop i)):=by
 have hlen:=hb.len;rw[bys_len]at hlen;intro k
 induction k with
 |zero=>intro q i X nv l S' h h1 h2 h3;omega
 |succ k ih=>
  intro q i X nv l S' h h1 h2 h3 le st hnv hX hll;obtain⟨q,rfl⟩: ∃r,q=r+1:=⟨q-1,by omega⟩;rw[lp_succ];generalize hL:lp q (F19_18 n cl)=LL;have d:decide (((i:Nat):Int)<((bs.length:Nat):Int))=true:=by simp;omega
  have hx:=List.getElem?_eq_getElem h3;have hc:=hbs _ (List.getElem_mem h3);have hdr:bs.drop i=bs[i]::bs.drop (i+1):=List.drop_eq_getElem_cons h3;generalize bs[i]=c at hx hc hdr;simp only[F19_18,F19_17,ucons_cons,hlen,xLt_i,d,vb_some,bite_t,vN_eq];refine loop19k hn (hp.mono le) hin (SlV.mono le hb) hx hc hll hfs hfy hfl (fun h' nv' nl hv ex S2 le2 st2 hnv2 hs2 hm2 g2=>?_) l.length n 0 nils nils [] S' h [] (by omega) (by omega) (Nat.zero_le _) (Vw.le.refl _) st hnv (.inl ⟨rfl,rfl⟩) .nil (fun y=>by simp[tk,aft]) (by simpa[tk,ns]using Gl.nil);have hw:IntKind.i64.wrap (((bs.length:Nat):Int)-((1:Nat):Int))=((bs.length-1:Nat):Int):=wrapS (by omega) (by omega);have hcnt:(tk po c l).length<=1000:=Nat.le_trans (List.length_filter_le _ _) hll;have hmem: ∀y,y∈tk po c l↔X y/\takesB po c y=true:=fun y=>by unfold tk;rw[List.mem_filter,hX]
  simp only[F19_14,hlen,vb_some,vN_eq,xSub_i,hw,xEq_i]
  by_cases hlast:i=bs.length-1
  ·have d2:decide (((i:Nat):Int)=((bs.length-1:Nat):Int))=true:=by simp;omega
   obtain⟨S3,le3,st3,hv3⟩:=Gl.settle st2 g2;obtain⟨sv,fv,lv,wv,ws,rfl,a1,a2,a3,a4,a5,a6⟩:=hp;have l3:xLd (.pointer (some ⟨x,3,none⟩)) h'=some lv:=st3.ld (.head _) rfl;simp only[d2,bite_t,vN_eq];refine(loop19h hn st3 l3 (a3.mono ((le.trans le2).trans le3)) hv3.slv (by have:=hin.ll;omega) (by omega) (tk po c l).length n 0 (by omega) (by omega) (Nat.zero_le _) (by simp)).mono fun v h'' ⟨bb,q1,q2⟩=>⟨bb,q1,?_⟩;rw[q2,hdr,List.drop_of_length_le (by omega)]
   show _↔ ∃y,(X y/\takesB po c y=true)/\y∈po.last
   simp only[hmem]
  ·have d2:decide (((i:Nat):Int)=((bs.length-1:Nat):Int))=false:=by simp;omega
   have hnl:nl.length<=1000:=by
    have:=rise_len (N:=1000) nl 0 hs2 fun z hz=>by
     obtain⟨u,_,hu⟩:=mem_aft.1 ((hm2 z).1 hz);rw[List.getD_eq_getElem?_getD]at hu;cases hq':po.follow[u]? with
     |none=>rw[hq']at hu;simp at hu
     |some w=>rw[hq']at hu;exact⟨Nat.zero_le _,hfy w (List.mem_of_getElem? hq') z (by simpa using hu)⟩
    omega
   simp only[d2,bite_f,F19_13,vN_eq,xAdd_i,wrapN (show i<4611686018427387904 by omega),vb_some];rw[<-hL];have hdr2:bs.drop (i+1)=bs[i+1]'(by omega)::bs.drop (i+1+1):=List.drop_eq_getElem_cons (by omega);have:=ih q (i+1) (fun z=> ∃y,(X y/\takesB po c y=true)/\z∈po.follow.getD y []) nv' nl S2 h' (by omega) (by omega) (by omega) (le.trans le2) (st2.drop (List.sublist_append_right _ _)) hnv2 (fun z=>by rw[hm2,mem_aft];simp only[hmem]) hnl;refine this.mono fun v h'' ⟨bb,q1,q2⟩=>⟨bb,q1,?_⟩;rw[q2,hdr,hdr2];exact Iff.rfl
end
section
variable {Q:Value->PH->Prop}{n:Nat}{cl cl':CL}{h h0:PH}{S:Vw}{m:OM}{rows:Rws}{K2:Value->PH->R}
theorem c19[OkH h](hn:4611686018427387904<=n)(hS:Vw.le S h.cells){po:Po}{ps:List Value}(hp:PoV S po ps)(hin:po.In)(hfs: ∀w∈po.follow,w.Pairwise (· < ·))(hfl: ∀w∈po.follow,w.length<=1000)(hfy: ∀w∈po.follow, ∀y∈w,y<1000)(hf1:po.first.length<=1000)
  {bv:Value} {bs:List Nat} (hlen:xLenS bv=some (.int .i64 (bs.length:Nat))) (hb:bs≠[]->SlV S bv (bys bs)) (hbs: ∀c∈bs,c<256) (hbl:bs.length<1000000):
  ∃bb:Bool,pcall (F19 n cl (.agg ⟨ps⟩) bv h)=some (.bool bb)/\(bb=true↔takesP po bs):=by
 have hps:=hp.ps;have key:Ret (F19 n cl (.agg ⟨ps⟩) bv h) fun v _=> ∃bb:Bool,v= .bool bb/\(bb=true↔takesP po bs):=by
  unfold F19;refine Ret.lbox (Sl.start h hS) fun h1 x st1=>?_;have st1:Sl h h1 S OM.emp [(x,.row .own 1 ps)]:=st1;have hp0:=hp;obtain⟨sv,fv,lv,wv,ws,rfl,a1,a2,a3,a4,a5,a6⟩:=hp;have l1:xLd (.pointer (some ⟨x,1,none⟩)) h1=some (.bool po.null):=st1.ld (.head _) rfl;have l2:xLd (.pointer (some ⟨x,2,none⟩)) h1=some fv:=st1.ld (.head _) rfl;simp only[hlen,vb_some,vN_eq,xEq_i]
  match bs,hb,hbs,hbl,hlen with
  | [],_,_,_,_=>
   have d:decide ((([]:List Nat).length:Int)=((0:Nat):Int))=true:=by simp
   simp only[d,bite_t,F19_0,xFld_p,Nat.zero_add,l1,vb_some];exact Ret.of ⟨_,rfl,Iff.rfl⟩
  |c::cs,hb,hbs,hbl,hlen=>
   have d:decide (((c::cs).length:Int)=((0:Nat):Int))=false:=by simp;omega
   have hb:=hb (by simp);simp only[d,bite_f,F19_19,xFld_p,Nat.zero_add,l2,vb_some,vN_eq];have hloop:=loop19o (n:=n) (cl:=cl) (h0:=h) hn hp0 hin hb hbs hbl hfs hfy hfl (c::cs).length n 0 (fun i=>i∈po.first) fv po.first S h1 (by omega) (by omega) (by simp) (Vw.le.refl _) st1 a2 (fun y=>Iff.rfl) hf1;refine hloop.mono fun v h' ⟨bb,q1,q2⟩=>⟨bb,q1,?_⟩;rw[List.drop_zero]at q2;rw[q2];exact refP_now cs c _
 obtain⟨v,h1,e,bb,rfl,hbb⟩:=key;exact⟨bb,by rw[e];exact pcall_some rfl,hbb⟩
end
theorem Ret.fcall0{Q:Value->PH->Prop}{h h0:PH}{S:Vw}{K2:Value->PH->R}(s:Sl h0 h S OM.emp []){r:R}{P:Value->Vw->Prop}
  (a:Ret r fun v h1=> ∃S',Vw.le S S'/\Sl h.fzn h1 S' OM.emp []/\P v S') (hk: ∀v h' S',Vw.le S S'->P v S'->Sl h0 h' S' OM.emp []->Ret (K2 v h') Q):Ret (Go.Am.hb (Go.Am.fcall h r) K2) Q:=by
 obtain⟨v,h1,rfl,S',le,s1,hp⟩:=a;have ok:=s.ok;have e:Go.Am.fcall h (some (v,h1))=some (v,h.back h1):=by
  show Bool.rec (motive:=fun _=>R) none (some (v,h.back h1)) (Nat.ble h.fz h.n)=_
  rw[Nat.ble_eq_true_of_le ok.fz]
 rw[e];have kp:=s1.sm.kp;have hle:h.n<=h1.n:=kp.le;have le0:=s.sm.kp.le;have hraw: ∀b,(h.back h1).raw b=h1.raw b:=fun b=>rfl;have hold: ∀b,b<h.n->h1.raw b=h.raw b:=fun b hb=>kp.raw b hb;refine hk v (h.back h1) S' le hp ⟨⟨⟨⟨by show h.fz<=h1.n;have:=ok.fz;omega,kp.ok.full⟩,by show h0.n<=h1.n;omega,s.sm.kp.fz,fun b hb=>?_,opK_of fun b hb=>?_⟩,s.sm.fz,fun b o hb=>?_,fun b cs hb=>?_⟩,.nil,fun p hp=>by cases hp⟩
 ·rw[hraw,hold b (by omega)];exact s.sm.kp.raw b hb
 ·rw[hraw,hold b (by omega)];exact s.sm.kp.raw b hb
 ·cases hb
 ·obtain⟨h2,h3⟩:=s1.sm.see b cs hb;refine⟨?_,rfl⟩;unfold PH.cells at h2 ⊢;rw[hraw];exact h2
theorem ai39:appInfo Try.prog #[39,39]=some (1,1):=by kernel_rfl
structure BysV(V:Vw)(v:Value)(bs:List Nat):Prop where
 slv:bs≠[]->SlV V v (bys bs)
 emp:bs=[]->v=nils\/ ∃b c,v= .slice (some ⟨b,0,none⟩) 0 c
 cap: ∀b n c,v= .slice (some b) n c->c=openCap
theorem BysV.mono{V W:Vw}{v:Value}{bs:List Nat}(hs:Vw.le V W)(h:BysV V v bs):BysV W v bs:=⟨fun e=>(h.slv e).mono hs,h.emp,h.cap⟩
theorem BysV.len{V:Vw}{v:Value}{bs:List Nat}(h:BysV V v bs):xLenS v=some (.int .i64 (bs.length:Nat)):=by
 by_cases e:bs=[]
 ·subst e;rcases h.emp rfl with rfl|⟨b,c,rfl⟩<;>simp[nils]
 ·have:=(h.slv e).len
  rwa [bys_len]at this
section
variable {Q:Value->PH->Prop}{n:Nat}{cl cl':CL}{h h0:PH}{S:Vw}{m:OM}{rows:Rws}{K2:Value->PH->R}
end
theorem clt104{n d:Nat}{u v w x:Value}{h:PH}:CLT n d 104 [u,v,w,x] h=CLV n d 104 [u,v,w,x] h:=rfl
theorem clt55{n d:Nat}{u v:Value}{h:PH}:CLT n d 55 [u,v] h=CLV n d 55 [u,v] h:=rfl
theorem clt61{n d:Nat}{u v:Value}{h:PH}:CLT n (d+1) 61 [u,v] h=F61 n (CLV n d) u v h:=rfl
theorem abeq'{o1 o2:Operand}{a b:Bool}:abin Try.prog .eql 4 o1 o2 (.bool a) (.bool b)=some (.bool (a==b)):=by cases a<;>cases b<;>kernel_rfl
theorem poOf_fol{x:Re}(hs:x.sets.length<=150): ∀w∈(poOf x).follow,w.Pairwise (· < ·)/\w.length<=150/\ ∀y∈w,y<150:=by
 intro w hw;unfold poOf at hw;simp only[List.mem_map]at hw;obtain⟨i,_,rfl⟩:=hw;exact⟨srt_sorted _ _,Nat.le_trans srt_len hs,fun y hy=>by have:=(mem_srt.1 hy).1;omega⟩
theorem poOf_fst{x:Re}(hs:x.sets.length<=150):(poOf x).first.length<=150:=Nat.le_trans srt_len hs
section
variable {n:Nat}{h h0:PH}{S:Vw}
end
end Go.Am
namespace Go.Am
open Go Go.RowKit Go.Proofs Go.ChangeShapes Go.WideShapes
theorem wf8{z:Int}(h:(Lit.int .u8 z).wf=true):0<=z/\z<256:=by
 simp[Lit.wf,IntKind.min,IntKind.max,IntKind.signed,IntKind.bits]at h;omega
theorem opens_bytes{P:Program}{T e:TypeId}(hu:P.underlying T=some (.slice e))(hsz:P.cellsOf e=1)(he:P.underlying e=some (.int .u8)){H:Type}{enc:TypeId×Value->H}{w:World}{ρ:RMap}{l:Heap}{fuel:Nat}{v:Value}{y:DataW H×List MemPlace}(m:Im w ρ l)(ht:DataW.trod enc P w 0 (fun _=>true) true fuel T [v]=some y):
  ∃(ρ':RMap) (ext:Heap) (v':Value) (bs:List Nat),Im w ρ' (l++ext)/\ρ.le ρ'/\VR ρ' v' v/\BysV (vl (l++ext)) v' bs/\ ∀c∈bs,c<256:=by
 have hmx:maxLen=9223372036854775807:=rfl;have op:Opens P e (rI .u8) (fun z=>(Lit.int .u8 z).wf=true):=opens_int he;rcases Deep.open_slice hu ht with⟨hcs,_⟩|⟨a,len,cap,mm,n,D,Pl,hcs,_,hlc,hm,hmm,_,hcell⟩
 ·cases hcs;exact⟨ρ,[],nils,[],by rw[List.append_nil];exact m,RMap.le_refl _,.snil _ _,⟨fun h=>absurd rfl h,fun _=>.inl rfl,fun b n c e=>by cases e⟩,by simp⟩
 ·cases hcs;simp only[if_true]at hmm;rw[hsz]at hcell;cases hc0:cap with
  |zero=>
   have hl0:len=0:=by omega
   subst hl0;exact⟨ρ,[],.slice (some ⟨0,0,none⟩) 0 openCap,[],by rw[List.append_nil];exact m,RMap.le_refl _,.slz m.zero (by decide) rfl,⟨fun h=>absurd rfl h,fun _=>.inr ⟨_,_,rfl⟩,fun b n c e=>by cases e;rfl⟩,by simp⟩
  |succ cap'=>
   obtain⟨cs0,hc,_⟩:=hcell 0 (by omega);obtain⟨_,hlen0,hat0⟩:=World.cells?_some hc;have hat0:=hat0 0 (by omega);have hx0:=List.getElem?_eq_getElem (l:=cs0) (i:=0) (by omega);obtain⟨hb,hs⟩:=cell_lt (v:=cs0[0]'(by omega)) (by rw[hat0];exact hx0);have hb:a.block<w.heap.size:=by simpa[Addr.add]using hb
   have hs:a.spot=none:=by simpa[Addr.add]using hs
   have ea:a=⟨a.block,a.off,none⟩:=by cases a;simp_all
   obtain⟨ρ1,ext,xs,cs,m1,le1,h1,h2,h3,h4,h5⟩:=Im.rowsK op m hs (fun i hi=>let⟨c,q1,q2⟩:=hcell i (by omega);⟨c,q1,_,q2⟩) len (Nat.le_refl _);have h2:cs.length=len*1:=h2;have m':=m1.row 1 a.block a.off cap cs hb h3;have hnew:vl (l++(ext++[.row .ro 1 cs])) (l++ext).length=some cs:=by
    unfold vl;rw[<-List.append_assoc,List.getElem?_append_right (Nat.le_refl _),Nat.sub_self];simp
   refine⟨_,ext++[.row .ro 1 cs],.slice (some ⟨(l++ext).length,0,none⟩) len openCap,xs.map Int.toNat,by rw[<-List.append_assoc];exact m',RMap.le_trans le1 (upR_le m1 _),?_,⟨fun _=>.inr ⟨(l++ext).length,0,openCap,cs,by rw[bys_len,List.length_map,h1],hnew,by rw[bys_len,List.length_map,h1,h2];omega,fun i x hx=>?_⟩,fun e=>.inr ⟨(l++ext).length,openCap,?_⟩,fun b n c e=>by cases e;rfl⟩,?_⟩
   ·rw[ea];have e:upR ρ1 (l++ext).length ⟨a.block,a.off,cap⟩ (l++ext).length=some ⟨a.block,a.off,cap⟩:=by unfold upR;rw[if_pos rfl]
    rw[<-hc0];exact VR.slo e (by decide) (Nat.add_comm _ _) hlc
   ·unfold bys at hx;rw[List.map_map,List.getElem?_map,Option.map_eq_some_iff]at hx;obtain⟨z,hz,rfl⟩:=hx;have hlt:=(List.getElem?_eq_some_iff.1 hz).1;have q:=h4 i z hz;have q:(cs.drop (i*1)).take 1=[.int .u8 z]:=q;have hw:=wf8 (h5 z (List.mem_of_getElem? hz));rw[Nat.mul_one,List.drop_eq_getElem_cons (by omega),List.take_succ_cons,List.take_zero]at q;rw[Nat.zero_add,List.getElem?_eq_getElem (by omega)];refine congrArg some ((List.cons.inj q).1.trans ?_)
    show Value.int .u8 z= .int .u8 ((z.toNat:Nat):Int)
    rw[Int.toNat_of_nonneg hw.1]
   ·have:xs.length=0:=by simpa using congrArg List.length e
    have hl:len=0:=by omega
    rw[hl]
   ·intro c hc;rw[List.mem_map]at hc;obtain⟨z,hz,rfl⟩:=hc;have:=wf8 (h5 z hz);omega
theorem PH.abs_list{h:PH}{l:List AObj}(hn:h.n=l.length)(hz:h.fz=0)(hr: ∀b,h.raw b=l[b]?):h.abs=l:=by
 apply List.ext_getElem?
 intro i
 show((List.range h.n).map fun i=>frz (Nat.blt i h.fz) ((h.br.get i).getD .dead))[i]?=l[i]?
 rw[List.getElem?_map]
 by_cases hi:i<h.n
 ·have hl:l[i]?=some l[i]:=List.getElem?_eq_getElem (by omega);have hb:Nat.blt i h.fz=false:=by rw[hz];rfl
  have hg:h.br.get i=some l[i]:=by rw[<-PH.raw_lt hi,hr,hl]
  rw[List.getElem?_range hi,hl];simp only[Option.map_some,hb,hg,Option.getD_some,frz]
 ·rw[List.getElem?_eq_none (by simp;omega),List.getElem?_eq_none (by omega)];rfl
end Go.Am
