import Derived.Test.YtdobnnifjfbibaaDoorZC
set_option linter.unusedSimpArgs false
set_option linter.unusedVariables false
namespace Go.Am
open Go Go.RowKit Go.Proofs
section
variable {n:Nat}{cl ih:CL}{h:PH}
end
section
variable {n:Nat}{cl ih:CL}{h:PH}
theorem idx0{b N c:Nat}{s:Int}(h0:0<=s)(h1:s<N):xIdxS 1 (.slice (some ⟨b,0,none⟩) N c) (.int .i64 s)=some (.pointer (some ⟨b,s.toNat,none⟩)):=by
 rw[xIdxS_at h0 h1];simp
end
inductive Nul(g:Gr):Int->Prop
 |mk {r:Rl}:r∈g.rules->(∀s∈r.right,isName g.names s=true)->(∀s∈r.right,Nul g s)->Nul g r.left
def emptyB(g:Gr)(out:List Bool)(l:List Int):Bool:=l.all fun s=>isName g.names s&&out.getD s.toNat false
theorem getDb_of{l:List Bool}{i:Nat}{x:Bool}(h:l[i]?=some x):l.getD i false=x:=by simp[List.getD,h]
section
variable {n:Nat}{cl ih:CL}{h:PH}
theorem loop70{h0:PH}{g:Gr}{rv fv cv kv:Value}{b1:Nat}{nv qv:Value}{out:List Bool}{q:List Int}(hl:RdS boolE 1 h0 nv out)(hq:RdI h0 qv q)(hlen:out.length=g.names.toNat)(h8:q.length<9223372036854775808):
  ∀(k i m:Nat)(h:PH),i+k=q.length->k<m->emptyB g out (q.take i)=true->St h0 h [(b1,gcs g rv fv cv kv)]->
  Ret (lp m (F70_3 n cl) [nv,.pointer (some ⟨b1,0,none⟩),qv,.int .i64 q.length,.int .i64 i] h) fun u _=>u= .bool (emptyB g out q):=by
 have un1:isB false undef=false:=rfl;have un2:isB true undef=false:=rfl;intro k
 induction k with
 |zero=>
  intro i m h hi hm he st;obtain⟨m,rfl⟩: ∃q,m=q+1:=⟨m-1,by omega⟩;rw[lp_succ];have c: ¬((i:Int)<q.length):=by omega
  rw[List.take_of_length_le (by omega)]at he;simp only[F70_3,ucons_cons,F70_2,xLt_i,c,decide_false,vb_some,bite_f,tt_eq];exact Ret.of (by rw[he])
 |succ k ih'=>
  intro i m h hi hm he st;obtain⟨m,rfl⟩: ∃q,m=q+1:=⟨m-1,by omega⟩;rw[lp_succ];have c:((i:Int)<q.length):=by omega
  have:=st.ok;have lw:xLdA 7 (.pointer (some ⟨b1,0,none⟩)) h=some (.agg ⟨gcs g rv fv cv kv⟩):=xLdA_at (st.row (.head _)) rfl (Nat.le_refl _);simp only[F70_3,ucons_cons,F70_2,xLt_i,c,decide_true,vb_some,bite_t,F70_1];refine Ret.idx hq (by omega) c fun b o cs x hx s hle hE=>?_;have hx:q[i]?=some x:=by simpa using hx
  have lx:xLd (.pointer (some ⟨b,o,none⟩)) h=some (.int .i64 x):=xLdE (st.sees s) hle hE (j:=0) rfl;have no:(isName g.names x&&out.getD x.toNat false)=false->Ret (some (ff,h)) fun u (_:PH)=>u= .bool (emptyB g out q):=by
   intro hb;have:emptyB g out q=false:=by
    unfold emptyB;rw[List.all_eq_false];exact⟨x,List.mem_of_getElem? hx,by rw[hb];simp⟩
   exact Ret.of (by rw[this];rfl)
  simp only[lx,vb_some,lw,c44,xNot_b];cases hn:isName g.names x with
  |false=>
   simp only[Bool.not_false,isB_f,Bool.not_true,gd_false,vb_some,un1,un2,xPick_t,tt_eq,bite_t];exact no (by rw[hn];rfl)
  |true=>
   have hnm:=isName_iff.1 hn;simp only[Bool.not_true,isB_f,Bool.not_false,gd_true,vb_some];refine Ret.idx hl (by omega) (by omega) fun b2 o2 cs2 y hy s2 hle2 hE2=>?_;have ly:xLd (.pointer (some ⟨b2,o2,none⟩)) h=some (.bool y):=xLdE (st.sees s2) hle2 hE2 (j:=0) rfl;simp only[ly,vb_some,xNot_b,xPick_f];cases y with
   |false=>
    simp only[Bool.not_false,bite_t];exact no (by rw[hn,getDb_of hy];rfl)
   |true=>
    simp only[Bool.not_true,bite_f,F70_0,vN_eq,xAdd_i,vb_some,show(((1:Nat):Int))=1 from rfl,wrap1 (i:=i) (by omega)];refine ih' (i+1) m h (by omega) (by omega) ?_ st;unfold emptyB at he ⊢;rw[List.take_add_one,hx,List.all_append,he,Bool.true_and]
    show((isName g.names x&&out.getD x.toNat false)&&true)=true
    rw[hn,getDb_of hy];rfl
theorem c70[OkH h]{g:Gr}{rv fv cv kv nv qv:Value}{out:List Bool}{q:List Int}(hn:9223372036854775808<=n)(hl:RdS boolE 1 h nv out)(hq:RdI h qv q)(hlen:out.length=g.names.toNat)(h8:q.length<9223372036854775808):
  pcall (F70 n cl (.agg ⟨gcs g rv fv cv kv⟩) nv qv h.fzn)=some (.bool (emptyB g out q)):=by
 refine pcall_of ?_ rfl;unfold F70;refine Ret.sbox (St.start _) (fun h1 b1 st=>?_);refine Ret.vb (RdS.len hq) ?_;exact loop70 (h0:=h.fzn) (hl.mono (fun _ _ s=>s) fun _ _ _ e=>e) (hq.mono fun _ _ s=>s) hlen h8 q.length 0 n h1 (by omega) (by omega) rfl st
end
structure SndN(g:Gr)(out:List Bool):Prop where
 len:out.length=g.names.toNat
 sound: ∀s,isName g.names s=true->marked out s->Nul g s
def nulDone(g:Gr)(out:List Bool)(r:Rl):Prop:=emptyB g out r.right=true->marked out r.left
theorem emptyB_iff{g:Gr}{out:List Bool}{l:List Int}:emptyB g out l=true↔ ∀s∈l,isName g.names s=true/\marked out s:=by
 unfold emptyB marked;rw[List.all_eq_true];constructor
 ·intro h s hs;have:=h s hs;rw[Bool.and_eq_true]at this;refine⟨this.1,?_⟩;have h2:=this.2;cases hq:out[s.toNat]? with
  |none=>simp[List.getD,hq]at h2
  |some b=>simp[List.getD,hq]at h2;rw[h2]
 ·intro h s hs;obtain⟨h1,h2⟩:=h s hs;rw[h1,getDb_of h2];rfl
theorem SndN.mark{g:Gr}{out:List Bool}(q:SndN g out){r:Rl}(hr:r∈g.rules)(hl:isName g.names r.left=true)(he:emptyB g out r.right=true):SndN g (out.set r.left.toNat true):=by
 refine⟨by simp[q.len],fun x hx hm=>?_⟩;have he:=emptyB_iff.1 he
 by_cases e:r.left.toNat=x.toNat
 ·have:x=r.left:=by have:=(isName_iff.1 hx).1;have:=(isName_iff.1 hl).1;omega
  rw[this];exact .mk hr (fun s hs=>(he s hs).1) fun s hs=>q.sound s (he s hs).1 (he s hs).2
 ·unfold marked at hm;rw[List.getElem?_set_ne e]at hm;exact q.sound x hx hm
theorem SndN.all{g:Gr}{out:List Bool}(hd: ∀r∈g.rules,nulDone g out r){s:Int}(h:Nul g s):marked out s:=by
 induction h with
 | @mk r hr h1 h2 ih=>exact hd r hr (emptyB_iff.2 fun s hs=>⟨h1 s hs,ih s hs⟩)
structure MidN(g:Gr)(out0:List Bool)(i:Nat)(out:List Bool)(more:Bool):Prop where
 snd:SndN g out
 same:more=false-> ∀(k:Nat) r,k<i->g.rules[k]?=some r->nulDone g out r
 less:more=true->out0.count true<out.count true
 le:out0.count true<=out.count true
section
variable {n:Nat}{cl ih:CL}{h:PH}
theorem loop65i{h0:PH}{g:Gr}{v rv fv cv kv:Value}{b1 b2 c2:Nat}{r3:Kt}{out0:List Bool}{Q:Value->PH->Prop}(hn:9223372036854775808<=n)(r:RdG h0 v g rv fv cv kv)(hg:GIn g)(hgood:goodB g=true)
  (hk: ∀h out more,St h0 h [(b2,bv out),(b1,gcs g rv fv cv kv)]->SndN g out->(more=false-> ∀r∈g.rules,nulDone g out r)->(more=true->out0.count true<out.count true)->Ret (r3 [.pointer (some ⟨b1,0,none⟩),.slice (some ⟨b2,0,none⟩) g.names.toNat c2,.bool more] h) Q):
  ∀(k i m:Nat)(out:List Bool)(more:Bool)(h:PH),i+k=g.rules.length->k<m->St h0 h [(b2,bv out),(b1,gcs g rv fv cv kv)]->MidN g out0 i out more->
  Ret (lp m (F65_5 n cl r3) [.pointer (some ⟨b1,0,none⟩),.slice (some ⟨b2,0,none⟩) g.names.toNat c2,.bool more,rv,.int .i64 g.rules.length,.int .i64 i] h) Q:=by
 intro k
 induction k with
 |zero=>
  intro i m out more h hi hm st md;obtain⟨m,rfl⟩: ∃q,m=q+1:=⟨m-1,by omega⟩;rw[lp_succ];have c: ¬((i:Int)<g.rules.length):=by omega
  simp only[F65_5,ucons_cons,F65_4,xLt_i,c,decide_false,vb_some,bite_f];refine hk h out more st md.snd (fun hm r hr=>?_) md.less;obtain⟨k,hk⟩:=List.getElem?_of_mem hr;have:=(List.getElem?_eq_some_iff.1 hk).1;exact md.same hm k r (by omega) hk
 |succ k ih'=>
  intro i m out more h hi hm st md;obtain⟨m,rfl⟩: ∃q,m=q+1:=⟨m-1,by omega⟩;rw[lp_succ];have hrl:=hg.rlen;have c:((i:Int)<g.rules.length):=by omega
  simp only[F65_5,ucons_cons,F65_4,xLt_i,c,decide_true,vb_some,bite_t,jn_eq,F65_3];refine Ret.idx r.rules (by omega) c fun b o cs x hx s hle hE=>?_;have hx:g.rules[i]?=some x:=by simpa using hx
  have hxm:=List.mem_of_getElem? hx;obtain⟨qv,hE,hq⟩:=hE;refine Ret.vb (xLdA_at (st.sees s) hE hle) ?_;refine Ret.salloc st z29 fun h2 b3 st2=>?_;refine Ret.sstA st2 (i:=0) rfl rfl (Nat.le_refl _) (by simp only[oneCells,List.all_cons,List.all_nil,hq.one];rfl) fun h3 st3=>?_;have st3:St h0 h3 [(b3,[.int .i64 x.left,qv,.int .i64 x.dyn]),(b2,bv out),(b1,gcs g rv fv cv kv)]:=st3;have:=st3.ok;obtain⟨gl,gs,g8⟩:=goodB_rule hgood hxm;have hnm:=isName_iff.1 gl;have hlen:=md.snd.len;have q0:xLd (.pointer (some ⟨b3,0,none⟩)) h3=some (.int .i64 x.left):=xLd_at (st3.row (.head _)) rfl;have q1:xLd (.pointer (some ⟨b3,1,none⟩)) h3=some qv:=xLd_at (st3.row (.head _)) rfl;have lw:xLdA 7 (.pointer (some ⟨b1,0,none⟩)) h3=some (.agg ⟨gcs g rv fv cv kv⟩):=xLdA_at (st3.row (.tail _ (.tail _ (.head _)))) rfl (Nat.le_refl _);have hs2:Sees h3 b2 (bv out):=st3.row (.tail _ (.head _));have ia:xIdxS 1 (.slice (some ⟨b2,0,none⟩) g.names.toNat c2) (.int .i64 x.left)=some (.pointer (some ⟨b2,x.left.toNat,none⟩)):=idx0 hnm.1 (by omega);have ho:out[x.left.toNat]?=some (out[x.left.toNat]'(by omega)):=List.getElem?_eq_getElem (by omega);generalize out[x.left.toNat]'(by omega)=old at ho;have lo:xLd (.pointer (some ⟨b2,x.left.toNat,none⟩)) h3=some (.bool old):=xLd_at hs2 (by rw[List.getElem?_map,ho];rfl);have hnv:RdS boolE 1 h3 (.slice (some ⟨b2,0,none⟩) g.names.toNat c2) out:=by
   have:=RdS.ofRow (e:=Value.bool) (c:=c2) hs2;rw[hlen]at this;exact this
  have e48:=c70 (n:=n) (cl:=cl) (g:=g) (rv:=rv) (fv:=fv) (cv:=cv) (kv:=kv) hn hnv (hq.mono fun _ _ s=>st3.sees s) hlen (by omega);have next: ∀(out:List Bool)(more:Bool)(h:PH),St h0 h [(b2,bv out),(b1,gcs g rv fv cv kv)]->MidN g out0 i out more->(more=false->nulDone g out x)->
    Ret (F65_2 n cl (lp m (F65_5 n cl r3)) [.pointer (some ⟨b1,0,none⟩),.slice (some ⟨b2,0,none⟩) g.names.toNat c2,.bool more,rv,.int .i64 g.rules.length,.int .i64 i] h) Q:=by
   intro out more h st md hd;simp only[F65_2,ucons_cons,F65_0,vN_eq,xAdd_i,vb_some,show(((1:Nat):Int))=1 from rfl,wrap1 (i:=i) (by omega)];refine ih' (i+1) m out more h (by omega) (by omega) st ⟨md.snd,fun hm k q hk hq=>?_,md.less,md.le⟩
   by_cases e:k=i
   ·subst e;rw[hx]at hq;cases hq;exact hd hm
   ·exact md.same hm k q (by omega) hq
  have st3d:=st3.drop (rows':=[(b2,bv out),(b1,gcs g rv fv cv kv)]) (.cons _ (List.Sublist.refl _));simp only[xFld_p,Nat.zero_add,vb_some,q0,ia,lo,xNot_b];cases old with
  |true=>
   simp only[Bool.not_true,isB_t,gd_false,vb_some,xPick_f,ff_eq,bite_f];exact next out more h3 st3d md (fun _ _=>ho)
  |false=>
   simp only[Bool.not_false,isB_t,gd_true,vb_some,lw,q1,e48,xPick_t];cases he:emptyB g out x.right with
   |false=>
    simp only[bite_f];exact next out more h3 st3d md (fun _ h=>by rw[he]at h;cases h)
   |true=>
    simp only[bite_t,F65_1,xFld_p,Nat.zero_add,vb_some,q0,ia,tt_eq];refine Ret.sst1 st3 (i:=1) (o:=x.left.toNat) rfl (by simp;omega) rfl fun h4 st4=>?_;have hset:bv (out.set x.left.toNat true)=(bv out).set x.left.toNat (.bool true):=List.map_set;have st4:St h0 h4 [(b3,[.int .i64 x.left,qv,.int .i64 x.dyn]),(b2,bv (out.set x.left.toNat true)),(b1,gcs g rv fv cv kv)]:=by rw[hset];exact st4
    have hcnt:=count_set out x.left.toNat ho;exact next _ true h4 (st4.drop (.cons _ (List.Sublist.refl _))) ⟨md.snd.mark hxm gl he,fun h=>(by cases h),fun _=>by have:=md.le;omega,by have:=md.le;omega⟩ (fun h=>by cases h)
end
section
variable {n:Nat}{cl ih:CL}{h:PH}
theorem loop65{h0:PH}{g:Gr}{v rv fv cv kv:Value}{b1 b2 c2:Nat}{Q:Value->PH->Prop}(hn:9223372036854775808<=n)(r:RdG h0 v g rv fv cv kv)(hg:GIn g)(hgood:goodB g=true)
  (hk: ∀h out,St h0 h [(b2,bv out),(b1,gcs g rv fv cv kv)]->SndN g out->(∀r∈g.rules,nulDone g out r)->Q (.slice (some ⟨b2,0,none⟩) g.names.toNat c2) h):
  ∀(k m:Nat)(out:List Bool)(h:PH),g.names.toNat<=out.count true+k->k+1<m->St h0 h [(b2,bv out),(b1,gcs g rv fv cv kv)]->SndN g out->
  Ret (lp m (F65_7 n cl) [.pointer (some ⟨b1,0,none⟩),.slice (some ⟨b2,0,none⟩) g.names.toNat c2,.bool true] h) Q:=by
 intro k
 induction k with
 |zero=>
  intro m out h hc hm st sn;obtain⟨m,rfl⟩: ∃q,m=q+2:=⟨m-2,by omega⟩;rw[lp_succ];have hrl:=hg.rlen;have l3:xLd (.pointer (some ⟨b1,3,none⟩)) h=some rv:=xLd_at (st.row (.tail _ (.head _))) rfl;simp only[F65_7,ucons_cons,bite_t,F65_6,xFld_p,Nat.zero_add,vb_some,l3,RdS.len r.rules,ff_eq,vN_eq];refine loop65i (h0:=h0) (out0:=out) hn r hg hgood (fun h' out' more' st' sn' hd hl=>?_) g.rules.length 0 n out false h (by omega) (by omega) st ⟨sn,fun _ k r hk=>by omega,fun h=>(by cases h),Nat.le_refl _⟩;have hb:out'.count true<=g.names.toNat:=by rw[<-sn'.len];exact List.count_le_length
  cases more' with
  |true=>have:=hl rfl;omega
  |false=>
   rw[lp_succ];simp only[F65_7,ucons_cons,bite_f];exact Ret.of (hk h' out' st' sn' (hd rfl))
 |succ k ih'=>
  intro m out h hc hm st sn;obtain⟨m,rfl⟩: ∃q,m=q+2:=⟨m-2,by omega⟩;rw[lp_succ];have hrl:=hg.rlen;have l3:xLd (.pointer (some ⟨b1,3,none⟩)) h=some rv:=xLd_at (st.row (.tail _ (.head _))) rfl;simp only[F65_7,ucons_cons,bite_t,F65_6,xFld_p,Nat.zero_add,vb_some,l3,RdS.len r.rules,ff_eq,vN_eq];refine loop65i (h0:=h0) (out0:=out) hn r hg hgood (fun h' out' more' st' sn' hd hl=>?_) g.rules.length 0 n out false h (by omega) (by omega) st ⟨sn,fun _ k r hk=>by omega,fun h=>(by cases h),Nat.le_refl _⟩;cases more' with
  |true=>exact ih' (m+1) out' h' (by have:=hl rfl;omega) (by omega) st' sn'
  |false=>
   rw[lp_succ];simp only[F65_7,ucons_cons,bite_f];exact Ret.of (hk h' out' st' sn' (hd rfl))
structure NulQ(g:Gr)(h h1:PH)(v:Value):Prop where
 bad:goodB g=false->v=nils
 good:goodB g=true-> ∃out b c,out.length=g.names.toNat/\(∀s,isName g.names s=true->(marked out s↔Nul g s))/\v= .slice (some ⟨b,0,none⟩) g.names.toNat c/\h.n<=b/\Mine h1 b (bv out)
theorem c65[OkH h]{g:Gr}{v rv fv cv kv:Value}(hn:9223372036854775808<=n)(r:RdG h v g rv fv cv kv)(hg:GIn g)(hgood:goodB g=true):
  Ret (F65 n cl v h.fzn) fun v h1=>Kp h.n h.fzn h1/\NulQ g h h1 v:=by
 unfold F65;rw[r.v];refine Ret.sbox (St.start _) (fun h1 b st=>?_);obtain⟨w1,w2,_⟩:=goodB_whole hgood;have l0:xLd (.pointer (some ⟨b,0,none⟩)) h1=some (.int .i64 g.names):=xLd_at (st.row (.head _)) rfl;simp only[xFld_p,Nat.zero_add,vb_some,l0];refine Ret.smk st zi47 (by omega) (by omega) (by omega) (by omega) fun h2 b2 st2=>?_;rw[zrows1]at st2;have st2':St h.fzn h2 [(b2,bv (List.replicate g.names.toNat false)),(b,gcs g rv fv cv kv)]:=by
  have e:bv (List.replicate g.names.toNat false)=List.replicate g.names.toNat (.bool false):=by rw[bv,List.map_replicate]
  rw[e];exact st2
 have sf: ∀b cs,Sees h b cs->Sees h.fzn b cs:=fun b cs s=>s;simp only[tt_eq];refine loop65 (h0:=h.fzn) hn (r.mono sf) hg hgood (fun h5 out st5 q5 hd=>⟨st5.kp,fun h=>(by rw[hgood]at h;cases h),fun _=>⟨out,b2,_,q5.len,fun s hs=>⟨q5.sound s hs,SndN.all hd⟩,rfl,st5.old _ (.head _),st5.mine _ (.head _)⟩⟩)
  g.names.toNat n _ h2 (by omega) (by omega) st2' ⟨by simp,fun s hs hm=>?_⟩
 unfold marked at hm;rw[List.getElem?_replicate]at hm
 split at hm<;>simp at hm
theorem c53[OkH h]{g:Gr}{v rv fv cv kv:Value}(hn:9223372036854775808<=n)(r:RdG h v g rv fv cv kv)(hg:GIn g):
  Ret (F53 n (CLy n ih) v h.fzn) fun v h1=>Kp h.n h.fzn h1/\NulQ g h h1 v:=by
 unfold F53;rw[r.v];refine Ret.sbox (St.start _) (fun h1 b st=>?_);have:=st.ok;have lw:xLdA 7 (.pointer (some ⟨b,0,none⟩)) h1=some (.agg ⟨gcs g rv fv cv kv⟩):=xLdA_at (st.row (.head _)) rfl (Nat.le_refl _);have sees: ∀b cs,Sees h b cs->Sees h1 b cs:=fun b cs s=>st.sees s;have e:=c51 (n:=n) (ih:=ih) (h:=h1) hn (r.mono sees) hg;rw[r.v]at e;simp only[lw,vb_some,e,xNot_b];cases hgood:goodB g with
 |false=>simp only[Bool.not_false,bite_t];exact Ret.of ⟨st.kp,fun _=>rfl,fun h=>by rw[hgood]at h;cases h⟩
 |true=>
  have e:=c65 (n:=n) (cl:=CLy n ih) (h:=h1) hn (r.mono sees) hg hgood;rw[r.v]at e;simp only[Bool.not_true,bite_f,F53_0,lw,vb_some];refine Ret.fcall e fun v3 h2 q kp hraw=>?_;obtain⟨out,b2,c,h3,h4,rfl,hb,hm⟩:=q.good hgood;have hz:=st.kp.ok.fz;have st2:=st.push kp (mine_back hm (hraw _) (by show h1.fz<=b2;omega)) hb;exact Ret.of ⟨st2.kp,fun h=>(by rw[hgood]at h;cases h),fun _=>⟨out,b2,c,h3,h4,rfl,st2.old _ (.head _),st2.mine _ (.head _)⟩⟩
end
def othB(g:Gr)(nul:List Bool)(i j:Nat)(x:Int):Bool:=decide (j=i)||(isName g.names x&&nul.getD x.toNat false)
def okTo(g:Gr)(nul:List Bool)(l:List Int)(i k:Nat):Bool:=(List.range k).all fun j=>othB g nul i j (l.getD j 0)
theorem okTo_succ{g:Gr}{nul:List Bool}{l:List Int}{i k:Nat}:okTo g nul l i (k+1)=(okTo g nul l i k&&othB g nul i k (l.getD k 0)):=by
 unfold okTo;rw[List.range_succ,List.all_append];simp
section
variable {n:Nat}{cl ih:CL}{h:PH}
theorem loop54i{h0:PH}{g:Gr}{rv fv cv kv:Value}{b1:Nat}{nv qv rp ov:Value}{k13:Kt}{nul:List Bool}{q:List Int}{i:Nat}{s:Int}{Q:Value->PH->Prop}{ex:List (Nat×List Value)}(hl:RdS boolE 1 h0 nv nul)(hq:RdI h0 qv q)(hlen:nul.length=g.names.toNat)(h8:q.length<9223372036854775807)
  (st:St h0 h ((b1,gcs g rv fv cv kv)::ex)) (hk:Ret (F54_3 n cl (.bool (isName g.names s&&okTo g nul q i q.length)) (.int .i64 s) ov k13 nv (.pointer (some ⟨b1,0,none⟩)) rp qv (.int .i64 q.length) (.int .i64 i) h) Q):
  ∀(k j m:Nat),j+k=q.length->k<m->
  Ret (lp m (F54_5 n cl k13) [nv,.pointer (some ⟨b1,0,none⟩),rp,ov,.int .i64 i,.int .i64 s,.bool (isName g.names s&&okTo g nul q i j),qv,.int .i64 q.length,.int .i64 i,qv,.int .i64 q.length,.int .i64 j] h) Q:=by
 have un1:isB false undef=false:=rfl;have un2:isB true undef=false:=rfl;intro k
 induction k with
 |zero=>
  intro j m hj hm;obtain⟨m,rfl⟩: ∃q,m=q+1:=⟨m-1,by omega⟩;rw[lp_succ];have c: ¬((j:Int)<q.length):=by omega
  have e:j=q.length:=by omega
  simp only[F54_5,ucons_cons,F54_4,xLt_i,c,decide_false,vb_some,bite_f];rw[e];exact hk
 |succ k ih'=>
  intro j m hj hm;obtain⟨m,rfl⟩: ∃q,m=q+1:=⟨m-1,by omega⟩;rw[lp_succ];have c:((j:Int)<q.length):=by omega
  have:=st.ok;have lw:xLdA 7 (.pointer (some ⟨b1,0,none⟩)) h=some (.agg ⟨gcs g rv fv cv kv⟩):=xLdA_at (st.row (.head _)) rfl (Nat.le_refl _);simp only[F54_5,ucons_cons,F54_4,xLt_i,c,decide_true,vb_some,bite_t,F54_1];refine Ret.idx hq (by omega) c fun b o cs x hx sx hle hE=>?_;have hx:q[j]?=some x:=by simpa using hx
  have lx:xLd (.pointer (some ⟨b,o,none⟩)) h=some (.int .i64 x):=xLdE (st.sees sx) hle hE (j:=0) rfl;have next: ∀ok,ok=(isName g.names s&&okTo g nul q i (j+1))->Ret (vb (xAri Int.add (.int .i64 j) (vN 1)) fun v90=>lp m (F54_5 n cl k13) [nv,.pointer (some ⟨b1,0,none⟩),rp,ov,.int .i64 i,.int .i64 s,.bool ok,qv,.int .i64 q.length,.int .i64 i,qv,.int .i64 q.length,v90] h) Q:=by
   intro ok hok;subst hok;simp only[vN_eq,xAdd_i,vb_some,show(((1:Nat):Int))=1 from rfl,wrap1 (i:=j) (by omega)];exact ih' (j+1) m (by omega) (by omega)
  have hd:q.getD j 0=x:=getD_of hx;rw[okTo_succ,hd, <-Bool.and_assoc]at next;generalize(isName g.names s&&okTo g nul q i j)=ok at next ⊢;simp only[lx,vb_some];cases ok with
  |false=>
   simp only[isB_t,gd_false,vb_some,un1,un2,xPick_f,ff_eq];exact next false rfl
  |true=>
   simp only[isB_t,gd_true,vb_some,xEq_i]
   by_cases e:j=i
   ·have e':decide ((j:Int)=(i:Int))=true:=decide_eq_true (by omega);simp only[e',isB_t,isB_f,Bool.not_true,gd_false,gd_true,vb_some,un1,un2,xPick_t,tt_eq];exact next true (by simp[othB,e])
   ·have e':decide ((j:Int)=(i:Int))=false:=decide_eq_false (by omega);simp only[e',isB_t,isB_f,Bool.not_false,gd_true,vb_some,lw,c44,xPick_f];cases hn:isName g.names x with
    |false=>
     simp only[isB_t,gd_false,vb_some,xPick_f,xPick_t,ff_eq];exact next false (by simp[othB,e,hn])
    |true=>
     have hnm:=isName_iff.1 hn;simp only[isB_t,gd_true,vb_some];refine Ret.idx hl (by omega) (by omega) fun b2 o2 cs2 y hy s2 hle2 hE2=>?_;have ly:xLd (.pointer (some ⟨b2,o2,none⟩)) h=some (.bool y):=xLdE (st.sees s2) hle2 hE2 (j:=0) rfl;simp only[ly,vb_some,xPick_t,xPick_f];exact next y (by unfold othB;rw[decide_eq_false e,hn,getDb_of hy];rfl)
end
def GrI(h0 h:PH)(v:Value)(l:List Int)(rows:List (Nat×List Value)):Prop:=
 (l=[]/\v=nils/\St h0 h rows)\/ ∃b,v= .slice (some ⟨b,0,none⟩) l.length openCap/\St h0 h ((b,iv l)::rows)/\Op h b 1
section
variable {Q:Value->PH->Prop}{h0 h:PH}{rows:List (Nat×List Value)}{K2:Value->PH->R}{v:Value}{l:List Int}
theorem GrI.st(g:GrI h0 h v l rows):St h0 h rows:=by
 rcases g with⟨_,_,s⟩|⟨b,_,s,_⟩
 ·exact s
 ·exact s.drop (.cons _ (List.Sublist.refl _))
theorem Ret.grapp(g:GrI h0 h v l rows){s:Int}(hl:l.length<=1000)(hk: ∀h' v',GrI h0 h' v' (l++[s]) rows->Ret (K2 v' h') Q):
  Ret (Go.Am.hb (xBS 1 (bsRow Tryd.prog 24 1 [(0,.int .i64 s)]) h) fun v91 h=>Go.Am.hb (xApp (appInfo Tryd.prog #[24,24]) v v91 h) K2) Q:=by
 rcases g with⟨rfl,rfl,st⟩|⟨b,rfl,st,op⟩
 ·refine Ret.sbs st bs24 fun h2 bs st2 ok2=>?_;rw[ai24];refine Ret.sapp0 st2 (n:=1) (ptail_at (st2.mine _ (.head _)) rfl) (by omega) rfl (by omega) fun h3 b' st3 op3 _=>?_;exact hk h3 _ (.inr ⟨b',rfl,st3.drop (.cons_cons _ (.cons _ (List.Sublist.refl _))),op3⟩)
 ·refine Ret.sbs st bs24 fun h2 bs st2 ok2=>?_;rw[ai24];have hsz:(2*(l.length+1)+512)*8<=281474976710656:=by
   have h1:2*(l.length+1)+512<=10000:=by omega
   exact Nat.le_trans (Nat.mul_le_mul_right 8 h1) (by decide)
  refine Ret.sapp st2 (i:=1) (o:=0) (n:=1) rfl ⟨by simp,.inr ⟨ok2 _ _ (st.row (.head _)).lt op,Nat.le_refl _,by decide,by rw[Nat.sub_self,Nat.zero_mul]⟩⟩ (by omega) (ptail_at (st2.mine _ (.head _)) rfl) (by omega) rfl hsz fun h3 b' st3 op3 _=>?_;have e:iv (l++[s])=(iv l).drop 0++[.int .i64 s]:=by simp
  refine hk h3 _ (.inr ⟨b',by simp,?_,op3⟩);rw[e];exact st3.drop (.cons_cons _ (.cons _ (List.Sublist.refl _)))
end
def aloneTo(g:Gr)(nul:List Bool)(q:List Int):Nat->List Int
 |0=>[]
 |i+1=>aloneTo g nul q i++if(isName g.names (q.getD i 0)&&okTo g nul q i q.length)=true then [q.getD i 0]else []
theorem aloneTo_len(g:Gr)(nul:List Bool)(q:List Int): ∀i,(aloneTo g nul q i).length<=i
 |0=>Nat.le_refl _
 |i+1=>by
  have:=aloneTo_len g nul q i;unfold aloneTo;rw[List.length_append]
  split<;>simp<;>omega
section
variable {n:Nat}{cl ih:CL}{h:PH}
theorem loop54{h0:PH}{g:Gr}{rv fv cv kv:Value}{b1 b2:Nat}{nv qv lv dv:Value}{nul:List Bool}{q:List Int}{Q:Value->PH->Prop}(hn:9223372036854775808<=n)(hl:RdS boolE 1 h0 nv nul)(hq:RdI h0 qv q)(hlen:nul.length=g.names.toNat)(h8:q.length<=8)
  (hk: ∀h v,GrI h0 h v (aloneTo g nul q q.length) [(b1,gcs g rv fv cv kv),(b2,[lv,qv,dv])]->Q v h):
  ∀(k i m:Nat)(v:Value)(h:PH),i+k=q.length->k<m->GrI h0 h v (aloneTo g nul q i) [(b1,gcs g rv fv cv kv),(b2,[lv,qv,dv])]->
  Ret (lp m (F54_9 n cl) [nv,.pointer (some ⟨b1,0,none⟩),.pointer (some ⟨b2,0,none⟩),v,qv,.int .i64 q.length,.int .i64 i] h) Q:=by
 intro k
 induction k with
 |zero=>
  intro i m v h hi hm g';obtain⟨m,rfl⟩: ∃q,m=q+1:=⟨m-1,by omega⟩;rw[lp_succ];have c: ¬((i:Int)<q.length):=by omega
  have e:i=q.length:=by omega
  simp only[F54_9,ucons_cons,F54_8,xLt_i,c,decide_false,vb_some,bite_f];rw[e]at g';exact Ret.of (hk h v g')
 |succ k ih'=>
  intro i m v h hi hm g';obtain⟨m,rfl⟩: ∃q,m=q+1:=⟨m-1,by omega⟩;rw[lp_succ];have c:((i:Int)<q.length):=by omega
  have st:=g'.st;have:=st.ok;have lw:xLdA 7 (.pointer (some ⟨b1,0,none⟩)) h=some (.agg ⟨gcs g rv fv cv kv⟩):=xLdA_at (st.row (.head _)) rfl (Nat.le_refl _);have q1:xLd (.pointer (some ⟨b2,1,none⟩)) h=some qv:=xLd_at (st.row (.tail _ (.head _))) rfl;simp only[F54_9,ucons_cons,F54_8,xLt_i,c,decide_true,vb_some,bite_t,jn_eq,F54_7];refine Ret.idx hq (by omega) c fun b o cs x hx sx hle hE=>?_;have hx:q[i]?=some x:=by simpa using hx
  have hd:q.getD i 0=x:=getD_of hx;have lx:xLd (.pointer (some ⟨b,o,none⟩)) h=some (.int .i64 x):=xLdE (st.sees sx) hle hE (j:=0) rfl;simp only[lx,vb_some,lw,c44,xFld_p,Nat.zero_add,q1,RdS.len hq,vN_eq];have next: ∀(h:PH)(v:Value),GrI h0 h v (aloneTo g nul q (i+1)) [(b1,gcs g rv fv cv kv),(b2,[lv,qv,dv])]->Ret (F54_6 n cl (lp m (F54_9 n cl)) [nv,.pointer (some ⟨b1,0,none⟩),.pointer (some ⟨b2,0,none⟩),v,qv,.int .i64 q.length,.int .i64 i] h) Q:=by
   intro h v g';simp only[F54_6,ucons_cons,F54_0,vN_eq,xAdd_i,vb_some,show(((1:Nat):Int))=1 from rfl,wrap1 (i:=i) (by omega)];exact ih' (i+1) m v h (by omega) (by omega) g'
  have ea:aloneTo g nul q (i+1)=aloneTo g nul q i++if(isName g.names x&&okTo g nul q i q.length)=true then [x]else []:=by
   rw[<-hd];rfl
  have hal:=aloneTo_len g nul q i;have e0:isName g.names x=(isName g.names x&&okTo g nul q i 0):=by simp[okTo]
  rw[e0];refine loop54i (h0:=h0) (ex:=[(b2,[lv,qv,dv])]) hl hq hlen (by omega) st ?_ q.length 0 n (by omega) (by omega);unfold F54_3;cases hb:isName g.names x&&okTo g nul q i q.length with
  |false=>
   rw[hb]at ea;simp only[bite_f];refine next h v ?_;rw[ea];simpa using g'
  |true=>
   rw[hb]at ea;simp only[bite_t,F54_2];refine Ret.grapp g' (by omega) fun h' v' g2=>?_;refine next h' v' ?_;rw[ea];simpa using g2
end
abbrev aloneL(g:Gr)(nul:List Bool)(q:List Int):List Int:=aloneTo g nul q q.length
section
variable {n:Nat}{cl ih:CL}{h:PH}
theorem c54[OkH h]{g:Gr}{rv fv cv kv nv qv:Value}{a d:Int}{nul:List Bool}{q:List Int}(hn:9223372036854775808<=n)(hl:RdS boolE 1 h nv nul)(hq:RdI h qv q)(hlen:nul.length=g.names.toNat)(h8:q.length<=8):
  Ret (F54 n cl (.agg ⟨gcs g rv fv cv kv⟩) nv (.agg ⟨[.int .i64 a,qv,.int .i64 d]⟩) h.fzn) fun v h1=>Kp h.n h.fzn h1/\((aloneL g nul q=[]/\v=nils)\/ ∃b,v= .slice (some ⟨b,0,none⟩) (aloneL g nul q).length openCap/\h.n<=b/\Mine h1 b (iv (aloneL g nul q))):=by
 unfold F54;refine Ret.sbox (St.start _) (fun h1 b1 st=>?_);refine Ret.sbox st (fun h2 b2 st=>?_);have st:St h.fzn h2 [(b1,gcs g rv fv cv kv),(b2,[.int .i64 a,qv,.int .i64 d])]:=st.sw;have q1:xLd (.pointer (some ⟨b2,1,none⟩)) h2=some qv:=xLd_at (st.row (.tail _ (.head _))) rfl;simp only[xFld_p,Nat.zero_add,vb_some,q1,RdS.len hq,vN_eq];refine loop54 (h0:=h.fzn) hn (hl.mono (fun _ _ s=>s) fun _ _ _ e=>e) (hq.mono fun _ _ s=>s) hlen h8 (fun h3 v g3=>?_) q.length 0 n nils h2 (by omega) (by omega) (.inl ⟨rfl,rfl,st⟩);rcases g3 with⟨e1,e2,s⟩|⟨b,e1,s,_⟩
 ·exact⟨s.kp,.inl ⟨e1,e2⟩⟩
 ·exact⟨s.kp,.inr ⟨b,e1,s.old _ (.head _),s.mine _ (.head _)⟩⟩
end
end Go.Am
namespace Go.Am
def Via(E:Nat->Nat->Prop):Nat->Nat->Nat->Prop
 |0,i,j=>E i j
 |k+1,i,j=>Via E k i j\/(Via E k i k/\Via E k k j)
inductive Way(E:Nat->Nat->Prop):Nat->Nat->Prop
 |one {i j:Nat}:E i j->Way E i j
 |on {i m j:Nat}:Way E i m->E m j->Way E i j
theorem Way.trans{E:Nat->Nat->Prop}{i m j:Nat}(a:Way E i m)(b:Way E m j):Way E i j:=by
 induction b with
 |one h=>exact .on a h
 |on _ h ih=>exact .on ih h
theorem Via.mono{E:Nat->Nat->Prop}{i j:Nat}(h:E i j): ∀k,Via E k i j
 |0=>h
 |k+1=>.inl (Via.mono h k)
theorem Via.join{E:Nat->Nat->Prop}: ∀{k i m j:Nat},m<k->Via E k i m->Via E k m j->Via E k i j
 |0,_,_,_,h,_,_=>absurd h (by omega)
 |k+1,i,m,j,h,a,b=>by
  by_cases e:m=k
  ·subst e;have a':Via E m i m:=a.elim id fun h=>h.1;have b':Via E m m j:=b.elim id fun h=>h.2;exact .inr ⟨a',b'⟩
  ·have hm:m<k:=by omega
   rcases a with a|⟨a1,a2⟩<;>rcases b with b|⟨b1,b2⟩
   ·exact .inl (Via.join hm a b)
   ·exact .inr ⟨Via.join hm a b1,b2⟩
   ·exact .inr ⟨a1,Via.join hm a2 b⟩
   ·exact .inr ⟨a1,b2⟩
theorem Way.via{E:Nat->Nat->Prop}{N:Nat}(hE: ∀i j,E i j->i<N/\j<N){i j:Nat}(h:Way E i j):Via E N i j:=by
 induction h with
 |one h=>exact Via.mono h N
 |on _ h ih=>exact Via.join (hE _ _ h).1 ih (Via.mono h N)
def updW(t:Nat->Nat->Bool)(k i j:Nat):Nat->Nat->Bool:=fun a b=>if a=i/\b=j then t i j||(t i k&&t k j)else t a b
structure MidW(E:Nat->Nat->Prop)(N k i j:Nat)(t:Nat->Nat->Bool):Prop where
 sound: ∀a b,t a b=true->Way E a b
 full: ∀a b,a<N->b<N->Via E k a b->t a b=true
 done: ∀a b,a<N->b<N->(a<i\/(a=i/\b<j))->Via E (k+1) a b->t a b=true
theorem MidW.step{E:Nat->Nat->Prop}{N k i j:Nat}{t:Nat->Nat->Bool}(m:MidW E N k i j t)(hk:k<N)(hi:i<N)(hj:j<N):MidW E N k i (j+1) (updW t k i j):=by
 have mono: ∀a b,t a b=true->updW t k i j a b=true:=by
  intro a b h;unfold updW
  split
  ·rename_i e;rw[e.1,e.2]at h;rw[h];rfl
  ·exact h
 refine⟨fun a b h=>?_,fun a b ha hb h=>mono a b (m.full a b ha hb h),fun a b ha hb hd h=>?_⟩
 ·unfold updW at h
  split at h
  ·rename_i e;rw[e.1,e.2];rw[Bool.or_eq_true,Bool.and_eq_true]at h;exact h.elim (m.sound i j) fun h=>(m.sound _ _ h.1).trans (m.sound _ _ h.2)
  ·exact m.sound a b h
 ·by_cases e:a=i/\b=j
  ·unfold updW;rw[if_pos e,Bool.or_eq_true,Bool.and_eq_true];rw[e.1,e.2]at h;exact h.elim (fun h=>.inl (m.full i j hi hj h)) fun h=>.inr ⟨m.full _ _ hi hk h.1,m.full _ _ hk hj h.2⟩
  ·refine mono a b (m.done a b ha hb ?_ h);rcases hd with h|⟨h1,h2⟩
   ·exact .inl h
   ·exact .inr ⟨h1,by have:b≠j:=fun q=>e ⟨h1,q⟩;omega⟩
theorem MidW.row{E:Nat->Nat->Prop}{N k i:Nat}{t:Nat->Nat->Bool}(m:MidW E N k i N t):MidW E N k (i+1) 0 t:=
 ⟨m.sound,m.full,fun a b ha hb hd h=>m.done a b ha hb (by omega) h⟩
theorem MidW.next{E:Nat->Nat->Prop}{N k:Nat}{t:Nat->Nat->Bool}(m:MidW E N k N 0 t):MidW E N (k+1) 0 0 t:=
 ⟨m.sound,fun a b ha hb h=>m.done a b ha hb (.inl ha) h,fun a b ha hb hd h=>by omega⟩
theorem MidW.end{E:Nat->Nat->Prop}{N:Nat}{t:Nat->Nat->Bool}(m:MidW E N N 0 0 t)(hE: ∀i j,E i j->i<N/\j<N){a b:Nat}(ha:a<N)(hb:b<N):t a b=true↔Way E a b:=
 ⟨m.sound a b,fun h=>m.full a b ha hb (h.via hE)⟩
end Go.Am
namespace Go.Am
open Go Go.RowKit Go.Proofs
abbrev sl(N:Nat)(p:Nat×Nat):Value:=.slice (some ⟨p.1,0,none⟩) N p.2
def zipR(ps:List (Nat×Nat))(t:List (List Bool)):List (Nat×List Value):=List.zipWith (fun p r=>(p.1,bv r)) ps t
theorem zipR_get{ps:List (Nat×Nat)}{t:List (List Bool)}{a:Nat}{p:Nat×Nat}{r:List Bool}(h1:ps[a]?=some p)(h2:t[a]?=some r):(zipR ps t)[a]?=some (p.1,bv r):=by
 unfold zipR;rw[List.getElem?_zipWith,h1,h2]
theorem zipR_set: ∀{ps:List (Nat×Nat)}{t:List (List Bool)}{a:Nat}{p:Nat×Nat}{r:List Bool},ps[a]?=some p->(zipR ps t).set a (p.1,bv r)=zipR ps (t.set a r)
 | [],_,a,p,r,h=>by simp at h
 |q::ps,[],a,p,r,h=>rfl
 |q::ps,x::t,0,p,r,h=>by simp at h;subst h;rfl
 |q::ps,x::t,a+1,p,r,h=>by
  have h:ps[a]?=some p:=by simpa using h
  show(_::(zipR ps t).set a (p.1,bv r))=_::zipR ps (t.set a r)
  rw[zipR_set h]
theorem zipR_snoc: ∀{ps:List (Nat×Nat)}{t:List (List Bool)}{p:Nat×Nat}{r:List Bool},ps.length=t.length->zipR (ps++[p]) (t++[r])=zipR ps t++[(p.1,bv r)]
 | [],[],p,r,_=>rfl
 |q::ps,x::t,p,r,h=>by
  show _::zipR (ps++[p]) (t++[r])=_
  rw[zipR_snoc (by simpa using h)];rfl
 | [],x::t,p,r,h=>by simp at h
 |q::ps,[],p,r,h=>by simp at h
def ent(t:List (List Bool))(i j:Nat):Bool:=(t.getD i []).getD j false
def tset(t:List (List Bool))(i j:Nat)(x:Bool):List (List Bool):=t.set i ((t.getD i []).set j x)
structure Sq(N:Nat)(t:List (List Bool)):Prop where
 len:t.length=N
 row: ∀r∈t,r.length=N
theorem Sq.get{N:Nat}{t:List (List Bool)}(q:Sq N t){i:Nat}(hi:i<N): ∃r,t[i]?=some r/\r.length=N/\t.getD i []=r:=by
 have h:=List.getElem?_eq_getElem (l:=t) (i:=i) (by rw[q.len];exact hi);refine⟨_,h,q.row _ (List.getElem_mem _),?_⟩;simp[List.getD,h]
theorem Sq.set{N:Nat}{t:List (List Bool)}(q:Sq N t)(i j:Nat)(hi:i<N)(x:Bool):Sq N (tset t i j x):=by
 refine⟨by unfold tset;rw[List.length_set,q.len],fun r hr=>?_⟩;unfold tset at hr;rcases List.mem_or_eq_of_mem_set hr with h|rfl
 ·exact q.row r h
 ·obtain⟨r,_,h2,h3⟩:=q.get hi;rw[h3,List.length_set,h2]
theorem ent_set{N:Nat}{t:List (List Bool)}(q:Sq N t){i j:Nat}(hi:i<N)(hj:j<N)(x:Bool)(a b:Nat):ent (tset t i j x) a b=if a=i/\b=j then x else ent t a b:=by
 unfold ent tset;obtain⟨r,h1,h2,h3⟩:=q.get hi;rw[h3]
 by_cases ha:a=i
 ·subst ha;have e:(t.set a (r.set j x)).getD a []=r.set j x:=by
   have:=q.len;simp[List.getD,show a<t.length from by omega]
  rw[e,h3]
  by_cases hb:b=j
  ·subst hb;rw[if_pos ⟨rfl,rfl⟩];simp[List.getD,show b<r.length from by omega]
  ·rw[if_neg (fun c=>hb c.2)];simp[List.getD,List.getElem?_set_ne (Ne.symm hb)]
 ·rw[if_neg (fun c=>ha c.1)];have e:(t.set i (r.set j x)).getD a []=t.getD a []:=by simp[List.getD,List.getElem?_set_ne (Ne.symm ha)]
  rw[e]
structure Mt(h0 h:PH)(bo N:Nat)(ps:List (Nat×Nat))(t:List (List Bool))(rows:List (Nat×List Value)):Prop where
 st:St h0 h ((bo,ps.map (sl N))::(zipR ps t++rows))
 lp:ps.length=N
 sq:Sq N t
section
variable {Q:Value->PH->Prop}{h0 h:PH}{rows:List (Nat×List Value)}{K2:Value->PH->R}{bo N:Nat}{ps:List (Nat×Nat)}{t:List (List Bool)}
theorem Mt.at(m:Mt h0 h bo N ps t rows){i j:Nat}(hi:i<N)(hj:j<N): ∃p,ps[i]?=some p/\xLd (.pointer (some ⟨bo,i,none⟩)) h=some (sl N p)/\xLd (.pointer (some ⟨p.1,j,none⟩)) h=some (.bool (ent t i j)):=by
 have h1:=List.getElem?_eq_getElem (l:=ps) (i:=i) (by rw[m.lp];exact hi);refine⟨_,h1,xLd_at (m.st.row (.head _)) (by rw[List.getElem?_map,h1];rfl),?_⟩;obtain⟨r,h2,h3,h4⟩:=m.sq.get hi;have hz:=zipR_get h1 h2;refine xLd_at (m.st.row (.tail _ (List.mem_append_left _ (List.mem_of_getElem? hz)))) ?_;unfold ent;rw[List.getElem?_map,h4];simp[List.getD,List.getElem?_eq_getElem (l:=r) (i:=j) (by omega)]
theorem Ret.mst(m:Mt h0 h bo N ps t rows){i j:Nat}(hi:i<N)(hj:j<N){p:Nat×Nat}(hp:ps[i]?=some p){x:Bool}(hk: ∀h',Mt h0 h' bo N ps (tset t i j x) rows->Ret (K2 undef h') Q):
  Ret (Go.Am.hb (xSt1 (.pointer (some ⟨p.1,j,none⟩)) (.bool x) h) K2) Q:=by
 obtain⟨r,h2,h3,h4⟩:=m.sq.get hi;have hz:=zipR_get hp h2;have hlt:=(List.getElem?_eq_some_iff.1 hz).1;refine Ret.sst1 m.st (i:=i+1) (b:=p.1) (o:=j) (cs:=bv r) ?_ (by simp;omega) rfl fun h' st'=>hk h' ⟨?_,m.lp,m.sq.set i j hi x⟩
 ·rw[List.getElem?_cons_succ,List.getElem?_append_left hlt,hz]
 ·have e:(((bo,ps.map (sl N))::(zipR ps t++rows)).set (i+1) (p.1,(bv r).set j (.bool x)))=(bo,ps.map (sl N))::(zipR ps (tset t i j x)++rows):=by
   rw[List.set_cons_succ,List.set_append_left _ _ hlt];have e2:(bv r).set j (.bool x)=bv (r.set j x):=(List.map_set).symm;rw[e2,zipR_set hp];unfold tset;rw[h4]
  rw[<-e];exact st'
theorem Mt.perm(m:Mt h0 h bo N ps t rows){rows':List (Nat×List Value)}(hp:rows.Perm rows'):Mt h0 h bo N ps t rows':=
 ⟨m.st.perm (.cons _ (.append (List.Perm.refl _) hp)),m.lp,m.sq⟩
theorem Mt.drop(m:Mt h0 h bo N ps t rows){rows':List (Nat×List Value)}(hs:rows'.Sublist rows):Mt h0 h bo N ps t rows':=
 ⟨m.st.drop (.cons_cons _ (.append (List.Sublist.refl _) hs)),m.lp,m.sq⟩
theorem Mt.rest(m:Mt h0 h bo N ps t rows):St h0 h rows:=m.st.drop (.cons _ (List.sublist_append_right _ _))
theorem Mt.with(m:Mt h0 h bo N ps t rows){h':PH}{p:Nat×List Value}(st:St h0 h' (p::(bo,ps.map (sl N))::(zipR ps t++rows))):Mt h0 h' bo N ps t (p::rows):=by
 refine⟨st.perm ?_,m.lp,m.sq⟩;exact(List.Perm.swap _ _ _).trans (.cons _ List.perm_middle.symm)
theorem Mt.on(m:Mt h0 h bo N ps t rows){h':PH}(k:Kp h.n h h'):Mt h0 h' bo N ps t rows:=⟨m.st.on k,m.lp,m.sq⟩
end
def Ed(g:Gr)(i j:Nat):Prop:= ∃r∈g.rules,r.left=(i:Int)/\ ∃k:Nat,r.right[k]?=some (j:Int)/\isName g.names j=true/\ ∀(m:Nat) x,m≠k->r.right[m]?=some x->isName g.names x=true/\Nul g x
structure NulT(g:Gr)(nul:List Bool):Prop where
 len:nul.length=g.names.toNat
 tells: ∀s,isName g.names s=true->(marked nul s↔Nul g s)
theorem othB_iff{g:Gr}{nul:List Bool}(q:NulT g nul){i j:Nat}{x:Int}:othB g nul i j x=true↔(j≠i->isName g.names x=true/\Nul g x):=by
 unfold othB
 by_cases e:j=i
 ·simp[e]
 ·rw[decide_eq_false e,Bool.false_or,Bool.and_eq_true];constructor
  ·rintro⟨h1,h2⟩ _;refine⟨h1,(q.tells x h1).1 ?_⟩;unfold marked;cases hq:nul[x.toNat]? with
   |none=>simp[List.getD,hq]at h2
   |some b=>simp[List.getD,hq]at h2;rw[h2]
  ·intro h;obtain⟨h1,h2⟩:=h e;exact⟨h1,getDb_of ((q.tells x h1).2 h2)⟩
theorem okTo_iff{g:Gr}{nul:List Bool}(q:NulT g nul){l:List Int}{i:Nat}:okTo g nul l i l.length=true↔ ∀(m:Nat) x,m≠i->l[m]?=some x->isName g.names x=true/\Nul g x:=by
 unfold okTo;rw[List.all_eq_true];constructor
 ·intro h m x hm hx;have:=h m (List.mem_range.2 (List.getElem?_eq_some_iff.1 hx).1);rw[getD_of hx]at this;exact(othB_iff q).1 this hm
 ·intro h m hm;have hlt:=List.mem_range.1 hm;have hx:=List.getElem?_eq_getElem hlt;rw[getD_of hx];exact(othB_iff q).2 fun hmi=>h m _ hmi hx
theorem mem_aloneTo{g:Gr}{nul:List Bool}{l:List Int}{x:Int}: ∀{k:Nat},x∈aloneTo g nul l k↔ ∃i,i<k/\l.getD i 0=x/\isName g.names x=true/\okTo g nul l i l.length=true
 |0=>by simp[aloneTo]
 |k+1=>by
  unfold aloneTo;rw[List.mem_append,mem_aloneTo (k:=k)];constructor
  ·rintro(⟨i,h1,h2⟩|h)
   ·exact⟨i,by omega,h2⟩
   ·split at h
    ·rename_i hc;rw[Bool.and_eq_true]at hc;have h:x=l.getD k 0:=by simpa using h
     exact⟨k,by omega,h.symm,by rw[h];exact hc.1,hc.2⟩
    ·cases h
  ·rintro⟨i,h1,h2,h3,h4⟩
   by_cases e:i=k
   ·subst e
    right
    rw[if_pos (by rw[h2,h3,h4];rfl),h2];simp
   ·exact .inl ⟨i,by omega,h2,h3,h4⟩
theorem mem_alone{g:Gr}{nul:List Bool}(q:NulT g nul){l:List Int}{x:Int}:x∈aloneL g nul l↔ ∃k:Nat,l[k]?=some x/\isName g.names x=true/\ ∀(m:Nat) y,m≠k->l[m]?=some y->isName g.names y=true/\Nul g y:=by
 rw[mem_aloneTo];constructor
 ·rintro⟨i,h1,h2,h3,h4⟩;have hx:=List.getElem?_eq_getElem h1;rw[getD_of hx]at h2;exact⟨i,by rw[hx,h2],h3,(okTo_iff q).1 h4⟩
 ·rintro⟨i,h1,h2,h3⟩;exact⟨i,(List.getElem?_eq_some_iff.1 h1).1,getD_of h1,h2,(okTo_iff q).2 h3⟩
def EdTo(g:Gr)(n:Nat)(i j:Nat):Prop:= ∃(m:Nat) (r:Rl),m<n/\g.rules[m]?=some r/\r.left=(i:Int)/\ ∃k:Nat,r.right[k]?=some (j:Int)/\isName g.names j=true/\ ∀(m:Nat) x,m≠k->r.right[m]?=some x->isName g.names x=true/\Nul g x
theorem EdTo.all{g:Gr}{i j:Nat}:EdTo g g.rules.length i j↔Ed g i j:=by
 constructor
 ·rintro⟨m,r,_,h1,h2⟩;exact⟨r,List.mem_of_getElem? h1,h2⟩
 ·rintro⟨r,h1,h2⟩;obtain⟨m,hm⟩:=List.getElem?_of_mem h1;exact⟨m,r,(List.getElem?_eq_some_iff.1 hm).1,hm,h2⟩
theorem EdTo.succ{g:Gr}{nul:List Bool}(q:NulT g nul){n i j:Nat}{r:Rl}(hr:g.rules[n]?=some r):EdTo g (n+1) i j↔EdTo g n i j\/(r.left=(i:Int)/\(j:Int)∈aloneL g nul r.right):=by
 rw[mem_alone q];constructor
 ·rintro⟨m,r',h1,h2,h3,h4⟩
  by_cases e:m=n
  ·subst e;rw[hr]at h2;cases h2;exact .inr ⟨h3,h4⟩
  ·exact .inl ⟨m,r',by omega,h2,h3,h4⟩
 ·rintro(⟨m,r',h1,h2,h3,h4⟩|⟨h3,h4⟩)
  ·exact⟨m,r',by omega,h2,h3,h4⟩
  ·exact⟨n,r,by omega,hr,h3,h4⟩
theorem Ed.lt{g:Gr}(hgood:goodB g=true){i j:Nat}(h:Ed g i j):i<g.names.toNat/\j<g.names.toNat:=by
 obtain⟨r,h1,h2,k,h3,h4,_⟩:=h;have a:=isName_iff.1 (goodB_rule hgood h1).1;have b:=isName_iff.1 h4;rw[h2]at a;omega
structure CycLs(g:Gr)(l:List Bool):Prop where
 len:l.length=g.names.toNat
 tells: ∀i,i<g.names.toNat->(l[i]?=some true↔Way (Ed g) i i)
theorem zi71:zinfo Tryd.prog 71=some (1,24,[nils]):=by kernel_rfl
theorem Sq.zero(N:Nat):Sq N (List.replicate N (List.replicate N false)):=⟨by simp,fun r hr=>by rw[(List.mem_replicate.1 hr).2];simp⟩
theorem ent_zero(N a b:Nat):ent (List.replicate N (List.replicate N false)) a b=false:=by
 unfold ent
 by_cases ha:a<N
 ·simp[List.getD,List.getElem?_replicate,ha]
  split<;>rfl
 ·simp[List.getD,List.getElem?_replicate,ha]
section
variable {n:Nat}{cl ih:CL}{h:PH}
theorem loop39a{h0:PH}{g:Gr}{rv fv cv kv nv:Value}{b1 bo c0:Nat}{ex:List (Nat×List Value)}{Q:Value->PH->Prop}(h1:0<=g.names)(h40:g.names<=40)
  (hk: ∀h ps,Mt h0 h bo g.names.toNat ps (List.replicate g.names.toNat (List.replicate g.names.toNat false)) ((b1,gcs g rv fv cv kv)::ex)->Ret (F39_24 n cl (.pointer (some ⟨b1,0,none⟩)) nv (.slice (some ⟨bo,0,none⟩) g.names.toNat c0) h) Q):
  ∀(k i m:Nat)(ps:List (Nat×Nat))(h:PH),i+k=g.names.toNat->k<m->ps.length=i->St h0 h ((bo,ps.map (sl g.names.toNat)++List.replicate k nils)::(zipR ps (List.replicate i (List.replicate g.names.toNat false))++((b1,gcs g rv fv cv kv)::ex)))->
  Ret (lp m (F39_26 n cl) [.pointer (some ⟨b1,0,none⟩),nv,.slice (some ⟨bo,0,none⟩) g.names.toNat c0,.int .i64 g.names.toNat,.int .i64 i] h) Q:=by
 intro k
 induction k with
 |zero=>
  intro i m ps h hi hm hps st;obtain⟨m,rfl⟩: ∃q,m=q+1:=⟨m-1,by omega⟩;rw[lp_succ];have c: ¬((i:Int)<(g.names.toNat:Nat)):=by omega
  have e:i=g.names.toNat:=by omega
  subst e;simp only[F39_26,ucons_cons,F39_25,xLt_i,c,decide_false,vb_some,bite_f];refine hk h ps ⟨?_,hps,Sq.zero _⟩;simpa using st
 |succ k ih'=>
  intro i m ps h hi hm hps st;obtain⟨m,rfl⟩: ∃q,m=q+1:=⟨m-1,by omega⟩;rw[lp_succ];have c:((i:Int)<(g.names.toNat:Nat)):=by omega
  have:=st.ok;have l0:xLd (.pointer (some ⟨b1,0,none⟩)) h=some (.int .i64 g.names):=xLd_at (st.row (.tail _ (List.mem_append_right _ (.head _)))) rfl;simp only[F39_26,ucons_cons,F39_25,xLt_i,c,decide_true,vb_some,bite_t,F39_0,xFld_p,Nat.zero_add,l0];refine Ret.smk st zi47 (by omega) (by omega) (by omega) (by omega) fun h2 b2 st2=>?_;rw[zrows1]at st2;simp only[xIdxS_at (n:=g.names.toNat) (i:=(i:Int)) (by omega) c,vb_some,Nat.mul_one,Nat.zero_add,Int.toNat_natCast];refine Ret.sst1 st2 (i:=1) (b:=bo) (o:=i) rfl (by simp;omega) rfl fun h3 st3=>?_;simp only[vN_eq,xAdd_i,vb_some,show(((1:Nat):Int))=1 from rfl,wrap1 (i:=i) (by omega)];refine ih' (i+1) m (ps++[(b2,g.names.toNat)]) h3 (by omega) (by omega) (by simp[hps]) ?_;have e1:(ps.map (sl g.names.toNat)++List.replicate (k+1) nils).set i (.slice (some ⟨b2,0,none⟩) g.names.toNat g.names.toNat)=(ps++[(b2,g.names.toNat)]).map (sl g.names.toNat)++List.replicate k nils:=by
   rw[List.set_append_right _ _ (by simp[hps]),List.length_map,hps,Nat.sub_self,List.replicate_succ,List.set_cons_zero,List.map_append,List.append_assoc]
   rfl
  have e2:List.replicate (i+1) (List.replicate g.names.toNat false)=List.replicate i (List.replicate g.names.toNat false)++[List.replicate g.names.toNat false]:=by rw[List.replicate_succ']
  have e3:bv (List.replicate g.names.toNat false)=List.replicate g.names.toNat (.bool false):=by rw[bv,List.map_replicate]
  rw[e2,zipR_snoc (by simp[hps]), <-e1];simp only[List.set_cons_succ,List.set_cons_zero]at st3;refine st3.perm ?_;refine(List.Perm.swap _ _ _).trans (.cons _ ?_);rw[List.append_assoc,e3];exact List.perm_middle.symm
theorem loop39i{h0:PH}{gp nv rv' len' ii av:Value}{b3 bo c0 N:Nat}{lv:Int}{qv dv:Value}{al:List Int}{ps:List (Nat×Nat)}{t0:List (List Bool)}{r11:Kt}{ex:List (Nat×List Value)}{Q:Value->PH->Prop}
  (hlv:0<=lv/\lv<N) (hal: ∀x∈al,0<=x/\x<N) (h8:al.length<9223372036854775807)
  (hrd: ∀h t,Mt h0 h bo N ps t ((b3,[.int .i64 lv,qv,dv])::ex)->RdI h av al)
  (hk: ∀h t,Mt h0 h bo N ps t ((b3,[.int .i64 lv,qv,dv])::ex)->(∀a b,ent t a b=true↔ent t0 a b=true\/((a:Int)=lv/\(b:Int)∈al))->Ret (F39_2 n cl ii r11 gp nv (.slice (some ⟨bo,0,none⟩) N c0) rv' len' h) Q):
  ∀(k j m:Nat)(t:List (List Bool))(h:PH),j+k=al.length->k<m->Mt h0 h bo N ps t ((b3,[.int .i64 lv,qv,dv])::ex)->(∀a b,ent t a b=true↔ent t0 a b=true\/((a:Int)=lv/\(b:Int)∈al.take j))->
  Ret (lp m (F39_4 n cl r11) [gp,nv,.slice (some ⟨bo,0,none⟩) N c0,.pointer (some ⟨b3,0,none⟩),rv',len',ii,av,.int .i64 al.length,.int .i64 j] h) Q:=by
 intro k
 induction k with
 |zero=>
  intro j m t h hj hm mt ht;obtain⟨m,rfl⟩: ∃q,m=q+1:=⟨m-1,by omega⟩;rw[lp_succ];have c: ¬((j:Int)<al.length):=by omega
  simp only[F39_4,ucons_cons,F39_3,xLt_i,c,decide_false,vb_some,bite_f];rw[List.take_of_length_le (by omega)]at ht;exact hk h t mt ht
 |succ k ih'=>
  intro j m t h hj hm mt ht;obtain⟨m,rfl⟩: ∃q,m=q+1:=⟨m-1,by omega⟩;rw[lp_succ];have c:((j:Int)<al.length):=by omega
  have:=mt.st.ok;simp only[F39_4,ucons_cons,F39_3,xLt_i,c,decide_true,vb_some,bite_t,F39_1];refine Ret.idx (hrd h t mt) (by omega) c fun b o cs x hx sx hle hE=>?_;have hx:al[j]?=some x:=by simpa using hx
  have lx:xLd (.pointer (some ⟨b,o,none⟩)) h=some (.int .i64 x):=xLdE sx hle hE (j:=0) rfl;have ll:xLd (.pointer (some ⟨b3,0,none⟩)) h=some (.int .i64 lv):=xLd_at (mt.rest.row (.head _)) rfl;have hxn:=hal x (List.mem_of_getElem? hx);obtain⟨p,hp,l1,l2⟩:=mt.at (i:=lv.toNat) (j:=x.toNat) (by omega) (by omega);simp only[lx,vb_some,xFld_p,Nat.zero_add,ll,idx0 (N:=N) hlv.1 hlv.2,l1,idx0 (N:=N) hxn.1 hxn.2,tt_eq];refine Ret.mst mt (by omega) (by omega) hp fun h2 mt2=>?_;simp only[vN_eq,xAdd_i,vb_some,show(((1:Nat):Int))=1 from rfl,wrap1 (i:=j) (by omega)];refine ih' (j+1) m _ h2 (by omega) (by omega) mt2 fun a b=>?_;rw[ent_set mt.sq (by omega) (by omega),List.take_add_one,hx];have ht:=ht a b
  by_cases e:a=lv.toNat/\b=x.toNat
  ·rw[if_pos e];simp
   right;exact⟨by omega,.inr (by omega)⟩
  ·rw[if_neg e,ht];simp only[List.mem_append,Option.toList_some,List.mem_singleton];constructor
   ·rintro(h|⟨h,h'⟩)
    ·exact .inl h
    ·exact .inr ⟨h,.inl h'⟩
   ·rintro(h|⟨h,h'|h'⟩)
    ·exact .inl h
    ·exact .inr ⟨h,h'⟩
    ·exact absurd ⟨by omega,by omega⟩ e
theorem loop39r{h0:PH}{g:Gr}{rv fv cv kv nv:Value}{b1 bo c0:Nat}{nul:List Bool}{ps:List (Nat×Nat)}{ex:List (Nat×List Value)}{v:Value}{Q:Value->PH->Prop}(hn:9223372036854775808<=n)(r:RdG h0 v g rv fv cv kv)(hg:GIn g)(hgood:goodB g=true)(hnul:NulT g nul)
  (hrn: ∀h t,Mt h0 h bo g.names.toNat ps t ((b1,gcs g rv fv cv kv)::ex)->RdS boolE 1 h nv nul)
  (hk: ∀h t,Mt h0 h bo g.names.toNat ps t ((b1,gcs g rv fv cv kv)::ex)->(∀a b,ent t a b=true↔Ed g a b)->Ret (F39_21 n cl (.slice (some ⟨bo,0,none⟩) g.names.toNat c0) (.pointer (some ⟨b1,0,none⟩)) h) Q):
  ∀(k i m:Nat)(t:List (List Bool))(h:PH),i+k=g.rules.length->k<m->Mt h0 h bo g.names.toNat ps t ((b1,gcs g rv fv cv kv)::ex)->(∀a b,ent t a b=true↔EdTo g i a b)->
  Ret (lp m (F39_23 n cl) [.pointer (some ⟨b1,0,none⟩),nv,.slice (some ⟨bo,0,none⟩) g.names.toNat c0,rv,.int .i64 g.rules.length,.int .i64 i] h) Q:=by
 intro k
 induction k with
 |zero=>
  intro i m t h hi hm mt ht;obtain⟨m,rfl⟩: ∃q,m=q+1:=⟨m-1,by omega⟩;rw[lp_succ];have c: ¬((i:Int)<g.rules.length):=by omega
  have e:i=g.rules.length:=by omega
  subst e;simp only[F39_23,ucons_cons,F39_22,xLt_i,c,decide_false,vb_some,bite_f];exact hk h t mt fun a b=>(ht a b).trans EdTo.all
 |succ k ih'=>
  intro i m t h hi hm mt ht;obtain⟨m,rfl⟩: ∃q,m=q+1:=⟨m-1,by omega⟩;rw[lp_succ];have hrl:=hg.rlen;have c:((i:Int)<g.rules.length):=by omega
  have st:=mt.rest;simp only[F39_23,ucons_cons,F39_22,xLt_i,c,decide_true,vb_some,bite_t,F39_5];refine Ret.idx r.rules (by omega) c fun b o cs x hx s hle hE=>?_;have hx:g.rules[i]?=some x:=by simpa using hx
  have hxm:=List.mem_of_getElem? hx;obtain⟨gl,gs,g8⟩:=goodB_rule hgood hxm;have hnm:=isName_iff.1 gl;obtain⟨qv,hE,hq⟩:=hE;refine Ret.vb (xLdA_at (st.sees s) hE hle) ?_;refine Ret.salloc mt.st z29 fun h2 b3 st2=>?_;refine Ret.sstA st2 (i:=0) rfl rfl (Nat.le_refl _) (by simp only[oneCells,List.all_cons,List.all_nil,hq.one];rfl) fun h3 st3=>?_;have mt3:Mt h0 h3 bo g.names.toNat ps t ((b3,[.int .i64 x.left,qv,.int .i64 x.dyn])::(b1,gcs g rv fv cv kv)::ex):=mt.with st3
  have st3:=mt3.rest;have:=st3.ok;have mt3':Mt h0 h3 bo g.names.toNat ps t ((b1,gcs g rv fv cv kv)::ex):=mt3.drop (.cons _ (List.Sublist.refl _));have lw:xLdA 7 (.pointer (some ⟨b1,0,none⟩)) h3=some (.agg ⟨gcs g rv fv cv kv⟩):=xLdA_at (st3.row (.tail _ (.head _))) rfl (Nat.le_refl _);have lr:xLdA 3 (.pointer (some ⟨b3,0,none⟩)) h3=some (.agg ⟨[.int .i64 x.left,qv,.int .i64 x.dyn]⟩):=xLdA_at (st3.row (.head _)) rfl (Nat.le_refl _);simp only[lw,lr,vb_some];refine Ret.fcall (c54 (h:=h3) (rv:=rv) (fv:=fv) (cv:=cv) (kv:=kv) hn (hrn _ _ mt3') (hq.mono fun _ _ s=>st3.sees s) hnul.len g8) fun v4 h4 q4 kp4 hraw4=>?_;have mt4:=mt3.on kp4;have hal:(aloneL g nul x.right).length<=x.right.length:=aloneTo_len g nul x.right x.right.length;have halN: ∀y∈aloneL g nul x.right,0<=y/\y<(g.names.toNat:Nat):=by
   intro y hy;obtain⟨_,_,h2,_⟩:=(mem_alone hnul).1 hy;have:=isName_iff.1 h2;omega
  have fin: ∀(h5:PH)(t5:List (List Bool)),Mt h0 h5 bo g.names.toNat ps t5 ((b1,gcs g rv fv cv kv)::ex)->(∀a b,ent t5 a b=true↔ent t a b=true\/((a:Int)=x.left/\(b:Int)∈aloneL g nul x.right))->
    Ret (F39_2 n cl (.int .i64 i) (lp m (F39_23 n cl)) (.pointer (some ⟨b1,0,none⟩)) nv (.slice (some ⟨bo,0,none⟩) g.names.toNat c0) rv (.int .i64 g.rules.length) h5) Q:=by
   intro h5 t5 mt5 ht5;simp only[F39_2,vN_eq,xAdd_i,vb_some,show(((1:Nat):Int))=1 from rfl,wrap1 (i:=i) (by omega)];refine ih' (i+1) m t5 h5 (by omega) (by omega) mt5 fun a b=>?_;rw[ht5 a b,ht a b,EdTo.succ hnul hx];exact or_congr Iff.rfl (and_congr eq_comm Iff.rfl)
  have hN:g.names<=40/\1<=g.names:=⟨(goodB_whole hgood).2.1,(goodB_whole hgood).1⟩;rcases q4 with⟨e1,rfl⟩|⟨b4,rfl,hb4,hm4⟩
  ·have e0:xLenS nils=some (.int .i64 ((aloneL g nul x.right).length:Nat)):=by rw[e1];exact xLenS_s
   simp only[e0,vb_some,vN_eq,show(((0:Nat):Int))=0 from rfl];refine loop39i (h0:=h0) (al:=aloneL g nul x.right) (t0:=t) (ex:=(b1,gcs g rv fv cv kv)::ex) (N:=g.names.toNat) (by omega) halN (by omega) (fun h t mt=>.inl ⟨e1,_,_,rfl⟩) (fun h5 t5 mt5 ht5=>fin h5 t5 (mt5.drop (.cons _ (List.Sublist.refl _))) ht5)
    (aloneL g nul x.right).length 0 n t _ (by omega) (by omega) mt4 (fun a b=>by simp)
  ·simp only[xLenS_s,vb_some,vN_eq,show(((0:Nat):Int))=0 from rfl];have hz:=mt3.st.kp.ok.fz;have mt4':Mt h0 (h3.back h4) bo g.names.toNat ps t ((b4,iv (aloneL g nul x.right))::(b3,[.int .i64 x.left,qv,.int .i64 x.dyn])::(b1,gcs g rv fv cv kv)::ex):=mt3.with (mt3.st.push kp4 (mine_back hm4 (hraw4 _) (by show h3.fz<=b4;omega)) hb4)
   have mt4':=mt4'.perm (.swap _ _ _);refine loop39i (h0:=h0) (al:=aloneL g nul x.right) (t0:=t) (ex:=(b4,iv (aloneL g nul x.right))::(b1,gcs g rv fv cv kv)::ex) (N:=g.names.toNat) (by omega) halN (by omega) (fun h t mt=>RdS.ofRow (mt.rest.row (.tail _ (.head _)))) (fun h5 t5 mt5 ht5=>fin h5 t5 (mt5.drop (.cons _ (.cons _ (List.Sublist.refl _)))) ht5)
    (aloneL g nul x.right).length 0 n t _ (by omega) (by omega) mt4' (fun a b=>by simp)
end
theorem updW_eq{N:Nat}{t:List (List Bool)}(q:Sq N t){k i j:Nat}(hi:i<N)(hj:j<N):ent (tset t i j (ent t i j||(ent t i k&&ent t k j)))=updW (ent t) k i j:=by
 funext a b
 rw[ent_set q hi hj]
 rfl
section
variable {n:Nat}{cl ih:CL}{h:PH}
theorem loop39j{h0:PH}{E:Nat->Nat->Prop}{gp:Value}{bo c0 N k i:Nat}{ps:List (Nat×Nat)}{ex:List (Nat×List Value)}{r23:Kt}{Q:Value->PH->Prop}(hN:N<=40)(hkN:k<N)(hiN:i<N)
  (hk: ∀h t,Mt h0 h bo N ps t ex->MidW E N k i N (ent t)->Ret (F39_7 n cl (.int .i64 i) r23 gp (.slice (some ⟨bo,0,none⟩) N c0) (.int .i64 k) (.int .i64 N) (.int .i64 k) (.int .i64 N) h) Q):
  ∀(q j m:Nat)(t:List (List Bool))(h:PH),j+q=N->q<m->Mt h0 h bo N ps t ex->MidW E N k i j (ent t)->
  Ret (lp m (F39_9 n cl r23) [gp,.slice (some ⟨bo,0,none⟩) N c0,.int .i64 k,.int .i64 i,.int .i64 N,.int .i64 k,.int .i64 N,.int .i64 i,.int .i64 N,.int .i64 j] h) Q:=by
 have un1:isB false undef=false:=rfl;have un2:isB true undef=false:=rfl;intro q
 induction q with
 |zero=>
  intro j m t h hj hm mt md;obtain⟨m,rfl⟩: ∃q,m=q+1:=⟨m-1,by omega⟩;rw[lp_succ];have c: ¬((j:Int)<(N:Nat)):=by omega
  have e:j=N:=by omega
  subst e;simp only[F39_9,ucons_cons,F39_8,xLt_i,c,decide_false,vb_some,bite_f];exact hk h t mt md
 |succ q ih'=>
  intro j m t h hj hm mt md;obtain⟨m,rfl⟩: ∃q,m=q+1:=⟨m-1,by omega⟩;rw[lp_succ];have c:((j:Int)<(N:Nat)):=by omega
  have hjN:j<N:=by omega
  have:=mt.st.ok;obtain⟨p,hp,l1,l2⟩:=mt.at hiN hjN;obtain⟨p',hp',_,l4⟩:=mt.at hiN hkN;rw[hp]at hp';cases hp';obtain⟨p3,hp3,l5,l6⟩:=mt.at hkN hjN;have ix: ∀(b c i:Nat),i<N->xIdxS 1 (.slice (some ⟨b,0,none⟩) N c) (.int .i64 i)=some (.pointer (some ⟨b,i,none⟩)):=fun b c i hi=>by
   rw[idx0 (N:=N) (s:=(i:Int)) (by omega) (by omega)];simp
  simp only[F39_9,ucons_cons,F39_8,xLt_i,c,decide_true,vb_some,bite_t,F39_6,ix bo c0 i hiN,ix bo c0 k hkN,l1,ix p.1 p.2 j hjN,ix p.1 p.2 k hkN,l2];have nx: ∀x,x=(ent t i j||(ent t i k&&ent t k j))->Ret (hb (xSt1 (.pointer (some ⟨p.1,j,none⟩)) (.bool x) h) fun _ h=>vb (xAri Int.add (.int .i64 j) (vN 1)) fun v158=>lp m (F39_9 n cl r23) [gp,.slice (some ⟨bo,0,none⟩) N c0,.int .i64 k,.int .i64 i,.int .i64 N,.int .i64 k,.int .i64 N,.int .i64 i,.int .i64 N,v158] h) Q:=by
   intro x hx;subst hx;refine Ret.mst mt hiN hjN hp fun h2 mt2=>?_;simp only[vN_eq,xAdd_i,vb_some,show(((1:Nat):Int))=1 from rfl,wrap1 (i:=j) (by omega)];refine ih' (j+1) m _ h2 (by omega) (by omega) mt2 ?_;rw[updW_eq mt.sq hiN hjN];exact md.step hkN hiN hjN
  cases hij:ent t i j with
  |true=>
   simp only[isB_f,Bool.not_true,gd_false,vb_some,un1,un2,tt_eq,xPick_t];exact nx true (by rw[hij];rfl)
  |false=>
   simp only[isB_f,Bool.not_false,gd_true,vb_some,ix bo c0 i hiN,l1,ix p.1 p.2 k hkN,l4];cases hik:ent t i k with
   |false=>
    simp only[isB_t,gd_false,vb_some,xPick_f,ff_eq,ix p.1 p.2 j hjN];exact nx false (by rw[hij,hik];rfl)
   |true=>
    simp only[isB_t,gd_true,vb_some,ix bo c0 k hkN,l5,ix p3.1 p3.2 j hjN,l6,xPick_t,xPick_f,ix p.1 p.2 j hjN];exact nx (ent t k j) (by rw[hij,hik];rfl)
theorem loop39m{h0:PH}{E:Nat->Nat->Prop}{gp:Value}{bo c0 N k:Nat}{ps:List (Nat×Nat)}{ex:List (Nat×List Value)}{r20:Kt}{Q:Value->PH->Prop}(hn:9223372036854775808<=n)(hN:N<=40)(hkN:k<N)
  (hk: ∀h t,Mt h0 h bo N ps t ex->MidW E N k N 0 (ent t)->Ret (F39_11 n cl (.int .i64 k) r20 gp (.slice (some ⟨bo,0,none⟩) N c0) (.int .i64 N) h) Q):
  ∀(q i m:Nat)(t:List (List Bool))(h:PH),i+q=N->q<m->Mt h0 h bo N ps t ex->MidW E N k i 0 (ent t)->
  Ret (lp m (F39_13 n cl r20) [gp,.slice (some ⟨bo,0,none⟩) N c0,.int .i64 k,.int .i64 N,.int .i64 k,.int .i64 N,.int .i64 i] h) Q:=by
 intro q
 induction q with
 |zero=>
  intro i m t h hj hm mt md;obtain⟨m,rfl⟩: ∃q,m=q+1:=⟨m-1,by omega⟩;rw[lp_succ];have c: ¬((i:Int)<(N:Nat)):=by omega
  have e:i=N:=by omega
  subst e;simp only[F39_13,ucons_cons,F39_12,xLt_i,c,decide_false,vb_some,bite_f];exact hk h t mt md
 |succ q ih'=>
  intro i m t h hj hm mt md;obtain⟨m,rfl⟩: ∃q,m=q+1:=⟨m-1,by omega⟩;rw[lp_succ];have c:((i:Int)<(N:Nat)):=by omega
  simp only[F39_13,ucons_cons,F39_12,xLt_i,c,decide_true,vb_some,bite_t,F39_10,xLenS_s,vN_eq,show(((0:Nat):Int))=((0:Nat):Int)from rfl];refine loop39j (h0:=h0) (E:=E) hN hkN (i:=i) (by omega) (fun h2 t2 mt2 md2=>?_) N 0 n t h (by omega) (by omega) mt md;simp only[F39_7,vN_eq,xAdd_i,vb_some,show(((1:Nat):Int))=1 from rfl,wrap1 (i:=i) (by omega)];exact ih' (i+1) m t2 h2 (by omega) (by omega) mt2 md2.row
theorem loop39k{h0:PH}{E:Nat->Nat->Prop}{gp:Value}{bo c0 N:Nat}{ps:List (Nat×Nat)}{ex:List (Nat×List Value)}{Q:Value->PH->Prop}(hn:9223372036854775808<=n)(hN:N<=40)
  (hk: ∀h t,Mt h0 h bo N ps t ex->MidW E N N 0 0 (ent t)->Ret (F39_18 n cl gp (.slice (some ⟨bo,0,none⟩) N c0) h) Q):
  ∀(q k m:Nat)(t:List (List Bool))(h:PH),k+q=N->q<m->Mt h0 h bo N ps t ex->MidW E N k 0 0 (ent t)->
  Ret (lp m (F39_20 n cl) [gp,.slice (some ⟨bo,0,none⟩) N c0,.int .i64 N,.int .i64 k] h) Q:=by
 intro q
 induction q with
 |zero=>
  intro i m t h hj hm mt md;obtain⟨m,rfl⟩: ∃q,m=q+1:=⟨m-1,by omega⟩;rw[lp_succ];have c: ¬((i:Int)<(N:Nat)):=by omega
  have e:i=N:=by omega
  subst e;simp only[F39_20,ucons_cons,F39_19,xLt_i,c,decide_false,vb_some,bite_f];exact hk h t mt md
 |succ q ih'=>
  intro i m t h hj hm mt md;obtain⟨m,rfl⟩: ∃q,m=q+1:=⟨m-1,by omega⟩;rw[lp_succ];have c:((i:Int)<(N:Nat)):=by omega
  simp only[F39_20,ucons_cons,F39_19,xLt_i,c,decide_true,vb_some,bite_t,F39_14,xLenS_s,vN_eq];refine loop39m (h0:=h0) (E:=E) hn hN (k:=i) (by omega) (fun h2 t2 mt2 md2=>?_) N 0 n t h (by omega) (by omega) mt md;simp only[F39_11,vN_eq,xAdd_i,vb_some,show(((1:Nat):Int))=1 from rfl,wrap1 (i:=i) (by omega)];exact ih' (i+1) m t2 h2 (by omega) (by omega) mt2 md2.next
theorem loop39o{h0:PH}{bo b2 c0 c2 N:Nat}{ps:List (Nat×Nat)}{t:List (List Bool)}{ex:List (Nat×List Value)}{Q:Value->PH->Prop}(hN:N<=40)
  (hk: ∀h l,Mt h0 h bo N ps t ((b2,bv l)::ex)->l.length=N->(∀i,i<N->l[i]?=some (ent t i i))->Q (.slice (some ⟨b2,0,none⟩) N c2) h):
  ∀(q i m:Nat)(l:List Bool)(h:PH),i+q=N->q<m->Mt h0 h bo N ps t ((b2,bv l)::ex)->l.length=N->(∀j,j<i->l[j]?=some (ent t j j))->
  Ret (lp m (F39_17 n cl) [.slice (some ⟨bo,0,none⟩) N c0,.slice (some ⟨b2,0,none⟩) N c2,.int .i64 N,.int .i64 i] h) Q:=by
 intro q
 induction q with
 |zero=>
  intro i m l h hj hm mt hl hd;obtain⟨m,rfl⟩: ∃q,m=q+1:=⟨m-1,by omega⟩;rw[lp_succ];have c: ¬((i:Int)<(N:Nat)):=by omega
  have e:i=N:=by omega
  subst e;simp only[F39_17,ucons_cons,F39_16,xLt_i,c,decide_false,vb_some,bite_f];exact Ret.of (hk h l mt hl hd)
 |succ q ih'=>
  intro i m l h hj hm mt hl hd;obtain⟨m,rfl⟩: ∃q,m=q+1:=⟨m-1,by omega⟩;rw[lp_succ];have c:((i:Int)<(N:Nat)):=by omega
  have hiN:i<N:=by omega
  obtain⟨p,hp,l1,l2⟩:=mt.at hiN hiN;have ix: ∀(b c i:Nat),i<N->xIdxS 1 (.slice (some ⟨b,0,none⟩) N c) (.int .i64 i)=some (.pointer (some ⟨b,i,none⟩)):=fun b c i hi=>by
   rw[idx0 (N:=N) (s:=(i:Int)) (by omega) (by omega)];simp
  simp only[F39_17,ucons_cons,F39_16,xLt_i,c,decide_true,vb_some,bite_t,F39_15,ix bo c0 i hiN,l1,ix p.1 p.2 i hiN,l2,ix b2 c2 i hiN];have st:St h0 h ((b2,bv l)::(bo,ps.map (sl N))::(zipR ps t++ex)):=mt.st.perm ((List.Perm.cons _ List.perm_middle).trans (List.Perm.swap _ _ _));refine Ret.sst1 st (i:=0) (b:=b2) (o:=i) rfl (by simp;omega) rfl fun h2 st2=>?_;have e:(bv l).set i (.bool (ent t i i))=bv (l.set i (ent t i i)):=(List.map_set).symm;simp only[List.set_cons_zero,e]at st2;have mt2:Mt h0 h2 bo N ps t ((b2,bv (l.set i (ent t i i)))::ex):=⟨st2.perm ((List.Perm.swap _ _ _).trans (List.Perm.cons _ List.perm_middle.symm)),mt.lp,mt.sq⟩;simp only[vN_eq,xAdd_i,vb_some,show(((1:Nat):Int))=1 from rfl,wrap1 (i:=i) (by omega)];refine ih' (i+1) m _ h2 (by omega) (by omega) mt2 (by simp[hl]) fun j hj=>?_
  by_cases e:i=j
  ·subst e;rw[List.getElem?_set_self (by omega)]
  ·rw[List.getElem?_set_ne e];exact hd j (by omega)
structure CycQ(g:Gr)(h h1:PH)(v:Value):Prop where
 bad:goodB g=false->v=nils
 good:goodB g=true-> ∃out b c,CycLs g out/\v= .slice (some ⟨b,0,none⟩) g.names.toNat c/\h.n<=b/\Mine h1 b (bv out)
theorem c39[OkH h]{g:Gr}{v rv fv cv kv:Value}(hn:9223372036854775808<=n)(r:RdG h v g rv fv cv kv)(hg:GIn g):
  Ret (F39 n (CLy n ih) v h.fzn) fun v h1=>Kp h.n h.fzn h1/\CycQ g h h1 v:=by
 unfold F39;rw[r.v];refine Ret.sbox (St.start _) (fun h1 b st=>?_);have:=st.ok;have lw:xLdA 7 (.pointer (some ⟨b,0,none⟩)) h1=some (.agg ⟨gcs g rv fv cv kv⟩):=xLdA_at (st.row (.head _)) rfl (Nat.le_refl _);have sees: ∀b cs,Sees h b cs->Sees h1 b cs:=fun b cs s=>st.sees s;have e:=c51 (n:=n) (ih:=ih) (h:=h1) hn (r.mono sees) hg;rw[r.v]at e;simp only[lw,vb_some,e,xNot_b];cases hgood:goodB g with
 |false=>simp only[Bool.not_false,bite_t];exact Ret.of ⟨st.kp,fun _=>rfl,fun h=>by rw[hgood]at h;cases h⟩
 |true=>
  obtain⟨w1,w2,_⟩:=goodB_whole hgood;have e:=c53 (n:=n) (ih:=ih) (h:=h1) hn (r.mono sees) hg;rw[r.v]at e;simp only[Bool.not_true,bite_f,F39_27,lw,vb_some];refine Ret.fcall e fun v3 h2 q kp hraw=>?_;obtain⟨nul,b2,c2,h3,h4,rfl,hb,hm⟩:=q.good hgood;have hnul:NulT g nul:=⟨h3,h4⟩;have hz:=st.kp.ok.fz;have st2:=st.push kp (mine_back hm (hraw _) (by show h1.fz<=b2;omega)) hb;have l0:xLd (.pointer (some ⟨b,0,none⟩)) (h1.back h2)=some (.int .i64 g.names):=xLd_at (st2.row (.tail _ (.head _))) rfl;simp only[xFld_p,Nat.zero_add,vb_some,l0];refine Ret.smk st2 zi71 (by omega) (by omega) (by omega) (by omega) fun h3 bo st3=>?_;rw[zrows1]at st3;have st3:St h.fzn h3 ((bo,List.replicate g.names.toNat nils)::(b,gcs g rv fv cv kv)::(b2,bv nul)::[]):=st3.perm (.cons _ (.swap _ _ _));simp only[xLenS_s,vb_some,vN_eq];have hrn: ∀h' t ps,Mt h.fzn h' bo g.names.toNat ps t ((b,gcs g rv fv cv kv)::[(b2,bv nul)])->RdS boolE 1 h' (.slice (some ⟨b2,0,none⟩) g.names.toNat c2) nul:=by
   intro h' t ps mt;have:=RdS.ofRow (e:=Value.bool) (c:=c2) (mt.rest.row (.tail _ (.head _)));rw[hnul.len]at this;exact this
  refine loop39a (h0:=h.fzn) (ex:=[(b2,bv nul)]) (by omega) (by omega) (fun h4 ps mt4=>?_) g.names.toNat 0 n [] h3 (by omega) (by omega) rfl (by simpa[zipR]using st3);have st4:=mt4.rest;have l3:xLd (.pointer (some ⟨b,3,none⟩)) h4=some rv:=xLd_at (st4.row (.head _)) rfl;have hrl:=hg.rlen;simp only[F39_24,xFld_p,Nat.zero_add,vb_some,l3,RdS.len r.rules,vN_eq];have sf: ∀b cs,Sees h b cs->Sees h.fzn b cs:=fun b cs s=>s;refine loop39r (h0:=h.fzn) (ex:=[(b2,bv nul)]) hn (r.mono sf) hg hgood hnul (fun h' t mt=>hrn h' t _ mt) (fun h5 t5 mt5 ht5=>?_) g.rules.length 0 n _ h4 (by omega) (by omega) mt4 (fun a b=>?_)
  ·simp only[F39_21,xLenS_s,vb_some,vN_eq];refine loop39k (h0:=h.fzn) (E:=Ed g) hn (by omega) (fun h6 t6 mt6 md6=>?_) g.names.toNat 0 n t5 h5 (by omega) (by omega) mt5 ⟨fun a b h=>.one ((ht5 a b).1 h),fun a b _ _ h=>(ht5 a b).2 h,fun a b _ _ h=>by omega⟩;have l0:xLd (.pointer (some ⟨b,0,none⟩)) h6=some (.int .i64 g.names):=xLd_at (mt6.rest.row (.head _)) rfl;simp only[F39_18,xFld_p,Nat.zero_add,vb_some,l0];refine Ret.smk mt6.st zi47 (by omega) (by omega) (by omega) (by omega) fun h7 b7 st7=>?_;rw[zrows1]at st7;have e3:List.replicate g.names.toNat (.bool false)=bv (List.replicate g.names.toNat false):=by rw[bv,List.map_replicate]
   rw[e3]at st7;have mt7:=mt6.with st7
   simp only[xLenS_s,vb_some,vN_eq];refine loop39o (h0:=h.fzn) (by omega) (fun h8 l mt8 hl hd=>?_) g.names.toNat 0 n _ h7 (by omega) (by omega) mt7 (by simp) (fun j hj=>by omega);refine⟨mt8.st.kp,fun h=>(by rw[hgood]at h;cases h),fun _=>⟨l,b7,_,⟨hl,fun i hi=>?_⟩,rfl,mt8.rest.old _ (.head _),mt8.rest.mine _ (.head _)⟩⟩;rw[hd i hi];simp only[Option.some.injEq];exact md6.end (fun i j h=>Ed.lt hgood h) hi hi
  ·rw[ent_zero];constructor
   ·intro h;cases h
   ·rintro⟨m,r,hm,_⟩;omega
end
section
variable {n:Nat}{cl ih:CL}{h:PH}
end
def GrB(h0 h:PH)(v:Value)(l:List Bool)(rows:List (Nat×List Value)):Prop:=
 (l=[]/\v=nils/\St h0 h rows)\/ ∃b,v= .slice (some ⟨b,0,none⟩) l.length openCap/\St h0 h ((b,bv l)::rows)/\Op h b 1
section
variable {Q:Value->PH->Prop}{h0 h:PH}{rows:List (Nat×List Value)}{K2:Value->PH->R}{v:Value}{l:List Bool}
end
section
variable {n:Nat}{cl ih:CL}{h:PH}
end
section
variable {n:Nat}{cl ih:CL}{h:PH}
end
theorem pcall_ex{r:R}{P:Value->Prop}(hr:Ret r fun u _=>P u)(hp: ∀u,P u->plainV u=true): ∃u,pcall r=some u/\P u:=by
 obtain⟨u,h',rfl,h⟩:=hr;exact⟨u,pcall_some (p:=(u,h')) (hp u h),h⟩
def badB(p:Bool×Bool):Bool:=!p.1||!p.2
def chkL(a b c:List Bool):Int×Int:=
 if 0<=idxF badB (a.zip b)then(idxF badB (a.zip b),7)else if 0<=idxF (fun x=>x) c then(idxF (fun x=>x) c,8)else(-1,0)
inductive ChkQ(g:Gr):Int×Int->Prop
 |bad:goodB g=false->ChkQ g (formE g)
 |good {a c:List Bool} {p:List Int}:goodB g=true->ReachLs g a->ShortLs g p->CycLs g c->ChkQ g (chkL a (prodL p) c)
structure CycLs'(g:Gr)(l:List Bool):Prop where
 bad:goodB g=false->l=[]
 good:goodB g=true->CycLs g l
section
variable {n:Nat}{cl ih:CL}{h:PH}
theorem CycQ.rd{g:Gr}{h1 hb:PH}{v:Value}(q:CycQ g h h1 v)(hr: ∀b,hb.raw b=h1.raw b): ∃l,CycLs' g l/\RdS boolE 1 hb v l:=by
 cases hg:goodB g with
 |false=>exact⟨[],⟨fun _=>rfl,fun h=>by rw[hg]at h;cases h⟩,.inl ⟨rfl,_,_,q.bad hg⟩⟩
 |true=>
  obtain⟨out,b,c,h2,rfl,_,m⟩:=q.good hg;exact⟨out,⟨fun h=>(by rw[hg]at h;cases h),fun _=>h2⟩,by have:=RdS.ofRow (e:=Value.bool) (c:=c) (seesOf m (hr b));rw[h2.len]at this;exact this⟩
theorem loop22g{a b:List Bool}{gp va vb':Value}{Q:Value->PH->Prop}(ra:RdS boolE 1 h va a)(rb:RdS boolE 1 h vb' b)(hab:b.length=a.length)(h8:a.length<9223372036854775807)
  (hk:idxF badB (a.zip b)= -1->Ret (F22_6 n cl gp h) Q) (hf: ∀i:Nat,idxF badB (a.zip b)=i->Q (.tuple ⟨[.int .i64 i,.int .i64 7]⟩) h):
  ∀(k i m:Nat),i+k=a.length->k<m->(∀k p,k<i->(a.zip b)[k]?=some p->badB p=false)->
  Ret (lp m (F22_8 n cl) [gp,va,vb',.int .i64 a.length,.int .i64 i] h) Q:=by
 intro k;have u1:isB false undef=false:=rfl;have u2:isB true undef=false:=rfl
 induction k with
 |zero=>
  intro i m hi hm hno;obtain⟨m,rfl⟩: ∃q,m=q+1:=⟨m-1,by omega⟩;rw[lp_succ];have e:i=a.length:=by omega
  subst e;simp only[F22_8,ucons_cons,F22_7,xLt_i,Int.lt_irrefl,decide_false,vb_some,bite_f];exact hk (findIdx_none (by simp;omega) hno)
 |succ k ih'=>
  intro i m hi hm hno;obtain⟨m,rfl⟩: ∃q,m=q+1:=⟨m-1,by omega⟩;rw[lp_succ];have c:((i:Int)<a.length):=by omega
  simp only[F22_8,ucons_cons,F22_7,xLt_i,c,decide_true,vb_some,bite_t,F22_1];refine Ret.idx ra (by omega) c fun b1 o1 cs1 x hx s1 hle1 hE1=>?_;have hx:a[i]?=some x:=by simpa using hx
  have lx:xLd (.pointer (some ⟨b1,o1,none⟩)) h=some (.bool x):=xLdE s1 hle1 hE1 (j:=0) rfl;have hy:b[i]?=some (b[i]'(by omega)):=List.getElem?_eq_getElem (by omega);generalize b[i]'(by omega)=y at hy;have hz:(a.zip b)[i]?=some (x,y):=by rw[List.getElem?_zip_eq_some];exact⟨hx,hy⟩
  have no:badB (x,y)=false->Ret (F22_0 n cl (.int .i64 i) (lp m (F22_8 n cl)) gp va vb' (.int .i64 a.length) h) Q:=by
   intro hb;simp only[F22_0,vN_eq,xAdd_i,vb_some,show(((1:Nat):Int))=1 from rfl,wrap1 (i:=i) (by omega)];exact ih' (i+1) m (by omega) (by omega) (nextNo hno hz hb)
  have yes:badB (x,y)=true->Ret (some (Value.tuple ⟨[.int .i64 i,vN 7]⟩,h)) Q:=fun hb=>Ret.of (hf i (findIdx_some hz hb hno));simp only[lx,vb_some,xNot_b];cases x with
  |false=>
   simp only[Bool.not_false,isB_f,Bool.not_true,gd_false,vb_some,u1,u2,xPick_t,tt_eq,bite_t];exact yes rfl
  |true=>
   simp only[Bool.not_true,isB_f,Bool.not_false,gd_true,vb_some];refine Ret.idx rb (by omega) (by omega) fun b2 o2 cs2 z hz2 s2 hle2 hE2=>?_;have hz2:b[i]?=some z:=by simpa using hz2
   rw[hy]at hz2;cases hz2;have ly:xLd (.pointer (some ⟨b2,o2,none⟩)) h=some (.bool y):=xLdE s2 hle2 hE2 (j:=0) rfl;simp only[ly,vb_some,xNot_b,xPick_f];cases y with
   |false=>simp only[Bool.not_false,bite_t];exact yes rfl
   |true=>simp only[Bool.not_true,bite_f];exact no rfl
theorem loop22c{c:List Bool}{vc:Value}{Q:Value->PH->Prop}(rc:RdS boolE 1 h vc c)(h8:c.length<9223372036854775807)
  (hk:idxF (fun x=>x) c= -1->Q (.tuple ⟨[.int .i64 (-1),.int .i64 0]⟩) h) (hf: ∀i:Nat,idxF (fun x=>x) c=i->Q (.tuple ⟨[.int .i64 i,.int .i64 8]⟩) h):
  ∀(k i m:Nat),i+k=c.length->k<m->(∀k p,k<i->c[k]?=some p->p=false)->
  Ret (lp m (F22_5 n cl) [vc,.int .i64 c.length,.int .i64 i] h) Q:=by
 intro k
 induction k with
 |zero=>
  intro i m hi hm hno;obtain⟨m,rfl⟩: ∃q,m=q+1:=⟨m-1,by omega⟩;rw[lp_succ];have e:i=c.length:=by omega
  subst e;simp only[F22_5,ucons_cons,F22_4,xLt_i,Int.lt_irrefl,decide_false,vb_some,bite_f,vM_eq,vN_eq];exact Ret.of (hk (findIdx_none (p:=fun x=>x) (Nat.le_refl _) hno))
 |succ k ih'=>
  intro i m hi hm hno;obtain⟨m,rfl⟩: ∃q,m=q+1:=⟨m-1,by omega⟩;rw[lp_succ];have c':((i:Int)<c.length):=by omega
  simp only[F22_5,ucons_cons,F22_4,xLt_i,c',decide_true,vb_some,bite_t,F22_3];refine Ret.idx rc (by omega) c' fun b1 o1 cs1 x hx s1 hle1 hE1=>?_;have hx:c[i]?=some x:=by simpa using hx
  have lx:xLd (.pointer (some ⟨b1,o1,none⟩)) h=some (.bool x):=xLdE s1 hle1 hE1 (j:=0) rfl;simp only[lx,vb_some];cases x with
  |true=>simp only[bite_t];exact Ret.of (hf i (findIdx_some (p:=fun x=>x) hx rfl hno))
  |false=>
   simp only[bite_f,F22_2,vN_eq,xAdd_i,vb_some,show(((1:Nat):Int))=1 from rfl,wrap1 (i:=i) (by omega)];exact ih' (i+1) m (by omega) (by omega) (nextNo (p:=fun x=>x) hno hx rfl)
theorem ReachLs.len{g:Gr}{a:List Bool}(hgood:goodB g=true)(x:ReachLs g a):a.length=g.names.toNat:=by
 rcases x with⟨h,_⟩|⟨_,h,_⟩
 ·rw[hgood]at h;cases h
 ·exact h
theorem ShortLs.len{g:Gr}{a:List Int}(hgood:goodB g=true)(x:ShortLs g a):a.length=g.names.toNat:=by
 rcases x with⟨h,_⟩|⟨_,_,h⟩
 ·rw[hgood]at h;cases h
 ·exact h.len
theorem c22[OkH h]{g:Gr}{v rv fv cv kv:Value}(hn:9223372036854775808<=n)(r:RdG h v g rv fv cv kv)(hg:GIn g)(hv:veq (.agg ⟨gcs g rv fv cv kv⟩) (.agg ⟨gcs g rv fv cv kv⟩)=true):
  ∃x,ChkQ g x/\pcall (F22 n (CLy n ih) v h.fzn)=some (.tuple ⟨[.int .i64 x.1,.int .i64 x.2]⟩):=by
 have key:Ret (F22 n (CLy n ih) v h.fzn) fun u _=> ∃x,ChkQ g x/\u= .tuple ⟨[.int .i64 x.1,.int .i64 x.2]⟩:=by
  unfold F22;rw[r.v];refine Ret.sbox (St.start _) (fun h1' b st=>?_);have:=st.ok;have lw:xLdA 7 (.pointer (some ⟨b,0,none⟩)) h1'=some (.agg ⟨gcs g rv fv cv kv⟩):=xLdA_at (st.row (.head _)) rfl (Nat.le_refl _);have sees: ∀b cs,Sees h b cs->Sees h1' b cs:=fun b cs s=>st.sees s;have e:=c36 (n:=n) (ih:=ih) (h:=h1') hn (r.mono sees) hg;rw[r.v]at e;simp only[lw,vb_some,e,xExt_t,List.getElem?_cons_zero,List.getElem?_cons_succ,xNe_i,vN_eq,show(((0:Nat):Int))=0 from rfl];cases hgood:goodB g with
  |false=>
   have he: ¬(formE g).2=0:=by intro c;unfold goodB at hgood;simp[c]at hgood
   simp only[he,decide_false,Bool.not_false,bite_t];exact Ret.of ⟨_,.bad hgood,rfl⟩
  |true=>
   have he:(formE g).2=0:=by unfold goodB at hgood;simpa using hgood
   obtain⟨w1,w2,w3,w4,w5,w6,w7⟩:=goodB_whole hgood;have blt:Nat.blt b h1'.n=true:=Nat.ble_eq_true_of_le (st.row (b:=b) (.head _)).lt;simp only[he,decide_true,Bool.not_true,bite_f,F22_9,lw,vb_some];have e14:=c37 (n:=n) (ih:=ih) (h:=h1') hn (r.mono sees) hg;rw[r.v]at e14;refine Ret.fcall e14 fun v3 h2' q kp hraw=>?_;obtain⟨la,ha,ra⟩:=q.rd hraw;have st2:=st.on kp;have:=st2.ok;have sees2: ∀b cs,Sees h b cs->Sees (h1'.back h2') b cs:=fun b cs s=>st2.sees (show Sees h.fzn b cs from s);have e16:=c38 (n:=n) (ih:=ih) (h:=h1'.back h2') hn (r.mono sees2) hg;rw[r.v]at e16;have lw2:xLdA 7 (.pointer (some ⟨b,0,none⟩)) (h1'.back h2')=some (.agg ⟨gcs g rv fv cv kv⟩):=xLdA_at (st2.row (.head _)) rfl (Nat.le_refl _);rw[lw2,lchk_t hv];refine Ret.fcall e16 fun v4 h3' q3 kp3 hraw3=>?_;obtain⟨lp',hp,rp⟩:=q3.rd hraw3;have st3:=st2.on kp3;have:=st3.ok;have ra3:RdS boolE 1 ((h1'.back h2').back h3') v3 la:=ra.mono (fun b cs s=>kp3.sees s s.lt) fun _ _ _ e=>e;have hla:=ha.len hgood;have hlp:=hp.len hgood;have lw3:xLdA 7 (.pointer (some ⟨b,0,none⟩)) ((h1'.back h2').back h3')=some (.agg ⟨gcs g rv fv cv kv⟩):=xLdA_at (st3.row (.head _)) rfl (Nat.le_refl _);have sees3: ∀b cs,Sees h b cs->Sees ((h1'.back h2').back h3') b cs:=fun b cs s=>st3.sees (show Sees h.fzn b cs from s);have e24:=c39 (n:=n) (ih:=ih) (h:=(h1'.back h2').back h3') hn (r.mono sees3) hg;rw[r.v]at e24;simp only[RdS.len ra3,vb_some];have hgo: ∀i:Nat,idxF badB (la.zip (prodL lp'))=i-> ∃x,ChkQ g x/\Value.tuple ⟨[.int .i64 i,.int .i64 7]⟩= .tuple ⟨[.int .i64 x.1,.int .i64 x.2]⟩:=by
    intro i hi;obtain⟨u,k,_,_,qc⟩:=e24;obtain⟨lc,hc,_⟩:=qc.rd (fun _=>rfl);refine⟨_,.good hgood ha hp (hc.good hgood),?_⟩;unfold chkL;rw[if_pos (by omega),hi]
   refine loop22g (h:=(h1'.back h2').back h3') ra3 rp (by simp;omega) (by omega) (fun hno=>?_) hgo la.length 0 n (by omega) (by omega) (by omega);simp only[F22_6,lw3,vb_some];refine Ret.fcall e24 fun v5 h5' q5 kp5 hraw5=>?_;obtain⟨lc,hc,rc⟩:=q5.rd hraw5;have hcl:=(hc.good hgood).len;simp only[RdS.len rc,vb_some];refine loop22c rc (by omega) (fun hno2=>?_) (fun i hi=>?_) lc.length 0 n (by omega) (by omega) (by omega)
   ·refine⟨_,.good hgood ha hp (hc.good hgood),?_⟩;unfold chkL;rw[if_neg (by omega),if_neg (by omega)]
   ·refine⟨_,.good hgood ha hp (hc.good hgood),?_⟩;unfold chkL;rw[if_neg (by omega),if_pos (by omega),hi]
 obtain⟨u,hu,x,hx,rfl⟩:=pcall_ex key (by rintro u ⟨x,_,rfl⟩;rfl);exact⟨x,hx,hu⟩
end
end Go.Am
