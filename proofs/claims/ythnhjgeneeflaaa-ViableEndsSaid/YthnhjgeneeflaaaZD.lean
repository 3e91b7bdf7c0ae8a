import Derived.Test.YthnhjgeneeflaaaZC
set_option linter.unusedSimpArgs false
set_option linter.unusedVariables false
namespace Go.Am
open Go Go.Proofs
def Sink(o' o:List Int):Prop:= ∀i:Nat,o.getD i 0≠ -1->o'.getD i 0≠ -1/\o'.getD i 0<=o.getD i 0
def Met(g:Gr)(o:List Int):Prop:= ∀a:Nat,a<o.length->o.getD a 0≠ -1-> ∃r∈g.rules,r.left.toNat=a/\longF g o 0 r.right≠ -1/\longF g o 0 r.right<=o.getD a 0
end Go.Am
namespace Go.Am
open Go Go.RowKit Go.Proofs
theorem rulesU_succ{w:Nat}{e:Bool}{j:Nat}:rulesU w e (j+1)=(rulesU w e j++if u1 w e j=true then [⟨(j:Int),[-1],0⟩]else [])++if u2 w e j=true then [⟨0,[(j:Int), -1],0⟩]else []:=rfl
section
variable {n:Nat}{cl ih:CL}{h:PH}
end
section
variable {n:Nat}{cl ih:CL}{h:PH}
theorem loop41{v:Value}{l:List Int}{h0:PH}(r:RdI h0 v l)(hl:l.length<9223372036854775808): ∀(k i m:Nat)(h:PH),i+k=l.length->k<m->St h0 h []->(∀j x,j<i->l[j]?=some x->badClass x=false)->
  Ret (lp m (fun r2 y1 h=>ucons y1 fun v2 y3=>ucons y3 fun v4 y5=>F41_2 n cl v2 v4 r2 h) [v,.int .i64 i] h) fun u _=>u= .bool (!l.any badClass):=by
 have un1:isB false undef=false:=rfl;have un2:isB true undef=false:=rfl;intro k
 induction k with
 |zero=>
  intro i m h hi hm st hno;obtain⟨m,rfl⟩: ∃q,m=q+1:=⟨m-1,by omega⟩;rw[lp_succ];have c: ¬((i:Int)<l.length):=by omega
  have hany:l.any badClass=false:=by
   rw[List.any_eq_false];intro x hx;obtain⟨j,hj⟩:=List.getElem?_of_mem hx;have:=(List.getElem?_eq_some_iff.1 hj).1;simp[hno j x (by omega) hj]
  simp only[ucons_cons,F41_2,RdS.len r,vb_some,xLt_i,c,decide_false,bite_f,tt_eq];exact Ret.of (by rw[hany];rfl)
 |succ k ih=>
  intro i m h hi hm st hno;obtain⟨m,rfl⟩: ∃q,m=q+1:=⟨m-1,by omega⟩;rw[lp_succ];have c:((i:Int)<l.length):=by omega
  simp only[ucons_cons,F41_2,RdS.len r,vb_some,xLt_i,c,decide_true,bite_t,F41_1];refine Ret.idx r (by omega) c fun b o cs x hx s hle hE=>?_;have hx:l[i]?=some x:=by simpa using hx
  have ld:xLd (.pointer (some ⟨b,o,none⟩)) h=some (.int .i64 x):=xLdE (st.sees s) hle hE (j:=0) rfl;have bad:badClass x=true->Ret (some (ff,h)) fun u (_:PH)=>u= .bool (!l.any badClass):=by
   intro hb;have:l.any badClass=true:=List.any_eq_true.2 ⟨x,List.mem_of_getElem? hx,hb⟩;exact Ret.of (by rw[this];rfl)
  simp only[ld,vb_some,vN_eq,xLt_i,show(((0:Nat):Int))=0 from rfl,show(((100:Nat):Int))=100 from rfl]
  by_cases a1:x<0
  ·simp only[a1,decide_true,isB_f,Bool.not_true,gd_false,vb_some,un1,un2,xPick_t,tt_eq,bite_t];exact bad (by simp[badClass,a1])
  ·simp only[a1,decide_false,isB_f,Bool.not_false,gd_true,vb_some];refine Ret.idx r (by omega) c fun b2 o2 cs2 x' hx' s2 hle2 hE2=>?_;have hxx:x'=x:=by
    have hx':l[i]?=some x':=by simpa using hx'
    rw[hx]at hx';cases hx';rfl
   have ld2:xLd (.pointer (some ⟨b2,o2,none⟩)) h=some (.int .i64 x'):=xLdE (st.sees s2) hle2 hE2 (j:=0) rfl;rw[hxx]at ld2;simp only[ld2,vb_some,xGt_i,xPick_f]
   by_cases a2:100<x
   ·simp only[a2,decide_true,bite_t];exact bad (by simp[badClass,a2])
   ·simp only[a2,decide_false,bite_f,F41_0,vN_eq,xAdd_i,vb_some,show(((1:Nat):Int))=1 from rfl,wrap1 (i:=i) (by omega)];exact ih (i+1) m h (by omega) (by omega) st (nextNo hno hx (by simp[badClass];omega))
theorem c41[OkH h]{v:Value}{l:List Int}(hn:9223372036854775808<=n)(r:RdI h v l)(hl:l.length<9223372036854775808):pcall (F41 n cl v h.fzn)=some (.bool (!l.any badClass)):=by
 refine pcall_of ?_ rfl;unfold F41;exact loop41 (h0:=h.fzn) (r.mono fun _ _ s=>s) hl l.length 0 n h.fzn (by omega) (by omega) (St.start _) (by omega)
theorem c42[OkH h]{g:Gr}{rv fv cv kv:Value}{s:Int}(hs:inR s):pcall (F42 n cl (.agg ⟨gcs g rv fv cv kv⟩) (.int .i64 s) h.fzn)=some (.bool (isSym g.names g.kinds s)):=by
 refine pcall_of ?_ rfl;unfold F42;refine Ret.sbox (St.start _) (fun h b st=>?_);have l0:xLd (.pointer (some ⟨b,0,none⟩)) h=some (.int .i64 g.names):=xLd_at (st.row (.head _)) rfl;have l1:xLd (.pointer (some ⟨b,1,none⟩)) h=some (.int .i64 g.kinds):=xLd_at (st.row (.head _)) rfl;have hw:IntKind.i64.wrap (-1-s)= -1-s:=wrap_in (by have:=hs.2;omega) (by have:=hs.1;omega);simp only[vN_eq,xLt_i,vb_some,show(((0:Nat):Int))=0 from rfl]
 by_cases c:s<0
 ·simp only[c,decide_true,bite_t,F42_0,vM_eq,show Int.negSucc 0= -1 from rfl,xSub_i,hw,vb_some,xFld_p,Nat.zero_add,l1,xLt_i];have c': ¬ 0<=s:=by omega
  exact Ret.of (by simp[isSym,isKind,isName,c,c'])
 ·simp only[c,decide_false,bite_f,F42_1,xFld_p,Nat.zero_add,vb_some,l0,xLt_i];exact Ret.of (by simp[isSym,isKind,isName,c];omega)
def okR(g:Gr)(r:Rl):Bool:=isName g.names r.left&&!r.right.any fun s=>!isSym g.names g.kinds s
theorem okR_er{g:Gr}{r:Rl}:ruleEr g r=if okR g r=true then(if 8<r.right.length then 3 else if r.dyn< -1000\/1000<r.dyn then 1 else 0)else 6:=by
 unfold ruleEr okR;cases isName g.names r.left<;>cases r.right.any (fun s=>!isSym g.names g.kinds s)<;>rfl
theorem loop25s{h0:PH}{g:Gr}{rv fv cv kv:Value}{b1 b3:Nat}{r8:Kt}{ru:Rl}{qv:Value}{i:Nat}{Q:Value->PH->Prop}(hq:RdI h0 qv ru.right)(hl:ru.right.length<9223372036854775808)(hs: ∀s∈ru.right,inR s)(hi:i<9223372036854775807)
  (hbad: ∀h,ruleEr g ru≠0->Q (.tuple ⟨[.int .i64 i,.int .i64 (ruleEr g ru)]⟩) h)
  (hk: ∀h,St h0 h [(b1,gcs g rv fv cv kv)]->ruleEr g ru=0->Ret (r8 [.pointer (some ⟨b1,0,none⟩),.int .i64 ((i+1:Nat):Int)] h) Q):
  ∀(k j m:Nat)(ok:Bool)(h:PH),j+k=ru.right.length->k<m->(ok=(isName g.names ru.left&&(ru.right.take j).all fun s=>isSym g.names g.kinds s))->St h0 h [(b3,[.int .i64 ru.left,qv,.int .i64 ru.dyn]),(b1,gcs g rv fv cv kv)]->
  Ret (lp m (F25_6 n cl r8) [.pointer (some ⟨b1,0,none⟩),.int .i64 i,.pointer (some ⟨b3,0,none⟩),.bool ok,.int .i64 j] h) Q:=by
 have un1:isB false undef=false:=rfl;have un2:isB true undef=false:=rfl;have fin: ∀(ok:Bool)(h:PH),ok=okR g ru->St h0 h [(b3,[.int .i64 ru.left,qv,.int .i64 ru.dyn]),(b1,gcs g rv fv cv kv)]->Ret (F25_4 n cl (.bool ok) (.int .i64 i) (.pointer (some ⟨b3,0,none⟩)) r8 (.pointer (some ⟨b1,0,none⟩)) h) Q:=by
  intro ok h hok st;have q1:xLd (.pointer (some ⟨b3,1,none⟩)) h=some qv:=xLd_at (st.row (.head _)) rfl;have q2:xLd (.pointer (some ⟨b3,2,none⟩)) h=some (.int .i64 ru.dyn):=xLd_at (st.row (.head _)) rfl;have er:=okR_er (g:=g) (r:=ru);rw[<-hok]at er;unfold F25_4;cases ok with
  |false=>
   simp only[xNot_b,Bool.not_false,vb_some,bite_t];have er:ruleEr g ru=6:=er;have:=hbad h (by rw[er];decide);rw[er]at this;exact Ret.of this
  |true=>
   simp only[if_true]at er;simp only[xNot_b,Bool.not_true,vb_some,bite_f,F25_3,xFld_p,Nat.zero_add,q1,RdS.len hq,vN_eq,xGt_i,show(((8:Nat):Int))=8 from rfl]
   by_cases a1:8<ru.right.length
   ·have a1':(8:Int)<ru.right.length:=by omega
    rw[if_pos a1]at er;have:=hbad h (by rw[er];decide);rw[er]at this;simp only[a1',decide_true,bite_t];exact Ret.of this
   ·have a1': ¬(8:Int)<ru.right.length:=by omega
    rw[if_neg a1]at er;simp only[a1',decide_false,bite_f,F25_2,xFld_p,Nat.zero_add,vb_some,q2,vM_eq,show Int.negSucc 999= -1000 from rfl,xLt_i,vN_eq,show(((1000:Nat):Int))=1000 from rfl]
    by_cases a2:ru.dyn< -1000
    ·rw[if_pos (.inl a2)]at er;have:=hbad h (by rw[er];decide);rw[er]at this;simp only[a2,decide_true,isB_f,Bool.not_true,gd_false,vb_some,xPick_t,tt_eq,bite_t];exact Ret.of this
    ·by_cases a3:1000<ru.dyn
     ·rw[if_pos (.inr a3)]at er;have:=hbad h (by rw[er];decide);rw[er]at this;simp only[a2,a3,decide_true,decide_false,isB_f,Bool.not_false,gd_true,vb_some,q2,xGt_i,xPick_f,bite_t];exact Ret.of this
     ·rw[if_neg (by omega)]at er;simp only[a2,a3,decide_false,isB_f,Bool.not_false,gd_true,vb_some,q2,xGt_i,xPick_f,bite_f,F25_1,vN_eq,xAdd_i,show(((1:Nat):Int))=1 from rfl,wrap1 (i:=i) hi];exact hk h (st.drop (.cons _ (List.Sublist.refl _))) er
 intro k
 induction k with
 |zero=>
  intro j m ok h hj hm hok st;obtain⟨m,rfl⟩: ∃q,m=q+1:=⟨m-1,by omega⟩;rw[lp_succ];have q1:xLd (.pointer (some ⟨b3,1,none⟩)) h=some qv:=xLd_at (st.row (.head _)) rfl;have c: ¬((j:Int)<ru.right.length):=by omega
  simp only[F25_6,ucons_cons,F25_5,xFld_p,Nat.zero_add,vb_some,q1,RdS.len hq,xLt_i,c,decide_false,isB_t,gd_false,xPick_f,ff_eq,bite_f];refine fin ok h ?_ st;rw[hok,List.take_of_length_le (by omega)];unfold okR
  congr 1
  rw[List.all_eq_not_any_not]
 |succ k ih'=>
  intro j m ok h hj hm hok st;obtain⟨m,rfl⟩: ∃q,m=q+1:=⟨m-1,by omega⟩;rw[lp_succ];have q1:xLd (.pointer (some ⟨b3,1,none⟩)) h=some qv:=xLd_at (st.row (.head _)) rfl;have c:((j:Int)<ru.right.length):=by omega
  have hlt:j<ru.right.length:=by omega
  have hx:ru.right[j]?=some ru.right[j]:=List.getElem?_eq_getElem hlt;simp only[F25_6,ucons_cons,F25_5,xFld_p,Nat.zero_add,vb_some,q1,RdS.len hq,xLt_i,c,decide_true,isB_t,gd_true,xPick_t];cases ok with
  |false=>
   simp only[bite_f];refine fin false h ?_ st;unfold okR;cases hnm:isName g.names ru.left with
   |false=>rfl
   |true=>
    rw[hnm,Bool.true_and]at hok;have:(ru.right.any fun s=>!isSym g.names g.kinds s)=true:=by
     rw[eq_comm,List.all_eq_false]at hok;obtain⟨x,hx,hp⟩:=hok;exact List.any_eq_true.2 ⟨x,List.mem_of_mem_take hx,by simpa using hp⟩
    rw[this];rfl
  |true=>
   have:=st.ok;have lw:xLdA 7 (.pointer (some ⟨b1,0,none⟩)) h=some (.agg ⟨gcs g rv fv cv kv⟩):=xLdA_at (st.row (.tail _ (.head _))) rfl (Nat.le_refl _);simp only[bite_t,F25_0,xFld_p,Nat.zero_add,vb_some,lw,q1];refine Ret.idx hq (by omega) c fun b o cs x hx' s hle hE=>?_;have hx':ru.right[j]?=some x:=by simpa using hx'
   refine Ret.vb (xLdE (st.sees s) hle hE (j:=0) rfl) ?_;rw[c42 (hs x (List.mem_of_getElem? hx'))];simp only[vb_some,vN_eq,xAdd_i,show(((1:Nat):Int))=1 from rfl,wrap1 (i:=j) (by omega)];refine ih' (j+1) m _ h (by omega) (by omega) ?_ st;have hok:(isName g.names ru.left&&(ru.right.take j).all fun s=>isSym g.names g.kinds s)=true:=hok.symm;rw[Bool.and_eq_true]at hok;rw[List.take_add_one,hx',List.all_append,hok.1,hok.2];simp
end
theorem z49:zcells Try.prog 85=some [.int .i64 0,.int .i64 0,.int .i64 0]:=by kernel_rfl
section
variable {n:Nat}{cl ih:CL}{h:PH}
noncomputable abbrev B25f(n:Nat)(cl:CL):Kt->Kt:=fun r23 y120 h=>ucons y120 fun v121 y122=>ucons y122 fun v123 y124=>F25_10 n cl v121 v123 r23 h
noncomputable abbrev B25r(n:Nat)(cl:CL):Kt->Kt:=fun r8 y60 h=>ucons y60 fun v61 y62=>ucons y62 fun v63 y64=>F25_12 n cl v61 v63 r8 h
theorem loop25f{h0:PH}{g:Gr}{v rv fv cv kv:Value}{b1:Nat}{Q:Value->PH->Prop}(r:RdG h0 v g rv fv cv kv)(hg:GIn g)
  (hbad: ∀h,g.forbid.any (fun f=>!forbidB g f)=true->Q (.tuple ⟨[.int .i64 (-1),.int .i64 6]⟩) h) (hok: ∀h,g.forbid.any (fun f=>!forbidB g f)=false->Q (.tuple ⟨[.int .i64 (-1),.int .i64 0]⟩) h):
  ∀(k i m:Nat)(h:PH),i+k=g.forbid.length->k<m->St h0 h [(b1,gcs g rv fv cv kv)]->(∀j f,j<i->g.forbid[j]?=some f->(!forbidB g f)=false)->
  Ret (lp m (B25f n cl) [.pointer (some ⟨b1,0,none⟩),.int .i64 i] h) Q:=by
 have un1:isB false undef=false:=rfl;have un2:isB true undef=false:=rfl;intro k
 induction k with
 |zero=>
  intro i m h hi hm st hno;obtain⟨m,rfl⟩: ∃q,m=q+1:=⟨m-1,by omega⟩;rw[lp_succ];have l4:xLd (.pointer (some ⟨b1,4,none⟩)) h=some fv:=xLd_at (st.row (.head _)) rfl;have c: ¬((i:Int)<g.forbid.length):=by omega
  have hany:g.forbid.any (fun f=>!forbidB g f)=false:=by
   rw[List.any_eq_false];intro x hx;obtain⟨j,hj⟩:=List.getElem?_of_mem hx;have:=(List.getElem?_eq_some_iff.1 hj).1;rw[hno j x (by omega) hj];simp
  simp only[B25f,ucons_cons,F25_10,xFld_p,Nat.zero_add,vb_some,l4,RdS.len r.forbid,xLt_i,c,decide_false,bite_f,vM_eq,vN_eq];exact Ret.of (hok h hany)
 |succ k ih'=>
  intro i m h hi hm st hno;obtain⟨m,rfl⟩: ∃q,m=q+1:=⟨m-1,by omega⟩;rw[lp_succ];have hfl:=hg.flen;have l4:xLd (.pointer (some ⟨b1,4,none⟩)) h=some fv:=xLd_at (st.row (.head _)) rfl;have c:((i:Int)<g.forbid.length):=by omega
  simp only[B25f,ucons_cons,F25_10,xFld_p,Nat.zero_add,vb_some,l4,RdS.len r.forbid,xLt_i,c,decide_true,bite_t,F25_9];refine Ret.idx r.forbid (by omega) c fun b o cs f hf s hle hE=>?_;obtain⟨x,y,z⟩:=f;have hf:g.forbid[i]?=some (x,y,z):=by simpa using hf
  refine Ret.vb (xLdA_at (st.sees s) hE hle) ?_;refine Ret.salloc st z49 fun h2 b3 st2=>?_;refine Ret.sstA st2 (i:=0) rfl rfl (Nat.le_refl _) rfl fun h3 st3=>?_;have st3:St h0 h3 [(b3,[.int .i64 x,.int .i64 y,.int .i64 z]),(b1,gcs g rv fv cv kv)]:=st3;have l3:xLd (.pointer (some ⟨b1,3,none⟩)) h3=some rv:=xLd_at (st3.row (.tail _ (.head _))) rfl;have q0:xLd (.pointer (some ⟨b3,0,none⟩)) h3=some (.int .i64 x):=xLd_at (st3.row (.head _)) rfl;have q1:xLd (.pointer (some ⟨b3,1,none⟩)) h3=some (.int .i64 y):=xLd_at (st3.row (.head _)) rfl;have q2:xLd (.pointer (some ⟨b3,2,none⟩)) h3=some (.int .i64 z):=xLd_at (st3.row (.head _)) rfl;have nr:=RdS.len r.rules;have bad:forbidB g (x,y,z)=false->Ret (some (Value.tuple ⟨[.int .i64 (-1),.int .i64 6]⟩,h3)) Q:=by
   intro hb;exact Ret.of (hbad h3 (List.any_eq_true.2 ⟨_,List.mem_of_getElem? hf,by rw[hb];rfl⟩))
  have good:forbidB g (x,y,z)=true->Ret (F25_8 n cl (.int .i64 i) (lp m (B25f n cl)) (.pointer (some ⟨b1,0,none⟩)) h3) Q:=by
   intro hb;simp only[F25_8,vN_eq,xAdd_i,vb_some,show(((1:Nat):Int))=1 from rfl,wrap1 (i:=i) (by omega)];exact ih' (i+1) m h3 (by omega) (by omega) (st3.drop (.cons _ (List.Sublist.refl _))) (nextNo hno hf (by rw[hb];rfl))
  simp only[vN_eq,show(((0:Nat):Int))=0 from rfl,show(((1:Nat):Int))=1 from rfl,show(((2:Nat):Int))=2 from rfl,show(((6:Nat):Int))=6 from rfl,ia0,ia1,ia2,vb_some,q0,xLt_i,vM_eq,show Int.negSucc 0= -1 from rfl,xFld_p,Nat.zero_add,nr,l3,q1,q2]
  by_cases a1:x<0
  ·simp only[a1,decide_true,isB_f,isB_t,Bool.not_true,gd_false,vb_some,un1,un2,xPick_t,tt_eq,bite_t];exact bad (by simp[forbidB,a1])
  by_cases a2:(g.rules.length:Int)<=x
  ·simp only[a1,a2,decide_true,decide_false,isB_f,isB_t,Bool.not_true,Bool.not_false,gd_false,gd_true,vb_some,un1,un2,xPick_t,xPick_f,tt_eq,q0,q1,q2,l3,xGe_i,nr,bite_t];exact bad (by simp[forbidB,a1,a2])
  by_cases a3:z<0
  ·simp only[a1,a2,a3,decide_true,decide_false,isB_f,isB_t,Bool.not_true,Bool.not_false,gd_false,gd_true,vb_some,un1,un2,xPick_t,xPick_f,tt_eq,q0,q1,q2,l3,xGe_i,xLt_i,nr,bite_t];exact bad (by simp[forbidB,a1,a2,a3])
  by_cases a4:(g.rules.length:Int)<=z
  ·simp only[a1,a2,a3,a4,decide_true,decide_false,isB_f,isB_t,Bool.not_true,Bool.not_false,gd_false,gd_true,vb_some,un1,un2,xPick_t,xPick_f,tt_eq,q0,q1,q2,l3,xGe_i,xLt_i,nr,bite_t];exact bad (by simp[forbidB,a1,a2,a3,a4])
  by_cases a5:y<0
  ·simp only[a1,a2,a3,a4,a5,decide_true,decide_false,isB_f,isB_t,Bool.not_true,Bool.not_false,gd_false,gd_true,vb_some,un1,un2,xPick_t,xPick_f,tt_eq,q0,q1,q2,l3,xGe_i,xLt_i,nr,bite_t];refine bad ?_;have a1':(x.toNat:Int)=x:=by omega
   have h5: ¬ 0<=y:=by omega
   unfold forbidB;rw[if_neg (by simp only;omega)]
   split<;>simp[h5]
  have hx0:x.toNat<g.rules.length:=by omega
  have hz0:z.toNat<g.rules.length:=by omega
  have hra:g.rules[x.toNat]?=some g.rules[x.toNat]:=List.getElem?_eq_getElem hx0;have hrb:g.rules[z.toNat]?=some g.rules[z.toNat]:=List.getElem?_eq_getElem hz0;have spec:forbidB g (x,y,z)=decide (0<=y/\y<(g.rules[x.toNat]).right.length/\(g.rules[x.toNat]).right[y.toNat]?=some (g.rules[z.toNat]).left):=by
   unfold forbidB;rw[if_neg (by simp only;omega)];simp only[hra,hrb]
  simp only[a1,a2,a3,a4,a5,decide_true,decide_false,isB_f,isB_t,Bool.not_true,Bool.not_false,gd_false,gd_true,vb_some,un1,un2,xPick_t,xPick_f,tt_eq,q0,q1,q2,l3,xGe_i,xLt_i,nr,xFld_p,Nat.zero_add];refine Ret.idx r.rules (by omega) (by omega) fun b4 o4 cs4 ra hra' s4 hle4 hE4=>?_;have era:ra=g.rules[x.toNat]:=by rw[hra]at hra';exact(Option.some.inj hra').symm
  obtain⟨qv,hE4,hq⟩:=hE4;have ld1:xLd (.pointer (some ⟨b4,o4+1,none⟩)) h3=some qv:=xLdE (st3.sees s4) hle4 hE4 rfl;have nq:=RdS.len hq;simp only[xFld_p,vb_some,ld1,nq,xGe_i]
  by_cases a6:(ra.right.length:Int)<=y
  ·simp only[a6,decide_true,isB_f,Bool.not_true,gd_false,vb_some,un1,un2,xPick_t,tt_eq,bite_t];refine bad ?_;rw[spec, <-era];simp;omega
  simp only[a6,decide_false,isB_f,Bool.not_false,gd_true,vb_some,xPick_f,l3,q0,q1,q2,xFld_p,Nat.zero_add];refine Ret.idx r.rules (by omega) (by omega) fun b5 o5 cs5 ra5 hra5 s5 hle5 hE5=>?_;have era5:ra5=g.rules[x.toNat]:=by rw[hra]at hra5;exact(Option.some.inj hra5).symm
  obtain⟨qv5,hE5,hq5⟩:=hE5;have ld5:xLd (.pointer (some ⟨b5,o5+1,none⟩)) h3=some qv5:=xLdE (st3.sees s5) hle5 hE5 rfl;simp only[xFld_p,vb_some,ld5,q0,q1,q2,l3];refine Ret.idx hq5 (by omega) (by rw[era5, <-era];omega) fun b6 o6 cs6 yv hy s6 hle6 hE6=>?_;have ly:xLd (.pointer (some ⟨b6,o6,none⟩)) h3=some (.int .i64 yv):=xLdE (st3.sees s6) hle6 hE6 (j:=0) rfl;simp only[ly,vb_some,q0,q1,q2,l3];refine Ret.idx r.rules (by omega) (by omega) fun b7 o7 cs7 rb hrb' s7 hle7 hE7=>?_;have erb:rb=g.rules[z.toNat]:=by rw[hrb]at hrb';exact(Option.some.inj hrb').symm
  obtain⟨qv7,hE7,hq7⟩:=hE7;have lz:xLd (.pointer (some ⟨b7,o7+0,none⟩)) h3=some (.int .i64 rb.left):=xLdE (st3.sees s7) hle7 hE7 rfl;rw[Nat.add_zero]at lz;simp only[xFld_p,Nat.add_zero,vb_some,lz,xNe_i];rw[era5]at hy;rw[hy, <-erb]at spec
  by_cases a7:yv=rb.left
  ·simp only[a7,decide_true,Bool.not_true,bite_f];refine good ?_;rw[spec,a7, <-era];simp;omega
  ·simp only[a7,decide_false,Bool.not_false,bite_t];refine bad ?_;rw[spec];simp[a7]
theorem loop25{h0:PH}{g:Gr}{v rv fv cv kv:Value}{b1:Nat}(hn:9223372036854775808<=n)(r:RdG h0 v g rv fv cv kv)(hg:GIn g)(hw:wholeE g=0): ∀(k i m:Nat)(h:PH),i+k=g.rules.length->k<m->St h0 h [(b1,gcs g rv fv cv kv)]->(∀j x,j<i->g.rules[j]?=some x->decide (ruleEr g x≠0)=false)->
  Ret (lp m (B25r n cl) [.pointer (some ⟨b1,0,none⟩),.int .i64 i] h) fun u _=>u= .tuple ⟨[.int .i64 (formE g).1,.int .i64 (formE g).2]⟩:=by
 have un1:isB false undef=false:=rfl;have un2:isB true undef=false:=rfl;intro k
 induction k with
 |zero=>
  intro i m h hi hm st hno;obtain⟨m,rfl⟩: ∃q,m=q+1:=⟨m-1,by omega⟩;rw[lp_succ];have l3:xLd (.pointer (some ⟨b1,3,none⟩)) h=some rv:=xLd_at (st.row (.head _)) rfl;have c: ¬((i:Int)<g.rules.length):=by omega
  have hf:=findIdx_none (p:=fun r=>decide (ruleEr g r≠0)) (l:=g.rules) (i:=i) (by omega) hno;have hf:g.rules.findIdx? (fun r=>decide (ruleEr g r≠0))=none:=by
   unfold idxF at hf
   split at hf
   ·rename_i j _;omega
   ·assumption
  have spec:formE g=if g.forbid.any (fun f=>!forbidB g f)then(-1,6)else(-1,0):=by
   unfold formE;rw[if_neg (by simp[hw]),hf]
  simp only[B25r,ucons_cons,F25_12,xFld_p,Nat.zero_add,vb_some,l3,RdS.len r.rules,xLt_i,c,decide_false,bite_f,F25_11,vN_eq];refine loop25f r hg (fun h' hb=>?_) (fun h' hb=>?_) g.forbid.length 0 n h (by omega) (by have:=hg.flen;omega) st (by omega)
  ·rw[spec,if_pos hb]
  ·rw[spec,hb];rfl
 |succ k ih'=>
  intro i m h hi hm st hno;obtain⟨m,rfl⟩: ∃q,m=q+1:=⟨m-1,by omega⟩;rw[lp_succ];have hrl:=hg.rlen;have l3:xLd (.pointer (some ⟨b1,3,none⟩)) h=some rv:=xLd_at (st.row (.head _)) rfl;have c:((i:Int)<g.rules.length):=by omega
  simp only[B25r,ucons_cons,F25_12,xFld_p,Nat.zero_add,vb_some,l3,RdS.len r.rules,xLt_i,c,decide_true,bite_t,F25_7];refine Ret.idx r.rules (by omega) c fun b o cs ru hx s hle hE=>?_;have hx:g.rules[i]?=some ru:=by simpa using hx
  have hxm:=List.mem_of_getElem? hx;obtain⟨qv,hE,hq⟩:=hE;refine Ret.vb (xLdA_at (st.sees s) hE hle) ?_;refine Ret.salloc st z29 fun h2 b3 st2=>?_;refine Ret.sstA st2 (i:=0) rfl rfl (Nat.le_refl _) (by simp only[oneCells,List.all_cons,List.all_nil,hq.one];rfl) fun h3 st3=>?_;have st3:St h0 h3 [(b3,[.int .i64 ru.left,qv,.int .i64 ru.dyn]),(b1,gcs g rv fv cv kv)]:=st3;have q0:xLd (.pointer (some ⟨b3,0,none⟩)) h3=some (.int .i64 ru.left):=xLd_at (st3.row (.head _)) rfl;have l0:xLd (.pointer (some ⟨b1,0,none⟩)) h3=some (.int .i64 g.names):=xLd_at (st3.row (.tail _ (.head _))) rfl;have go: ∀ok,ok=isName g.names ru.left->Ret (lp n (F25_6 n cl (lp m (B25r n cl))) [.pointer (some ⟨b1,0,none⟩),.int .i64 i,.pointer (some ⟨b3,0,none⟩),.bool ok,.int .i64 ((0:Nat):Int)] h3) fun u _=>u= .tuple ⟨[.int .i64 (formE g).1,.int .i64 (formE g).2]⟩:=by
   intro ok hok;refine loop25s (qv:=qv) hq (hg.rl ru hxm) (hg.right ru hxm) (by omega) (fun h' hb=>?_) (fun h' st' hb=>?_) ru.right.length 0 n ok h3 (by omega) (by have:=hg.rl ru hxm;omega) (by simp[hok]) st3
   ·have hf:=findIdx_some (p:=fun r=>decide (ruleEr g r≠0)) hx (by simp[hb]) hno;have hf:g.rules.findIdx? (fun r=>decide (ruleEr g r≠0))=some i:=by
     unfold idxF at hf
     split at hf
     ·rename_i j hj;rw[hj];congr 1;omega
     ·omega
    unfold formE;rw[if_neg (by simp[hw]),hf];simp[hx]
   ·exact ih' (i+1) m h' (by omega) (by omega) st' (nextNo hno hx (by simp[hb]))
  simp only[xFld_p,Nat.zero_add,vb_some,q0,vN_eq,xGe_i,show(((0:Nat):Int))=0 from rfl]
  by_cases a1:0<=ru.left
  ·simp only[a1,decide_true,isB_t,gd_true,vb_some,q0,l0,xLt_i,xPick_t];exact go _ (by simp[isName,a1])
  ·simp only[a1,decide_false,isB_t,gd_false,vb_some,xPick_f,ff_eq];exact go _ (by simp[isName,a1])
end
section
variable {n:Nat}{cl ih:CL}{h:PH}
theorem c25[OkH h]{g:Gr}{v rv fv cv kv:Value}(hn:9223372036854775808<=n)(r:RdG h v g rv fv cv kv)(hg:GIn g):pcall (F25 n cl v h.fzn)=some (.tuple ⟨[.int .i64 (formE g).1,.int .i64 (formE g).2]⟩):=by
 have un1:isB false undef=false:=rfl;have un2:isB true undef=false:=rfl;refine pcall_of ?_ rfl;unfold F25;rw[r.v];refine Ret.sbox (St.start _) (fun h1 b st=>?_);have:=st.ok;have ld: ∀(o:Nat)(u:Value),(gcs g rv fv cv kv)[o]?=some u->xLd (.pointer (some ⟨b,o,none⟩)) h1=some u:=fun o u e=>xLd_at (st.row (.head _)) e;have l0:=ld 0 _ rfl;have l1:=ld 1 _ rfl;have l2:=ld 2 _ rfl;have l3:=ld 3 _ rfl;have l4:=ld 4 _ rfl;have l5:=ld 5 _ rfl;have l6:=ld 6 _ rfl;have sees: ∀b cs,Sees h b cs->Sees h1 b cs:=fun b cs s=>st.sees s;have n3:=RdS.len r.rules;have n4:=RdS.len r.forbid;have n5:=RdS.len r.rclass;have n6:=RdS.len r.kclass;have e1:=c41 (n:=n) (cl:=cl) (h:=h1) hn (r.rclass.mono sees) hg.clen;have e2:=c41 (n:=n) (cl:=cl) (h:=h1) hn (r.kclass.mono sees) hg.klen;have bad: ∀e,wholeE g=e->e≠0->Ret (some (Value.tuple ⟨[.int .i64 (-1),.int .i64 e]⟩,h1)) fun u (_:PH)=>u= .tuple ⟨[.int .i64 (formE g).1,.int .i64 (formE g).2]⟩:=by
  intro e he h0;refine Ret.of ?_;unfold formE;rw[if_pos (by rw[he];exact h0),he]
 simp only[xFld_p,Nat.zero_add,vb_some,l0,l1,l2,l3,l4,n3,n4,xLt_i,xGt_i,vN_eq,vM_eq,show Int.negSucc 0= -1 from rfl,
  show(((1:Nat):Int))=1 from rfl,show(((40:Nat):Int))=40 from rfl,show(((60:Nat):Int))=60 from rfl,show(((200:Nat):Int))=200 from rfl,show(((0:Nat):Int))=0 from rfl,show(((3:Nat):Int))=3 from rfl]
 by_cases a1:g.names<1
 ·simp only[a1,decide_true,isB_f,Bool.not_true,gd_false,vb_some,un1,un2,xPick_t,tt_eq,bite_t];exact bad 3 (by simp[wholeE,a1]) (by decide)
 by_cases a2:40<g.names
 ·simp only[a1,a2,decide_true,decide_false,isB_f,Bool.not_true,Bool.not_false,gd_false,gd_true,vb_some,un1,un2,xPick_t,xPick_f,tt_eq,l0,xGt_i,bite_t];exact bad 3 (by simp[wholeE,a2]) (by decide)
 by_cases a3:g.kinds<0
 ·simp only[a1,a2,a3,decide_true,decide_false,isB_f,Bool.not_true,Bool.not_false,gd_false,gd_true,vb_some,un1,un2,xPick_t,xPick_f,tt_eq,l0,l1,xGt_i,xLt_i,bite_t];exact bad 3 (by simp[wholeE,a3]) (by decide)
 by_cases a4:40<g.kinds
 ·simp only[a1,a2,a3,a4,decide_true,decide_false,isB_f,Bool.not_true,Bool.not_false,gd_false,gd_true,vb_some,un1,un2,xPick_t,xPick_f,tt_eq,l0,l1,xGt_i,xLt_i,bite_t];exact bad 3 (by simp[wholeE,a4]) (by decide)
 by_cases a5:60<g.rules.length
 ·have a5':(60:Int)<g.rules.length:=by omega
  simp only[a1,a2,a3,a4,a5',decide_true,decide_false,isB_f,Bool.not_true,Bool.not_false,gd_false,gd_true,vb_some,un1,un2,xPick_t,xPick_f,tt_eq,l0,l1,l3,n3,xGt_i,xLt_i,bite_t];exact bad 3 (by simp[wholeE,a5]) (by decide)
 by_cases a6:200<g.forbid.length
 ·have a5': ¬(60:Int)<g.rules.length:=by omega
  have a6':(200:Int)<g.forbid.length:=by omega
  simp only[a1,a2,a3,a4,a5',a6',decide_true,decide_false,isB_f,Bool.not_true,Bool.not_false,gd_false,gd_true,vb_some,un1,un2,xPick_t,xPick_f,tt_eq,l0,l1,l3,l4,n3,n4,xGt_i,xLt_i,bite_t];exact bad 3 (by simp[wholeE,a6]) (by decide)
 have a5': ¬(60:Int)<g.rules.length:=by omega
 have a6': ¬(200:Int)<g.forbid.length:=by omega
 have w0:wholeE g=if !isName g.names g.start then 6 else if !classesB g.rclass g.rules.length||!classesB g.kclass g.kinds then 1 else 0:=by
  unfold wholeE;rw[if_neg (by omega)]
 simp only[a1,a2,a3,a4,a5',a6',decide_true,decide_false,isB_f,Bool.not_true,Bool.not_false,gd_false,gd_true,vb_some,un1,un2,xPick_t,xPick_f,tt_eq,l0,l1,l3,l4,n3,n4,xGt_i,xLt_i,bite_f,F25_15,xFld_p,Nat.zero_add,l2,vN_eq,vM_eq,show Int.negSucc 0= -1 from rfl,show(((0:Nat):Int))=0 from rfl,show(((6:Nat):Int))=6 from rfl,show(((1:Nat):Int))=1 from rfl]
 by_cases b1:g.start<0
 ·simp only[b1,decide_true,isB_f,Bool.not_true,gd_false,vb_some,un1,un2,xPick_t,tt_eq,bite_t];exact bad 6 (by rw[w0];simp[isName];omega) (by decide)
 by_cases b2:g.names<=g.start
 ·simp only[b1,b2,decide_true,decide_false,isB_f,Bool.not_true,Bool.not_false,gd_false,gd_true,vb_some,un1,un2,xPick_t,xPick_f,tt_eq,l2,l0,xGe_i,bite_t];exact bad 6 (by rw[w0];simp[isName];omega) (by decide)
 have hnm:isName g.names g.start=true:=isName_iff.2 ⟨by omega,by omega⟩;rw[hnm]at w0;have w0:wholeE g=if !classesB g.rclass g.rules.length||!classesB g.kclass g.kinds then 1 else 0:=w0;simp only[b1,b2,decide_true,decide_false,isB_f,Bool.not_true,Bool.not_false,gd_false,gd_true,vb_some,un1,un2,xPick_t,xPick_f,tt_eq,l2,l0,xGe_i,bite_f,F25_14,xFld_p,Nat.zero_add,l5,l3,n5,n3,xGt_i,vM_eq,vN_eq,show Int.negSucc 0= -1 from rfl,show(((1:Nat):Int))=1 from rfl]
 by_cases d1:(g.rules.length:Int)<g.rclass.length
 ·simp only[d1,decide_true,isB_f,Bool.not_true,gd_false,vb_some,un1,un2,xPick_t,tt_eq,bite_t];exact bad 1 (by rw[w0];simp[classesB];omega) (by decide)
 by_cases d2:g.kinds<g.kclass.length
 ·simp only[d1,d2,decide_true,decide_false,isB_f,Bool.not_true,Bool.not_false,gd_false,gd_true,vb_some,un1,un2,xPick_t,xPick_f,tt_eq,l6,n6,l1,xGt_i,bite_t];exact bad 1 (by rw[w0];simp[classesB];omega) (by decide)
 cases d3:g.rclass.any badClass with
 |true=>
  rw[d3]at e1;simp only[d1,d2,decide_true,decide_false,isB_f,Bool.not_true,Bool.not_false,gd_false,gd_true,vb_some,un1,un2,xPick_t,xPick_f,tt_eq,l6,n6,l1,l5,xGt_i,e1,xNot_b,bite_t];exact bad 1 (by rw[w0];simp only[classesB,d3];simp) (by decide)
 |false=>
  rw[d3]at e1;cases d4:g.kclass.any badClass with
  |true=>
   rw[d4]at e2;simp only[d1,d2,decide_true,decide_false,isB_f,Bool.not_true,Bool.not_false,gd_false,gd_true,vb_some,un1,un2,xPick_t,xPick_f,tt_eq,l6,n6,l1,l5,xGt_i,e1,e2,xNot_b,bite_t];exact bad 1 (by rw[w0];simp only[classesB,d4];simp) (by decide)
  |false=>
   rw[d4]at e2;have w0:wholeE g=0:=by
    rw[w0];simp only[classesB,d3,d4];have q1:(g.rclass.length:Int)<=g.rules.length:=by omega
    have q2:(g.kclass.length:Int)<=g.kinds:=by omega
    simp[q1,q2]
   simp only[d1,d2,decide_true,decide_false,isB_f,Bool.not_true,Bool.not_false,gd_false,gd_true,vb_some,un1,un2,xPick_t,xPick_f,tt_eq,l6,n6,l1,l5,xGt_i,e1,e2,xNot_b,bite_f,F25_13,vN_eq];have sf: ∀b cs,Sees h b cs->Sees h.fzn b cs:=fun b cs s=>s;exact loop25 hn (h0:=h.fzn) (r.mono sf) hg w0 g.rules.length 0 n h1 (by omega) (by have:=hg.rlen;omega) st (by omega)
theorem c43[OkH h]{g:Gr}{v rv fv cv kv:Value}(hn:9223372036854775808<=n)(r:RdG h v g rv fv cv kv)(hg:GIn g):pcall (F43 n cl v h.fzn)=some (.bool (goodB g)):=by
 refine pcall_of ?_ rfl;unfold F43;rw[r.v];refine Ret.sbox (St.start _) (fun h1 b st=>?_);have:=st.ok;have lw:xLdA 7 (.pointer (some ⟨b,0,none⟩)) h1=some (.agg ⟨gcs g rv fv cv kv⟩):=xLdA_at (st.row (.head _)) rfl (Nat.le_refl _);have sees: ∀b cs,Sees h b cs->Sees h1 b cs:=fun b cs s=>st.sees s;have e:=c25 (n:=n) (cl:=cl) (h:=h1) hn (r.mono sees) hg;rw[r.v]at e;simp only[lw,vb_some,e,xExt_t,List.getElem?_cons_zero,List.getElem?_cons_succ,vN_eq,xEq_i];exact Ret.of rfl
end
section
variable {n:Nat}{cl ih:CL}{h:PH}
theorem sym_neg{nm kn s:Int}(h:isSym nm kn s=true):(s<0/\isName nm s=false)\/(¬ s<0/\isName nm s=true):=by
 unfold isSym isKind isName at*
 by_cases c:s<0
 ·left;refine⟨c,?_⟩;simp;omega
 ·right;refine⟨c,?_⟩;simp[c]at h ⊢;exact h
theorem loop44s{h0:PH}{g:Gr}{rv fv cv kv:Value}{b1 b2 b3 c2:Nat}{k13:Kt}{ru:Rl}{qv more ii:Value}{out:List Int}{Q:Value->PH->Prop}(hq:RdI h0 qv ru.right)(h8:ru.right.length<=8)(hs: ∀s∈ru.right,isSym g.names g.kinds s=true)(ht:TabS g out)
  (hk: ∀h,St h0 h [(b3,[.int .i64 ru.left,qv,.int .i64 ru.dyn]),(b2,iv out),(b1,gcs g rv fv cv kv)]->Ret (F44_10 n cl k13 [.pointer (some ⟨b1,0,none⟩),.slice (some ⟨b2,0,none⟩) g.names.toNat c2,more,ii,.pointer (some ⟨b3,0,none⟩),.int .i64 (longF g out 0 ru.right)] h) Q):
  ∀(k j m:Nat)(acc:Int)(h:PH),j+k=ru.right.length->k<m->(acc= -1/\longF g out 0 ru.right= -1\/0<=acc/\acc<=j*1000000000/\longF g out 0 ru.right=longF g out acc (ru.right.drop j))->St h0 h [(b3,[.int .i64 ru.left,qv,.int .i64 ru.dyn]),(b2,iv out),(b1,gcs g rv fv cv kv)]->
  Ret (lp m (F44_13 n cl k13) [.pointer (some ⟨b1,0,none⟩),.slice (some ⟨b2,0,none⟩) g.names.toNat c2,more,ii,.pointer (some ⟨b3,0,none⟩),.int .i64 acc,.int .i64 j] h) Q:=by
 have un1:isB false undef=false:=rfl;have un2:isB true undef=false:=rfl;intro k
 induction k with
 |zero=>
  intro j m acc h hj hm ha st;obtain⟨m,rfl⟩: ∃q,m=q+1:=⟨m-1,by omega⟩;rw[lp_succ];have q1:xLd (.pointer (some ⟨b3,1,none⟩)) h=some qv:=xLd_at (st.row (.head _)) rfl;have c: ¬((j:Int)<ru.right.length):=by omega
  simp only[F44_13,ucons_cons,F44_12,xFld_p,Nat.zero_add,vb_some,q1,RdS.len hq,xLt_i,c,decide_false,isB_t,gd_false,xPick_f,ff_eq,bite_f,jn_eq,F44_11,vN_eq,xGt_i,show(((1000000000:Nat):Int))=1000000000 from rfl];have hk:=hk h st;rcases ha with⟨rfl,e⟩|⟨h1,h2,e⟩
  ·rw[e]at hk;simp only[show ¬((1000000000:Int)< -1)from by omega,decide_false,bite_f];exact hk
  ·rw[List.drop_of_length_le (by omega)]at e;simp only[longF]at e
   by_cases c3:1000000000<acc
   ·rw[if_pos c3]at e;rw[e]at hk;simp only[c3,decide_true,bite_t];exact hk
   ·rw[if_neg c3]at e;rw[e]at hk;simp only[c3,decide_false,bite_f];exact hk
 |succ k ih'=>
  intro j m acc h hj hm ha st;obtain⟨m,rfl⟩: ∃q,m=q+1:=⟨m-1,by omega⟩;rw[lp_succ];have q1:xLd (.pointer (some ⟨b3,1,none⟩)) h=some qv:=xLd_at (st.row (.head _)) rfl;have c:((j:Int)<ru.right.length):=by omega
  have next: ∀acc:Int,(acc= -1/\longF g out 0 ru.right= -1\/0<=acc/\acc<=((j+1:Nat):Int)*1000000000/\longF g out 0 ru.right=longF g out acc (ru.right.drop (j+1)))->Ret (F44_6 n cl (lp m (F44_13 n cl k13)) [.pointer (some ⟨b1,0,none⟩),.slice (some ⟨b2,0,none⟩) g.names.toNat c2,more,ii,.pointer (some ⟨b3,0,none⟩),.int .i64 acc,.int .i64 j] h) Q:=by
   intro acc ha;simp only[F44_6,ucons_cons,F44_2,vN_eq,xAdd_i,vb_some,show(((1:Nat):Int))=1 from rfl,wrap1 (i:=j) (by omega)];exact ih' (j+1) m acc h (by omega) (by omega) ha st
  simp only[F44_13,ucons_cons,F44_12,xFld_p,Nat.zero_add,vb_some,q1,RdS.len hq,xLt_i,c,decide_true,isB_t,gd_true,vN_eq,xGe_i,xPick_t,show(((0:Nat):Int))=0 from rfl];rcases ha with⟨rfl,e⟩|⟨h1,h2,e⟩
  ·simp only[show ¬((0:Int)<= -1)from by omega,decide_false,bite_f,jn_eq,F44_11,vN_eq,xGt_i,vb_some,show(((1000000000:Nat):Int))=1000000000 from rfl,show ¬((1000000000:Int)< -1)from by omega];have hk:=hk h st;rw[e]at hk;exact hk
  ·simp only[h1,decide_true,bite_t,jn_eq,F44_7,xFld_p,Nat.zero_add,vb_some,q1];refine Ret.idx hq (by omega) c fun b o cs s hsx sq hle hE=>?_;have hsx:ru.right[j]?=some s:=by simpa using hsx
   have ls:xLd (.pointer (some ⟨b,o,none⟩)) h=some (.int .i64 s):=xLdE (st.sees sq) hle hE (j:=0) rfl;rw[drop_at hsx]at e;simp only[ls,vb_some,vN_eq,xLt_i,show(((0:Nat):Int))=0 from rfl];rcases sym_neg (hs s (List.mem_of_getElem? hsx))with⟨c1,c2'⟩|⟨c1,c2'⟩
   ·have ew:IntKind.i64.wrap (acc+1)=acc+1:=wrap_in (by omega) (by omega);simp only[c1,decide_true,bite_t,F44_3,vN_eq,xAdd_i,vb_some,show(((1:Nat):Int))=1 from rfl,ew];refine next (acc+1) (.inr ⟨by omega,by omega,?_⟩);rw[e];simp only[longF,c2',Bool.false_eq_true,if_false]
   ·have hnm:=isName_iff.1 c2';have hlen:=ht.len;have hx:out[s.toNat]?=some (out.getD s.toNat 0):=by rw[List.getD,List.getElem?_eq_getElem (by omega)];rfl
    have hlo:=getD_lo ht (i:=s.toNat);have ia:xIdxS 1 (.slice (some ⟨b2,0,none⟩) g.names.toNat c2) (.int .i64 s)=some (.pointer (some ⟨b2,s.toNat,none⟩)):=by
     rw[xIdxS_at hnm.1 (by omega)];simp
    have lo:xLd (.pointer (some ⟨b2,s.toNat,none⟩)) h=some (.int .i64 (out.getD s.toNat 0)):=xLd_at (st.row (.tail _ (.head _))) (by rw[List.getElem?_map,hx];rfl);simp only[longF,c2',if_true]at e;simp only[c1,decide_false,bite_f,F44_5,xFld_p,Nat.zero_add,vb_some,q1];refine Ret.idx hq (by omega) c fun b4 o4 cs4 s4 hs4 sq4 hle4 hE4=>?_;have e4:s4=s:=by
     have hs4:ru.right[j]?=some s4:=by simpa using hs4
     rw[hsx]at hs4;exact(Option.some.inj hs4).symm
    have ls4:xLd (.pointer (some ⟨b4,o4,none⟩)) h=some (.int .i64 s4):=xLdE (st.sees sq4) hle4 hE4 (j:=0) rfl;rw[e4]at ls4;simp only[ls4,vb_some,ia,lo,vN_eq,xLt_i,show(((0:Nat):Int))=0 from rfl,vM_eq,show Int.negSucc 0= -1 from rfl]
    by_cases c3:out.getD s.toNat 0<0
    ·have c4:out.getD s.toNat 0= -1:=by omega
     rw[if_pos c4]at e;simp only[c3,decide_true,bite_t];exact next (-1) (.inl ⟨rfl,e⟩)
    ·have c4: ¬ out.getD s.toNat 0= -1:=by omega
     rw[if_neg c4]at e;simp only[c3,decide_false,bite_f,F44_4,xFld_p,Nat.zero_add,vb_some,q1];refine Ret.idx hq (by omega) c fun b5 o5 cs5 s5 hs5 sq5 hle5 hE5=>?_;have e5:s5=s:=by
      have hs5:ru.right[j]?=some s5:=by simpa using hs5
      rw[hsx]at hs5;exact(Option.some.inj hs5).symm
     have ls5:xLd (.pointer (some ⟨b5,o5,none⟩)) h=some (.int .i64 s5):=xLdE (st.sees sq5) hle5 hE5 (j:=0) rfl;rw[e5]at ls5;have ew:IntKind.i64.wrap (acc+out.getD s.toNat 0)=acc+out.getD s.toNat 0:=wrap_in (by omega) (by omega);simp only[ls5,vb_some,ia,lo,xAdd_i,ew];exact next _ (.inr ⟨by omega,by omega,e⟩)
end
section
variable {n:Nat}{cl ih:CL}{h:PH}
theorem loop44i{h0:PH}{g:Gr}{v rv fv cv kv:Value}{b1 b2 c2:Nat}{r9:Kt}{Q:Value->PH->Prop}{out0:List Int}(hn:9223372036854775808<=n)(r:RdG h0 v g rv fv cv kv)(hg:GIn g)(hgood:goodB g=true)
  (hk: ∀(h:PH)(out:List Int)(more:Bool),St h0 h [(b2,iv out),(b1,gcs g rv fv cv kv)]->roundS g out0=(out,more)->TabS g out->(more=true->pot out<pot out0)->Ret (r9 [.pointer (some ⟨b1,0,none⟩),.slice (some ⟨b2,0,none⟩) g.names.toNat c2,.bool more] h) Q):
  ∀(k i m:Nat)(out:List Int)(more:Bool)(h:PH),i+k=g.rules.length->k<m->MidS g out0 i out more->St h0 h [(b2,iv out),(b1,gcs g rv fv cv kv)]->
  Ret (lp m (F44_17 n cl r9) [.pointer (some ⟨b1,0,none⟩),.slice (some ⟨b2,0,none⟩) g.names.toNat c2,.bool more,.int .i64 i] h) Q:=by
 have u1:isB false undef=false:=rfl;have u2:isB true undef=false:=rfl;intro k
 induction k with
 |zero=>
  intro i m out more h hi hm md st;obtain⟨m,rfl⟩: ∃q,m=q+1:=⟨m-1,by omega⟩;rw[lp_succ];have l3:xLd (.pointer (some ⟨b1,3,none⟩)) h=some rv:=xLd_at (st.row (.tail _ (.head _))) rfl;have c: ¬((i:Int)<g.rules.length):=by omega
  simp only[F44_17,ucons_cons,F44_16,xFld_p,Nat.zero_add,vb_some,l3,RdS.len r.rules,xLt_i,c,decide_false,bite_f];exact hk h out more st (md.end (by omega)) md.tab md.less
 |succ k ih'=>
  intro i m out more h hi hm md st;obtain⟨m,rfl⟩: ∃q,m=q+1:=⟨m-1,by omega⟩;rw[lp_succ];have hrl:=hg.rlen;have l3:xLd (.pointer (some ⟨b1,3,none⟩)) h=some rv:=xLd_at (st.row (.tail _ (.head _))) rfl;have c:((i:Int)<g.rules.length):=by omega
  simp only[F44_17,ucons_cons,F44_16,xFld_p,Nat.zero_add,vb_some,l3,RdS.len r.rules,xLt_i,c,decide_true,bite_t,jn_eq,F44_15];refine Ret.idx r.rules (by omega) c fun b o cs x hx s hle hE=>?_;have hx:g.rules[i]?=some x:=by simpa using hx
  have hxm:=List.mem_of_getElem? hx;obtain⟨qv,hE,hq⟩:=hE;refine Ret.vb (xLdA_at (st.sees s) hE hle) ?_;refine Ret.salloc st z29 fun h2 b3 st2=>?_;refine Ret.sstA st2 (i:=0) rfl rfl (Nat.le_refl _) (by simp only[oneCells,List.all_cons,List.all_nil,hq.one];rfl) fun h3 st3=>?_;have st3:St h0 h3 [(b3,[.int .i64 x.left,qv,.int .i64 x.dyn]),(b2,iv out),(b1,gcs g rv fv cv kv)]:=st3;obtain⟨gl,gs,g8⟩:=goodB_rule hgood hxm;have hnm:=isName_iff.1 gl;have hlen:=md.tab.len;simp only[vN_eq];refine loop44s (h0:=h0) hq g8 gs md.tab (fun h3 st3=>?_) x.right.length 0 n 0 h3 (by omega) (by omega) (.inr ⟨by omega,by omega,rfl⟩) st3;have q0:xLd (.pointer (some ⟨b3,0,none⟩)) h3=some (.int .i64 x.left):=xLd_at (st3.row (.head _)) rfl;have hs2:Sees h3 b2 (iv out):=st3.row (.tail _ (.head _));have hx1:out[x.left.toNat]?=some (out.getD x.left.toNat 0):=by rw[List.getD,List.getElem?_eq_getElem (by omega)];rfl
  have hlo:=getD_lo md.tab (i:=x.left.toNat);have ia:xIdxS 1 (.slice (some ⟨b2,0,none⟩) g.names.toNat c2) (.int .i64 x.left)=some (.pointer (some ⟨b2,x.left.toNat,none⟩)):=by
   rw[xIdxS_at hnm.1 (by omega)];simp
  have lo:xLd (.pointer (some ⟨b2,x.left.toNat,none⟩)) h3=some (.int .i64 (out.getD x.left.toNat 0)):=xLd_at hs2 (by rw[List.getElem?_map,hx1];rfl);have step: ∀(out':List Int)(more':Bool)(h':PH),MidS g out0 (i+1) out' more'->St h0 h' [(b2,iv out'),(b1,gcs g rv fv cv kv)]->
    Ret (F44_14 n cl (lp m (F44_17 n cl r9)) [.pointer (some ⟨b1,0,none⟩),.slice (some ⟨b2,0,none⟩) g.names.toNat c2,.bool more',.int .i64 i] h') Q:=by
   intro out' more' h' md' st';simp only[F44_14,ucons_cons,F44_1,vN_eq,xAdd_i,vb_some,show(((1:Nat):Int))=1 from rfl,wrap1 (i:=i) (by omega)];exact ih' (i+1) m out' more' h' (by omega) (by omega) md' st'
  have hrange:=longF_range md.tab (fun s hs=>by have:=isName_iff.1 hs;omega) x.right 0 (by omega);have turn: ∀(_:0<=longF g out 0 x.right)(_:out.getD x.left.toNat 0= -1\/longF g out 0 x.right<out.getD x.left.toNat 0),
    Ret (F44_8 n cl (.pointer (some ⟨b3,0,none⟩)) (.slice (some ⟨b2,0,none⟩) g.names.toNat c2) (.int .i64 (longF g out 0 x.right)) (F44_14 n cl (lp m (F44_17 n cl r9))) (.pointer (some ⟨b1,0,none⟩)) (.int .i64 i) h3) Q:=by
   intro t1 t2;simp only[F44_8,xFld_p,Nat.zero_add,vb_some,q0,ia];refine Ret.sst1 st3 (i:=1) (b:=b2) (o:=x.left.toNat) (v:=.int .i64 (longF g out 0 x.right)) rfl (by simp;omega) rfl fun h4 st4=>?_;have st4:St h0 h4 [(b3,[.int .i64 x.left,qv,.int .i64 x.dyn]),(b2,iv (out.set x.left.toNat (longF g out 0 x.right))),(b1,gcs g rv fv cv kv)]:=by
    have e:iv (out.set x.left.toNat (longF g out 0 x.right))=(iv out).set x.left.toNat (.int .i64 (longF g out 0 x.right)):=List.map_set;rw[e];exact st4
   exact step _ true h4 (md.turn hx (by omega) rfl (by omega) (by omega) t2) (st4.drop (.cons _ (List.Sublist.refl _)))
  have keep: ¬(longF g out 0 x.right≠ -1/\(out.getD x.left.toNat 0= -1\/longF g out 0 x.right<out.getD x.left.toNat 0))->Ret (F44_14 n cl (lp m (F44_17 n cl r9)) [.pointer (some ⟨b1,0,none⟩),.slice (some ⟨b2,0,none⟩) g.names.toNat c2,.bool more,.int .i64 i] h3) Q:=
   fun hc=>step out more h3 (md.keep hx hc) (st3.drop (.cons _ (List.Sublist.refl _)))
  simp only[F44_10,ucons_cons,F44_9,vN_eq,xGe_i,vb_some,show(((0:Nat):Int))=0 from rfl,xFld_p,Nat.zero_add]
  by_cases a1:0<=longF g out 0 x.right
  ·by_cases a2:out.getD x.left.toNat 0<0
   ·have a2':out.getD x.left.toNat 0= -1:=by omega
    simp only[a1,a2,decide_true,isB_t,isB_f,gd_true,vb_some,q0,ia,lo,xLt_i,Bool.not_true,gd_false,u1,u2,xPick_t,tt_eq,bite_t];exact turn a1 (.inl a2')
   ·by_cases a3:longF g out 0 x.right<out.getD x.left.toNat 0
    ·simp only[a1,a2,a3,decide_true,decide_false,isB_t,isB_f,gd_true,vb_some,q0,ia,lo,xLt_i,Bool.not_true,Bool.not_false,gd_false,u1,u2,xPick_t,xPick_f,tt_eq,bite_t];exact turn a1 (.inr a3)
    ·simp only[a1,a2,a3,decide_true,decide_false,isB_t,isB_f,gd_true,vb_some,q0,ia,lo,xLt_i,Bool.not_true,Bool.not_false,gd_false,u1,u2,xPick_t,xPick_f,tt_eq,bite_f];exact keep (fun c=>c.2.elim (fun e=>by omega) a3)
  ·simp only[a1,decide_false,isB_t,isB_f,gd_false,vb_some,u1,u2,xPick_f,ff_eq,bite_f];exact keep (fun c=>by omega)
theorem loop44{h0:PH}{g:Gr}{v rv fv cv kv:Value}{b1 b2 c2:Nat}{Q:Value->PH->Prop}(hn:9223372036854775808<=n)(r:RdG h0 v g rv fv cv kv)(hg:GIn g)(hgood:goodB g=true){start:List Int}
  (hk: ∀(h:PH)(out:List Int),St h0 h [(b2,iv out),(b1,gcs g rv fv cv kv)]->Runs g start out->TabS g out->Q (.slice (some ⟨b2,0,none⟩) g.names.toNat c2) h):
  ∀(m:Nat)(out:List Int)(more:Bool)(h:PH),pot out+1<m->(∀res,FinS g more out res->Runs g start res)->TabS g out->St h0 h [(b2,iv out),(b1,gcs g rv fv cv kv)]->
  Ret (lp m (F44_18 n cl) [.pointer (some ⟨b1,0,none⟩),.slice (some ⟨b2,0,none⟩) g.names.toNat c2,.bool more] h) Q:=by
 intro m
 induction m with
 |zero=>intro out more h hm;omega
 |succ m ih'=>
  intro out more h hm hf ht st;rw[lp_succ];cases more with
  |false=>
   simp only[F44_18,ucons_cons,bite_f];exact Ret.of (hk h out st (hf out (by simp[FinS])) ht)
  |true=>
   have hrl:=hg.rlen;simp only[F44_18,ucons_cons,bite_t,ff_eq,vN_eq];refine loop44i (Q:=Q) (r9:=lp m (F44_18 n cl)) (out0:=out) hn r hg hgood (fun h' out' more' st' hr' ht' hp'=>?_) g.rules.length 0 n out false h (by omega) (by omega) (MidS.start ht) st;cases more' with
   |true=>exact ih' out' true h' (by have:=hp' rfl;omega) (fun res hres=>hf res (FinS.next hr' hres)) ht' st'
   |false=>
    cases m with
    |zero=>omega
    |succ m=>
     rw[lp_succ];simp only[F44_18,ucons_cons,bite_f];exact Ret.of (hk h' out' st' (hf out' (FinS.next hr' (by simp[FinS]))) ht')
theorem loop44f{h0:PH}{g:Gr}{b1 b2 c2:Nat}{v rv fv cv kv:Value}{Q:Value->PH->Prop}(hN:1<=g.names/\g.names<=40)
  (hk: ∀h,St h0 h [(b2,iv (List.replicate g.names.toNat (-1))),(b1,gcs g rv fv cv kv)]->Ret (lp n (F44_18 n cl) [.pointer (some ⟨b1,0,none⟩),.slice (some ⟨b2,0,none⟩) g.names.toNat c2,.bool true] h) Q):
  ∀(k i m:Nat)(h:PH),i+k=g.names.toNat->k<m->St h0 h [(b2,iv (List.replicate i (-1)++List.replicate k 0)),(b1,gcs g rv fv cv kv)]->
  Ret (lp m (F44_20 n cl) [.pointer (some ⟨b1,0,none⟩),.slice (some ⟨b2,0,none⟩) g.names.toNat c2,.int .i64 i] h) Q:=by
 intro k
 induction k with
 |zero=>
  intro i m h hi hm st;obtain⟨m,rfl⟩: ∃q,m=q+1:=⟨m-1,by omega⟩;rw[lp_succ];have l0:xLd (.pointer (some ⟨b1,0,none⟩)) h=some (.int .i64 g.names):=xLd_at (st.row (.tail _ (.head _))) rfl;have c: ¬((i:Int)<g.names):=by omega
  have:i=g.names.toNat:=by omega
  simp only[F44_20,ucons_cons,F44_19,xFld_p,Nat.zero_add,vb_some,l0,xLt_i,c,decide_false,bite_f,tt_eq];rw[this]at st;exact hk h (by simpa using st)
 |succ k ih'=>
  intro i m h hi hm st;obtain⟨m,rfl⟩: ∃q,m=q+1:=⟨m-1,by omega⟩;rw[lp_succ];have l0:xLd (.pointer (some ⟨b1,0,none⟩)) h=some (.int .i64 g.names):=xLd_at (st.row (.tail _ (.head _))) rfl;have c:((i:Int)<g.names):=by omega
  simp only[F44_20,ucons_cons,F44_19,xFld_p,Nat.zero_add,vb_some,l0,xLt_i,c,decide_true,bite_t,F44_0,vM_eq];rw[xIdxS_at (by omega) (by omega)];simp only[vb_some,show 0+(i:Int).toNat*1=i from by simp];refine Ret.sst1 st (i:=0) (o:=i) rfl (by simp) rfl fun h2 st2=>?_;simp only[vN_eq,xAdd_i,vb_some,show(((1:Nat):Int))=1 from rfl,wrap1 (i:=i) (by omega)];refine ih' (i+1) m h2 (by omega) (by omega) ?_;have e:iv (List.replicate (i+1) (-1)++List.replicate k 0)=(iv (List.replicate i (-1)++List.replicate (k+1) 0)).set i (.int .i64 (-1)):=by
   rw[<-set_fill];exact List.map_set
  rw[e];exact st2
theorem pot_rep: ∀k:Nat,pot (List.replicate k (-1))=k*1000000001
 |0=>rfl
 |k+1=>by rw[List.replicate_succ];simp only[pot,pot_rep k,if_true];omega
theorem c44[OkH h]{g:Gr}{v rv fv cv kv:Value}(hn:9223372036854775808<=n)(r:RdG h v g rv fv cv kv)(hg:GIn g):
  Ret (F44 n cl v h.fzn) fun v h1=>Kp h.n h.fzn h1/\ShortQ g h h1 v:=by
 unfold F44;rw[r.v];refine Ret.sbox (St.start _) (fun h1 b st=>?_);have:=st.ok;have lw:xLdA 7 (.pointer (some ⟨b,0,none⟩)) h1=some (.agg ⟨gcs g rv fv cv kv⟩):=xLdA_at (st.row (.head _)) rfl (Nat.le_refl _);have sees: ∀b cs,Sees h b cs->Sees h1 b cs:=fun b cs s=>st.sees s;have e:=c43 (n:=n) (cl:=cl) (h:=h1) hn (r.mono sees) hg;rw[r.v]at e;simp only[lw,vb_some,e,xNot_b];cases hgood:goodB g with
 |false=>simp only[Bool.not_false,bite_t];exact Ret.of ⟨st.kp,fun _=>rfl,fun h=>by rw[hgood]at h;cases h⟩
 |true=>
  obtain⟨w1,w2,_⟩:=goodB_whole hgood;have l0:xLd (.pointer (some ⟨b,0,none⟩)) h1=some (.int .i64 g.names):=xLd_at (st.row (.head _)) rfl;simp only[Bool.not_true,bite_f,F44_21,xFld_p,Nat.zero_add,vb_some,l0];refine Ret.smk st zi24 (by omega) (by omega) (by omega) (by omega) fun h2 b2 st2=>?_;simp only[vN_eq];rw[zrows1]at st2;have ht:TabS g (List.replicate g.names.toNat (-1)):=⟨by simp,fun x hx=>by have:=List.eq_of_mem_replicate hx;omega⟩;refine loop44f (g:=g) (h0:=h.fzn) (v:=v) ⟨w1,w2⟩ (fun h3 st3=>?_) g.names.toNat 0 n h2 (by omega) (by omega) (by
   have e:iv (List.replicate 0 (-1)++List.replicate g.names.toNat 0)=List.replicate g.names.toNat (.int .i64 0):=by simp
   rw[e];exact st2)
  have sf: ∀b cs,Sees h b cs->Sees h.fzn b cs:=fun b cs s=>s;refine loop44 (h0:=h.fzn) (start:=List.replicate g.names.toNat (-1)) hn (r.mono sf) hg hgood (fun h4 out st4 hr ht'=>?_) n _ true h3 (by rw[pot_rep];omega) (fun res hres=>hres) ht st3;exact⟨st4.kp,fun h=>(by rw[hgood]at h;cases h),fun _=>⟨out,b2,_,hr,ht',rfl,st4.old _ (.head _),st4.mine _ (.head _)⟩⟩
end
section
variable {n:Nat}{cl ih:CL}{h:PH}
def boolE(x:Bool)(es:List Value):Prop:=es=[.bool x]
theorem loop27{h0:PH}{b3 c3:Nat}{res:List Int}{Q:Value->PH->Prop}(hlen:res.length<=40)(hlo: ∀x∈res, -1<=x)
  (hk: ∀h b,St h0 h [(b,bv (prodL res)),(b3,iv res)]->Q (.slice (some ⟨b,0,none⟩) res.length openCap) h):
  ∀(k i m:Nat)(h:PH)(bw:Nat),i+k=res.length->k<m->0<i->St h0 h [(bw,bv (prodL (res.take i))),(b3,iv res)]->Op h bw 1->
  Ret (lp m (F27_2 n cl) [.slice (some ⟨b3,0,none⟩) res.length c3,.slice (some ⟨bw,0,none⟩) i openCap,.int .i64 i] h) Q:=by
 intro k
 induction k with
 |zero=>
  intro i m h bw hi hm _ st op;obtain⟨m,rfl⟩: ∃q,m=q+1:=⟨m-1,by omega⟩;rw[lp_succ];have c: ¬((i:Int)<res.length):=by omega
  have hi':i=res.length:=by omega
  simp only[F27_2,ucons_cons,F27_1,xLenS_s,xLt_i,c,decide_false,vb_some,bite_f];subst hi';rw[List.take_length]at st;exact Ret.of (hk h bw st)
 |succ k ih'=>
  intro i m h bw hi hm h0i st op;obtain⟨m,rfl⟩: ∃q,m=q+1:=⟨m-1,by omega⟩;rw[lp_succ];have c:((i:Int)<res.length):=by omega
  have hlt:i<res.length:=by omega
  have hx:res[i]?=some res[i]:=List.getElem?_eq_getElem hlt;have hge:decide (0<=res[i])=!decide (res[i]= -1):=by
   have:=hlo _ (List.getElem_mem hlt)
   by_cases e:res[i]= -1
   ·rw[e];rfl
   ·rw[decide_eq_false e,decide_eq_true (by omega)];rfl
  have ld:xLd (.pointer (some ⟨b3,i,none⟩)) h=some (.int .i64 res[i]):=xLd_at (st.row (.tail _ (.head _))) (by rw[List.getElem?_map,hx];rfl);simp only[F27_2,ucons_cons,F27_1,xLenS_s,xLt_i,c,decide_true,vb_some,bite_t,F27_0];rw[xIdxS_at (by omega) c];simp only[vb_some,show 0+(i:Int).toNat*1=i from by simp,ld,vN_eq,xGe_i,show(((0:Nat):Int))=0 from rfl,hge];refine Ret.sbs st bs47 fun h2 bs st2 ok2=>?_;rw[ai47];refine Ret.sapp st2 (i:=1) (o:=0) (n:=1) rfl ⟨by simp;omega,.inr ⟨ok2 _ _ (st.row (.head _)).lt op,Nat.le_refl _,by decide,by simp⟩⟩ (by omega) (ptail_at (st2.mine _ (.head _)) rfl) (by omega) rfl (by omega) fun h3 b' st3 op3 _=>?_;simp only[vN_eq,xAdd_i,vb_some,show(((1:Nat):Int))=1 from rfl,wrap1 (i:=i) (by omega)];refine ih' (i+1) m h3 b' (by omega) (by omega) (by omega) ?_ op3;have e:bv (prodL (res.take (i+1)))=(bv (prodL (res.take i))).drop 0++[.bool !decide (res[i]= -1)]:=by
   rw[List.drop_zero,bv,prodL,List.map_map,take_succ_map hx];simp
  rw[e];exact st3.drop (.cons_cons _ (.cons _ (List.Sublist.refl _)))
theorem c27[OkH h]{g:Gr}{v rv fv cv kv:Value}(hn:9223372036854775808<=n)(r:RdG h v g rv fv cv kv)(hg:GIn g):
  Ret (F27 n cl v h.fzn) fun v h1=>Kp h.n h.fzn h1/\ProdQ g h h1 v:=by
 unfold F27;rw[r.v];refine Ret.sbox (St.start _) (fun h1 b st=>?_);have:=st.ok;have lw:xLdA 7 (.pointer (some ⟨b,0,none⟩)) h1=some (.agg ⟨gcs g rv fv cv kv⟩):=xLdA_at (st.row (.head _)) rfl (Nat.le_refl _);have sees: ∀b cs,Sees h b cs->Sees h1 b cs:=fun b cs s=>st.sees s;have e30:=c43 (n:=n) (cl:=cl) (h:=h1) hn (r.mono sees) hg;rw[r.v]at e30;simp only[lw,vb_some,e30,xNot_b];cases hgood:goodB g with
 |false=>simp only[Bool.not_false,bite_t];exact Ret.of ⟨st.kp,fun _=>rfl,fun h=>by rw[hgood]at h;cases h⟩
 |true=>
  have e:=c44 (n:=n) (cl:=cl) (h:=h1) hn (r.mono sees) hg;rw[r.v]at e;simp only[Bool.not_true,bite_f,F27_3,lw,vb_some];refine Ret.fcall e fun v3 h2 q kp hraw=>?_;obtain⟨w1,w2,_⟩:=goodB_whole hgood;obtain⟨res,b3,c3,hr,ht,rfl,hb,hm⟩:=q.good hgood;have hz:=st.kp.ok.fz;have hlen:=ht.len;have st2:St h.fzn (h1.back h2) [(b3,iv res),(b,gcs g rv fv cv kv)]:=st.push kp (mine_back hm (hraw _) (by show h1.fz<=b3;omega)) hb;have st2:=st2.drop (rows':=[(b3,iv res)]) (.cons_cons _ (.cons _ .slnil));rw[<-hlen];simp only[vN_eq];obtain⟨m,hm'⟩: ∃q,n=q+1:=⟨n-1,by omega⟩;have e: ∀b,lp n b=lp (m+1) b:=fun b=>by rw[hm']
  have c:((((0:Nat):Int))<res.length):=by omega
  have hlt:0<res.length:=by omega
  have hx:res[0]?=some res[0]:=List.getElem?_eq_getElem hlt;have hge:decide (0<=res[0])=!decide (res[0]= -1):=by
   have:=(ht.lo _ (List.getElem_mem hlt)).1
   by_cases e:res[0]= -1
   ·rw[e];rfl
   ·rw[decide_eq_false e,decide_eq_true (by omega)];rfl
  have ld:xLd (.pointer (some ⟨b3,0,none⟩)) (h1.back h2)=some (.int .i64 res[0]):=xLd_at (st2.row (.head _)) (by rw[List.getElem?_map,hx];rfl);rw[e,lp_succ];simp only[F27_2,ucons_cons,F27_1,xLenS_s,xLt_i,c,decide_true,vb_some,bite_t,F27_0];rw[xIdxS_at (by omega) c];simp only[vb_some,show 0+(((0:Nat):Int)).toNat*1=0 from by simp,show 0+(0:Int).toNat*1=0 from rfl,ld,vN_eq,xGe_i,show(((0:Nat):Int))=0 from rfl,hge];refine Ret.sbs st2 bs47 fun h3 bs st3 ok3=>?_;rw[ai47];refine Ret.sapp0 st3 (n:=1) (ptail_at (st3.mine _ (.head _)) rfl) (by omega) rfl (by omega) fun h4 b' st4 op4 _=>?_;have w01:IntKind.i64.wrap ((0:Int)+((1:Nat):Int))=((1:Nat):Int):=wrap1 (i:=0) (by omega);simp only[vN_eq,xAdd_i,vb_some,w01];refine loop27 (h0:=h.fzn) (res:=res) (by omega) (fun x hx=>(ht.lo x hx).1) (fun h5 bw st5=>⟨st5.kp,fun h=>(by rw[hgood]at h;cases h),fun _=>⟨res,bw,_,hr,ht,by rw[hlen],st5.old _ (.head _),st5.mine _ (.head _)⟩⟩) (res.length-1) 1 m h4 b' (by omega) (by omega) (by omega) ?_ op4;have e2:bv (prodL (res.take 1))=[.bool !decide (res[0]= -1)]:=by
   rw[bv,prodL,List.map_map,take_succ_map hx];simp
  rw[e2, <-hge];exact st4.drop (.cons_cons _ (.cons _ (List.Sublist.refl _)))
end
structure Snd(g:Gr)(out:List Bool):Prop where
 len:out.length=g.names.toNat
 sound: ∀s,isName g.names s=true->marked out s->Reach g s
 start:marked out g.start
def ruleDone(g:Gr)(out:List Bool)(r:Rl):Prop:=marked out r.left-> ∀y∈r.right,isName g.names y=true->marked out y
structure MidR(g:Gr)(out0:List Bool)(i:Nat)(out:List Bool)(more:Bool):Prop where
 snd:Snd g out
 same:more=false-> ∀(k:Nat) r,k<i->g.rules[k]?=some r->ruleDone g out r
 less:more=true->out0.count true<out.count true
 le:out0.count true<=out.count true
theorem Snd.mark{g:Gr}{out:List Bool}(q:Snd g out){s:Int}(hs:isName g.names s=true)(hr:Reach g s):Snd g (out.set s.toNat true):=by
 refine⟨by simp[q.len],fun x hx hm=>?_,marked_set q.start⟩
 by_cases e:s.toNat=x.toNat
 ·have:x=s:=by have:=(isName_iff.1 hx).1;have:=(isName_iff.1 hs).1;omega
  rw[this];exact hr
 ·unfold marked at hm;rw[List.getElem?_set_ne e]at hm;exact q.sound x hx hm
theorem Snd.all{g:Gr}{out:List Bool}(q:Snd g out)(hg:goodB g=true)(hd: ∀r∈g.rules,ruleDone g out r){s:Int}(hs:isName g.names s=true)(hr:Reach g s):marked out s:=by
 have key: ∀s,Reach g s->(isName g.names s=true->marked out s):=by
  intro s hr
  induction hr with
  |start=>intro _;exact q.start
  | @step r s hr1 hr2 hr3 hr4 ih=>
   intro _;exact hd r hr1 (ih (goodB_rule hg hr1).1) s hr3 hr4
 exact key s hr hs
section
variable {n:Nat}{cl ih:CL}{h:PH}
theorem loop26s{h0:PH}{g:Gr}{rv fv cv kv:Value}{b1 b2 b3 c2 i:Nat}{r9:Kt}{ru:Rl}{qv:Value}{out0:List Bool}{Q:Value->PH->Prop}(hgood:goodB g=true)(hru:g.rules[i]?=some ru)(hq:RdI h0 qv ru.right)(hi:i<9223372036854775807)
  (hk: ∀h out more,St h0 h [(b2,bv out),(b1,gcs g rv fv cv kv)]->MidR g out0 (i+1) out more->Ret (r9 [.pointer (some ⟨b1,0,none⟩),.slice (some ⟨b2,0,none⟩) g.names.toNat c2,.bool more,.int .i64 ((i+1:Nat):Int)] h) Q):
  ∀(k j m:Nat)(out:List Bool)(more:Bool)(h:PH),j+k=ru.right.length->k<m->St h0 h [(b3,[.int .i64 ru.left,qv,.int .i64 ru.dyn]),(b2,bv out),(b1,gcs g rv fv cv kv)]->MidR g out0 i out more->
   (more=false-> ∀(l:Nat)(y:Int),l<j->ru.right[l]?=some y->isName g.names y=true->marked out y)->
  Ret (lp m (F26_6 n cl r9) [.pointer (some ⟨b1,0,none⟩),.slice (some ⟨b2,0,none⟩) g.names.toNat c2,.bool more,.int .i64 i,.pointer (some ⟨b3,0,none⟩),.int .i64 j] h) Q:=by
 have un1:isB false undef=false:=rfl;have un2:isB true undef=false:=rfl;have hrm:=List.mem_of_getElem? hru;obtain⟨gl,gs,g8⟩:=goodB_rule hgood hrm;have hnl:=isName_iff.1 gl;have fin: ∀(out:List Bool)(more:Bool)(h:PH),St h0 h [(b3,[.int .i64 ru.left,qv,.int .i64 ru.dyn]),(b2,bv out),(b1,gcs g rv fv cv kv)]->MidR g out0 i out more->(more=false->ruleDone g out ru)->
   Ret (F26_4 n cl (.int .i64 i) r9 (.pointer (some ⟨b1,0,none⟩)) (.slice (some ⟨b2,0,none⟩) g.names.toNat c2) (.bool more) h) Q:=by
  intro out more h st md hd;simp only[F26_4,vN_eq,xAdd_i,vb_some,show(((1:Nat):Int))=1 from rfl,wrap1 (i:=i) hi];refine hk h out more (st.drop (.cons _ (List.Sublist.refl _))) ⟨md.snd,fun hm k r hk hr=>?_,md.less,md.le⟩
  by_cases e:k=i
  ·subst e;rw[hru]at hr;cases hr;exact hd hm
  ·exact md.same hm k r (by omega) hr
 intro k
 induction k with
 |zero=>
  intro j m out more h hj hm st md hd;obtain⟨m,rfl⟩: ∃q,m=q+1:=⟨m-1,by omega⟩;rw[lp_succ];have q1:xLd (.pointer (some ⟨b3,1,none⟩)) h=some qv:=xLd_at (st.row (.head _)) rfl;have c: ¬((j:Int)<ru.right.length):=by omega
  simp only[F26_6,ucons_cons,F26_5,xFld_p,Nat.zero_add,vb_some,q1,RdS.len hq,xLt_i,c,decide_false,isB_t,gd_false,xPick_f,ff_eq,bite_f];exact fin out more h st md (fun hm _=>allDone2 (hd hm) (by omega))
 |succ k ih'=>
  intro j m out more h hj hm st md hd;obtain⟨m,rfl⟩: ∃q,m=q+1:=⟨m-1,by omega⟩;rw[lp_succ];have q0:xLd (.pointer (some ⟨b3,0,none⟩)) h=some (.int .i64 ru.left):=xLd_at (st.row (.head _)) rfl;have q1:xLd (.pointer (some ⟨b3,1,none⟩)) h=some qv:=xLd_at (st.row (.head _)) rfl;have c:((j:Int)<ru.right.length):=by omega
  have hlen:=md.snd.len;have hs2:Sees h b2 (bv out):=st.row (.tail _ (.head _));have at2: ∀s:Int,0<=s/\s<g.names->xIdxS 1 (.slice (some ⟨b2,0,none⟩) g.names.toNat c2) (.int .i64 s)=some (.pointer (some ⟨b2,s.toNat,none⟩))/\ ∃x,out[s.toNat]?=some x/\xLd (.pointer (some ⟨b2,s.toNat,none⟩)) h=some (.bool x):=by
   intro s hs;have ho:out[s.toNat]?=some (out[s.toNat]'(by omega)):=List.getElem?_eq_getElem (by omega);exact⟨by rw[xIdxS_at hs.1 (by omega)];simp,_,ho,xLd_at hs2 (by rw[List.getElem?_map,ho];rfl)⟩
  obtain⟨ial,xl,hxl,lol⟩:=at2 _ hnl;simp only[F26_6,ucons_cons,F26_5,xFld_p,Nat.zero_add,vb_some,q1,RdS.len hq,xLt_i,c,decide_true,isB_t,gd_true,q0,ial,lol,xPick_t];cases xl with
  |false=>
   simp only[bite_f];exact fin out more h st md (fun _ hm=>by unfold marked at hm;rw[hxl]at hm;cases hm)
  |true=>
   have next: ∀(out:List Bool)(more:Bool)(h:PH),St h0 h [(b3,[.int .i64 ru.left,qv,.int .i64 ru.dyn]),(b2,bv out),(b1,gcs g rv fv cv kv)]->MidR g out0 i out more->(more=false-> ∀(l:Nat)(y:Int),l<j+1->ru.right[l]?=some y->isName g.names y=true->marked out y)->
     Ret (F26_2 n cl (lp m (F26_6 n cl r9)) [.pointer (some ⟨b1,0,none⟩),.slice (some ⟨b2,0,none⟩) g.names.toNat c2,.bool more,.int .i64 i,.pointer (some ⟨b3,0,none⟩),.int .i64 j] h) Q:=by
    intro out more h st md hd;simp only[F26_2,ucons_cons,F26_0,vN_eq,xAdd_i,vb_some,show(((1:Nat):Int))=1 from rfl,wrap1 (i:=j) (by omega)];exact ih' (j+1) m out more h (by omega) (by omega) st md hd
   simp only[bite_t,jn_eq,F26_3,xFld_p,Nat.zero_add,vb_some,q1];refine Ret.idx hq (by omega) c fun b o cs s hsx sq hle hE=>?_;have hsx:ru.right[j]?=some s:=by simpa using hsx
   have ls:xLd (.pointer (some ⟨b,o,none⟩)) h=some (.int .i64 s):=xLdE (st.sees sq) hle hE (j:=0) rfl;simp only[ls,vb_some,vN_eq,xGe_i,show(((0:Nat):Int))=0 from rfl];rcases sym_neg (gs s (List.mem_of_getElem? hsx))with⟨c1,c2'⟩|⟨c1,c2'⟩
   ·have c1': ¬ 0<=s:=by omega
    simp only[c1',decide_false,isB_t,gd_false,vb_some,xPick_f,ff_eq,bite_f];exact next out more h st md (fun hm=>nextDone2 (hd hm) hsx fun c=>by rw[c2']at c;cases c)
   ·have hnm:=isName_iff.1 c2';have c1':0<=s:=by omega
    obtain⟨ia,xs,hxs,lo⟩:=at2 _ hnm;simp only[c1',decide_true,isB_t,gd_true,vb_some,xFld_p,Nat.zero_add,q1];refine Ret.idx hq (by omega) c fun b4 o4 cs4 s4 hs4 sq4 hle4 hE4=>?_;have e4:s4=s:=by
     have hs4:ru.right[j]?=some s4:=by simpa using hs4
     rw[hsx]at hs4;exact(Option.some.inj hs4).symm
    have ls4:xLd (.pointer (some ⟨b4,o4,none⟩)) h=some (.int .i64 s4):=xLdE (st.sees sq4) hle4 hE4 (j:=0) rfl;rw[e4]at ls4;simp only[ls4,vb_some,ia,lo,xNot_b,xPick_t];cases xs with
    |true=>
     simp only[Bool.not_true,bite_f];exact next out more h st md (fun hm=>nextDone2 (hd hm) hsx fun _=>hxs)
    |false=>
     simp only[Bool.not_false,bite_t,F26_1,xFld_p,Nat.zero_add,vb_some,q1];refine Ret.idx hq (by omega) c fun b5 o5 cs5 s5 hs5 sq5 hle5 hE5=>?_;have e5:s5=s:=by
      have hs5:ru.right[j]?=some s5:=by simpa using hs5
      rw[hsx]at hs5;exact(Option.some.inj hs5).symm
     have ls5:xLd (.pointer (some ⟨b5,o5,none⟩)) h=some (.int .i64 s5):=xLdE (st.sees sq5) hle5 hE5 (j:=0) rfl;rw[e5]at ls5;simp only[ls5,vb_some,ia,tt_eq];refine Ret.sst1 st (i:=1) (o:=s.toNat) rfl (by simp;omega) rfl fun h2 st2=>?_;have hset:bv (out.set s.toNat true)=(bv out).set s.toNat (.bool true):=List.map_set;have st2':St h0 h2 [(b3,[.int .i64 ru.left,qv,.int .i64 ru.dyn]),(b2,bv (out.set s.toNat true)),(b1,gcs g rv fv cv kv)]:=by rw[hset];exact st2
     have hr:Reach g s:=.step hrm (md.snd.sound _ gl hxl) (List.mem_of_getElem? hsx) c2';have hcnt:=count_set out s.toNat hxs;exact next (out.set s.toNat true) true h2 st2' ⟨md.snd.mark c2' hr,fun h=>(by cases h),fun _=>by have:=md.le;omega,by have:=md.le;omega⟩ (fun h=>by cases h)
theorem loop26r{h0:PH}{g:Gr}{v rv fv cv kv:Value}{b1 b2 c2:Nat}{r6:Kt}{out0:List Bool}{Q:Value->PH->Prop}(hn:9223372036854775808<=n)(r:RdG h0 v g rv fv cv kv)(hg:GIn g)(hgood:goodB g=true)
  (hk: ∀h out more,St h0 h [(b2,bv out),(b1,gcs g rv fv cv kv)]->Snd g out->(more=false-> ∀r∈g.rules,ruleDone g out r)->(more=true->out0.count true<out.count true)->Ret (r6 [.pointer (some ⟨b1,0,none⟩),.slice (some ⟨b2,0,none⟩) g.names.toNat c2,.bool more] h) Q):
  ∀(k i m:Nat)(out:List Bool)(more:Bool)(h:PH),i+k=g.rules.length->k<m->St h0 h [(b2,bv out),(b1,gcs g rv fv cv kv)]->MidR g out0 i out more->
  Ret (lp m (F26_9 n cl r6) [.pointer (some ⟨b1,0,none⟩),.slice (some ⟨b2,0,none⟩) g.names.toNat c2,.bool more,.int .i64 i] h) Q:=by
 intro k
 induction k with
 |zero=>
  intro i m out more h hi hm st md;obtain⟨m,rfl⟩: ∃q,m=q+1:=⟨m-1,by omega⟩;rw[lp_succ];have l3:xLd (.pointer (some ⟨b1,3,none⟩)) h=some rv:=xLd_at (st.row (.tail _ (.head _))) rfl;have c: ¬((i:Int)<g.rules.length):=by omega
  simp only[F26_9,ucons_cons,F26_8,xFld_p,Nat.zero_add,vb_some,l3,RdS.len r.rules,xLt_i,c,decide_false,bite_f];refine hk h out more st md.snd (fun hm r hr=>?_) md.less;obtain⟨k,hk⟩:=List.getElem?_of_mem hr;have:=(List.getElem?_eq_some_iff.1 hk).1;exact md.same hm k r (by omega) hk
 |succ k ih'=>
  intro i m out more h hi hm st md;obtain⟨m,rfl⟩: ∃q,m=q+1:=⟨m-1,by omega⟩;rw[lp_succ];have hrl:=hg.rlen;have l3:xLd (.pointer (some ⟨b1,3,none⟩)) h=some rv:=xLd_at (st.row (.tail _ (.head _))) rfl;have c:((i:Int)<g.rules.length):=by omega
  simp only[F26_9,ucons_cons,F26_8,xFld_p,Nat.zero_add,vb_some,l3,RdS.len r.rules,xLt_i,c,decide_true,bite_t,F26_7];refine Ret.idx r.rules (by omega) c fun b o cs x hx s hle hE=>?_;have hx:g.rules[i]?=some x:=by simpa using hx
  have hxm:=List.mem_of_getElem? hx;obtain⟨qv,hE,hq⟩:=hE;refine Ret.vb (xLdA_at (st.sees s) hE hle) ?_;refine Ret.salloc st z29 fun h2 b3 st2=>?_;refine Ret.sstA st2 (i:=0) rfl rfl (Nat.le_refl _) (by simp only[oneCells,List.all_cons,List.all_nil,hq.one];rfl) fun h3 st3=>?_;have st3:St h0 h3 [(b3,[.int .i64 x.left,qv,.int .i64 x.dyn]),(b2,bv out),(b1,gcs g rv fv cv kv)]:=st3;have g8:=(goodB_rule hgood hxm).2.2;simp only[vN_eq];exact loop26s (h0:=h0) (out0:=out0) hgood hx hq (by omega) (fun h' out' more' st' md'=>ih' (i+1) m out' more' h' (by omega) (by omega) st' md') x.right.length 0 n out more h3 (by omega) (by omega) st3 md (fun _ l y hl=>by omega)
theorem loop26{h0:PH}{g:Gr}{v rv fv cv kv:Value}{b1 b2 c2:Nat}{Q:Value->PH->Prop}(hn:9223372036854775808<=n)(r:RdG h0 v g rv fv cv kv)(hg:GIn g)(hgood:goodB g=true)
  (hk: ∀h out,St h0 h [(b2,bv out),(b1,gcs g rv fv cv kv)]->Snd g out->(∀r∈g.rules,ruleDone g out r)->Q (.slice (some ⟨b2,0,none⟩) g.names.toNat c2) h):
  ∀(k m:Nat)(out:List Bool)(h:PH),g.names.toNat<=out.count true+k->k+1<m->St h0 h [(b2,bv out),(b1,gcs g rv fv cv kv)]->Snd g out->
  Ret (lp m (F26_10 n cl) [.pointer (some ⟨b1,0,none⟩),.slice (some ⟨b2,0,none⟩) g.names.toNat c2,.bool true] h) Q:=by
 intro k
 induction k with
 |zero=>
  intro m out h hc hm st sn;obtain⟨m,rfl⟩: ∃q,m=q+2:=⟨m-2,by omega⟩;rw[lp_succ];have hrl:=hg.rlen;simp only[F26_10,ucons_cons,bite_t,ff_eq,vN_eq];refine loop26r (h0:=h0) (out0:=out) hn r hg hgood (fun h' out' more' st' sn' hd hl=>?_) g.rules.length 0 n out false h (by omega) (by omega) st ⟨sn,fun _ k r hk=>by omega,fun h=>(by cases h),Nat.le_refl _⟩;have hb:out'.count true<=g.names.toNat:=by rw[<-sn'.len];exact List.count_le_length
  cases more' with
  |true=>have:=hl rfl;omega
  |false=>
   rw[lp_succ];simp only[F26_10,ucons_cons,bite_f];exact Ret.of (hk h' out' st' sn' (hd rfl))
 |succ k ih'=>
  intro m out h hc hm st sn;obtain⟨m,rfl⟩: ∃q,m=q+2:=⟨m-2,by omega⟩;rw[lp_succ];have hrl:=hg.rlen;simp only[F26_10,ucons_cons,bite_t,ff_eq,vN_eq];refine loop26r (h0:=h0) (out0:=out) hn r hg hgood (fun h' out' more' st' sn' hd hl=>?_) g.rules.length 0 n out false h (by omega) (by omega) st ⟨sn,fun _ k r hk=>by omega,fun h=>(by cases h),Nat.le_refl _⟩;cases more' with
  |true=>exact ih' (m+1) out' h' (by have:=hl rfl;omega) (by omega) st' sn'
  |false=>
   rw[lp_succ];simp only[F26_10,ucons_cons,bite_f];exact Ret.of (hk h' out' st' sn' (hd rfl))
end
section
variable {n:Nat}{cl ih:CL}{h:PH}
theorem c26[OkH h]{g:Gr}{v rv fv cv kv:Value}(hn:9223372036854775808<=n)(r:RdG h v g rv fv cv kv)(hg:GIn g):
  Ret (F26 n cl v h.fzn) fun v h1=>Kp h.n h.fzn h1/\ReachQ g h h1 v:=by
 unfold F26;rw[r.v];refine Ret.sbox (St.start _) (fun h1 b st=>?_);have:=st.ok;have lw:xLdA 7 (.pointer (some ⟨b,0,none⟩)) h1=some (.agg ⟨gcs g rv fv cv kv⟩):=xLdA_at (st.row (.head _)) rfl (Nat.le_refl _);have sees: ∀b cs,Sees h b cs->Sees h1 b cs:=fun b cs s=>st.sees s;have e:=c43 (n:=n) (cl:=cl) (h:=h1) hn (r.mono sees) hg;rw[r.v]at e;simp only[lw,vb_some,e,xNot_b];cases hgood:goodB g with
 |false=>simp only[Bool.not_false,bite_t];exact Ret.of ⟨st.kp,fun _=>rfl,fun h=>by rw[hgood]at h;cases h⟩
 |true=>
  obtain⟨w1,w2,w3,w4,w5,w6,w7⟩:=goodB_whole hgood;have hsn:=isName_iff.1 w7;have l0:xLd (.pointer (some ⟨b,0,none⟩)) h1=some (.int .i64 g.names):=xLd_at (st.row (.head _)) rfl;simp only[Bool.not_true,bite_f,F26_11,xFld_p,Nat.zero_add,vb_some,l0];refine Ret.smk st zi47 (by omega) (by omega) (by omega) (by omega) fun h2 b2 st2=>?_;rw[zrows1]at st2;have l2:xLd (.pointer (some ⟨b,2,none⟩)) h2=some (.int .i64 g.start):=xLd_at (st2.row (.tail _ (.head _))) rfl;simp only[xFld_p,Nat.zero_add,vb_some,l2];rw[xIdxS_at hsn.1 (by omega)];simp only[vb_some,tt_eq,show 0+g.start.toNat*1=g.start.toNat from by omega];refine Ret.sst1 st2 (i:=0) (o:=g.start.toNat) rfl (by simp;omega) rfl fun h3 st3=>?_;have sf: ∀b cs,Sees h b cs->Sees h.fzn b cs:=fun b cs s=>s;have st3':St h.fzn h3 [(b2,bv ((List.replicate g.names.toNat false).set g.start.toNat true)),(b,gcs g rv fv cv kv)]:=by
   have e:bv ((List.replicate g.names.toNat false).set g.start.toNat true)=(List.replicate g.names.toNat (.bool false)).set g.start.toNat (.bool true):=by
    rw[bv,List.map_set,List.map_replicate]
   rw[e];exact st3
  have hlt:g.start.toNat<(List.replicate g.names.toNat false).length:=by simp;omega
  have hback: ∀x,isName g.names x=true->marked ((List.replicate g.names.toNat false).set g.start.toNat true) x->x=g.start:=by
   intro x hx hm;have:=isName_iff.1 hx;unfold marked at hm
   by_cases e:g.start.toNat=x.toNat
   ·omega
   ·rw[List.getElem?_set_ne e,List.getElem?_replicate]at hm
    split at hm<;>simp at hm
  refine loop26 (h0:=h.fzn) hn (r.mono sf) hg hgood (fun h5 out st5 q5 hd=>⟨st5.kp,fun h=>(by rw[hgood]at h;cases h),fun _=>⟨out,b2,_,q5.len,fun s hs=>⟨q5.sound s hs,q5.all hgood hd hs⟩,rfl,st5.old _ (.head _),st5.mine _ (.head _)⟩⟩)
   g.names.toNat n _ h3 (by omega) (by omega) st3' ⟨by simp,fun s hs hm=>by rw[hback s hs hm];exact .start,marked_set_self hlt⟩
def fewB(g:Gr):Bool:=decide (g.rules.length<=70/\g.forbid.length<=250/\g.rclass.length<=100/\g.kclass.length<=100)
theorem c7[OkH h]{g:Gr}{v rv fv cv kv:Value}(r:RdG h v g rv fv cv kv):pcall (F7 n cl v h.fzn)=some (.bool (fewB g)):=by
 have un1:isB false undef=false:=rfl;have un2:isB true undef=false:=rfl;refine pcall_of ?_ rfl;unfold F7;rw[r.v];refine Ret.sbox (St.start _) (fun h1 b st=>?_);have ld: ∀(o:Nat)(u:Value),(gcs g rv fv cv kv)[o]?=some u->xLd (.pointer (some ⟨b,o,none⟩)) h1=some u:=fun o u e=>xLd_at (st.row (.head _)) e;have l3:=ld 3 _ rfl;have l4:=ld 4 _ rfl;have l5:=ld 5 _ rfl;have l6:=ld 6 _ rfl;have n3:=RdS.len r.rules;have n4:=RdS.len r.forbid;have n5:=RdS.len r.rclass;have n6:=RdS.len r.kclass;simp only[xFld_p,Nat.zero_add,vb_some,l3,n3,vN_eq,xLe_i,show(((70:Nat):Int))=70 from rfl,show(((250:Nat):Int))=250 from rfl,show(((100:Nat):Int))=100 from rfl,ff_eq]
 by_cases a1:(g.rules.length:Int)<=70
 ·by_cases a2:(g.forbid.length:Int)<=250
  ·by_cases a3:(g.rclass.length:Int)<=100
   ·by_cases a4:(g.kclass.length:Int)<=100
    ·simp only[a1,a2,a3,a4,decide_true,isB_t,gd_true,vb_some,l4,l5,l6,n4,n5,n6,xLe_i,xPick_t];exact Ret.of (by unfold fewB;rw[decide_eq_true (by omega)])
    ·simp only[a1,a2,a3,a4,decide_true,decide_false,isB_t,gd_true,vb_some,l4,l5,l6,n4,n5,n6,xLe_i,xPick_t];exact Ret.of (by unfold fewB;rw[decide_eq_false (by omega)])
   ·simp only[a1,a2,a3,decide_true,decide_false,isB_t,gd_true,gd_false,vb_some,l4,l5,l6,n4,n5,n6,xLe_i,xPick_t,xPick_f];exact Ret.of (by unfold fewB;rw[decide_eq_false (by omega)])
  ·simp only[a1,a2,decide_true,decide_false,isB_t,gd_true,gd_false,vb_some,l4,l5,l6,n4,n5,n6,xLe_i,xPick_t,xPick_f];exact Ret.of (by unfold fewB;rw[decide_eq_false (by omega)])
 ·simp only[a1,decide_true,decide_false,isB_t,gd_true,gd_false,vb_some,xPick_t,xPick_f];exact Ret.of (by unfold fewB;rw[decide_eq_false (by omega)])
def ReachLs(g:Gr)(l:List Bool):Prop:=(goodB g=false/\l=[])\/(goodB g=true/\l.length=g.names.toNat/\ ∀s,isName g.names s=true->(marked l s↔Reach g s))
def ShortLs(g:Gr)(l:List Int):Prop:=(goodB g=false/\l=[])\/(goodB g=true/\Runs g (List.replicate g.names.toNat (-1)) l/\TabS g l)
theorem ReachLs.eq{g:Gr}{a b:List Bool}(x:ReachLs g a)(y:ReachLs g b):a=b:=by
 rcases x with⟨x1,x2⟩|⟨x1,x2,x3⟩<;>rcases y with⟨y1,y2⟩|⟨y1,y2,y3⟩
 ·rw[x2,y2]
 ·rw[x1]at y1;cases y1
 ·rw[x1]at y1;cases y1
 ·apply List.ext_getElem (x2.trans y2.symm)
  intro i h1 h2;have hn:isName g.names i=true:=isName_iff.2 ⟨by omega,by omega⟩;have:=(x3 i hn).trans (y3 i hn).symm;unfold marked at this;simp only[Int.toNat_natCast,List.getElem?_eq_getElem h1,List.getElem?_eq_getElem h2,Option.some.injEq]at this;exact Bool.eq_iff_iff.2 this
theorem ShortLs.eq{g:Gr}{a b:List Int}(x:ShortLs g a)(y:ShortLs g b):a=b:=by
 rcases x with⟨x1,x2⟩|⟨x1,x2,x3⟩<;>rcases y with⟨y1,y2⟩|⟨y1,y2,y3⟩
 ·rw[x2,y2]
 ·rw[x1]at y1;cases y1
 ·rw[x1]at y1;cases y1
 ·exact x2.det y2
theorem seesOf{h1 hb:PH}{b:Nat}{cs:List Value}(m:Mine h1 b cs)(hr:hb.raw b=h1.raw b):Sees hb b cs:=m.sees.of_raw hr
theorem ReachQ.rd{g:Gr}{h1 hb:PH}{v:Value}(q:ReachQ g h h1 v)(hr: ∀b,hb.raw b=h1.raw b): ∃l,ReachLs g l/\RdS boolE 1 hb v l:=by
 cases hg:goodB g with
 |false=>exact⟨[],.inl ⟨hg,rfl⟩,.inl ⟨rfl,_,_,q.bad hg⟩⟩
 |true=>
  obtain⟨out,b,c,h2,h3,rfl,_,m⟩:=q.good hg;exact⟨out,.inr ⟨hg,h2,h3⟩,by have:=RdS.ofRow (e:=Value.bool) (c:=c) (seesOf m (hr b));rw[h2]at this;exact this⟩
theorem ProdQ.rd{g:Gr}{h1 hb:PH}{v:Value}(q:ProdQ g h h1 v)(hr: ∀b,hb.raw b=h1.raw b): ∃l,ShortLs g l/\RdS boolE 1 hb v (prodL l):=by
 cases hg:goodB g with
 |false=>exact⟨[],.inl ⟨hg,rfl⟩,.inl ⟨rfl,_,_,q.bad hg⟩⟩
 |true=>
  obtain⟨out,b,c,h2,h3,rfl,_,m⟩:=q.good hg;refine⟨out,.inr ⟨hg,h2,h3⟩,?_⟩;have:=RdS.ofRow (e:=Value.bool) (c:=c) (seesOf m (hr b));rw[show(prodL out).length=g.names.toNat from by rw[<-h3.len];simp]at this;exact this
end
abbrev gA:Gr:=⟨1,0,0,[],[],[],[]⟩
abbrev gB:Gr:=⟨1,1,0,[⟨0,[-1, -1],0⟩],[],[],[]⟩
section
variable {n:Nat}{cl ih:CL}{h:PH}
end
section
variable {n:Nat}{cl ih:CL}{h:PH}
end
section
variable {n:Nat}{cl ih:CL}{h:PH}
theorem idx0{b N c:Nat}{s:Int}(h0:0<=s)(h1:s<N):xIdxS 1 (.slice (some ⟨b,0,none⟩) N c) (.int .i64 s)=some (.pointer (some ⟨b,s.toNat,none⟩)):=by
 rw[xIdxS_at h0 h1];simp
end
inductive Nul(g:Gr):Int->Prop
 |mk {r:Rl}:r∈g.rules->(∀s∈r.right,isName g.names s=true)->(∀s∈r.right,Nul g s)->Nul g r.left
def emptyB(g:Gr)(out:List Bool)(l:List Int):Bool:=l.all fun s=>isName g.names s&&out.getD s.toNat false
theorem getDb_of{l:List Bool}{i:Nat}{x:Bool}(h:l[i]?=some x):l.getD i false=x:=by simp[List.getD,h]
section
variable {n:Nat}{cl ih:CL}{h:PH}
theorem loop74{h0:PH}{g:Gr}{rv fv cv kv:Value}{b1:Nat}{nv qv:Value}{out:List Bool}{q:List Int}(hl:RdS boolE 1 h0 nv out)(hq:RdI h0 qv q)(hlen:out.length=g.names.toNat)(h8:q.length<9223372036854775808):
  ∀(k i m:Nat)(h:PH),i+k=q.length->k<m->emptyB g out (q.take i)=true->St h0 h [(b1,gcs g rv fv cv kv)]->
  Ret (lp m (F74_3 n cl) [nv,.pointer (some ⟨b1,0,none⟩),qv,.int .i64 q.length,.int .i64 i] h) fun u _=>u= .bool (emptyB g out q):=by
 have un1:isB false undef=false:=rfl;have un2:isB true undef=false:=rfl;intro k
 induction k with
 |zero=>
  intro i m h hi hm he st;obtain⟨m,rfl⟩: ∃q,m=q+1:=⟨m-1,by omega⟩;rw[lp_succ];have c: ¬((i:Int)<q.length):=by omega
  rw[List.take_of_length_le (by omega)]at he;simp only[F74_3,ucons_cons,F74_2,xLt_i,c,decide_false,vb_some,bite_f,tt_eq];exact Ret.of (by rw[he])
 |succ k ih'=>
  intro i m h hi hm he st;obtain⟨m,rfl⟩: ∃q,m=q+1:=⟨m-1,by omega⟩;rw[lp_succ];have c:((i:Int)<q.length):=by omega
  have:=st.ok;have lw:xLdA 7 (.pointer (some ⟨b1,0,none⟩)) h=some (.agg ⟨gcs g rv fv cv kv⟩):=xLdA_at (st.row (.head _)) rfl (Nat.le_refl _);simp only[F74_3,ucons_cons,F74_2,xLt_i,c,decide_true,vb_some,bite_t,F74_1];refine Ret.idx hq (by omega) c fun b o cs x hx s hle hE=>?_;have hx:q[i]?=some x:=by simpa using hx
  have lx:xLd (.pointer (some ⟨b,o,none⟩)) h=some (.int .i64 x):=xLdE (st.sees s) hle hE (j:=0) rfl;have no:(isName g.names x&&out.getD x.toNat false)=false->Ret (some (ff,h)) fun u (_:PH)=>u= .bool (emptyB g out q):=by
   intro hb;have:emptyB g out q=false:=by
    unfold emptyB;rw[List.all_eq_false];exact⟨x,List.mem_of_getElem? hx,by rw[hb];simp⟩
   exact Ret.of (by rw[this];rfl)
  simp only[lx,vb_some,lw,c52,xNot_b];cases hn:isName g.names x with
  |false=>
   simp only[Bool.not_false,isB_f,Bool.not_true,gd_false,vb_some,un1,un2,xPick_t,tt_eq,bite_t];exact no (by rw[hn];rfl)
  |true=>
   have hnm:=isName_iff.1 hn;simp only[Bool.not_true,isB_f,Bool.not_false,gd_true,vb_some];refine Ret.idx hl (by omega) (by omega) fun b2 o2 cs2 y hy s2 hle2 hE2=>?_;have ly:xLd (.pointer (some ⟨b2,o2,none⟩)) h=some (.bool y):=xLdE (st.sees s2) hle2 hE2 (j:=0) rfl;simp only[ly,vb_some,xNot_b,xPick_f];cases y with
   |false=>
    simp only[Bool.not_false,bite_t];exact no (by rw[hn,getDb_of hy];rfl)
   |true=>
    simp only[Bool.not_true,bite_f,F74_0,vN_eq,xAdd_i,vb_some,show(((1:Nat):Int))=1 from rfl,wrap1 (i:=i) (by omega)];refine ih' (i+1) m h (by omega) (by omega) ?_ st;unfold emptyB at he ⊢;rw[List.take_add_one,hx,List.all_append,he,Bool.true_and]
    show((isName g.names x&&out.getD x.toNat false)&&true)=true
    rw[hn,getDb_of hy];rfl
theorem c74[OkH h]{g:Gr}{rv fv cv kv nv qv:Value}{out:List Bool}{q:List Int}(hn:9223372036854775808<=n)(hl:RdS boolE 1 h nv out)(hq:RdI h qv q)(hlen:out.length=g.names.toNat)(h8:q.length<9223372036854775808):
  pcall (F74 n cl (.agg ⟨gcs g rv fv cv kv⟩) nv qv h.fzn)=some (.bool (emptyB g out q)):=by
 refine pcall_of ?_ rfl;unfold F74;refine Ret.sbox (St.start _) (fun h1 b1 st=>?_);refine Ret.vb (RdS.len hq) ?_;exact loop74 (h0:=h.fzn) (hl.mono (fun _ _ s=>s) fun _ _ _ e=>e) (hq.mono fun _ _ s=>s) hlen h8 q.length 0 n h1 (by omega) (by omega) rfl st
end
structure SndN(g:Gr)(out:List Bool):Prop where
 len:out.length=g.names.toNat
 sound: ∀s,isName g.names s=true->marked out s->Nul g s
def nulDone(g:Gr)(out:List Bool)(r:Rl):Prop:=emptyB g out r.right=true->marked out r.left
theorem emptyB_iff{g:Gr}{out:List Bool}{l:List Int}:emptyB g out l=true↔ ∀s∈l,isName g.names s=true/\marked out s:=by
 unfold emptyB marked;rw[List.all_eq_true];constructor
 ·intro h s hs;have:=h s hs;rw[Bool.and_eq_true]at this;refine⟨this.1,?_⟩;have h2:=this.2;cases hq:out[s.toNat]? with
  |none=>simp[List.getD,hq]at h2
  |some b=>simp[List.getD,hq]at h2;rw[h2]
 ·intro h s hs;obtain⟨h1,h2⟩:=h s hs;rw[h1,getDb_of h2];rfl
theorem SndN.mark{g:Gr}{out:List Bool}(q:SndN g out){r:Rl}(hr:r∈g.rules)(hl:isName g.names r.left=true)(he:emptyB g out r.right=true):SndN g (out.set r.left.toNat true):=by
 refine⟨by simp[q.len],fun x hx hm=>?_⟩;have he:=emptyB_iff.1 he
 by_cases e:r.left.toNat=x.toNat
 ·have:x=r.left:=by have:=(isName_iff.1 hx).1;have:=(isName_iff.1 hl).1;omega
  rw[this];exact .mk hr (fun s hs=>(he s hs).1) fun s hs=>q.sound s (he s hs).1 (he s hs).2
 ·unfold marked at hm;rw[List.getElem?_set_ne e]at hm;exact q.sound x hx hm
theorem SndN.all{g:Gr}{out:List Bool}(hd: ∀r∈g.rules,nulDone g out r){s:Int}(h:Nul g s):marked out s:=by
 induction h with
 | @mk r hr h1 h2 ih=>exact hd r hr (emptyB_iff.2 fun s hs=>⟨h1 s hs,ih s hs⟩)
structure MidN(g:Gr)(out0:List Bool)(i:Nat)(out:List Bool)(more:Bool):Prop where
 snd:SndN g out
 same:more=false-> ∀(k:Nat) r,k<i->g.rules[k]?=some r->nulDone g out r
 less:more=true->out0.count true<out.count true
 le:out0.count true<=out.count true
section
variable {n:Nat}{cl ih:CL}{h:PH}
theorem loop50i{h0:PH}{g:Gr}{v rv fv cv kv:Value}{b1 b2 c2:Nat}{r3:Kt}{out0:List Bool}{Q:Value->PH->Prop}(hn:9223372036854775808<=n)(r:RdG h0 v g rv fv cv kv)(hg:GIn g)(hgood:goodB g=true)
  (hk: ∀h out more,St h0 h [(b2,bv out),(b1,gcs g rv fv cv kv)]->SndN g out->(more=false-> ∀r∈g.rules,nulDone g out r)->(more=true->out0.count true<out.count true)->Ret (r3 [.pointer (some ⟨b1,0,none⟩),.slice (some ⟨b2,0,none⟩) g.names.toNat c2,.bool more] h) Q):
  ∀(k i m:Nat)(out:List Bool)(more:Bool)(h:PH),i+k=g.rules.length->k<m->St h0 h [(b2,bv out),(b1,gcs g rv fv cv kv)]->MidN g out0 i out more->
  Ret (lp m (F50_5 n cl r3) [.pointer (some ⟨b1,0,none⟩),.slice (some ⟨b2,0,none⟩) g.names.toNat c2,.bool more,rv,.int .i64 g.rules.length,.int .i64 i] h) Q:=by
 intro k
 induction k with
 |zero=>
  intro i m out more h hi hm st md;obtain⟨m,rfl⟩: ∃q,m=q+1:=⟨m-1,by omega⟩;rw[lp_succ];have c: ¬((i:Int)<g.rules.length):=by omega
  simp only[F50_5,ucons_cons,F50_4,xLt_i,c,decide_false,vb_some,bite_f];refine hk h out more st md.snd (fun hm r hr=>?_) md.less;obtain⟨k,hk⟩:=List.getElem?_of_mem hr;have:=(List.getElem?_eq_some_iff.1 hk).1;exact md.same hm k r (by omega) hk
 |succ k ih'=>
  intro i m out more h hi hm st md;obtain⟨m,rfl⟩: ∃q,m=q+1:=⟨m-1,by omega⟩;rw[lp_succ];have hrl:=hg.rlen;have c:((i:Int)<g.rules.length):=by omega
  simp only[F50_5,ucons_cons,F50_4,xLt_i,c,decide_true,vb_some,bite_t,jn_eq,F50_3];refine Ret.idx r.rules (by omega) c fun b o cs x hx s hle hE=>?_;have hx:g.rules[i]?=some x:=by simpa using hx
  have hxm:=List.mem_of_getElem? hx;obtain⟨qv,hE,hq⟩:=hE;refine Ret.vb (xLdA_at (st.sees s) hE hle) ?_;refine Ret.salloc st z29 fun h2 b3 st2=>?_;refine Ret.sstA st2 (i:=0) rfl rfl (Nat.le_refl _) (by simp only[oneCells,List.all_cons,List.all_nil,hq.one];rfl) fun h3 st3=>?_;have st3:St h0 h3 [(b3,[.int .i64 x.left,qv,.int .i64 x.dyn]),(b2,bv out),(b1,gcs g rv fv cv kv)]:=st3;have:=st3.ok;obtain⟨gl,gs,g8⟩:=goodB_rule hgood hxm;have hnm:=isName_iff.1 gl;have hlen:=md.snd.len;have q0:xLd (.pointer (some ⟨b3,0,none⟩)) h3=some (.int .i64 x.left):=xLd_at (st3.row (.head _)) rfl;have q1:xLd (.pointer (some ⟨b3,1,none⟩)) h3=some qv:=xLd_at (st3.row (.head _)) rfl;have lw:xLdA 7 (.pointer (some ⟨b1,0,none⟩)) h3=some (.agg ⟨gcs g rv fv cv kv⟩):=xLdA_at (st3.row (.tail _ (.tail _ (.head _)))) rfl (Nat.le_refl _);have hs2:Sees h3 b2 (bv out):=st3.row (.tail _ (.head _));have ia:xIdxS 1 (.slice (some ⟨b2,0,none⟩) g.names.toNat c2) (.int .i64 x.left)=some (.pointer (some ⟨b2,x.left.toNat,none⟩)):=idx0 hnm.1 (by omega);have ho:out[x.left.toNat]?=some (out[x.left.toNat]'(by omega)):=List.getElem?_eq_getElem (by omega);generalize out[x.left.toNat]'(by omega)=old at ho;have lo:xLd (.pointer (some ⟨b2,x.left.toNat,none⟩)) h3=some (.bool old):=xLd_at hs2 (by rw[List.getElem?_map,ho];rfl);have hnv:RdS boolE 1 h3 (.slice (some ⟨b2,0,none⟩) g.names.toNat c2) out:=by
   have:=RdS.ofRow (e:=Value.bool) (c:=c2) hs2;rw[hlen]at this;exact this
  have e48:=c74 (n:=n) (cl:=cl) (g:=g) (rv:=rv) (fv:=fv) (cv:=cv) (kv:=kv) hn hnv (hq.mono fun _ _ s=>st3.sees s) hlen (by omega);have next: ∀(out:List Bool)(more:Bool)(h:PH),St h0 h [(b2,bv out),(b1,gcs g rv fv cv kv)]->MidN g out0 i out more->(more=false->nulDone g out x)->
    Ret (F50_2 n cl (lp m (F50_5 n cl r3)) [.pointer (some ⟨b1,0,none⟩),.slice (some ⟨b2,0,none⟩) g.names.toNat c2,.bool more,rv,.int .i64 g.rules.length,.int .i64 i] h) Q:=by
   intro out more h st md hd;simp only[F50_2,ucons_cons,F50_0,vN_eq,xAdd_i,vb_some,show(((1:Nat):Int))=1 from rfl,wrap1 (i:=i) (by omega)];refine ih' (i+1) m out more h (by omega) (by omega) st ⟨md.snd,fun hm k q hk hq=>?_,md.less,md.le⟩
   by_cases e:k=i
   ·subst e;rw[hx]at hq;cases hq;exact hd hm
   ·exact md.same hm k q (by omega) hq
  have st3d:=st3.drop (rows':=[(b2,bv out),(b1,gcs g rv fv cv kv)]) (.cons _ (List.Sublist.refl _));simp only[xFld_p,Nat.zero_add,vb_some,q0,ia,lo,xNot_b];cases old with
  |true=>
   simp only[Bool.not_true,isB_t,gd_false,vb_some,xPick_f,ff_eq,bite_f];exact next out more h3 st3d md (fun _ _=>ho)
  |false=>
   simp only[Bool.not_false,isB_t,gd_true,vb_some,lw,q1,e48,xPick_t];cases he:emptyB g out x.right with
   |false=>
    simp only[bite_f];exact next out more h3 st3d md (fun _ h=>by rw[he]at h;cases h)
   |true=>
    simp only[bite_t,F50_1,xFld_p,Nat.zero_add,vb_some,q0,ia,tt_eq];refine Ret.sst1 st3 (i:=1) (o:=x.left.toNat) rfl (by simp;omega) rfl fun h4 st4=>?_;have hset:bv (out.set x.left.toNat true)=(bv out).set x.left.toNat (.bool true):=List.map_set;have st4:St h0 h4 [(b3,[.int .i64 x.left,qv,.int .i64 x.dyn]),(b2,bv (out.set x.left.toNat true)),(b1,gcs g rv fv cv kv)]:=by rw[hset];exact st4
    have hcnt:=count_set out x.left.toNat ho;exact next _ true h4 (st4.drop (.cons _ (List.Sublist.refl _))) ⟨md.snd.mark hxm gl he,fun h=>(by cases h),fun _=>by have:=md.le;omega,by have:=md.le;omega⟩ (fun h=>by cases h)
end
end Go.Am
