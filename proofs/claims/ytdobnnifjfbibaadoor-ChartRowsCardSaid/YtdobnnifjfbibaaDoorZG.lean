import Derived.Test.YtdobnnifjfbibaaDoorZE
set_option linter.unusedSimpArgs false
set_option linter.unusedVariables false
namespace Go.Am
open Go Go.RowKit Go.Proofs
def SlE(V:Vw)(sz:Nat)(v:Value)(k:Nat)(cells:List Value):Prop:=(k=0/\cells=[]/\Emp v)\/ ∃b o c cs,v= .slice (some ⟨b,o,none⟩) k c/\V b=some cs/\o+k*sz<=cs.length/\cells=(cs.drop o).take (k*sz)
theorem SlE.length{V:Vw}{sz:Nat}{v:Value}{k:Nat}{cells:List Value}(r:SlE V sz v k cells):cells.length=k*sz:=by
 rcases r with⟨rfl,rfl,_⟩|⟨b,o,c,cs,rfl,h2,h3,rfl⟩
 ·simp
 ·rw[List.length_take,List.length_drop];omega
theorem RdV.slE{α:Type}{R:Rdr α}{V:Vw}{v:Value}{l:List α}(r:RdV R V v l)(he:l=[]->Emp v): ∃cells,SlE V R.sz v l.length cells/\ ∀(i:Nat) x,l[i]?=some x->R.E V x ((cells.drop (i*R.sz)).take R.sz):=by
 by_cases hl:l=[]
 ·subst hl;exact⟨[],.inl ⟨rfl,rfl,he rfl⟩,fun i x hx=>by simp at hx⟩
 ·rcases r with⟨h,_⟩|⟨b,o,c,cs,rfl,h1,h2⟩
  ·exact absurd h hl
  ·have hpos:0<l.length:=List.length_pos_iff.2 hl;have hlast:=(h2 (l.length-1) _ (List.getElem?_eq_getElem (by omega))).1;have hk:o+l.length*R.sz<=cs.length:=by
    have e:l.length*R.sz=(l.length-1)*R.sz+R.sz:=by
     rw[<-Nat.succ_mul];congr 1;omega
    omega
   refine⟨(cs.drop o).take (l.length*R.sz),.inr ⟨b,o,c,cs,rfl,h1,hk,rfl⟩,fun i x hx=>?_⟩;have hi:=(List.getElem?_eq_some_iff.1 hx).1;have h3:=(h2 i x hx).2;rw[List.drop_take,List.take_take,List.drop_drop];have e:min R.sz (l.length*R.sz-i*R.sz)=R.sz:=by
    have:(i+1)*R.sz<=l.length*R.sz:=Nat.mul_le_mul_right _ hi;rw[Nat.succ_mul]at this;omega
   rw[e];exact h3
theorem RdV.ones{α:Type}{R:Rdr α}{V:Vw}: ∀{l:List α}{cells:List Value},cells.length=l.length*R.sz->(∀(i:Nat) x,l[i]?=some x->R.E V x ((cells.drop (i*R.sz)).take R.sz))->oneCells cells=true
 | [],cells,h,_=>by
  have:cells=[]:=List.length_eq_zero_iff.1 (by simpa using h);rw[this];rfl
 |x::l,cells,h,hE=>by
  have h0:=R.one (hE 0 x rfl);rw[Nat.zero_mul,List.drop_zero]at h0;have hrec:=RdV.ones (R:=R) (V:=V) (l:=l) (cells:=cells.drop R.sz) (by rw[List.length_drop,h,List.length_cons,Nat.succ_mul];omega) fun i y hy=>by
   have:=hE (i+1) y (by simpa using hy);rw[Nat.succ_mul,Nat.add_comm]at this;rw[List.drop_drop];exact this
  have e:cells=cells.take R.sz++cells.drop R.sz:=(List.take_append_drop _ _).symm;unfold oneCells at*;rw[e,List.all_append,h0,hrec];rfl
section
variable {Q:Value->PH->Prop}{n:Nat}{cl ih:CL}{h h0:PH}{S:Vw}{m:OM}{rows rest:Rws}{K2:Value->PH->R}
theorem SlE.tail(st:Sl h0 h S m rows){sz:Nat}{v:Value}{k:Nat}{cells:List Value}(r:SlE S sz v k cells):Go.Am.ptail sz v h=some (k,cells):=by
 rcases r with⟨rfl,rfl,a,c,rfl⟩|⟨b,o,c,cs,rfl,h2,h3,rfl⟩
 ·cases a with
  |none=>rfl
  |some b=>
   show(match h.raw b with
    |some (.row _ _ cs)=>tkA (Nat.mul 0 sz) (cs.drop 0) [] fun l=>match Nat.ble (Nat.add 0 (Nat.mul 0 sz)) cs.length with
     |true=>some (0,l)
     |false=>none
    |_=>match Nat.beq 0 0 with
     |true=>some (0,[])
     |false=>none)=some (0,[])
   have e:Nat.mul 0 sz=0:=Nat.zero_mul sz;rw[e];cases hq:h.raw b with
   |none=>rfl
   |some ob=>cases ob<;>rfl
 ·exact st.sm.ptailS h2 h3
def CloneP(sz k:Nat)(cells:List Value)(v:Value)(ex:Rws):Prop:=(k=0/\cells=[]/\v=nils/\ex=[])\/ ∃b md c,mro md=false/\v= .slice (some ⟨b,0,none⟩) k c/\ex=[(b,.row md sz cells)]
theorem Ret.lclone(st:Sl h0 h S m rows){sz bt k:Nat}{row:Option (Nat×List Value)}{ai:Option (Nat×Nat)}{v:Value}{cells:List Value}(r:SlE S sz v k cells)(e:row=some (sz,[]))(ea:ai=some (sz,bt))(hone:oneCells cells=true)(hsz:(2*(0+k)+512)*bt<=281474976710656)
  (hk: ∀h' v' ex,CloneP sz k cells v' ex->Sl h0 h' S m (ex++rows)->Ret (K2 v' h') Q):Ret (Go.Am.hb (xBS 0 row h) fun b h=>Go.Am.hb (xApp ai b v h) K2) Q:=by
 subst ea;refine Ret.lbs st e fun h1 b st1=>?_;have hp:=r.tail st1
 by_cases hk0:k=0
 ·subst hk0;have hc:cells=[]:=List.length_eq_zero_iff.1 (by rw[r.length,Nat.zero_mul]);subst hc;have ok:=st1.ok;rw[xApp_0 hp (Nat.le_refl _)];exact hk h1 _ _ (.inr ⟨b,.own,0,rfl,rfl,rfl⟩) st1
 ·refine Ret.lappF (o:=0) (k:=0) st1 (st1.mem (.head _)) (by simp) (by decide) hp (by omega) hone hsz fun h2 b2 st2=>?_;have st3:Sl h0 h2 S m ((b2,.row .opn sz cells)::rows):=by
   have:=st2.drop (rows':=(b2,.row .opn sz ((([]:List Value).drop 0).take (0*sz)++cells))::rows) (.cons_cons _ (List.sublist_cons_self _ _));simpa using this
  have e0:0+k=k:=Nat.zero_add k;rw[e0];exact hk h2 _ _ (.inr ⟨b2,.opn,openCap,rfl,rfl,rfl⟩) st3
theorem fr_clone[OkH h](hS:Vw.le S h.cells){T:TypeId}{o1 o2:Operand}{sz bt k:Nat}{row:Option (Nat×List Value)}{ai:Option (Nat×Nat)}{v:Value}{cells:List Value}(r:SlE S sz v k cells)(e:row=some (sz,[]))(ea:ai=some (sz,bt))(hone:oneCells cells=true)(hsz:(2*(0+k)+512)*bt<=281474976710656)
  (hn1: ∀c,abin Tryd.prog .eql T o1 o2 (.slice none 0 c) nils=some (.bool true)) (hn2: ∀b o k c,abin Tryd.prog .eql T o1 o2 (.slice (some ⟨b,o,none⟩) k c) nils=some (.bool false)):
  Fr h.fzn S (vb (abin Tryd.prog .eql T o1 o2 v nils) fun b=>bite b (some (nils,h.fzn)) (Go.Am.hb (xBS 0 row h.fzn) fun b h=>Go.Am.hb (xApp ai b v h) fun c h=>some (c,h))) (CloneP sz k cells):=by
 have st:Sl h.fzn h.fzn S OM.emp []:=Sl.start h.fzn (fun b cs e=>hS b cs e);have go:Fr h.fzn S (Go.Am.hb (xBS 0 row h.fzn) fun b h=>Go.Am.hb (xApp ai b v h) fun c h=>some (c,h)) (CloneP sz k cells):=by
  unfold Fr;refine Ret.lclone st r e ea hone hsz fun h' v' ex p st'=>?_;rw[List.append_nil]at st';exact Fr.ret st' p
 rcases r with⟨rfl,rfl,a,c,rfl⟩|⟨b,o,c,cs,rfl,h2,h3,rfl⟩
 ·cases a with
  |none=>
   show Fr h.fzn S (vb (abin Tryd.prog .eql T o1 o2 (.slice none 0 c) nils) _) _
   rw[hn1];exact Fr.ret st (.inl ⟨rfl,rfl,rfl,rfl⟩)
  |some b=>
   show Fr h.fzn S (vb (abin Tryd.prog .eql T o1 o2 (.slice (some ⟨b,0,none⟩) 0 c) nils) _) _
   rw[hn2];exact go
 ·rw[hn2];exact go
theorem nl24a{c:Nat}:abin Tryd.prog .eql 24 (Operand.tmp 3) (Operand.const (Value.slice none 0 0)) (.slice none 0 c) nils=some (.bool true):=by kernel_rfl
theorem nl24b{b o k c:Nat}:abin Tryd.prog .eql 24 (Operand.tmp 3) (Operand.const (Value.slice none 0 0)) (.slice (some ⟨b,o,none⟩) k c) nils=some (.bool false):=by kernel_rfl
theorem nl22a{c:Nat}:abin Tryd.prog .eql 22 (Operand.tmp 3) (Operand.const (Value.slice none 0 0)) (.slice none 0 c) nils=some (.bool true):=by kernel_rfl
theorem nl22b{b o k c:Nat}:abin Tryd.prog .eql 22 (Operand.tmp 3) (Operand.const (Value.slice none 0 0)) (.slice (some ⟨b,o,none⟩) k c) nils=some (.bool false):=by kernel_rfl
theorem nl23a{c:Nat}:abin Tryd.prog .eql 23 (Operand.tmp 3) (Operand.const (Value.slice none 0 0)) (.slice none 0 c) nils=some (.bool true):=by kernel_rfl
theorem nl23b{b o k c:Nat}:abin Tryd.prog .eql 23 (Operand.tmp 3) (Operand.const (Value.slice none 0 0)) (.slice (some ⟨b,o,none⟩) k c) nils=some (.bool false):=by kernel_rfl
theorem bs24z:bsRow Tryd.prog 24 0 []=some (1,[]):=by kernel_rfl
theorem bs22z:bsRow Tryd.prog 22 0 []=some (3,[]):=by kernel_rfl
theorem bs23z:bsRow Tryd.prog 23 0 []=some (3,[]):=by kernel_rfl
theorem ai23:appInfo Tryd.prog #[23,23]=some (3,24):=by kernel_rfl
theorem c24[OkH h](hS:Vw.le S h.cells){k:Nat}{v:Value}{cells:List Value}(r:SlE S 1 v k cells)(hone:oneCells cells=true)(hk:k<=1000000):Fr h.fzn S (F24 n cl v h.fzn) (CloneP 1 k cells):=by
 unfold F24 F24_0;exact fr_clone hS r bs24z ai24 hone (by omega) (fun _=>nl24a) fun _ _ _ _=>nl24b
theorem c40[OkH h](hS:Vw.le S h.cells){k:Nat}{v:Value}{cells:List Value}(r:SlE S 3 v k cells)(hone:oneCells cells=true)(hk:k<=1000000):Fr h.fzn S (F40 n cl v h.fzn) (CloneP 3 k cells):=by
 unfold F40 F40_0;exact fr_clone hS r bs22z ai22 hone (by omega) (fun _=>nl22a) fun _ _ _ _=>nl22b
theorem c41[OkH h](hS:Vw.le S h.cells){k:Nat}{v:Value}{cells:List Value}(r:SlE S 3 v k cells)(hone:oneCells cells=true)(hk:k<=1000000):Fr h.fzn S (F41 n cl v h.fzn) (CloneP 3 k cells):=by
 unfold F41 F41_0;exact fr_clone hS r bs23z ai23 hone (by omega) (fun _=>nl23a) fun _ _ _ _=>nl23b
end
theorem Emp.veq{v:Value}(e:Emp v):veq v v=true:=by
 obtain⟨a,c,rfl⟩:=e;cases a with
 |none=>
  show Go.Am.veq (.slice none 0 c) (.slice none 0 c)=true
  unfold Go.Am.veq veq1;simp only[Nat.beq_refl]
  rfl
 |some b=>exact veq_sl
theorem RdV.veq{α:Type}{R:Rdr α}{V:Vw}{v:Value}{l:List α}(r:RdV R V v l)(he:l=[]->Emp v):Go.Am.veq v v=true:=by
 by_cases h:l=[]
 ·exact(he h).veq
 ·rcases r with⟨h',_⟩|⟨b,o,c,cs,rfl,_⟩
  ·exact absurd h' h
  ·exact veq_sl
theorem rRule_E{V:Vw}{r:Rl}{es:List Value}:rRule.E V r es↔ ∃w,es=[.int .i64 r.left,w,.int .i64 r.dyn]/\RdV (rI .i64) V w r.right/\(r.right=[]->Emp w):=by
 constructor
 ·rintro⟨a1,_,rfl,b1,a2,a3,rfl,⟨w,b2,r2,m2⟩,b3⟩;have b1:a1=[.int .i64 r.left]:=b1;have b3:a3=[.int .i64 r.dyn]:=b3;subst b1 b2 b3;exact⟨w,rfl,r2,m2⟩
 ·rintro⟨w,rfl,r2,m2⟩;exact⟨[_],_,rfl,rfl,[_],[_],rfl,⟨w,rfl,r2,m2⟩,rfl⟩
section
variable {Q:Value->PH->Prop}{n:Nat}{cl ih:CL}{h h0:PH}{S:Vw}{m:OM}{rows rest ex:Rws}{K2:Value->PH->R}
theorem CloneP.settle{α:Type}{R:Rdr α}{l:List α}{v:Value}{cells:List Value}(p:CloneP R.sz l.length cells v ex)(st:Sl h0 h S m (ex++rows))(hl:cells.length=l.length*R.sz)(hE: ∀(i:Nat) x,l[i]?=some x->R.E S x ((cells.drop (i*R.sz)).take R.sz)):
  ∃S',VwN h0 S S'/\Sl h0 h S' m rows/\RdV R S' v l/\(l=[]->Emp v)/\Anc h0.n v:=by
 rcases p with⟨h1,h2,rfl,rfl⟩|⟨b,md,c,hm,rfl,rfl⟩
 ·have:l=[]:=List.length_eq_zero_iff.1 h1;subst this;exact⟨S,VwN.refl,st,.inl ⟨rfl,none,0,rfl⟩,fun _=>⟨none,0,rfl⟩,.inl rfl⟩
 ·have hn:=(st.sm.own b _ (st.mem (.head _))).2;obtain⟨st1,hS⟩:=st.settle (i:=0) rfl;have le:=VwN.put (h0:=h0) hS hn (cs:=cells);refine⟨_,le,st1,.inr ⟨b,0,c,cells,rfl,Vw.put_self,fun i x hx=>?_⟩,fun e=>⟨some b,c,by rw[e];rfl⟩,.inr ⟨b,0,_,_,rfl,hn⟩⟩;have hi:=(List.getElem?_eq_some_iff.1 hx).1;have:(i+1)*R.sz<=l.length*R.sz:=Nat.mul_le_mul_right _ hi;rw[Nat.succ_mul]at this;refine⟨by omega,?_⟩;rw[Nat.zero_add];exact R.mono le.1 (hE i x hx)
theorem loop23(hn:9223372036854775808<=n){g:Gr}{fv cv kv:Value}{rb bp op rc:Nat}{md:Mode}(hmd:mro md=false)(h8: ∀r∈g.rules,r.right.length<=1000)(hr:g.rules.length<=1000000)
  (hK: ∀h S' cells,VwN h0 S S'->Sl h0 h S' m ((rb,.row md 3 cells)::(bp,.row .own 1 (gcs g (.slice (some ⟨rb,0,none⟩) g.rules.length rc) fv cv kv))::rows)->cells.length=g.rules.length*3->(∀(i:Nat) x,g.rules[i]?=some x->rRule.E S' x ((cells.drop (i*3)).take 3))->Ret (F23_1 n cl (pt bp) (pt op) h) Q):
  ∀(q i fu:Nat)(S1:Vw)(cells:List Value)(h:PH),g.rules.length=i+q->q<fu->VwN h0 S S1->Sl h0 h S1 m ((rb,.row md 3 cells)::(bp,.row .own 1 (gcs g (.slice (some ⟨rb,0,none⟩) g.rules.length rc) fv cv kv))::rows)->cells.length=g.rules.length*3->(∀(i:Nat) x,g.rules[i]?=some x->rRule.E S1 x ((cells.drop (i*3)).take 3))->
   Ret (lp fu (F23_3 n cl) [pt bp,pt op,.int .i64 (g.rules.length:Nat),.int .i64 (i:Nat)] h) Q:=by
 intro q
 induction q with
 |zero=>
  intro i fu S1 cells h hq hf le st hl hE;obtain⟨fu,rfl⟩: ∃q,fu=q+1:=⟨fu-1,by omega⟩;rw[lp_succ];have dc:decide (((i:Nat):Int)<((g.rules.length:Nat):Int))=false:=decide_eq_false (by omega);simp only[F23_3,ucons_cons,F23_2,xLt_i,dc,vb_some,bite_f];exact hK h S1 cells le st hl hE
 |succ q ih=>
  intro i fu S1 cells h hq hf le st hl hE;obtain⟨fu,rfl⟩: ∃q,fu=q+1:=⟨fu-1,by omega⟩;rw[lp_succ];have dc:decide (((i:Nat):Int)<((g.rules.length:Nat):Int))=true:=decide_eq_true (by omega);have hx:=List.getElem?_eq_getElem (l:=g.rules) (i:=i) (by omega);generalize g.rules[i]=r at hx;have hrm:=List.mem_of_getElem? hx;obtain⟨w,hw1,hw2,hw3⟩:=rRule_E.1 (hE i r hx);obtain⟨q0,q1,q2⟩:=cells3 hw1;have l3:xLd (.pointer (some ⟨bp,3,none⟩)) h=some (.slice (some ⟨rb,0,none⟩) g.rules.length rc):=st.ld (.tail _ (.head _)) rfl;have hi3:xIdxS 3 (.slice (some ⟨rb,0,none⟩) g.rules.length rc) (.int .i64 (i:Nat))=some (.pointer (some ⟨rb,i*3,none⟩)):=by
   rw[xIdxS_at (by omega) (by omega)];simp
  have lw:xLd (.pointer (some ⟨rb,i*3+1,none⟩)) h=some w:=st.ld (.head _) q1;simp only[F23_3,ucons_cons,F23_2,xLt_i,dc,vb_some,bite_t,F23_0,xFld_p,Nat.zero_add,l3,hi3,lw];obtain⟨ws,hs1,hs2⟩:=hw2.slE hw3;have hone:=RdV.ones (R:=rI .i64) (V:=S1) hs1.length hs2;have okh:=st.ok;have:=h8 r hrm;refine Ret.lfcall st (c24 (h:=h) (fun b cs e=>st.leS b cs e) hs1 hone (by omega)) fun v' h2 ex' p st2=>?_;obtain⟨S2,le2,st3,rd',em',_⟩:=p.settle (R:=rI .i64) (l:=r.right) st2 hs1.length hs2;have l3':xLd (.pointer (some ⟨bp,3,none⟩)) h2=some (.slice (some ⟨rb,0,none⟩) g.rules.length rc):=st3.ld (.tail _ (.head _)) rfl;have hlt:i*3+3<=cells.length:=by rw[hl];omega
  simp only[l3',lchk_t veq_sl,hi3,xFld_p,vb_some];refine Ret.lst1 st3 0 rfl hmd (by omega) rd'.one fun h4 st4=>?_;have st4:Sl h0 h4 S2 m ((rb,.row md 3 (cells.set (i*3+1) v'))::(bp,.row .own 1 (gcs g (.slice (some ⟨rb,0,none⟩) g.rules.length rc) fv cv kv))::rows):=st4;simp only[vN_eq,xAdd_i,vb_some,show(((1:Nat):Int))=1 from rfl,wrap1 (i:=i) (by omega)];refine ih (i+1) fu S2 _ h4 (by omega) (by omega) (le.trans le2) st4 (by simp[hl]) fun j x hj=>?_
  by_cases e:j=i
  ·subst e;rw[hx]at hj;cases hj;refine rRule_E.2 ⟨v',?_,rd',em'⟩;rw[List.drop_set,if_neg (by omega),show j*3+1-j*3=1 by omega,List.take_set,hw1];rfl
  ·have hjl:=(List.getElem?_eq_some_iff.1 hj).1;have h0:=rRule.mono le2.1 (hE j x hj);have e2:((cells.set (i*3+1) v').drop (j*3)).take 3=(cells.drop (j*3)).take 3:=by
    by_cases hji:j<i
    ·rw[List.drop_set,if_neg (by omega),List.take_set,List.set_eq_of_length_le (by rw[List.length_take,List.length_drop];omega)]
    ·rw[List.drop_set,if_pos (by omega)]
   rw[e2];exact h0
end
theorem zc26:zcells Tryd.prog 26=some [.int .i64 0,.int .i64 0,.int .i64 0,nils,nils,nils,nils]:=by kernel_rfl
section
variable {Q:Value->PH->Prop}{n:Nat}{cl ih:CL}{h h0:PH}{S:Vw}{m:OM}{rows rest ex:Rws}{K2:Value->PH->R}
structure GSm(g:Gr):Prop where
 r8: ∀r∈g.rules,r.right.length<=1000
 rl:g.rules.length<=1000000
 fl:g.forbid.length<=1000000
 cl:g.rclass.length<=1000000
 kl:g.kclass.length<=1000000
set_option maxRecDepth 100000 in
theorem c23(hn:9223372036854775808<=n){g:Gr}{rv fv cv kv:Value}(sm:GSm g)(st:Sl h0 h S m rows)(gv:GrV S g rv fv cv kv):
  Ret (F23 n cl (.agg ⟨gcs g rv fv cv kv⟩) h) fun v h'=> ∃S' rv' fv' cv' kv',VwN h0 S S'/\Sl h0 h' S' m rows/\v= .agg ⟨gcs g rv' fv' cv' kv'⟩/\GrV S' g rv' fv' cv' kv':=by
 have hrl:=sm.rl;unfold F23;refine Ret.lbox st fun h1 bp st1=>?_;have st1:Sl h0 h1 S m ((bp,.row .own 1 (gcs g rv fv cv kv))::rows):=st1;refine Ret.lalloc st1 zc26 fun h2 op st2=>?_;have l3:xLd (.pointer (some ⟨bp,3,none⟩)) h2=some rv:=st2.ld (.tail _ (.head _)) rfl;simp only[xFld_p,Nat.zero_add,l3,vb_some];obtain⟨rc,r1,r2⟩:=gv.rules.slE gv.er;have hone:=RdV.ones (R:=rRule) (V:=S) r1.length r2;have okh:=st2.ok;refine Ret.lfcall st2 (c40 (h:=h2) (fun b cs e=>st2.leS b cs e) r1 hone hrl) fun v3 h3 ex3 p3 st3=>?_;have rest1: ∀(h:PH)(S1:Vw)(rv1:Value),VwN h0 S S1->Sl h0 h S1 m ((bp,.row .own 1 (gcs g rv1 fv cv kv))::(op,.row .own 1 [.int .i64 0,.int .i64 0,.int .i64 0,nils,nils,nils,nils])::rows)->RdV rRule S1 rv1 g.rules->(g.rules=[]->Emp rv1)->
   Ret (F23_1 n cl (pt bp) (pt op) h) fun v h'=> ∃S' rv' fv' cv' kv',VwN h0 S S'/\Sl h0 h' S' m rows/\v= .agg ⟨gcs g rv' fv' cv' kv'⟩/\GrV S' g rv' fv' cv' kv':=by
  intro h S1 rv1 le1 st rd1 em1;have gv1:=gv.mono le1.1;have a4:xLd (.pointer (some ⟨bp,4,none⟩)) h=some fv:=st.ld (.head _) rfl;have a5: ∀{S:Vw}{ex:Rws}{h:PH},Sl h0 h S m (ex++((bp,.row .own 1 (gcs g rv1 fv cv kv))::(op,.row .own 1 [.int .i64 0,.int .i64 0,.int .i64 0,nils,nils,nils,nils])::rows))->xLd (.pointer (some ⟨bp,5,none⟩)) h=some cv:=fun st=>st.ld (b:=bp) (e:=1) (md:=.own) (cs:=gcs g rv1 fv cv kv) (by simp) rfl;have a6: ∀{S:Vw}{ex:Rws}{h:PH},Sl h0 h S m (ex++((bp,.row .own 1 (gcs g rv1 fv cv kv))::(op,.row .own 1 [.int .i64 0,.int .i64 0,.int .i64 0,nils,nils,nils,nils])::rows))->xLd (.pointer (some ⟨bp,6,none⟩)) h=some kv:=fun st=>st.ld (b:=bp) (e:=1) (md:=.own) (cs:=gcs g rv1 fv cv kv) (by simp) rfl;unfold F23_1;simp only[xFld_p,Nat.zero_add,a4,a5 (ex:=[]) st,a6 (ex:=[]) st,vb_some];obtain⟨fc,f1,f2⟩:=gv1.forbid.slE gv1.ef;have ok1:=st.ok;refine Ret.lfcall st (c41 (h:=h) (fun b cs e=>st.leS b cs e) f1 (RdV.ones (R:=r3) (V:=S1) f1.length f2) sm.fl) fun v4 h4 ex4 p4 st4=>?_;obtain⟨S4,le4,st4',rd4,em4,_⟩:=p4.settle (R:=r3) (l:=g.forbid) st4 f1.length f2;have q5:=a5 (ex:=[]) st4';have q6:=a6 (ex:=[]) st4';simp only[q5,q6,lchk_t (gv1.rclass.veq gv1.ec),lchk_t (gv1.kclass.veq gv1.ek),vb_some,xFld_p];obtain⟨cc,g1,g2⟩:=(gv1.rclass.mono le4.1).slE gv1.ec;have ok4:=st4'.ok;refine Ret.lfcall st4' (c24 (h:=h4) (fun b cs e=>st4'.leS b cs e) g1 (RdV.ones (R:=rI .i64) (V:=S4) g1.length g2) sm.cl) fun v5 h5 ex5 p5 st5=>?_;obtain⟨S5,le5,st5',rd5,em5,_⟩:=p5.settle (R:=rI .i64) (l:=g.rclass) st5 g1.length g2;have q5:=a5 (ex:=[]) st5';have q6:=a6 (ex:=[]) st5';simp only[q5,q6,lchk_t (gv1.rclass.veq gv1.ec),lchk_t (gv1.kclass.veq gv1.ek)];obtain⟨kc,k1,k2⟩:=(gv1.kclass.mono (le4.trans le5).1).slE gv1.ek;have ok5:=st5'.ok;refine Ret.lfcall st5' (c24 (h:=h5) (fun b cs e=>st5'.leS b cs e) k1 (RdV.ones (R:=rI .i64) (V:=S5) k1.length k2) sm.kl) fun v6 h6 ex6 p6 st6=>?_;obtain⟨S6,le6,st6',rd6,em6,_⟩:=p6.settle (R:=rI .i64) (l:=g.kclass) st6 k1.length k2;refine Ret.lst1 st6' 0 rfl rfl (by simp) rd4.one fun h7 st7=>?_;refine Ret.lst1 st7 0 rfl rfl (by simp) rd5.one fun h8 st8=>?_;refine Ret.lst1 st8 0 rfl rfl (by simp) rd6.one fun h9 st9=>?_;have st9:Sl h0 h9 S6 m ((bp,.row .own 1 (gcs g rv1 v4 v5 v6))::(op,.row .own 1 [.int .i64 0,.int .i64 0,.int .i64 0,nils,nils,nils,nils])::rows):=st9;have lA:xLdA 7 (.pointer (some ⟨bp,0,none⟩)) h9=some (.agg ⟨gcs g rv1 v4 v5 v6⟩):=st9.ldA (.head _) rfl (by simp);simp only[lA,vb_some];refine Ret.lstA st9 1 rfl rfl rfl (by simp) (by
   have e1:=rd1.one;have e4:=rd4.one;have e5:=rd5.one;have e6:=rd6.one;unfold oneCells gcs;simp only[List.all_cons,List.all_nil,e1,e4,e5,e6]
   rfl) fun h10 st10=>?_
  rw[setsL_all (by rfl)]at st10;have st10:Sl h0 h10 S6 m ((bp,.row .own 1 (gcs g rv1 v4 v5 v6))::(op,.row .own 1 (gcs g rv1 v4 v5 v6))::rows):=st10;have lB:xLdA 7 (.pointer (some ⟨op,0,none⟩)) h10=some (.agg ⟨gcs g rv1 v4 v5 v6⟩):=st10.ldA (.tail _ (.head _)) rfl (by simp);simp only[lB,vb_some];refine Ret.of ⟨S6,rv1,v4,v5,v6,((le1.trans le4).trans le5).trans le6,st10.drop (List.Sublist.trans (List.sublist_cons_self _ _) (List.sublist_cons_self _ _)),rfl,rd1.mono ((le4.trans le5).trans le6).1,rd4.mono (le5.trans le6).1,rd5.mono le6.1,rd6,em1,em4,em5,em6⟩
 rcases p3 with⟨h1',h2',rfl,rfl⟩|⟨rb,md,rcc,hm,rfl,rfl⟩
 ·have hnil:g.rules=[]:=List.length_eq_zero_iff.1 h1';refine Ret.lst1 (b:=bp) (e:=1) (md:=.own) (cs:=gcs g rv fv cv kv) st3 1 rfl rfl (by simp) rfl fun h4 st4=>?_;have st4:Sl h0 h4 S m ((op,.row .own 1 [.int .i64 0,.int .i64 0,.int .i64 0,nils,nils,nils,nils])::(bp,.row .own 1 (gcs g nils fv cv kv))::rows):=st4;have st5:=st4.perm (List.Perm.swap _ _ _);have l3':xLd (.pointer (some ⟨bp,3,none⟩)) h4=some nils:=st5.ld (.head _) rfl;have ln:xLenS nils=some (.int .i64 ((0:Nat):Int)):=rfl;obtain⟨n,rfl⟩: ∃q,n=q+1:=⟨n-1,by omega⟩;have dc:decide (((0:Nat):Int)<((0:Nat):Int))=false:=by decide
  simp only[l3',ln,vb_some,vN_eq];rw[lp_succ];simp only[F23_3,ucons_cons,F23_2,xLt_i,dc,vb_some,bite_f];exact rest1 h4 S nils VwN.refl st5 (by rw[hnil];exact .inl ⟨rfl,none,0,rfl⟩) fun _=>⟨none,0,rfl⟩
 ·refine Ret.lst1 (b:=bp) (e:=1) (md:=.own) (cs:=gcs g rv fv cv kv) st3 2 rfl rfl (by simp) rfl fun h4 st4=>?_;have st4:Sl h0 h4 S m ((rb,.row md 3 rc)::(op,.row .own 1 [.int .i64 0,.int .i64 0,.int .i64 0,nils,nils,nils,nils])::(bp,.row .own 1 (gcs g (.slice (some ⟨rb,0,none⟩) g.rules.length rcc) fv cv kv))::rows):=st4;have st5:=st4.perm (List.Perm.cons _ (List.Perm.swap _ _ _));have l3':xLd (.pointer (some ⟨bp,3,none⟩)) h4=some (.slice (some ⟨rb,0,none⟩) g.rules.length rcc):=st5.ld (.tail _ (.head _)) rfl;have ln:xLenS (.slice (some ⟨rb,0,none⟩) g.rules.length rcc)=some (.int .i64 (g.rules.length:Nat)):=by simp
  simp only[l3',ln,vb_some,vN_eq];refine loop23 hn hm sm.r8 hrl (fun h6 S6 cells le6 st6 hl6 hE6=>?_) g.rules.length 0 n S rc h4 (by omega) (by omega) VwN.refl st5 r1.length r2;obtain⟨st7,hS7⟩:=st6.settle (i:=0) rfl;have hn7:=(st6.sm.own rb _ (st6.mem (.head _))).2;have le7:=VwN.put (h0:=h0) hS7 hn7 (cs:=cells);refine rest1 h6 _ _ (le6.trans le7) st7 (.inr ⟨rb,0,rcc,cells,rfl,Vw.put_self,fun i x hx=>?_⟩) fun e=>⟨some rb,rcc,by rw[e];rfl⟩;have hi:=(List.getElem?_eq_some_iff.1 hx).1;refine⟨by show 0+i*3+3<=_;omega,?_⟩
  show rRule.E _ x ((cells.drop (0+i*3)).take 3)
  rw[Nat.zero_add];exact rRule.mono le7.1 (hE6 i x hx)
end
theorem xBit_ex{k:IntKind}{f:Nat->Nat->Nat}{x y:Int}:xBit f (.int k x) (.int k y)=some (.int k (k.wrap (f (bitN k x) (bitN k y):Nat))):=by
 have:kb k k=true:=by cases k<;>rfl
 simp only[xBit,this,mkI_eq,wr_eq];rfl
theorem xShl_ex{k k':IntKind}{x:Int}{s:Nat}(h:s<=k.bits):xShl (.int k x) (.int k' (s:Nat))=some (.int k (k.wrap (Int.mul x (.ofNat (Nat.pow 2 s))))):=by
 show(match Nat.ble s k.bits with|true=>mkI k (wr k (Int.mul x (.ofNat (Nat.pow 2 s))))|false=>none)=_
 rw[ble_t' h,mkI_eq,wr_eq]
theorem xShr_ex{k k':IntKind}{x s:Nat}(h:s<=k.bits):xShr (.int k (x:Nat)) (.int k' (s:Nat))=some (Value.int k ((x / 2 ^ s:Nat):Int)):=by
 show(match Nat.ble s k.bits with|true=>(match shN (.ofNat x) s with|some q=>some (Value.int k q)|none=>none)|false=>none)=_
 rw[ble_t' h]
 show(match seqN (Nat.shiftRight x s) fun q=>some (Int.ofNat q)with|some q=>some (Value.int k q)|none=>none)=_
 rw[seqN_eq]
 show some (Value.int k (Int.ofNat (x>>>s)))=_
 rw[Nat.shiftRight_eq_div_pow];rfl
theorem wr64u{x:Nat}(h:x<18446744073709551616):IntKind.u64.wrap (x:Int)=(x:Nat):=by
 simp[IntKind.wrap,IntKind.signed,IntKind.bits];omega
theorem xQuo_n{x y:Nat}(hy:0<y)(hx:x<4611686018427387904):xQuo (.int .i64 (x:Nat)) (.int .i64 (y:Nat))=some (.int .i64 ((x / y:Nat):Int)):=by
 have h1:kb .i64 .i64=true:=rfl;have h2:ieq ((y:Nat):Int) 0=false:=by rw[ieq_eq];simp;omega
 have h3:Int.tdiv ((x:Nat):Int) ((y:Nat):Int)=((x / y:Nat):Int):=by simp[Int.tdiv]
 have h4:x / y<=x:=Nat.div_le_self _ _;simp only[xQuo,h1,h2,mkI_eq,wr_eq,h3];generalize x / y=z at h4;rw[wrap_in (by omega) (by omega)]
theorem xRem_n{x y:Nat}(hy:0<y)(hx:x<4611686018427387904):xRem (.int .i64 (x:Nat)) (.int .i64 (y:Nat))=some (.int .i64 ((x % y:Nat):Int)):=by
 have h1:kb .i64 .i64=true:=rfl;have h2:ieq ((y:Nat):Int) 0=false:=by rw[ieq_eq];simp;omega
 have h3:Int.tmod ((x:Nat):Int) ((y:Nat):Int)=((x % y:Nat):Int):=by simp[Int.tmod]
 have h4:x % y<=x:=Nat.mod_le _ _;simp only[xRem,h1,h2,mkI_eq,wr_eq,h3]
def bw(ws:List Nat):List Value:=ws.map fun w=>.int .u64 (w:Nat)
def Wd(ws:List Nat):Prop:= ∀w∈ws,w<18446744073709551616
def hs(ws:List Nat)(i:Nat):Bool:=(ws.getD (i / 64) 0).testBit (i % 64)
theorem bw_len(ws:List Nat):(bw ws).length=ws.length:=by simp[bw]
theorem bw_get{ws:List Nat}{k:Nat}{w:Nat}(h:ws[k]?=some w):(bw ws)[k]?=some (.int .u64 (w:Nat)):=by simp[bw,h]
theorem bw_set{ws:List Nat}{k w:Nat}:(bw ws).set k (.int .u64 (w:Nat))=bw (ws.set k w):=by
 unfold bw;rw[List.map_set]
theorem Wd.getD{ws:List Nat}(h:Wd ws)(k:Nat):ws.getD k 0<18446744073709551616:=by
 rw[List.getD_eq_getElem?_getD];cases hq:ws[k]? with
 |none=>simp
 |some w=>exact h w (List.mem_of_getElem? hq)
theorem Wd.set{ws:List Nat}(h:Wd ws){k w:Nat}(hw:w<18446744073709551616):Wd (ws.set k w):=by
 intro x hx;rcases List.mem_or_eq_of_mem_set hx with hx|hx
 ·exact h x hx
 ·rw[hx];exact hw
theorem Wd.rep(n:Nat):Wd (List.replicate n 0):=by
 intro x hx;rw[List.eq_of_mem_replicate hx];decide
theorem hs_rep(n i:Nat):hs (List.replicate n 0) i=false:=by
 unfold hs;have:(List.replicate n 0).getD (i / 64) 0=0:=by
  rw[List.getD_eq_getElem?_getD];cases hq:(List.replicate n 0)[i / 64]? with
  |none=>rfl
  |some w=>rw[List.eq_of_mem_replicate (List.mem_of_getElem? hq)];rfl
 rw[this];exact Nat.zero_testBit _
theorem two64:(18446744073709551616:Nat)=2 ^ 64:=by decide
theorem or_lt{a b:Nat}(ha:a<18446744073709551616)(hb:b<18446744073709551616):a|||b<18446744073709551616:=by
 rw[two64]at*;exact Nat.or_lt_two_pow ha hb
theorem and_lt{a b:Nat}(ha:a<18446744073709551616):a&&&b<18446744073709551616:=Nat.lt_of_le_of_lt Nat.and_le_left ha
theorem pow_lt{s:Nat}(h:s<64):2 ^ s<18446744073709551616:=by
 rw[two64];exact Nat.pow_lt_pow_right (by decide) h
theorem hs_add{ws:List Nat}{i:Nat}(hi:i / 64<ws.length)(j:Nat):hs (ws.set (i / 64) (ws.getD (i / 64) 0|||2 ^ (i % 64))) j=(hs ws j||decide (j=i)):=by
 unfold hs
 by_cases e:j / 64=i / 64
 ·rw[e];have h1:(ws.set (i / 64) (ws.getD (i / 64) 0|||2 ^ (i % 64))).getD (i / 64) 0=ws.getD (i / 64) 0|||2 ^ (i % 64):=by
   rw[List.getD_eq_getElem?_getD,List.getElem?_set_self hi];rfl
  rw[h1,Nat.testBit_or,Nat.testBit_two_pow]
  congr 1
  by_cases e2:i % 64=j % 64
  ·have:j=i:=by omega
   simp[this]
  ·have: ¬ j=i:=fun h=>e2 (by rw[h]);simp[e2,this]
 ·have h1:(ws.set (i / 64) (ws.getD (i / 64) 0|||2 ^ (i % 64))).getD (j / 64) 0=ws.getD (j / 64) 0:=by
   rw[List.getD_eq_getElem?_getD,List.getElem?_set_ne (fun h=>e h.symm), <-List.getD_eq_getElem?_getD]
  have: ¬ j=i:=fun h=>e (by rw[h]);rw[h1];simp[this]
theorem word_ext{a b:Nat}(ha:a<18446744073709551616)(hb:b<18446744073709551616)(h: ∀s,s<64->a.testBit s=b.testBit s):a=b:=by
 refine Nat.eq_of_testBit_eq fun s=>?_
 by_cases hs:s<64
 ·exact h s hs
 ·have h1: ∀{x:Nat},x<18446744073709551616->x.testBit s=false:=fun {x} hx=>Nat.testBit_lt_two_pow (Nat.lt_of_lt_of_le (by rw[two64]at hx;exact hx) (Nat.pow_le_pow_right (by decide) (by omega)));rw[h1 ha,h1 hb]
theorem hs_ext{a b:List Nat}(hl:a.length=b.length)(ha:Wd a)(hb:Wd b)(h: ∀i,hs a i=hs b i):a=b:=by
 apply List.ext_getElem? fun k=>?_
 by_cases hk:k<a.length
 ·have h1:=List.getElem?_eq_getElem hk;have h2:=List.getElem?_eq_getElem (l:=b) (i:=k) (by omega);rw[h1,h2]
  congr 1
  refine word_ext (ha _ (List.getElem_mem hk)) (hb _ (List.getElem_mem _)) fun s hs'=>?_;have:=h (64*k+s);unfold hs at this;have e1:(64*k+s) / 64=k:=by omega
  have e2:(64*k+s) % 64=s:=by omega
  rw[e1,e2,List.getD_eq_getElem?_getD,List.getD_eq_getElem?_getD,h1,h2]at this;exact this
 ·rw[List.getElem?_eq_none (by omega),List.getElem?_eq_none (by omega)]
theorem bitN64{x:Nat}(h:x<18446744073709551616):bitN .u64 ((x:Nat):Int)=x:=by
 show(match Nat.ble x (kmx .u64)with|true=>x|false=>(BitVec.ofInt IntKind.u64.bits (.ofNat x)).toNat)=x
 rw[ble_t' (show x<=kmx .u64 from Nat.le_of_lt_succ h)]
theorem xAnd64{a b:Nat}(ha:a<18446744073709551616)(hb:b<18446744073709551616):xBit Nat.land (.int .u64 (a:Nat)) (.int .u64 (b:Nat))=some (.int .u64 ((a&&&b:Nat):Int)):=by
 rw[xBit_ex,bitN64 ha,bitN64 hb];exact congrArg (fun z=>some (Value.int .u64 z)) (wr64u (and_lt ha))
theorem xOr64{a b:Nat}(ha:a<18446744073709551616)(hb:b<18446744073709551616):xBit Nat.lor (.int .u64 (a:Nat)) (.int .u64 (b:Nat))=some (.int .u64 ((a|||b:Nat):Int)):=by
 rw[xBit_ex,bitN64 ha,bitN64 hb];exact congrArg (fun z=>some (Value.int .u64 z)) (wr64u (or_lt ha hb))
theorem xShl1{s:Nat}(h:s<64):xShl (.int .u64 (.ofNat 1)) (.int .i64 (s:Nat))=some (.int .u64 ((2 ^ s:Nat):Int)):=by
 rw[xShl_ex (k:=.u64) (k':=.i64) (by show s<=64;omega)];have:Int.mul (.ofNat 1) (.ofNat (Nat.pow 2 s))=((2 ^ s:Nat):Int):=by
  show(1:Int)*((2 ^ s:Nat):Int)=_
  rw[Int.one_mul]
 rw[this,wr64u (pow_lt h)]
theorem bit_has{x s:Nat}:decide ((((x / 2 ^ s)&&&1:Nat):Int)= .ofNat 1)=x.testBit s:=by
 rw[Nat.and_one_is_mod,Nat.testBit_eq_decide_div_mod_eq]
 congr 1
 apply propext
 constructor
 ·intro h;exact Int.ofNat.inj h
 ·intro h;rw[h];rfl
def difW(a b:Nat):Nat:=(BitVec.ofInt 64 (a:Int)&&& ~~~(BitVec.ofInt 64 (b:Int))).toNat
theorem difW_lt(a b:Nat):difW a b<18446744073709551616:=by
 unfold difW;have:=(BitVec.ofInt 64 (a:Int)&&& ~~~(BitVec.ofInt 64 (b:Int))).isLt;rw[two64];exact this
theorem difW_bit{a b j:Nat}(hj:j<64):(difW a b).testBit j=(a.testBit j&&!b.testBit j):=by
 unfold difW;rw[BitVec.testBit_toNat,BitVec.getLsbD_and,BitVec.getLsbD_not,BitVec.ofInt_natCast,BitVec.ofInt_natCast,BitVec.getLsbD_ofNat,BitVec.getLsbD_ofNat];simp[hj]
theorem abin_an0{o1 o2:Operand}{a b:Int}:abin Tryd.prog .andNot 88 o1 o2 (.int .u64 a) (.int .u64 b)=some (.int .u64 (IntKind.u64.wrap ((BitVec.ofInt 64 a&&& ~~~(BitVec.ofInt 64 b)).toNat:Int))):=by kernel_rfl
theorem abin_andNot{o1 o2:Operand}{a b:Nat}:abin Tryd.prog .andNot 88 o1 o2 (.int .u64 (a:Nat)) (.int .u64 (b:Nat))=some (.int .u64 (difW a b:Nat)):=by
 rw[abin_an0];exact congrArg (fun z=>some (Value.int .u64 z)) (wr64u (difW_lt a b))
theorem ctz_spec{x:Nat}(h0:x≠0)(h:x<18446744073709551616): ∃m,x=2 ^ Lib.ctz 64 x*(2*m+1)/\Lib.ctz 64 x<64:=by
 have e:Lib.ctz 64 x=Lib.ctzFrom 64 x:=by simp[Lib.ctz,h0]
 rw[e];exact Lib.ctzFrom_spec 64 x (by omega) h
theorem bit_odd{c m j:Nat}:(2 ^ c*(2*m+1)).testBit j=(decide (j=c)||(decide (c<j)&&m.testBit (j-c-1))):=by
 rw[Nat.testBit_two_pow_mul]
 by_cases h1:j<c
 ·have a1: ¬ c<=j:=by omega
  have a2: ¬ j=c:=by omega
  have a3: ¬ c<j:=by omega
  simp[a1,a2,a3]
 ·by_cases h2:j=c
  ·subst h2;simp
  ·have a1:c<=j:=by omega
   have a3:c<j:=by omega
   obtain⟨d,hd⟩: ∃d,j-c=d+1:=⟨j-c-1,by omega⟩;have:(2*m+1).testBit (d+1)=m.testBit d:=by
    rw[Nat.testBit_succ];congr 1;omega
   simp[a1,h2,a3,hd,this]
theorem ctz_bit{x:Nat}(h0:x≠0)(h:x<18446744073709551616):x.testBit (Lib.ctz 64 x)=true:=by
 obtain⟨m,hm,hk⟩:=ctz_spec h0 h;have:=bit_odd (c:=Lib.ctz 64 x) (m:=m) (j:=Lib.ctz 64 x);rw[<-hm]at this;rw[this];simp
theorem low_off{x:Nat}(h0:x≠0)(h:x<18446744073709551616)(j:Nat):(x&&&(x-1)).testBit j=(x.testBit j&&decide (j≠Lib.ctz 64 x)):=by
 obtain⟨m,hm,hk⟩:=ctz_spec h0 h;have hx:=bit_odd (c:=Lib.ctz 64 x) (m:=m) (j:=j);rw[<-hm]at hx;generalize Lib.ctz 64 x=c at*;rw[Nat.testBit_and,hx];have e:x-1=2 ^ (c+1)*m+(2 ^ c-1):=by
  rw[hm,Nat.pow_succ];have:0<2 ^ c:=Nat.two_pow_pos c;have e2:2 ^ c*(2*m+1)=2 ^ c*2*m+2 ^ c:=by rw[Nat.mul_add,Nat.mul_one,Nat.mul_assoc]
  omega
 rw[e]
 by_cases h1:j<c+1
 ·by_cases h2:j=c
  ·subst h2;have:(2 ^ (j+1)*m+(2 ^ j-1)).testBit j=false:=by
    have hlt:2 ^ j-1<2 ^ (j+1):=by
     have:0<2 ^ j:=Nat.two_pow_pos j;rw[Nat.pow_succ];omega
    rw[Nat.testBit_two_pow_mul_add _ hlt,if_pos (by omega),Nat.testBit_two_pow_sub_one];simp
   rw[this];simp
  ·have a3: ¬ c<j:=by omega
   simp[h2,a3]
 ·have hlt:2 ^ c-1<2 ^ (c+1):=by
   have:0<2 ^ c:=Nat.two_pow_pos c;rw[Nat.pow_succ];omega
  have a2: ¬ j=c:=by omega
  have a3:c<j:=by omega
  have e2:j-(c+1)=j-c-1:=by omega
  rw[Nat.testBit_two_pow_mul_add _ hlt,if_neg h1,e2];simp[a2,a3]
theorem subW{x:Nat}(h0:x≠0)(h:x<18446744073709551616):xAri Int.sub (.int .u64 (x:Nat)) (.int .u64 (.ofNat 1))=some (.int .u64 ((x-1:Nat):Int)):=by
 rw[xSub_i];have e:((x:Nat):Int)-Int.ofNat 1=((x-1:Nat):Int):=by
  show((x:Nat):Int)-1=_
  omega
 rw[e,wr64u (by omega)]
section
variable {Q:Value->PH->Prop}{n:Nat}{cl ih:CL}{h h0:PH}{S:Vw}{m:OM}{rows rest ex:Rws}{K2:Value->PH->R}
abbrev wfv(W:Nat)(b:Nat):Value:=.slice (some ⟨b,0,none⟩) W W
def addW(ws:List Nat)(i:Nat):List Nat:=ws.set (i / 64) (ws.getD (i / 64) 0|||2 ^ (i % 64))
theorem addW_len{ws:List Nat}{i:Nat}:(addW ws i).length=ws.length:=by unfold addW;rw[List.length_set]
theorem addW_hs{ws:List Nat}{i:Nat}(hi:i / 64<ws.length)(j:Nat):hs (addW ws i) j=(hs ws j||decide (j=i)):=hs_add hi j
theorem addW_wd{ws:List Nat}{i:Nat}(h:Wd ws):Wd (addW ws i):=h.set (or_lt (h.getD _) (pow_lt (Nat.mod_lt _ (by decide))))
theorem wfv_at{W b j:Nat}(hj:j<W):xIdxS 1 (wfv W b) (.int .i64 (j:Nat))=some (.pointer (some ⟨b,j,none⟩)):=by
 rw[xIdxS_at (by omega) (by omega)];simp
theorem c28[OkH h](hS:Vw.le S h.cells){b:Nat}{ws:List Nat}(hb:S b=some (bw ws))(hw:Wd ws){i:Nat}(hi:i / 64<ws.length)(hi2:i<1000000):pcall (F28 n cl (wfv ws.length b) (.int .i64 (i:Nat)) h.fzn)=some (.bool (hs ws i)):=by
 have st:Sl h.fzn h.fzn S OM.emp []:=Sl.start h.fzn (fun b cs e=>hS b cs e);have e1:=xQuo_n (x:=i) (y:=64) (by decide) (by omega);have e3:=xRem_n (x:=i) (y:=64) (by decide) (by omega);have hx:=List.getElem?_eq_getElem hi;have hD:ws.getD (i / 64) 0=ws[i / 64]:=by simp[List.getD_eq_getElem?_getD,hx]
 have hlt:=hw _ (List.getElem_mem hi);have f1:xIdxS 1 (wfv ws.length b) (.int .i64 ((i / 64:Nat):Int))=some (.pointer (some ⟨b,i / 64,none⟩)):=wfv_at hi;have l1:xLd (.pointer (some ⟨b,i / 64,none⟩)) h.fzn=some (.int .u64 (ws[i / 64]:Nat)):=st.ldS hb (bw_get hx);have e2:=xShr_ex (k:=.u64) (k':=.i64) (x:=ws[i / 64]) (s:=i % 64) (by show i % 64<=64;omega);have hq:ws[i / 64] / 2 ^ (i % 64)<18446744073709551616:=Nat.lt_of_le_of_lt (Nat.div_le_self _ _) hlt;have e4:=xAnd64 hq (show 1<18446744073709551616 by decide);have e4:xBit Nat.land (.int .u64 ((ws[i / 64] / 2 ^ (i % 64):Nat):Int)) (.int .u64 (.ofNat 1))=_:=e4;have key:F28 n cl (wfv ws.length b) (.int .i64 (i:Nat)) h.fzn=some (.bool (hs ws i),h.fzn):=by
  unfold F28;simp only[vN_eq,e1,vb_some,f1,l1,e3,e2,e4,xEq_i];have:decide ((((ws[i / 64] / 2 ^ (i % 64))&&&1:Nat):Int)=Int.ofNat 1)=hs ws i:=by
   rw[bit_has];unfold hs;rw[hD]
  rw[<-this]
 rw[key];rfl
theorem c55(st:Sl h0 h S m rows)(x:Nat){b:Nat}{ws:List Nat}(hx:rows[x]?=some (b,.row .own 1 (bw ws)))(hw:Wd ws){i:Nat}(hi:i / 64<ws.length)(hi2:i<1000000):
  Ret (F55 n cl (wfv ws.length b) (.int .i64 (i:Nat)) h) fun v h'=>v= .tuple ⟨[]⟩/\Sl h0 h' S m (rows.set x (b,.row .own 1 (bw (addW ws i)))):=by
 unfold F55;have e1:=xQuo_n (x:=i) (y:=64) (by decide) (by omega);have e3:=xRem_n (x:=i) (y:=64) (by decide) (by omega);have hx':=List.getElem?_eq_getElem hi;have hD:ws.getD (i / 64) 0=ws[i / 64]:=by simp[List.getD_eq_getElem?_getD,hx']
 have hlt:=hw _ (List.getElem_mem hi);have f1:xIdxS 1 (wfv ws.length b) (.int .i64 ((i / 64:Nat):Int))=some (.pointer (some ⟨b,i / 64,none⟩)):=wfv_at hi;have l1:xLd (.pointer (some ⟨b,i / 64,none⟩)) h=some (.int .u64 (ws[i / 64]:Nat)):=st.ld (List.mem_of_getElem? hx) (bw_get hx');have e2:=xShl1 (s:=i % 64) (by omega);have e4:=xOr64 hlt (pow_lt (s:=i % 64) (by omega));simp only[vN_eq,e1,vb_some,f1,e3,e2,l1,e4];refine Ret.lst1 st x hx rfl (by rw[bw_len];exact hi) rfl fun h' st'=>?_;rw[bw_set, <-hD]at st';exact Ret.of ⟨rfl,st'⟩
end
def Gc(v:Value):Prop:=v=nils\/ ∃b k,v= .slice (some ⟨b,0,none⟩) k openCap
theorem growR_v{sz b k o n:Nat}{kill:Bool}{cs new:List Value}{h h':PH}{v:Value}(hx:growR sz b k o kill cs new n h=some (v,h')): ∃b',v= .slice (some ⟨b',0,none⟩) n openCap:=by
 unfold growR at hx
 split at hx<;>try (cases hx;done)
 split at hx
 ·split at hx<;>try (cases hx;done)
  rw[seqN_eq]at hx;cases hx;exact⟨_,rfl⟩
 ·rw[seqN_eq]at hx;cases hx;exact⟨_,rfl⟩
theorem xApp_gc{ai:Option (Nat×Nat)}{v v' x:Value}{h h':PH}(g:Gc v)(e:xApp ai v x h=some (v',h')):Gc v':=by
 unfold xApp at e
 split at e<;>try (cases e;done)
 split at e<;>try (cases e;done)
 split at e<;>try (cases e;done)
 rcases g with rfl|⟨b,k,rfl⟩
 ·simp only[nils]at e
  split at e
  ·cases e;exact .inl rfl
  ·split at e<;>try (cases e;done)
   split at e<;>try (cases e;done)
   cases e;exact .inr ⟨_,_,rfl⟩
 ·simp only at e
  split at e
  ·split at e<;>try (cases e;done)
   cases e;exact .inr ⟨_,_,rfl⟩
  ·split at e<;>try (cases e;done)
   split at e<;>try (cases e;done)
   split at e<;>try (cases e;done)
   split at e
   ·split at e
    ·split at e<;>try (cases e;done)
     split at e<;>try (cases e;done)
     exact .inr ⟨_,_,(stayR_ok e).1⟩
    ·obtain⟨_,q⟩:=growR_v e;exact .inr ⟨_,_,q⟩
   ·split at e<;>try (cases e;done)
    split at e<;>try (cases e;done)
    split at e<;>try (cases e;done)
    split at e<;>try (cases e;done)
    split at e
    ·exact .inr ⟨_,_,(stayR_ok e).1⟩
    ·obtain⟨_,q⟩:=growR_v e;exact .inr ⟨_,_,q⟩
section
variable {Q:Value->PH->Prop}{n:Nat}{cl:CL}{h h0:PH}{S:Vw}{m:OM}{rows:Rws}{K2:Value->PH->R}
theorem Ret.gappC{ex:Rws}(s:Sl h0 h S m (ex++rows)){P:Program}{T:TypeId}{ats:Array TypeId}{parts:List (Nat×Value)}{sz bt k:Nat}{v:Value}{cells new:List Value}(g:Gl sz v k cells ex)(gc:Gc v)
  (hb:bsRow P T 1 parts=some (sz,new)) (ha:appInfo P ats=some (sz,bt)) (hl:new.length=sz) (hone:oneCells new=true) (hsz:(2*(k+1)+512)*bt<=281474976710656)
  (hk: ∀h' v' ex',Sl h0 h' S m (ex'++rows)->Gl sz v' (k+1) (cells++new) ex'->Gc v'->Ret (K2 v' h') Q):Ret (Go.Am.hb (xBS 1 (bsRow P T 1 parts) h) fun v1 h=>Go.Am.hb (xApp (appInfo P ats) v v1 h) K2) Q:=by
 refine Ret.lbs s hb fun h1 b st=>?_;have st1:=st.perm (rows':=ex++(b,.row .own sz new)::rows) List.perm_middle.symm;have hx:=st1.ptail (n:=1) (sz:=sz) (c:=1) (b:=b) (List.mem_append_right _ (.head _)) (by rw[hl,Nat.one_mul]);rw[ha];have r:=Ret.lapp (bt:=bt) (K2:=fun v h=>some (v,h)) (Q:=fun v' h'=> ∃ex',Sl h0 h' S m (ex'++(b,.row .own sz new)::rows)/\Gl sz v' (k+1) (cells++new) ex') st1 g hx (by rw[hl,Nat.one_mul]) (by omega) hone hsz fun h' v' ex' st' g'=>Ret.of ⟨ex',st',g'⟩;rw[hb_id]at r;obtain⟨v',h',e,ex',st',g'⟩:=r;rw[e];exact hk h' v' ex' (st'.drop (List.Sublist.append (List.Sublist.refl _) (List.sublist_cons_self _ _))) g' (xApp_gc gc e)
end
def RM:Type:=Quotient (List.isSetoid (Nat×AObj))
def mq(l:Rws):RM:=Quotient.mk _ l
def RM.add:RM->RM->RM:=Quotient.lift₂ (fun a b=>mq (a++b)) fun a b c d h1 h2=>Quotient.sound (List.Perm.append h1 h2)
theorem mq_app(a b:Rws):mq (a++b)=RM.add (mq a) (mq b):=rfl
theorem mq_cons(x:Nat×AObj)(l:Rws):mq (x::l)=RM.add (mq [x]) (mq l):=rfl
theorem mq_nil(a:RM):RM.add (mq []) a=a:=by
 induction a using Quotient.inductionOn with|_ l=>rfl
instance:Std.Associative RM.add:=⟨fun a b c=>by
 induction a using Quotient.inductionOn with|_ a=>
 induction b using Quotient.inductionOn with|_ b=>
 induction c using Quotient.inductionOn with|_ c=>
 exact congrArg mq (List.append_assoc a b c)⟩
instance:Std.Commutative RM.add:=⟨fun a b=>by
 induction a using Quotient.inductionOn with|_ a=>
 induction b using Quotient.inductionOn with|_ b=>
 exact Quotient.sound List.perm_append_comm⟩
theorem mq_perm{a b:Rws}(h:a.Perm b):mq a=mq b:=Quotient.sound h
theorem perm_mq{a b:Rws}(h:mq a=mq b):a.Perm b:=Quotient.exact h
def wrows(L:List Nat)(T:List (List Nat)):Rws:=List.zipWith (fun b r=>(b,AObj.row .own 1 (bw r))) L T
theorem wrows_app{L L':List Nat}{T T':List (List Nat)}(h:L.length=T.length):wrows (L++L') (T++T')=wrows L T++wrows L' T':=by
 unfold wrows;rw[List.zipWith_append h]
theorem wrows_get{L:List Nat}{T:List (List Nat)}{x b:Nat}{r:List Nat}(h1:L[x]?=some b)(h2:T[x]?=some r):(wrows L T)[x]?=some (b,.row .own 1 (bw r)):=by
 unfold wrows;rw[List.getElem?_zipWith,h1,h2]
theorem wrows_set: ∀{L:List Nat}{T:List (List Nat)}{x b:Nat}{r:List Nat},L[x]?=some b->(wrows L T).set x (b,.row .own 1 (bw r))=wrows L (T.set x r)
 | [],_,x,b,r,h=>by simp at h
 |q::L,[],x,b,r,h=>rfl
 |q::L,t::T,0,b,r,h=>by simp at h;subst h;rfl
 |q::L,t::T,x+1,b,r,h=>by
  have h:L[x]?=some b:=by simpa using h
  show(_::(wrows L T).set x (b,.row .own 1 (bw r)))=_::wrows L (T.set x r)
  rw[wrows_set h]
theorem perm_set: ∀{l:Rws}{x:Nat}{p q:Nat×AObj},l[x]?=some p->(l.set x q).Perm (q::l.eraseIdx x)
 | [],x,p,q,h=>by simp at h
 |a::l,0,p,q,h=>List.Perm.refl _
 |a::l,x+1,p,q,h=>by
  have h:l[x]?=some p:=by simpa using h
  exact(List.Perm.cons a (perm_set h)).trans (List.Perm.swap _ _ _)
theorem perm_at: ∀{l:Rws}{x:Nat}{p:Nat×AObj},l[x]?=some p->l.Perm (p::l.eraseIdx x)
 | [],x,p,h=>by simp at h
 |a::l,0,p,h=>by simp at h;subst h;exact List.Perm.refl _
 |a::l,x+1,p,h=>by
  have h:l[x]?=some p:=by simpa using h
  exact(List.Perm.cons a (perm_at h)).trans (List.Perm.swap _ _ _)
theorem wrows_focus{L:List Nat}{T:List (List Nat)}{x b:Nat}{r:List Nat}(h1:L[x]?=some b)(h2:T[x]?=some r):
  ∃o,mq (wrows L T)=RM.add (mq [(b,.row .own 1 (bw r))]) (mq o)/\ ∀r',mq (wrows L (T.set x r'))=RM.add (mq [(b,.row .own 1 (bw r'))]) (mq o):=by
 have hg:=wrows_get h1 h2;exact⟨(wrows L T).eraseIdx x,mq_perm (perm_at hg),fun r'=>by rw[<-wrows_set h1];exact mq_perm (perm_set hg)⟩
structure Wok(W:Nat)(L:List Nat)(T:List (List Nat)):Prop where
 len:T.length=L.length
 row: ∀ws∈T,ws.length=W/\Wd ws
theorem Wok.set{W:Nat}{L:List Nat}{T:List (List Nat)}(w:Wok W L T){x i:Nat}{ws:List Nat}(h:T[x]?=some ws):Wok W L (T.set x (addW ws i)):=by
 refine⟨by rw[List.length_set];exact w.len,fun ws' hm=>?_⟩;rcases List.mem_or_eq_of_mem_set hm with h'|rfl
 ·exact w.row _ h'
 ·have:=w.row _ (List.mem_of_getElem? h);exact⟨by rw[addW_len];exact this.1,addW_wd this.2⟩
abbrev Pt:=Nat×Nat×Nat
def ptc(x:Pt):List Value:=[.int .i64 (x.1:Nat),.int .i64 (x.2.1:Nat),.int .i64 (x.2.2:Nat)]
def mV(kv:List ((Int×Value)×Nat)):List MapEntry:=kv.map fun p=>⟨.int .i64 p.1.1,p.1.2,p.2⟩
inductive Mp:List ((Int×Value)×Nat)->List (Int×List Pt)->Rws->Prop
 |nil:Mp [] [] []
 |cons {k:Int} {v:Value} {c:Nat} {l:List Pt} {ex exM:Rws} {kv:List ((Int×Value)×Nat)} {t:List (Int×List Pt)}:Gl 3 v l.length (l.flatMap ptc) ex->Mp kv t exM->Mp (((k,v),c)::kv) ((k,l)::t) (ex++exM)
structure FK where
 cp:Nat
 fp:Nat
 wb:Nat
 fr:Nat
 W:Nat
 g:Gr
 rv:Value
 fv:Value
 cv:Value
 kv:Value
 kw:Value
 ew:Value
 sv:Value
 ks:List Int
 LE:List Nat
 LN:List Nat
structure FS where
 G:List (Nat×Nat)
 H:List Pt
 w:List Pt
 t:List (Int×List Pt)
def offs(g:Gr)(r:Nat):Nat:=((g.rules.take r).map fun r=>r.right.length+1).sum
theorem offs_succ{g:Gr}{r:Nat}{rl:Rl}(h:g.rules[r]?=some rl):offs g (r+1)=offs g r+(rl.right.length+1):=by
 unfold offs;rw[List.take_add_one,h];simp
theorem offs_mono{g:Gr}{r q:Nat}(h:r<=q):offs g r<=offs g q:=by
 induction q with
 |zero=>
  have:r=0:=by omega
  subst this;exact Nat.le_refl _
 |succ q ih=>
  by_cases e:r=q+1
  ·subst e;exact Nat.le_refl _
  ·refine Nat.le_trans (ih (by omega)) ?_;cases hq:g.rules[q]? with
   |none=>
    have:g.rules.length<=q:=List.getElem?_eq_none_iff.1 hq;unfold offs;rw[List.take_of_length_le this,List.take_of_length_le (by omega)];exact Nat.le_refl _
   |some rl=>rw[offs_succ hq];omega
theorem offs_inj{g:Gr}{r q a b:Nat}{rl ql:Rl}(hr:g.rules[r]?=some rl)(hq:g.rules[q]?=some ql)(ha:a<=rl.right.length)(hb:b<=ql.right.length)(h:offs g r+a=offs g q+b):r=q/\a=b:=by
 rcases Nat.lt_trichotomy r q with h1|h1|h1
 ·have:=offs_mono (g:=g) (show r+1<=q from h1);rw[offs_succ hr]at this;omega
 ·subst h1;exact⟨rfl,by omega⟩
 ·have:=offs_mono (g:=g) (show q+1<=r from h1);rw[offs_succ hq]at this;omega
theorem offs_lt{g:Gr}{r a:Nat}{rl:Rl}(hr:g.rules[r]?=some rl)(ha:a<=rl.right.length):offs g r+a<offs g g.rules.length:=by
 have:=offs_mono (g:=g) (show r+1<=g.rules.length from(List.getElem?_eq_some_iff.1 hr).1);rw[offs_succ hr]at this;omega
def RelE(T:List (List Nat))(G:List (Nat×Nat)):Prop:= ∀a ws,T[a]?=some ws-> ∀p,hs ws p=true↔(a,p)∈G
def RelN(g:Gr)(T:List (List Nat))(H:List Pt):Prop:= ∀r rl a ws,g.rules[r]?=some rl->a<=rl.right.length->T[offs g r+a]?=some ws-> ∀p,hs ws p=true↔(r,a,p)∈H
structure KV(S:Vw)(K:FK):Prop where
 gv:GrV S K.g K.rv K.fv K.cv K.kv
 kinds:RdV (rI .i64) S K.kw K.ks
 seen: ∃Ws:List Value,Ws.length=K.g.rules.length/\SlC S 1 K.sv K.g.rules.length Ws/\ ∀r rl w,K.g.rules[r]?=some rl->Ws[r]?=some w->SlC S 1 w (rl.right.length+1) (((K.LN.drop (offs K.g r)).take (rl.right.length+1)).map (wfv K.W))
 lnl:K.LN.length=offs K.g K.g.rules.length
 ends: ∃We:List Value,We.length=K.ks.length+1/\SlC S 1 K.ew (K.ks.length+1) We/\ ∀p w,We[p]?=some w-> ∃Lp:List Nat,Lp.length=K.g.names.toNat/\SlC S 1 w K.g.names.toNat (Lp.map (wfv K.W))/\(p=K.fr->Lp=K.LE)/\
  (K.fr<p-> ∀(a:Nat) b,Lp[a]?=some b-> ∃ws,S b=some (bw ws)/\ws.length=K.W/\Wd ws/\ ∀j,hs ws j=true↔DvR K.g K.ks [(a:Int)] p j)
 lel:K.LE.length=K.g.names.toNat
 w:K.W=(K.ks.length+1) / 64+1
 fr:K.fr<=K.ks.length
 n:K.ks.length<=2000
 gok:GOk K.g
structure FV(K:FK)(s:FS)(rows rest:Rws):Prop where
 h: ∃(wv:Value) (exW:Rws) (z:Int) (TE TN:List (List Nat)),
  mq rows=mq ((K.fp,.row .own 1 [pt K.cp,.int .i64 (K.fr:Nat),K.sv,.map (some K.wb),wv])::(K.cp,.row .own 1 (gcs K.g K.rv K.fv K.cv K.kv++[K.kw,K.ew,.int .i64 z]))::(exW++(wrows K.LE TE++(wrows K.LN TN++rest))))/\
  (Gl 3 wv s.w.length (s.w.flatMap ptc) exW/\Gc wv)/\Wok K.W K.LE TE/\Wok K.W K.LN TN/\RelE TE s.G/\RelN K.g TN s.H
structure FM(K:FK)(s:FS)(rows rest:Rws):Prop where
 h: ∃(kvs:List ((Int×Value)×Nat)) (clk:Nat) (exM:Rws),FV K s rows ((K.wb,.map (mV kvs) clk)::(exM++rest))/\Mp kvs s.t exM
def comeS(s:FS)(x:Pt):FS:=if x∈s.H then s else {s with H:=s.H++[x],w:=s.w++[x]}
theorem bs82p{x:Pt}:bsRow Tryd.prog 82 1 [(0,.agg ⟨ptc x⟩)]=some (3,ptc x):=by
 obtain⟨a,b,c⟩:=x
 show bsRow Tryd.prog 82 1 [(0,.agg ⟨[.int .i64 (a:Nat),.int .i64 (b:Nat),.int .i64 (c:Nat)]⟩)]=some (3,[.int .i64 (a:Nat),.int .i64 (b:Nat),.int .i64 (c:Nat)])
 kernel_rfl
theorem ai82:appInfo Tryd.prog #[82,82]=some (3,24):=by kernel_rfl
section
variable {Q:Value->PH->Prop}{n:Nat}{cl ih:CL}{h h0:PH}{S:Vw}{m:OM}{rows rest ex:Rws}{K2:Value->PH->R}{K:FK}{s:FS}
theorem wq_lt{K:FK}{S:Vw}(kv:KV S K){p:Nat}(hp:p<=K.ks.length):p / 64<K.W:=by
 rw[kv.w];have:p / 64<=(K.ks.length+1) / 64:=Nat.div_le_div_right (by omega);omega
theorem Sl.whole(st:Sl h0 h S m rows): ∃S',Vw.le S S'/\Vw.le S' h.cells/\ ∀b e md cs,(b,AObj.row md e cs)∈rows->S' b=some cs:=by
 have st':Sl h0 h S m (rows++[]):=by rw[List.append_nil];exact st
 obtain⟨s1,le⟩:=Sl.settleAll st';refine⟨_,le,fun b cs e=>s1.leS b cs e,fun b e md cs hm=>?_⟩;exact vall_m (over_mem st.nd hm)
theorem mem_mq{a b:Rws}(h:mq a=mq b){p:Nat×AObj}(hp:p∈b):p∈a:=(perm_mq h).mem_iff.2 hp
set_option maxRecDepth 100000 in
theorem c42(kv:KV S K)(st:Sl h0 h S m rows)(fv:FV K s rows rest){x:Pt}{rl:Rl}(hr:K.g.rules[x.1]?=some rl)(ha:x.2.1<=rl.right.length)(hp:x.2.2<=K.ks.length)(hw:s.w.length<=2000000):
  Ret (F42 n cl (pt K.fp) (.agg ⟨ptc x⟩) h) fun v h'=>v= .tuple ⟨[]⟩/\ ∃rows',Sl h0 h' S m rows'/\FV K (comeS s x) rows' rest:=by
 obtain⟨wv,exW,z,TE,TN,hq,gw,we,wn,re,rn⟩:=fv.h;have hrl:=(List.getElem?_eq_some_iff.1 hr).1;have hn2:=kv.n;have hgrl:=kv.gok.rl;have h8:=kv.gok.r8 rl (List.mem_of_getElem? hr);obtain⟨Ws,hWs,hS1,hS2⟩:=kv.seen;have hwr:=List.getElem?_eq_getElem (l:=Ws) (i:=x.1) (by omega);generalize Ws[x.1]=w1 at hwr;have hS3:=hS2 x.1 rl w1 hr hwr;have hidx:offs K.g x.1+x.2.1<K.LN.length:=by rw[kv.lnl];exact offs_lt hr ha
 obtain⟨b,hb⟩: ∃b,K.LN[offs K.g x.1+x.2.1]?=some b:=⟨_,List.getElem?_eq_getElem hidx⟩;obtain⟨ws,hws⟩: ∃ws,TN[offs K.g x.1+x.2.1]?=some ws:=⟨_,List.getElem?_eq_getElem (by rw[wn.len];exact hidx)⟩;obtain⟨hwl,hwd⟩:=wn.row ws (List.mem_of_getElem? hws);obtain⟨b1,o1,c1,q1,q2,q3⟩:=hS1.at1 hwr;obtain⟨b2,o2,c2,p1,p2,p3⟩:=hS3.at1 (i:=x.2.1) (x:=wfv K.W b) (by rw[List.getElem?_map,List.getElem?_take,if_pos (by omega),List.getElem?_drop,hb];rfl);have hpW:=wq_lt kv hp;unfold F42;refine Ret.lbox st fun h1 c st1=>?_;have st1:Sl h0 h1 S m ((c,.row .own 1 (ptc x))::rows):=st1;have hfp:(K.fp,AObj.row .own 1 [pt K.cp,.int .i64 (K.fr:Nat),K.sv,.map (some K.wb),wv])∈rows:=mem_mq hq (.head _);have hbm:(b,AObj.row .own 1 (bw ws))∈rows:=mem_mq hq (by
  have:=List.mem_of_getElem? (wrows_get hb hws);exact .tail _ (.tail _ (List.mem_append_right _ (List.mem_append_right _ (List.mem_append_left _ this)))))
 have l2:xLd (.pointer (some ⟨K.fp,2,none⟩)) h1=some K.sv:=st1.ld (.tail _ hfp) rfl;have r0:xLd (.pointer (some ⟨c,0,none⟩)) h1=some (.int .i64 (x.1:Nat)):=st1.ld (.head _) rfl;have r1:xLd (.pointer (some ⟨c,1,none⟩)) h1=some (.int .i64 (x.2.1:Nat)):=st1.ld (.head _) rfl;have r2:xLd (.pointer (some ⟨c,2,none⟩)) h1=some (.int .i64 (x.2.2:Nat)):=st1.ld (.head _) rfl;have k1:xLd (.pointer (some ⟨b1,o1,none⟩)) h1=some w1:=st1.ldS q2 q3;have k2:xLd (.pointer (some ⟨b2,o2,none⟩)) h1=some (wfv K.W b):=st1.ldS p2 p3;obtain⟨S',le1,le2,hS'⟩:=st1.whole;have okh:=st1.ok;have hhas:=c28 (h:=h1) (n:=n) (cl:=cl) (S:=S') le2 (hS' b 1 .own _ (.tail _ hbm)) hwd (i:=x.2.2) (by rw[hwl];exact hpW) (by omega);rw[hwl]at hhas;simp only[xNil_p,vb_some,xFld_p,Nat.zero_add,l2,r0,r1,r2,q1,k1,p1,k2,hhas,xNot_b];have hrn:=rn x.1 rl x.2.1 ws hr ha hws x.2.2
 by_cases hin:x∈s.H
 ·have hb1:hs ws x.2.2=true:=hrn.2 hin;simp only[hb1,Bool.not_true,bite_f];refine Ret.of ⟨rfl,rows,st1.drop (List.sublist_cons_self _ _),?_⟩;unfold comeS;rw[if_pos hin];exact fv
 ·have hb1:hs ws x.2.2=false:=by
   cases hq:hs ws x.2.2 with
   |false=>rfl
   |true=>exact absurd (hrn.1 hq) hin
  simp only[hb1,Bool.not_false,bite_t,F42_0,xFld_p,Nat.zero_add,r2,vb_some];obtain⟨o,ho1,ho2⟩:=wrows_focus hb hws;have st2:=st1.perm (rows':=(b,.row .own 1 (bw ws))::(c,.row .own 1 (ptc x))::(K.fp,.row .own 1 [pt K.cp,.int .i64 (K.fr:Nat),K.sv,.map (some K.wb),wv])::(K.cp,.row .own 1 (gcs K.g K.rv K.fv K.cv K.kv++[K.kw,K.ew,.int .i64 z]))::(exW++(wrows K.LE TE++(o++rest)))) (perm_mq (by
   rw[mq_cons,hq];simp only[mq_app,mq_cons _ (_::_),mq_cons _ (_++_),ho1]
   ac_rfl))
  have hc55:=c55 (n:=n) (cl:=cl) st2 0 rfl hwd (i:=x.2.2) (by rw[hwl];exact hpW) (by omega);rw[hwl]at hc55;refine Ret.hb hc55 fun v2 h3 hv2=>?_;obtain⟨rfl,st3⟩:=hv2;have st3:Sl h0 h3 S m ((b,.row .own 1 (bw (addW ws x.2.2)))::(c,.row .own 1 (ptc x))::(K.fp,.row .own 1 [pt K.cp,.int .i64 (K.fr:Nat),K.sv,.map (some K.wb),wv])::(K.cp,.row .own 1 (gcs K.g K.rv K.fv K.cv K.kv++[K.kw,K.ew,.int .i64 z]))::(exW++(wrows K.LE TE++(o++rest)))):=st3;have st4:=st3.perm (rows':=exW++((K.fp,.row .own 1 [pt K.cp,.int .i64 (K.fr:Nat),K.sv,.map (some K.wb),wv])::(c,.row .own 1 (ptc x))::(b,.row .own 1 (bw (addW ws x.2.2)))::(K.cp,.row .own 1 (gcs K.g K.rv K.fv K.cv K.kv++[K.kw,K.ew,.int .i64 z]))::(wrows K.LE TE++(o++rest)))) (perm_mq (by
   simp only[mq_app,mq_cons _ (_::_),mq_cons _ (_++_)]
   ac_rfl))
  have l4:xLd (.pointer (some ⟨K.fp,4,none⟩)) h3=some wv:=st4.ld (b:=K.fp) (e:=1) (md:=.own) (cs:=[pt K.cp,.int .i64 (K.fr:Nat),K.sv,.map (some K.wb),wv]) (by simp) rfl;have lA:xLdA 3 (.pointer (some ⟨c,0,none⟩)) h3=some (.agg ⟨ptc x⟩):=st4.ldA (b:=c) (e:=1) (md:=.own) (cs:=ptc x) (by simp) rfl (by simp[ptc]);simp only[xNil_p,vb_some,xFld_p,Nat.zero_add,l4,lA];have hsz:(2*(s.w.length+1)+512)*24<=281474976710656:=by omega
  refine Ret.gappC st4 gw.1 gw.2 bs82p ai82 rfl rfl hsz fun h5 wv' exW' st5 gw' gc'=>?_;have st6:=st5.perm List.perm_middle;refine Ret.lst1 st6 0 rfl rfl (by simp) (by exact gw'.one) fun h7 st7=>?_;have st7:Sl h0 h7 S m ((K.fp,.row .own 1 [pt K.cp,.int .i64 (K.fr:Nat),K.sv,.map (some K.wb),wv'])::(exW'++((c,.row .own 1 (ptc x))::(b,.row .own 1 (bw (addW ws x.2.2)))::(K.cp,.row .own 1 (gcs K.g K.rv K.fv K.cv K.kv++[K.kw,K.ew,.int .i64 z]))::(wrows K.LE TE++(o++rest))))):=st7;have st8:=(st7.perm (rows':=(c,.row .own 1 (ptc x))::(K.fp,.row .own 1 [pt K.cp,.int .i64 (K.fr:Nat),K.sv,.map (some K.wb),wv'])::(K.cp,.row .own 1 (gcs K.g K.rv K.fv K.cv K.kv++[K.kw,K.ew,.int .i64 z]))::(exW'++(wrows K.LE TE++(wrows K.LN (TN.set (offs K.g x.1+x.2.1) (addW ws x.2.2))++rest)))) (perm_mq (by
   simp only[mq_app,mq_cons _ (_::_),mq_cons _ (_++_),ho2]
   ac_rfl))).drop (List.sublist_cons_self _ _)
  refine Ret.of ⟨rfl,_,st8,⟨wv',exW',z,TE,TN.set (offs K.g x.1+x.2.1) (addW ws x.2.2),rfl,?_,we,wn.set hws,?_,?_⟩⟩
  ·unfold comeS;rw[if_neg hin];refine⟨?_,gc'⟩
   show Gl 3 wv' (s.w++[x]).length ((s.w++[x]).flatMap ptc) exW'
   rw[List.length_append,List.length_singleton,List.flatMap_append];simpa using gw'
  ·unfold comeS;rw[if_neg hin];exact re
  ·unfold comeS;rw[if_neg hin];intro r rl' a ws' hr' ha' hws' p;have hTl:offs K.g x.1+x.2.1<TN.length:=(List.getElem?_eq_some_iff.1 hws).1
   show _↔(r,a,p)∈s.H++[x]
   rw[List.mem_append,List.mem_singleton]
   by_cases e:offs K.g x.1+x.2.1=offs K.g r+a
   ·rw[e,List.getElem?_set_self (by rw[<-e];exact hTl)]at hws';cases hws';obtain⟨e1,e2⟩:=offs_inj hr hr' ha ha' e;have hold:=rn r rl' a ws hr' ha' (by rw[<-e];exact hws) p;rw[addW_hs (by rw[hwl];exact hpW),Bool.or_eq_true,hold,decide_eq_true_eq];constructor
    ·rintro(h|h)
     ·exact .inl h
     ·right;rw[<-e1, <-e2,h]
    ·rintro(h|h)
     ·exact .inl h
     ·right;rw[<-h]
   ·rw[List.getElem?_set_ne e]at hws';rw[rn r rl' a ws' hr' ha' hws' p];constructor
    ·exact .inl
    ·rintro(h|h)
     ·exact h
     ·rw[<-h]at e;exact absurd rfl e
end
structure Vp(K:FK)(y:Pt):Prop where
 h: ∃rl,K.g.rules[y.1]?=some rl/\y.2.1<=rl.right.length/\y.2.2<=K.ks.length
structure Bs(K:FK)(s:FS):Prop where
 nd:s.H.Nodup
 ok: ∀y∈s.H,Vp K y
 wl:s.w.length<=s.H.length
structure Gro(P:Pt->Prop)(s s':FS):Prop where
 G:s'.G=s.G
 t:s'.t=s.t
 h: ∃l,s'.H=s.H++l/\s'.w=s.w++l/\(∀y∈l,P y/\y∉s.H)/\l.Nodup
theorem Gro.refl{P:Pt->Prop}{s:FS}:Gro P s s:=⟨rfl,rfl,[],by simp,by simp,by simp,.nil⟩
theorem Gro.trans{P:Pt->Prop}{a b c:FS}(x:Gro P a b)(y:Gro P b c):Gro P a c:=by
 obtain⟨l,h1,h2,h3,h4⟩:=x.h;obtain⟨k,k1,k2,k3,k4⟩:=y.h;refine⟨y.G.trans x.G,y.t.trans x.t,l++k,by rw[k1,h1,List.append_assoc],by rw[k2,h2,List.append_assoc],fun z hz=>?_,?_⟩
 ·rcases List.mem_append.1 hz with h|h
  ·exact h3 z h
  ·refine⟨(k3 z h).1,fun hh=>(k3 z h).2 (by rw[h1];exact List.mem_append_left _ hh)⟩
 ·rw[List.nodup_append];refine⟨h4,k4,fun p hp q hq e=>?_⟩;subst e;exact(k3 p hq).2 (by rw[h1];exact List.mem_append_right _ hp)
theorem Gro.come{P:Pt->Prop}{s:FS}{x:Pt}(h:P x):Gro P s (comeS s x):=by
 unfold comeS
 by_cases e:x∈s.H
 ·rw[if_pos e];exact .refl
 ·rw[if_neg e];exact⟨rfl,rfl,[x],rfl,rfl,fun y hy=>by rw[List.mem_singleton]at hy;subst hy;exact⟨h,e⟩,by simp⟩
theorem Gro.sub{P:Pt->Prop}{s s':FS}(g:Gro P s s'){y:Pt}(h:y∈s.H):y∈s'.H:=by
 obtain⟨l,h1,_⟩:=g.h;rw[h1];exact List.mem_append_left _ h
theorem come_mem{s:FS}{x:Pt}:x∈(comeS s x).H:=by
 unfold comeS
 by_cases e:x∈s.H
 ·rw[if_pos e];exact e
 ·rw[if_neg e];simp
theorem Bs.grow{K:FK}{P:Pt->Prop}{s s':FS}(b:Bs K s)(g:Gro P s s')(hP: ∀y,P y->Vp K y):Bs K s':=by
 obtain⟨l,h1,h2,h3,h4⟩:=g.h;refine⟨?_,fun y hy=>?_,?_⟩
 ·rw[h1,List.nodup_append];exact⟨b.nd,h4,fun p hp q hq e=>(h3 q hq).2 (by rw[<-e];exact hp)⟩
 ·rw[h1]at hy;rcases List.mem_append.1 hy with h|h
  ·exact b.ok y h
  ·exact hP y (h3 y h).1
 ·rw[h1,h2,List.length_append,List.length_append];have:=b.wl;omega
def codeP(x:Pt):Nat:=(x.1*16+x.2.1)*2048+x.2.2
theorem Vp.lt{K:FK}(hg:GOk K.g)(hn:K.ks.length<=2000){y:Pt}(v:Vp K y):y.1<60/\y.2.1<=8/\y.2.2<=2000:=by
 obtain⟨rl,h1,h2,h3⟩:=v.h;have:=(List.getElem?_eq_some_iff.1 h1).1;have:=hg.rl;have:=hg.r8 rl (List.mem_of_getElem? h1);omega
theorem codeP_inj{x y:Pt}(hx:x.1<60/\x.2.1<=8/\x.2.2<=2000)(hy:y.1<60/\y.2.1<=8/\y.2.2<=2000)(h:codeP x=codeP y):x=y:=by
 obtain⟨a,b,c⟩:=x;obtain⟨a',b',c'⟩:=y;unfold codeP at h;dsimp only at*;have e1:c=c':=by omega
 have e2:b=b':=by omega
 have e3:a=a':=by omega
 rw[e1,e2,e3]
theorem Bs.len{K:FK}(hg:GOk K.g)(hn:K.ks.length<=2000){s:FS}(b:Bs K s):s.H.length<=1966080/\s.w.length<=1966080:=by
 have key:s.H.length<=1966080:=by
  refine inj_le 1966080 s.H.length (fun i=>codeP (s.H.getD i (0,0,0))) (fun i hi=>?_) fun i j hi hj he=>?_
  ·have hx:=List.getElem?_eq_getElem hi;have hD:s.H.getD i (0,0,0)=s.H[i]:=by rw[List.getD_eq_getElem?_getD,hx];rfl
   have h1:=(b.ok _ (List.mem_of_getElem? hx)).lt hg hn
   show codeP (s.H.getD i (0,0,0))<1966080
   rw[hD];unfold codeP;omega
  ·have hi':=List.getElem?_eq_getElem hi;have hj':=List.getElem?_eq_getElem hj;have hDi:s.H.getD i (0,0,0)=s.H[i]:=by rw[List.getD_eq_getElem?_getD,hi'];rfl
   have hDj:s.H.getD j (0,0,0)=s.H[j]:=by rw[List.getD_eq_getElem?_getD,hj'];rfl
   have he:codeP (s.H.getD i (0,0,0))=codeP (s.H.getD j (0,0,0)):=he;rw[hDi,hDj]at he;have e:=codeP_inj ((b.ok _ (List.mem_of_getElem? hi')).lt hg hn) ((b.ok _ (List.mem_of_getElem? hj')).lt hg hn) he;have pw:=List.pairwise_iff_getElem.1 b.nd;rcases Nat.lt_trichotomy i j with hlt|hlt|hlt
   ·exact absurd e (pw i j hi hj hlt)
   ·exact hlt
   ·exact absurd e.symm (pw j i hj hi hlt)
 have:=b.wl;omega
section
variable {Q:Value->PH->Prop}{n:Nat}{cl ih:CL}{h h0:PH}{S:Vw}{m:OM}{rows rest ex:Rws}{K2:Value->PH->R}{K:FK}{s:FS}
theorem FV.nrow(kv:KV S K)(st:Sl h0 h S m rows)(fv:FV K s rows rest){r a b:Nat}{rl:Rl}(hr:K.g.rules[r]?=some rl)(ha:a<=rl.right.length)(hb:K.LN[offs K.g r+a]?=some b):
  ∃ws,(∀(i:Nat) w,ws[i]?=some w->xLd (.pointer (some ⟨b,i,none⟩)) h=some (.int .u64 (w:Nat)))/\ws.length=K.W/\Wd ws/\ ∀p,hs ws p=true↔(r,a,p)∈s.H:=by
 obtain⟨wv,exW,z,TE,TN,hq,gw,we,wn,re,rn⟩:=fv.h;have hidx:=(List.getElem?_eq_some_iff.1 hb).1;obtain⟨ws,hws⟩: ∃ws,TN[offs K.g r+a]?=some ws:=⟨_,List.getElem?_eq_getElem (by rw[wn.len];exact hidx)⟩;obtain⟨hwl,hwd⟩:=wn.row ws (List.mem_of_getElem? hws);have hm:(b,AObj.row .own 1 (bw ws))∈rows:=mem_mq hq (by
  have:=List.mem_of_getElem? (wrows_get hb hws);exact .tail _ (.tail _ (List.mem_append_right _ (List.mem_append_right _ (List.mem_append_left _ this)))))
 exact⟨ws,fun i w hw=>st.ld hm (bw_get hw),hwl,hwd,rn r rl a ws hr ha hws⟩
theorem FV.erow(st:Sl h0 h S m rows)(fv:FV K s rows rest){a b:Nat}(hb:K.LE[a]?=some b):
  ∃ws,(∀(i:Nat) w,ws[i]?=some w->xLd (.pointer (some ⟨b,i,none⟩)) h=some (.int .u64 (w:Nat)))/\ws.length=K.W/\Wd ws/\(∀p,hs ws p=true↔(a,p)∈s.G)/\(b,AObj.row .own 1 (bw ws))∈rows:=by
 obtain⟨wv,exW,z,TE,TN,hq,gw,we,wn,re,rn⟩:=fv.h;have hidx:=(List.getElem?_eq_some_iff.1 hb).1;obtain⟨ws,hws⟩: ∃ws,TE[a]?=some ws:=⟨_,List.getElem?_eq_getElem (by rw[we.len];exact hidx)⟩;obtain⟨hwl,hwd⟩:=we.row ws (List.mem_of_getElem? hws);have hm:(b,AObj.row .own 1 (bw ws))∈rows:=mem_mq hq (by
  have:=List.mem_of_getElem? (wrows_get hb hws);exact .tail _ (.tail _ (List.mem_append_right _ (List.mem_append_left _ this))))
 exact⟨ws,fun i w hw=>st.ld hm (bw_get hw),hwl,hwd,re a ws hws,hm⟩
theorem FV.beside(fv:FV K s rows rest){p:Nat×AObj}:FV K s (p::rows) (p::rest):=by
 obtain⟨wv,exW,z,TE,TN,hq,r⟩:=fv.h;refine⟨wv,exW,z,TE,TN,?_,r⟩;rw[mq_cons,hq];simp only[mq_app,mq_cons _ (_::_),mq_cons _ (_++_)];rw[mq_cons p rest]
 ac_rfl
theorem FV.without{p:Nat×AObj}(st:Sl h0 h S m rows)(fv:FV K s rows (p::rest)): ∃rows',Sl h0 h S m rows'/\FV K s rows' rest:=by
 obtain⟨wv,exW,z,TE,TN,hq,r⟩:=fv.h;have st2:=(st.perm (rows':=p::((K.fp,.row .own 1 [pt K.cp,.int .i64 (K.fr:Nat),K.sv,.map (some K.wb),wv])::(K.cp,.row .own 1 (gcs K.g K.rv K.fv K.cv K.kv++[K.kw,K.ew,.int .i64 z]))::(exW++(wrows K.LE TE++(wrows K.LN TN++rest))))) (perm_mq (by
  rw[hq];simp only[mq_app,mq_cons _ (_::_),mq_cons _ (_++_)];rw[mq_cons p rest]
  ac_rfl))).drop (List.sublist_cons_self _ _)
 exact⟨_,st2,⟨wv,exW,z,TE,TN,rfl,r⟩⟩
end
theorem ab87{a b c:Nat}:abuild Tryd.prog 87 [(0,.int .i64 (a:Nat)),(1,.int .i64 (b:Nat)),(2,.int .i64 (c:Nat))]=some (.agg ⟨ptc (a,b,c)⟩):=by
 show abuild Tryd.prog 87 [(0,.int .i64 (a:Nat)),(1,.int .i64 (b:Nat)),(2,.int .i64 (c:Nat))]=some (.agg ⟨[.int .i64 (a:Nat),.int .i64 (b:Nat),.int .i64 (c:Nat)]⟩)
 kernel_rfl
theorem veq_i{k:IntKind}{z:Int}:veq (.int k z) (.int k z)=true:=by
 have hk:kb k k=true:=by cases k<;>rfl
 have hi:ieq z z=true:=by rw[ieq_eq];simp
 show(match kb k k with|true=>ieq z z|false=>false)=true
 rw[hk];exact hi
section
variable {Q:Value->PH->Prop}{n:Nat}{cl ih:CL}{h h0:PH}{S:Vw}{m:OM}{rows rest ex:Rws}{K2:Value->PH->R}{K:FK}{s:FS}{P:Pt->Prop}
set_option maxRecDepth 100000 in
theorem loop58b(kv:KV S K){x:Pt}{rl:Rl}(hr:K.g.rules[x.1]?=some rl)(ha:x.2.1+1<=rl.right.length)(hPV: ∀y,P y->Vp K y){d i:Nat}(hi:i<=100){lv ev Wv:Value}{Ko:Kt}:
  ∀(q L fu w:Nat)(s:FS)(rows:Rws)(h:PH),L+q=64->q<fu->w<18446744073709551616->(∀j,j<L->w.testBit j=false)->(∀j,j<64->w.testBit j=true->P (x.1,x.2.1+1,i*64+j))->Sl h0 h S m rows->FV K s rows ((d,.row .own 1 (ptc x))::rest)->Bs K s->
   (∀s' rows' h',Sl h0 h' S m rows'->FV K s' rows' ((d,.row .own 1 (ptc x))::rest)->Gro P s s'->(∀j,j<64->w.testBit j=true->(x.1,x.2.1+1,i*64+j)∈s'.H)->Ret (F58_1 n (CLy n ih) (.int .i64 (i:Nat)) Ko (pt K.fp) (pt d) lv ev Wv h') Q)->
   Ret (lp fu (F58_3 n (CLy n ih) Ko) [pt K.fp,pt d,lv,.int .i64 (i:Nat),.int .u64 (w:Nat),ev,Wv,.int .i64 (i:Nat)] h) Q:=by
 have h8:=kv.gok.r8 rl (List.mem_of_getElem? hr);have hgrl:=kv.gok.rl;have hrlt:=(List.getElem?_eq_some_iff.1 hr).1;intro q
 induction q using Nat.strongRecOn with
 |ind q ihq=>
  intro L fu w s rows h hL hf hw hlow hP st fv bs hK;obtain⟨fu,rfl⟩: ∃q,fu=q+1:=⟨fu-1,by omega⟩;rw[lp_succ]
  by_cases h0w:w=0
  ·subst h0w;have dc:decide (((0:Nat):Int)=Int.ofNat 0)=true:=by decide
   simp only[F58_3,ucons_cons,F58_2,xNe_i,dc,Bool.not_true,vb_some,bite_f];exact hK s rows h st fv .refl fun j hj hb=>by simp at hb
  ·have dc:decide (((w:Nat):Int)=Int.ofNat 0)=false:=decide_eq_false (fun e=>h0w (Int.ofNat.inj e));obtain⟨_,_,hc64⟩:=ctz_spec h0w hw;have hcb:=ctz_bit h0w hw;have hcL:L<=Lib.ctz 64 w:=by
    rcases Nat.lt_or_ge (Lib.ctz 64 w) L with h1|h1
    ·have:=hlow _ h1;rw[hcb]at this;cases this
    ·exact h1
   have hdm:(d,AObj.row .own 1 (ptc x))∈rows:=by
    obtain⟨wv,exW,z,TE,TN,hq,_⟩:=fv.h;exact mem_mq hq (.tail _ (.tail _ (List.mem_append_right _ (List.mem_append_right _ (List.mem_append_right _ (.head _))))))
   have r0:xLd (.pointer (some ⟨d,0,none⟩)) h=some (.int .i64 (x.1:Nat)):=st.ld hdm rfl;have r1:xLd (.pointer (some ⟨d,1,none⟩)) h=some (.int .i64 (x.2.1:Nat)):=st.ld hdm rfl;have w1:IntKind.i64.wrap (((i:Nat):Int)*((64:Nat):Int))=((i*64:Nat):Int):=by
    rw[wrap_in (by omega) (by omega)];omega
   have w2:IntKind.i64.wrap (((x.2.1:Nat):Int)+((1:Nat):Int))=((x.2.1+1:Nat):Int):=by
    rw[wrap_in (by omega) (by omega)];omega
   have hcb2:Lib.ctz 64 w<64:=hc64;have w3:IntKind.i64.wrap (((i*64:Nat):Int)+((Lib.ctz 64 w:Nat):Int))=((i*64+Lib.ctz 64 w:Nat):Int):=by
    rw[wrap_in (by omega) (by omega)];omega
   have hand:xBit Nat.land (.int .u64 (w:Nat)) (.int .u64 ((w-1:Nat):Int))=some (.int .u64 ((w&&&(w-1):Nat):Int)):=xAnd64 hw (by omega);simp only[F58_3,ucons_cons,F58_2,xNe_i,dc,Bool.not_false,vb_some,bite_t,F58_0,xFld_p,Nat.zero_add,vN_eq,xMul_i,w1,r0,r1,xAdd_i,w2,told45 hw,lchk_t veq_i,w3,ab87];have hPx:=hP _ hc64 hcb;obtain⟨rl',v1,v2,v3⟩:=(hPV _ hPx).h;have hbl:=bs.len kv.gok kv.n;refine Ret.hb (c42 (x:=(x.1,x.2.1+1,i*64+Lib.ctz 64 w)) kv st fv v1 v2 v3 (by omega)) fun v h2 hv2=>?_;obtain⟨rfl,rows2,st2,fv2⟩:=hv2;simp only[subW h0w hw,vb_some,hand];have hg2:Gro P s (comeS s (x.1,x.2.1+1,i*64+Lib.ctz 64 w)):=.come hPx;have hlt2:(w&&&(w-1))<18446744073709551616:=and_lt hw;refine ihq (64-(Lib.ctz 64 w+1)) (by omega) (Lib.ctz 64 w+1) fu _ _ rows2 h2 (by omega) (by omega) hlt2 (fun j hj=>?_) (fun j hj hb=>?_) st2 fv2 (bs.grow hg2 hPV) fun s' rows' h' st' fv' g' hall=>?_
   ·rw[low_off h0w hw]
    by_cases e:j=Lib.ctz 64 w
    ·simp[e]
    ·obtain⟨mm,hm,_⟩:=ctz_spec h0w hw;have:=bit_odd (c:=Lib.ctz 64 w) (m:=mm) (j:=j);rw[<-hm]at this;rw[this];have a3: ¬ Lib.ctz 64 w<j:=by omega
     simp[e,a3]
   ·rw[low_off h0w hw,Bool.and_eq_true]at hb;exact hP j hj hb.1
   ·refine hK s' rows' h' st' fv' (hg2.trans g') fun j hj hb=>?_
    by_cases e:j=Lib.ctz 64 w
    ·subst e;exact g'.sub come_mem
    ·refine hall j hj ?_;rw[low_off h0w hw,hb];simp[e]
theorem loop58w(kv:KV S K)(hn:9223372036854775808<=n){x:Pt}{rl:Rl}(hr:K.g.rules[x.1]?=some rl)(ha:x.2.1+1<=rl.right.length)(hPV: ∀y,P y->Vp K y){d be bl:Nat}{ws:List Nat}(hwl:ws.length=K.W)(hwd:Wd ws)(hb:K.LN[offs K.g x.1+(x.2.1+1)]?=some bl)
  (hP: ∀j,hs ws j=true->P (x.1,x.2.1+1,j)) {G0:List (Nat×Nat)}
  (rd: ∀s' rows' rest' h',FV K s' rows' rest'->s'.G=G0->Sl h0 h' S m rows'-> ∀(i:Nat) w,ws[i]?=some w->xLd (.pointer (some ⟨be,i,none⟩)) h'=some (.int .u64 (w:Nat))):
  ∀(q i fu:Nat)(s:FS)(rows:Rws)(h:PH),K.W=i+q->q<fu->s.G=G0->Sl h0 h S m rows->FV K s rows ((d,.row .own 1 (ptc x))::rest)->Bs K s->(∀j,j / 64<i->hs ws j=true->(x.1,x.2.1+1,j)∈s.H)->
   Ret (lp fu (F58_6 n (CLy n ih)) [pt K.fp,pt d,wfv K.W bl,wfv K.W be,.int .i64 (K.W:Nat),.int .i64 (i:Nat)] h) fun v h'=>v= .tuple ⟨[]⟩/\ ∃s' rows',Sl h0 h' S m rows'/\FV K s' rows' ((d,.row .own 1 (ptc x))::rest)/\Gro P s s'/\ ∀j,hs ws j=true->(x.1,x.2.1+1,j)∈s'.H:=by
 have hn2:=kv.n;have hW:K.W<=32:=by
  rw[kv.w];have:(K.ks.length+1) / 64<=2001 / 64:=Nat.div_le_div_right (by omega);omega
 intro q
 induction q with
 |zero=>
  intro i fu s rows h hq hf hG st fv bs hall;obtain⟨fu,rfl⟩: ∃q,fu=q+1:=⟨fu-1,by omega⟩;rw[lp_succ];have dc:decide (((i:Nat):Int)<((K.W:Nat):Int))=false:=decide_eq_false (by omega);simp only[F58_6,ucons_cons,F58_5,xLt_i,dc,vb_some,bite_f];refine Ret.of ⟨rfl,s,rows,st,fv,.refl,fun j hj=>hall j ?_ hj⟩;unfold hs at hj
  by_cases e:j / 64<ws.length
  ·omega
  ·rw[List.getD_eq_getElem?_getD,List.getElem?_eq_none (by omega)]at hj;simp at hj
 |succ q ihq=>
  intro i fu s rows h hq hf hG st fv bs hall;obtain⟨fu,rfl⟩: ∃q,fu=q+1:=⟨fu-1,by omega⟩;rw[lp_succ];have dc:decide (((i:Nat):Int)<((K.W:Nat):Int))=true:=decide_eq_true (by omega);obtain⟨w,hw⟩: ∃w,ws[i]?=some w:=⟨_,List.getElem?_eq_getElem (by omega)⟩;have hwlt:=hwd w (List.mem_of_getElem? hw);obtain⟨ls,hls,lsl,lsd,lsh⟩:=FV.nrow kv st fv hr ha hb;obtain⟨lw,hlw⟩: ∃w,ls[i]?=some w:=⟨_,List.getElem?_eq_getElem (by omega)⟩;have i1:xIdxS 1 (wfv K.W be) (.int .i64 (i:Nat))=some (.pointer (some ⟨be,i,none⟩)):=wfv_at (by omega);have i2:xIdxS 1 (wfv K.W bl) (.int .i64 (i:Nat))=some (.pointer (some ⟨bl,i,none⟩)):=wfv_at (by omega);have l1:=rd s rows _ h fv hG st i w hw;have l2:=hls i lw hlw;simp only[F58_6,ucons_cons,F58_5,xLt_i,dc,vb_some,bite_t,F58_4,i1,l1,i2,l2,abin_andNot];have hbit: ∀j,j<64->hs ws (i*64+j)=w.testBit j:=fun j hj=>by
   unfold hs;rw[show(i*64+j) / 64=i by omega,show(i*64+j) % 64=j by omega,List.getD_eq_getElem?_getD,hw];rfl
  have hbitl: ∀j,j<64->hs ls (i*64+j)=lw.testBit j:=fun j hj=>by
   unfold hs;rw[show(i*64+j) / 64=i by omega,show(i*64+j) % 64=j by omega,List.getD_eq_getElem?_getD,hlw];rfl
  refine loop58b kv hr ha hPV (by omega) 64 0 n (difW w lw) s rows h rfl (by omega) (difW_lt _ _) (fun j hj=>absurd hj (Nat.not_lt_zero _)) (fun j hj hb=>?_) st fv bs fun s' rows' h' st' fv' g' hnew=>?_
  ·rw[difW_bit hj,Bool.and_eq_true]at hb;exact hP _ (by rw[hbit j hj];exact hb.1)
  ·unfold F58_1;simp only[vN_eq,xAdd_i,vb_some,show(((1:Nat):Int))=1 from rfl,wrap1 (i:=i) (by omega)];refine(ihq (i+1) fu s' rows' h' (by omega) (by omega) (g'.G.trans hG) st' fv' (bs.grow g' hPV) fun j hj hh=>?_).mono fun v hh ⟨e,s2,rows2,a1,a2,a3,a4⟩=>⟨e,s2,rows2,a1,a2,g'.trans a3,a4⟩
   by_cases e:j / 64<i
   ·exact g'.sub (hall j e hh)
   ·have ej:j=i*64+j % 64:=by omega
    have hj64:j % 64<64:=Nat.mod_lt _ (by decide);rw[ej]at hh ⊢;generalize j % 64=r at*;rw[hbit r hj64]at hh
    by_cases hin:lw.testBit r=true
    ·rw[<-hbitl r hj64]at hin;exact g'.sub ((lsh _).1 hin)
    ·refine hnew r hj64 ?_;rw[difW_bit hj64,hh];simp at hin;rw[hin];rfl
theorem c58(kv:KV S K)(hn:9223372036854775808<=n)(st:Sl h0 h S m rows)(fv:FV K s rows rest)(bs:Bs K s){x:Pt}{rl:Rl}(hr:K.g.rules[x.1]?=some rl)(ha:x.2.1+1<=rl.right.length)(hPV: ∀y,P y->Vp K y){be:Nat}{ws:List Nat}(hwl:ws.length=K.W)(hwd:Wd ws)
  (hP: ∀j,hs ws j=true->P (x.1,x.2.1+1,j))
  (rd: ∀s' rows' rest' h',FV K s' rows' rest'->s'.G=s.G->Sl h0 h' S m rows'-> ∀(i:Nat) w,ws[i]?=some w->xLd (.pointer (some ⟨be,i,none⟩)) h'=some (.int .u64 (w:Nat))):
  Ret (F58 n (CLy n ih) (pt K.fp) (.agg ⟨ptc x⟩) (wfv K.W be) h) fun v h'=>v= .tuple ⟨[]⟩/\ ∃s' rows',Sl h0 h' S m rows'/\FV K s' rows' rest/\Gro P s s'/\ ∀j,hs ws j=true->(x.1,x.2.1+1,j)∈s'.H:=by
 have h8:=kv.gok.r8 rl (List.mem_of_getElem? hr);have hgrl:=kv.gok.rl;have hrlt:=(List.getElem?_eq_some_iff.1 hr).1;obtain⟨Ws,hWs,hS1,hS2⟩:=kv.seen;have hwr:=List.getElem?_eq_getElem (l:=Ws) (i:=x.1) (by omega);generalize Ws[x.1]=w1 at hwr;have hS3:=hS2 x.1 rl w1 hr hwr;have hidx:offs K.g x.1+(x.2.1+1)<K.LN.length:=by rw[kv.lnl];exact offs_lt hr ha
 obtain⟨b,hb⟩: ∃b,K.LN[offs K.g x.1+(x.2.1+1)]?=some b:=⟨_,List.getElem?_eq_getElem hidx⟩;obtain⟨b1,o1,c1,q1,q2,q3⟩:=hS1.at1 hwr;obtain⟨b2,o2,c2,p1,p2,p3⟩:=hS3.at1 (i:=x.2.1+1) (x:=wfv K.W b) (by rw[List.getElem?_map,List.getElem?_take,if_pos (by omega),List.getElem?_drop,hb];rfl);unfold F58;refine Ret.lbox st fun h1 d st1=>?_;have st1:Sl h0 h1 S m ((d,.row .own 1 (ptc x))::rows):=st1;have fv1:=fv.beside (p:=(d,.row .own 1 (ptc x)));obtain⟨wv,exW,z,TE,TN,hq,_⟩:=fv.h;have hfp:(K.fp,AObj.row .own 1 [pt K.cp,.int .i64 (K.fr:Nat),K.sv,.map (some K.wb),wv])∈rows:=mem_mq hq (.head _);have l2:xLd (.pointer (some ⟨K.fp,2,none⟩)) h1=some K.sv:=st1.ld (.tail _ hfp) rfl;have r0:xLd (.pointer (some ⟨d,0,none⟩)) h1=some (.int .i64 (x.1:Nat)):=st1.ld (.head _) rfl;have r1:xLd (.pointer (some ⟨d,1,none⟩)) h1=some (.int .i64 (x.2.1:Nat)):=st1.ld (.head _) rfl;have k1:xLd (.pointer (some ⟨b1,o1,none⟩)) h1=some w1:=st1.ldS q2 q3;have k2:xLd (.pointer (some ⟨b2,o2,none⟩)) h1=some (wfv K.W b):=st1.ldS p2 p3;have w2:IntKind.i64.wrap (((x.2.1:Nat):Int)+((1:Nat):Int))=((x.2.1+1:Nat):Int):=by
  rw[wrap_in (by omega) (by omega)];omega
 have ln:xLenS (wfv K.W be)=some (.int .i64 (K.W:Nat)):=by simp
 have hW:K.W<=32:=by
  rw[kv.w];have:=kv.n;have:(K.ks.length+1) / 64<=2001 / 64:=Nat.div_le_div_right (by omega);omega
 simp only[xNil_p,vb_some,xFld_p,Nat.zero_add,l2,r0,r1,q1,k1,vN_eq,xAdd_i,w2,p1,k2,ln];refine(loop58w kv hn hr ha hPV hwl hwd hb hP (G0:=s.G) rd K.W 0 n s _ h1 (by omega) (by omega) rfl st1 fv1 bs fun j hj=>absurd hj (Nat.not_lt_zero _)).mono ?_;rintro v h' ⟨e,s',rows',a1,a2,a3,a4⟩;obtain⟨rows2,b1,b2⟩:=a2.without a1;exact⟨e,s',rows2,b1,b2,a3,a4⟩
end
def wt:List (Int×List Pt)->Int->List Pt
 | [],_=>[]
 |p::t,k=>if p.1=k then p.2 else wt t k
def wtAdd:List (Int×List Pt)->Int->Pt->List (Int×List Pt)
 | [],k,x=>[(k,[x])]
 |p::t,k,x=>if p.1=k then(p.1,p.2++[x])::t else p::wtAdd t k x
theorem wt_add{k k':Int}{x:Pt}: ∀{t:List (Int×List Pt)},wt (wtAdd t k x) k'=if k'=k then wt t k++[x]else wt t k'
 | []=>by
  unfold wtAdd wt
  by_cases e:k=k'
  ·subst e;simp[wt]
  ·have: ¬ k'=k:=fun h=>e h.symm;simp[wt,e,this]
 |p::t=>by
  unfold wtAdd
  by_cases e:p.1=k
  ·rw[if_pos e]
   by_cases e2:k'=k
   ·subst e2;simp[wt,e]
   ·have: ¬ p.1=k':=fun h=>e2 (by rw[<-h,e]);simp[wt,e2,this]
  ·rw[if_neg e];unfold wt
   by_cases e2:p.1=k'
   ·have: ¬ k'=k:=fun h=>e (by rw[e2,h]);simp[e2,this]
   ·rw[if_neg e2,wt_add,if_neg e];rw[if_neg e2]
theorem mV_plain(kv:List ((Int×Value)×Nat)):keysPlain (mV kv)=true:=by
 unfold keysPlain mV;rw[List.all_map];exact List.all_eq_true.2 fun x _=>rfl
theorem fV_none{k:Int}: ∀{kv:List ((Int×Value)×Nat)}{i:Nat},(∀p∈kv,p.1.1≠k)->Instr.findNow (.int .i64) (.int .i64 k) (mV kv) i=some none
 | [],i,_=>rfl
 |p::kv,i,h=>by
  show(match Instr.sameNow (.int .i64) (.int .i64 k) (.int .i64 p.1.1)with|some true=>some (some (i,p.1.2))|some false=>Instr.findNow (.int .i64) (.int .i64 k) (mV kv) (i+1)|none=>none)=_
  have e:Instr.sameNow (.int .i64) (.int .i64 k) (.int .i64 p.1.1)=some false:=by
   have h1: ¬ k=p.1.1:=fun e=>h p (.head _) e.symm;simp[Instr.sameNow,h1]
  rw[e];exact fV_none fun q hq=>h q (.tail _ hq)
theorem fV_hit{k:Int}{v:Value}{c:Nat}{l2:List ((Int×Value)×Nat)}: ∀{l1:List ((Int×Value)×Nat)}{i:Nat},(∀p∈l1,p.1.1≠k)->Instr.findNow (.int .i64) (.int .i64 k) (mV (l1++((k,v),c)::l2)) i=some (some (i+l1.length,v))
 | [],i,_=>by
  show(match Instr.sameNow (.int .i64) (.int .i64 k) (.int .i64 k)with|some true=>some (some (i,v))|some false=>Instr.findNow (.int .i64) (.int .i64 k) (mV l2) (i+1)|none=>none)=_
  have e:Instr.sameNow (.int .i64) (.int .i64 k) (.int .i64 k)=some true:=by simp[Instr.sameNow]
  rw[e];rfl
 |p::l1,i,h=>by
  show(match Instr.sameNow (.int .i64) (.int .i64 k) (.int .i64 p.1.1)with|some true=>some (some (i,p.1.2))|some false=>Instr.findNow (.int .i64) (.int .i64 k) (mV (l1++((k,v),c)::l2)) (i+1)|none=>none)=_
  have e:Instr.sameNow (.int .i64) (.int .i64 k) (.int .i64 p.1.1)=some false:=by
   have h1: ¬ k=p.1.1:=fun e=>h p (.head _) e.symm;simp[Instr.sameNow,h1]
  rw[e];dsimp only;rw[fV_hit fun q hq=>h q (.tail _ hq)];have:i+1+l1.length=i+(p::l1).length:=by simp;omega
  rw[this]
theorem ck3{e:Bool}{k:Int}:pureRun Tryd.prog (Instr.checkKey e 10000 3 (.int .i64 k))=some ():=by
 show pureRun Tryd.prog (Instr.checkKey e (9999+1) 3 (.int .i64 k))=some ()
 unfold Instr.checkKey;rw[pureRun_bind,pureRun_und Tryd.underlying3]
 rfl
set_option maxRecDepth 100000 in
theorem afI{k:Int}{es:List MapEntry}{r:Option (Nat×Value)}(h:Instr.findNow (.int .i64) (.int .i64 k) es 0=some r):afindQ Tryd.prog 3 (.int .i64 k) es=some r:=by
 show(match Tryd.prog.underlying 3 with
  |some d=>match Instr.findNow d (.int .i64 k) es 0 with
   |some r=>some r
   |none=>findAskA Tryd.prog 3 (.int .i64 k) es 0
  |none=>none)=_
 rw[Tryd.underlying3];dsimp only;rw[h]
theorem in82: ∃i,Tryd.prog.info? 82=some i/\i.zero=some nils:=by
 have e2:(Tryd.prog.info? 82).map (·.zero)=some (some nils):=by kernel_rfl
 rw[Option.map_eq_some_iff]at e2;obtain⟨inf,h1,h2⟩:=e2;exact⟨inf,h1,h2⟩
theorem mod_app{α:Type}{f:α->α}{x:α}{b:List α}: ∀(a:List α),(a++x::b).modify a.length f=a++f x::b
 | []=>rfl
 |y::a=>by
  have:=mod_app (f:=f) (x:=x) (b:=b) a;simp[this]
theorem sameB{k:Int}:Instr.sameBits 10000 (.int .i64 k) (.int .i64 k)=true:=by
 show Instr.sameBits (9999+1) (.int .i64 k) (.int .i64 k)=true
 unfold Instr.sameBits;simp
section
variable {Q:Value->PH->Prop}{n:Nat}{cl cl':CL}{h h0:PH}{S:Vw}{m:OM}{rows:Rws}{K2:Value->PH->R}
theorem phMap_at(s:Sl h0 h S m rows){b c:Nat}{es:List MapEntry}(hb:over rows m b=some (.map es c)):phMap (.map (some b)) h=some (b,es,c):=by
 have:=s.sm.get hb
 show(match h.get b with|some (.map es c)=>some (b,es,c)|_=>none)=_
 rw[this]
theorem lkV_none(s:Sl h0 h S m rows){b c:Nat}{kv:List ((Int×Value)×Nat)}{k:Int}(hb:over rows m b=some (.map (mV kv) c))(hk: ∀p∈kv,p.1.1≠k):
  xLkp Tryd.prog 3 82 false (.map (some b)) (.int .i64 k) h=some nils:=by
 obtain⟨i3,h1,h2⟩:=in82
 show(match phMap (.map (some b)) h with|some (_,es,_)=>lkE Tryd.prog 3 82 (.int .i64 k) false es|none=>none)=_
 rw[phMap_at s hb];dsimp only;unfold lkE;have hp:(plainV (Value.int .i64 k)&&keysPlain (mV kv))=true:=by rw[mV_plain];rfl
 rw[if_pos hp,ck3];dsimp only;rw[afI (fV_none hk)];dsimp only;rw[h1];dsimp only;rw[h2]
 rfl
theorem lkV_hit(s:Sl h0 h S m rows){b c c':Nat}{v:Value}{l1 l2:List ((Int×Value)×Nat)}{k:Int}(hb:over rows m b=some (.map (mV (l1++((k,v),c')::l2)) c))(hk: ∀p∈l1,p.1.1≠k):
  xLkp Tryd.prog 3 82 false (.map (some b)) (.int .i64 k) h=some v:=by
 show(match phMap (.map (some b)) h with|some (_,es,_)=>lkE Tryd.prog 3 82 (.int .i64 k) false es|none=>none)=_
 rw[phMap_at s hb];dsimp only;unfold lkE;have hp:(plainV (Value.int .i64 k)&&keysPlain (mV (l1++((k,v),c')::l2)))=true:=by rw[mV_plain];rfl
 rw[if_pos hp,ck3];dsimp only;rw[afI (fV_hit hk)]
 rfl
theorem Ret.lmupV(s:Sl h0 h S m rows)(i:Nat){b c:Nat}{v:Value}{kv:List ((Int×Value)×Nat)}{k:Int}(hi:rows[i]?=some (b,.map (mV kv) c))(hk: ∀p∈kv,p.1.1≠k)
  (hK: ∀h',Sl h0 h' S m (rows.set i (b,.map (mV (kv++[((k,v),c)])) (c+1)))->Ret (K2 undef h') Q):Ret (Go.Am.hb (xMUpd Tryd.prog 3 (.map (some b)) (.int .i64 k) v h) K2) Q:=by
 obtain⟨h',hs,s',_⟩:=s.sm.set (s.idx hi) (.map (mV (kv++[((k,v),c)])) (c+1));have hp:(plainV (Value.int .i64 k)&&keysPlain (mV kv))=true:=by rw[mV_plain];rfl
 have e:xMUpd Tryd.prog 3 (.map (some b)) (.int .i64 k) v h=some (undef,h'):=by
  unfold xMUpd;rw[phMap_at s (s.idx hi)];dsimp only;rw[if_pos hp,ck3];dsimp only;rw[afI (fV_none hk)];dsimp only;unfold pset;have em:mV kv++[⟨.int .i64 k,v,c⟩]=mV (kv++[((k,v),c)]):=by simp[mV]
  rw[em,hs]
 rw[e];exact hK h' (s.put hi s')
theorem Ret.lmupVh(s:Sl h0 h S m rows)(i:Nat){b c c':Nat}{v v':Value}{l1 l2:List ((Int×Value)×Nat)}{k:Int}(hi:rows[i]?=some (b,.map (mV (l1++((k,v),c')::l2)) c))(hk: ∀p∈l1,p.1.1≠k)
  (hK: ∀h',Sl h0 h' S m (rows.set i (b,.map (mV (l1++((k,v'),c')::l2)) c))->Ret (K2 undef h') Q):Ret (Go.Am.hb (xMUpd Tryd.prog 3 (.map (some b)) (.int .i64 k) v' h) K2) Q:=by
 obtain⟨h',hs,s',_⟩:=s.sm.set (s.idx hi) (.map (mV (l1++((k,v'),c')::l2)) c);have hp:(plainV (Value.int .i64 k)&&keysPlain (mV (l1++((k,v),c')::l2)))=true:=by rw[mV_plain];rfl
 have hlen:(mV l1).length=l1.length:=by simp[mV]
 have happ:mV (l1++((k,v),c')::l2)=mV l1++⟨.int .i64 k,v,c'⟩::mV l2:=by simp[mV]
 have happ':mV (l1++((k,v'),c')::l2)=mV l1++⟨.int .i64 k,v',c'⟩::mV l2:=by simp[mV]
 have hget:(mV (l1++((k,v),c')::l2))[0+l1.length]?=some ⟨.int .i64 k,v,c'⟩:=by
  rw[Nat.zero_add,happ,List.getElem?_append_right (by omega),hlen,Nat.sub_self];rfl
 have hmod:(mV (l1++((k,v),c')::l2)).modify (0+l1.length) (fun e=> {e with key:=.int .i64 k,val:=v'})=mV (l1++((k,v'),c')::l2):=by
  rw[Nat.zero_add,happ,happ', <-hlen];exact mod_app _
 have e:xMUpd Tryd.prog 3 (.map (some b)) (.int .i64 k) v' h=some (undef,h'):=by
  unfold xMUpd;rw[phMap_at s (s.idx hi)];dsimp only;rw[if_pos hp,ck3];dsimp only;rw[afI (fV_hit hk)];dsimp only;rw[hget];simp only[Option.map_some,Option.getD_some,sameB,if_true];unfold pset;rw[hmod,hs]
 rw[e];exact hK h' (s.put hi s')
theorem Ret.lmmk(s:Sl h0 h S m rows)(hK: ∀h' b,Sl h0 h' S m ((b,.map [] 0)::rows)->Ret (K2 (.map (some b)) h') Q):Ret (Go.Am.hb (xMMk h) K2) Q:=by
 obtain⟨h',hp,s',f,hn,_⟩:=s.sm.push (.map [] 0);have e:xMMk h=some (.map (some h.n),h'):=by unfold xMMk;rw[hp]
 rw[e];exact hK h' h.n (s.cons s' f)
end
theorem Mp.find{kv:List ((Int×Value)×Nat)}{t:List (Int×List Pt)}{exM:Rws}(mp:Mp kv t exM)(k:Int):
  ((∀p∈kv,p.1.1≠k)/\wt t k=[]/\ ∀v c x ex,Gl 3 v [x].length ([x].flatMap ptc) ex-> ∃exM',Mp (kv++[((k,v),c)]) (wtAdd t k x) exM'/\mq exM'=RM.add (mq exM) (mq ex))\/
  ∃l1 v c l2 ex o,kv=l1++((k,v),c)::l2/\(∀p∈l1,p.1.1≠k)/\Gl 3 v (wt t k).length ((wt t k).flatMap ptc) ex/\mq exM=RM.add (mq ex) (mq o)/\
   ∀v' x ex',Gl 3 v' (wt t k++[x]).length ((wt t k++[x]).flatMap ptc) ex'-> ∃exM',Mp (l1++((k,v'),c)::l2) (wtAdd t k x) exM'/\mq exM'=RM.add (mq ex') (mq o):=by
 induction mp with
 |nil=>exact .inl ⟨fun p hp=>by(cases hp),rfl,fun v c x ex g=>⟨ex++[],.cons g .nil,by rw[List.append_nil,mq_nil]⟩⟩
 | @cons k0 v0 c0 l0 ex0 exM kv t g0 mp ih=>
  by_cases e:k0=k
  ·subst e;have ew:wt ((k0,l0)::t) k0=l0:=by unfold wt;rw[if_pos rfl]
   refine .inr ⟨[],v0,c0,kv,ex0,exM,rfl,fun p hp=>(by cases hp),by rw[ew];exact g0,rfl,fun v' x ex' g'=>⟨ex'++exM,?_,rfl⟩⟩;unfold wtAdd;rw[if_pos rfl];rw[ew]at g';exact .cons g' mp
  ·have ew:wt ((k0,l0)::t) k=wt t k:=by
    show(if k0=k then l0 else wt t k)=_
    rw[if_neg e]
   have ea: ∀x,wtAdd ((k0,l0)::t) k x=(k0,l0)::wtAdd t k x:=fun x=>by
    show(if k0=k then(k0,l0++[x])::t else(k0,l0)::wtAdd t k x)=_
    rw[if_neg e]
   rw[ew];rcases ih with⟨h1,h2,h3⟩|⟨l1,v,c,l2,ex,o,h1,h2,h3,h4,h5⟩
   ·refine .inl ⟨fun p hp=>?_,h2,fun v c x ex g=>?_⟩
    ·rcases List.mem_cons.1 hp with rfl|hp
     ·exact e
     ·exact h1 p hp
    ·obtain⟨exM',m1,m2⟩:=h3 v c x ex g;refine⟨ex0++exM',by rw[ea];exact .cons g0 m1,?_⟩;rw[mq_app,m2,mq_app]
     ac_rfl
   ·subst h1;refine .inr ⟨((k0,v0),c0)::l1,v,c,l2,ex,ex0++o,rfl,fun p hp=>?_,h3,?_,fun v' x ex' g'=>?_⟩
    ·rcases List.mem_cons.1 hp with rfl|hp
     ·exact e
     ·exact h2 p hp
    ·rw[mq_app,h4,mq_app];ac_rfl
    ·obtain⟨exM',m1,m2⟩:=h5 v' x ex' g';refine⟨ex0++exM',by rw[ea];exact .cons g0 m1,?_⟩;rw[mq_app,m2,mq_app];ac_rfl
theorem zc87:zcells Tryd.prog 87=some [.int .i64 0,.int .i64 0,.int .i64 0]:=by kernel_rfl
section
variable {Q:Value->PH->Prop}{n:Nat}{cl ih:CL}{h h0:PH}{S:Vw}{m:OM}{rows rest ex:Rws}{K2:Value->PH->R}{K:FK}{s:FS}{P:Pt->Prop}
set_option maxRecDepth 100000 in
theorem loop57(kv:KV S K)(hn:9223372036854775808<=n)(hPV: ∀y,P y->Vp K y){l:List Pt}{v:Value}{p:Nat}(hl:l.length<=2000000)
  (hP: ∀y∈l,P (y.1,y.2.1+1,p)) (rd: ∀s' rows' h',FV K s' rows' rest->Sl h0 h' S m rows'-> ∀(i:Nat) y,l[i]?=some y-> ∃q,xIdxS 3 v (.int .i64 (i:Nat))=some q/\xLdA 3 q h'=some (.agg ⟨ptc y⟩)):
  ∀(q i fu:Nat)(s:FS)(rows:Rws)(h:PH),l.length=i+q->q<fu->Sl h0 h S m rows->FV K s rows rest->Bs K s->(∀(j:Nat) y,j<i->l[j]?=some y->(y.1,y.2.1+1,p)∈s.H)->
   Ret (lp fu (F57_2 n cl) [pt K.fp,.int .i64 (p:Nat),v,.int .i64 (l.length:Nat),.int .i64 (i:Nat)] h) fun v h'=>v= .tuple ⟨[]⟩/\ ∃s' rows',Sl h0 h' S m rows'/\FV K s' rows' rest/\Gro P s s'/\ ∀y∈l,(y.1,y.2.1+1,p)∈s'.H:=by
 have hgrl:=kv.gok.rl;intro q
 induction q with
 |zero=>
  intro i fu s rows h hq hf st fv bs hall;obtain⟨fu,rfl⟩: ∃q,fu=q+1:=⟨fu-1,by omega⟩;rw[lp_succ];have dc:decide (((i:Nat):Int)<((l.length:Nat):Int))=false:=decide_eq_false (by omega);simp only[F57_2,ucons_cons,F57_1,xLt_i,dc,vb_some,bite_f];refine Ret.of ⟨rfl,s,rows,st,fv,.refl,fun y hy=>?_⟩;obtain⟨j,hj⟩:=List.getElem?_of_mem hy;have:=(List.getElem?_eq_some_iff.1 hj).1;exact hall j y (by omega) hj
 |succ q ihq=>
  intro i fu s rows h hq hf st fv bs hall;obtain⟨fu,rfl⟩: ∃q,fu=q+1:=⟨fu-1,by omega⟩;rw[lp_succ];have dc:decide (((i:Nat):Int)<((l.length:Nat):Int))=true:=decide_eq_true (by omega);obtain⟨y,hy⟩: ∃y,l[i]?=some y:=⟨_,List.getElem?_eq_getElem (by omega)⟩;have hPy:=hP y (List.mem_of_getElem? hy);obtain⟨rl,v1,v2,v3⟩:=(hPV _ hPy).h;have hrlt:=(List.getElem?_eq_some_iff.1 v1).1;have h8:=kv.gok.r8 rl (List.mem_of_getElem? v1);obtain⟨pq,e1,e2⟩:=rd s rows h fv st i y hy;simp only[F57_2,ucons_cons,F57_1,xLt_i,dc,vb_some,bite_t,F57_0,e1,e2];refine Ret.lalloc st zc87 fun h1 d st1=>?_;refine Ret.lstA st1 0 rfl rfl rfl (by simp[ptc]) rfl fun h2 st2=>?_;rw[setsL_all (by rfl)]at st2;have st2:Sl h0 h2 S m ((d,.row .own 1 (ptc y))::rows):=st2;have fv2:=fv.beside (p:=(d,.row .own 1 (ptc y)));have r0:xLd (.pointer (some ⟨d,0,none⟩)) h2=some (.int .i64 (y.1:Nat)):=st2.ld (.head _) rfl;have r1:xLd (.pointer (some ⟨d,1,none⟩)) h2=some (.int .i64 (y.2.1:Nat)):=st2.ld (.head _) rfl;have w2:IntKind.i64.wrap (((y.2.1:Nat):Int)+((1:Nat):Int))=((y.2.1+1:Nat):Int):=by
   have v2:y.2.1+1<=rl.right.length:=v2;rw[wrap_in (by omega) (by omega)];omega
  simp only[xFld_p,Nat.zero_add,r0,r1,vb_some,vN_eq,xAdd_i,w2,ab87];have hbl:=bs.len kv.gok kv.n;refine Ret.hb (c42 (x:=(y.1,y.2.1+1,p)) kv st2 fv2 v1 v2 v3 (by omega)) fun v' h3 hv3=>?_;obtain⟨rfl,rows3,st3,fv3⟩:=hv3;obtain⟨rows4,st4,fv4⟩:=fv3.without st3;have hg:Gro P s (comeS s (y.1,y.2.1+1,p)):=.come hPy;simp only[show(((1:Nat):Int))=1 from rfl,wrap1 (i:=i) (by omega),vb_some];refine(ihq (i+1) fu _ rows4 h3 (by omega) (by omega) st4 fv4 (bs.grow hg hPV) fun j z hj hz=>?_).mono fun u hh ⟨e,s2,rows2,a1,a2,a3,a4⟩=>⟨e,s2,rows2,a1,a2,hg.trans a3,a4⟩
  by_cases e:j=i
  ·subst e;rw[hy]at hz;cases hz;exact come_mem
  ·exact hg.sub (hall j z (by omega) hz)
def endG(s:FS)(a p:Nat):FS:=if(a,p)∈s.G then s else {s with G:=s.G++[(a,p)]}
set_option maxRecDepth 100000 in
theorem c57(kv:KV S K)(hn:9223372036854775808<=n)(st:Sl h0 h S m rows)(fm:FM K s rows rest)(bs:Bs K s)(hPV: ∀y,P y->Vp K y){a p:Nat}(ha:a<K.g.names.toNat)(hp:p<=K.ks.length)(hwl:(wt s.t (a:Int)).length<=2000000)
  (hP:(a,p)∉s.G-> ∀y∈wt s.t (a:Int),P (y.1,y.2.1+1,p)):
  Ret (F57 n cl (pt K.fp) (.int .i64 (a:Nat)) (.int .i64 (p:Nat)) h) fun v h'=>v= .tuple ⟨[]⟩/\ ∃s' rows',Sl h0 h' S m rows'/\FM K s' rows' rest/\Gro P (endG s a p) s'/\((a,p)∉s.G-> ∀y∈wt s.t (a:Int),(y.1,y.2.1+1,p)∈s'.H):=by
 obtain⟨kvs,clk,exM,fv,mp⟩:=fm.h;obtain⟨wv,exW,z,TE,TN,hq,gw,we,wn,re,rn⟩:=fv.h;have hnm:=kv.gok.nm;obtain⟨We,hW1,hW2,hW3⟩:=kv.ends;have hfr:=kv.fr;have hn2:=kv.n;have hwf:=List.getElem?_eq_getElem (l:=We) (i:=K.fr) (by omega);generalize We[K.fr]=w1 at hwf;obtain⟨Lp,hL1,hL2,hL3,hL4⟩:=hW3 K.fr w1 hwf;have hLp:=hL3 rfl;subst hLp;obtain⟨b,hb⟩: ∃b,K.LE[a]?=some b:=⟨_,List.getElem?_eq_getElem (by rw[hL1];exact ha)⟩;obtain⟨ws,hws⟩: ∃ws,TE[a]?=some ws:=⟨_,List.getElem?_eq_getElem (by rw[we.len,hL1];exact ha)⟩;obtain⟨hwsl,hwd⟩:=we.row ws (List.mem_of_getElem? hws);obtain⟨b1,o1,c1,q1,q2,q3⟩:=hW2.at1 hwf;obtain⟨b2,o2,c2,p1,p2,p3⟩:=hL2.at1 (i:=a) (x:=wfv K.W b) (by rw[List.getElem?_map,hb];rfl);have hpW:=wq_lt kv hp;have hfp:(K.fp,AObj.row .own 1 [pt K.cp,.int .i64 (K.fr:Nat),K.sv,.map (some K.wb),wv])∈rows:=mem_mq hq (.head _);have hcp:(K.cp,AObj.row .own 1 (gcs K.g K.rv K.fv K.cv K.kv++[K.kw,K.ew,.int .i64 z]))∈rows:=mem_mq hq (.tail _ (.head _));have hbm:(b,AObj.row .own 1 (bw ws))∈rows:=mem_mq hq (by
  have:=List.mem_of_getElem? (wrows_get hb hws);exact .tail _ (.tail _ (List.mem_append_right _ (List.mem_append_left _ this))))
 have l0:xLd (.pointer (some ⟨K.fp,0,none⟩)) h=some (pt K.cp):=st.ld hfp rfl;have l1:xLd (.pointer (some ⟨K.fp,1,none⟩)) h=some (.int .i64 (K.fr:Nat)):=st.ld hfp rfl;have l8:xLd (.pointer (some ⟨K.cp,8,none⟩)) h=some K.ew:=st.ld hcp rfl;have k1:xLd (.pointer (some ⟨b1,o1,none⟩)) h=some w1:=st.ldS q2 q3;have k2:xLd (.pointer (some ⟨b2,o2,none⟩)) h=some (wfv K.W b):=st.ldS p2 p3;obtain⟨S',le1,le2,hS'⟩:=st.whole;have okh:=st.ok;have hhas:=c28 (h:=h) (n:=n) (cl:=cl) (S:=S') le2 (hS' b 1 .own _ hbm) hwd (i:=p) (by rw[hwsl];exact hpW) (by omega);rw[hwsl]at hhas;unfold F57;simp only[xNil_p,vb_some,xFld_p,Nat.zero_add,l0,l1,l8,q1,k1,p1,k2,hhas];have hre:=re a ws hws p
 by_cases hin:(a,p)∈s.G
 ·have hb1:hs ws p=true:=hre.2 hin;simp only[hb1,bite_t];refine Ret.of ⟨rfl,s,rows,st,fm,?_,fun h=>absurd hin h⟩;unfold endG;rw[if_pos hin];exact .refl
 ·have hb1:hs ws p=false:=by
   cases hq:hs ws p with
   |false=>rfl
   |true=>exact absurd (hre.1 hq) hin
  simp only[hb1,bite_f,F57_3];obtain⟨o,ho1,ho2⟩:=wrows_focus hb hws;have st2:=st.perm (rows':=(b,.row .own 1 (bw ws))::(K.fp,.row .own 1 [pt K.cp,.int .i64 (K.fr:Nat),K.sv,.map (some K.wb),wv])::(K.cp,.row .own 1 (gcs K.g K.rv K.fv K.cv K.kv++[K.kw,K.ew,.int .i64 z]))::(exW++(o++(wrows K.LN TN++((K.wb,.map (mV kvs) clk)::(exM++rest)))))) (perm_mq (by
   rw[hq];simp only[mq_app,mq_cons _ (_::_),mq_cons _ (_++_),ho1]
   ac_rfl))
  have hc55:=c55 (n:=n) (cl:=cl) st2 0 rfl hwd (i:=p) (by rw[hwsl];exact hpW) (by omega);rw[hwsl]at hc55;refine Ret.hb hc55 fun v2 h3 hv2=>?_;obtain⟨rfl,st3⟩:=hv2;have st3:Sl h0 h3 S m ((b,.row .own 1 (bw (addW ws p)))::(K.fp,.row .own 1 [pt K.cp,.int .i64 (K.fr:Nat),K.sv,.map (some K.wb),wv])::(K.cp,.row .own 1 (gcs K.g K.rv K.fv K.cv K.kv++[K.kw,K.ew,.int .i64 z]))::(exW++(o++(wrows K.LN TN++((K.wb,.map (mV kvs) clk)::(exM++rest)))))):=st3;have hTl:a<TE.length:=(List.getElem?_eq_some_iff.1 hws).1;have fv3:FV K (endG s a p) ((b,.row .own 1 (bw (addW ws p)))::(K.fp,.row .own 1 [pt K.cp,.int .i64 (K.fr:Nat),K.sv,.map (some K.wb),wv])::(K.cp,.row .own 1 (gcs K.g K.rv K.fv K.cv K.kv++[K.kw,K.ew,.int .i64 z]))::(exW++(o++(wrows K.LN TN++((K.wb,.map (mV kvs) clk)::(exM++rest)))))) ((K.wb,.map (mV kvs) clk)::(exM++rest)):=by
   refine⟨wv,exW,z,TE.set a (addW ws p),TN,?_,?_,we.set hws,wn,?_,?_⟩
   ·simp only[mq_app,mq_cons _ (_::_),mq_cons _ (_++_),ho2]
    ac_rfl
   ·unfold endG;rw[if_neg hin];exact gw
   ·unfold endG;rw[if_neg hin];intro a' ws' hws' p'
    show _↔(a',p')∈s.G++[(a,p)]
    rw[List.mem_append,List.mem_singleton]
    by_cases e:a=a'
    ·subst e;rw[List.getElem?_set_self hTl]at hws';cases hws';rw[addW_hs (by rw[hwsl];exact hpW),Bool.or_eq_true,re a ws hws p',decide_eq_true_eq];constructor
     ·rintro(h|h)
      ·exact .inl h
      ·right;rw[h]
     ·rintro(h|h)
      ·exact .inl h
      ·right;cases h;rfl
    ·rw[List.getElem?_set_ne e]at hws';rw[re a' ws' hws' p'];constructor
     ·exact .inl
     ·rintro(h|h)
      ·exact h
      ·cases h;exact absurd rfl e
   ·unfold endG;rw[if_neg hin];exact rn
  have bs3:Bs K (endG s a p):=by unfold endG;rw[if_neg hin];exact⟨bs.nd,bs.ok,bs.wl⟩
  have et:(endG s a p).t=s.t:=by unfold endG;rw[if_neg hin]
  have hmm:(K.wb,AObj.map (mV kvs) clk)∈(b,AObj.row .own 1 (bw (addW ws p)))::(K.fp,.row .own 1 [pt K.cp,.int .i64 (K.fr:Nat),K.sv,.map (some K.wb),wv])::(K.cp,.row .own 1 (gcs K.g K.rv K.fv K.cv K.kv++[K.kw,K.ew,.int .i64 z]))::(exW++(o++(wrows K.LN TN++((K.wb,.map (mV kvs) clk)::(exM++rest))))):=by simp
  have l3:xLd (.pointer (some ⟨K.fp,3,none⟩)) h3=some (.map (some K.wb)):=st3.ld (.tail _ (.head _)) rfl;have hlk: ∃v exl,xLkp Tryd.prog 3 82 false (.map (some K.wb)) (.int .i64 ((a:Nat):Int)) h3=some v/\Gl 3 v (wt s.t (a:Int)).length ((wt s.t (a:Int)).flatMap ptc) exl/\ ∀x∈exl,x∈exM:=by
   rcases mp.find (a:Int)with⟨f1,f2,_⟩|⟨l1,v,c,l2,exl,oo,f1,f2,f3,f4,_⟩
   ·refine⟨nils,[],lkV_none st3 (st3.mem hmm) f1,?_,fun x hx=>by cases hx⟩;rw[f2];exact Gl.nil
   ·subst f1;refine⟨v,exl,lkV_hit st3 (st3.mem hmm) f2,f3,fun x hx=>?_⟩;have f4':mq exM=mq (exl++oo):=f4;exact mem_mq f4' (List.mem_append_left _ hx)
  obtain⟨v,exl,e1,e2,e3⟩:=hlk;simp only[xNil_p,vb_some,xFld_p,Nat.zero_add,l3,e1,e2.len,vN_eq];have rdl: ∀s' rows' h',FV K s' rows' ((K.wb,.map (mV kvs) clk)::(exM++rest))->Sl h0 h' S m rows'-> ∀(i:Nat) y,(wt s.t (a:Int))[i]?=some y-> ∃q,xIdxS 3 v (.int .i64 (i:Nat))=some q/\xLdA 3 q h'=some (.agg ⟨ptc y⟩):=by
   intro s' rows' h' fv' st' i y hy;have hi:=(List.getElem?_eq_some_iff.1 hy).1;obtain⟨wv',exW',z',TE',TN',hq',_⟩:=fv'.h;rcases e2.h with⟨g1,_⟩|⟨bb,oo,cap,all,rfl,rfl,g1,g2,_⟩
   ·omega
   ·refine⟨.pointer (some ⟨bb,oo+i*3,none⟩),by rw[xIdxS_at (by omega) (by omega)];simp,?_⟩;have hm:(bb,AObj.row .opn 3 all)∈rows':=mem_mq hq' (by
     have:=e3 _ (List.mem_singleton.2 rfl);exact .tail _ (.tail _ (List.mem_append_right _ (List.mem_append_right _ (List.mem_append_right _ (.tail _ (List.mem_append_left _ this)))))))
    refine st'.ldA hm ?_ (by omega);have hcell:(((wt s.t (a:Int)).flatMap ptc).drop (i*3)).take 3=ptc y:=by
     have key: ∀(l:List Pt)(i:Nat) y,l[i]?=some y->((l.flatMap ptc).drop (i*3)).take 3=ptc y:=by
      intro l
      induction l with
      |nil=>intro i y h;simp at h
      |cons x l ihl=>
       intro i y h;cases i with
       |zero=>simp at h;subst h;simp[ptc]
       |succ i=>
        have h:l[i]?=some y:=by simpa using h
        rw[List.flatMap_cons,show(i+1)*3=3+i*3 by omega, <-List.drop_drop];have:(ptc x++l.flatMap ptc).drop 3=l.flatMap ptc:=by simp[ptc]
        rw[this];exact ihl i y h
     exact key _ i y hy
    rw[g1,List.drop_take,List.take_take,List.drop_drop]at hcell;rw[show min 3 ((wt s.t (a:Int)).length*3-i*3)=3 by omega]at hcell;exact hcell
  refine(loop57 kv hn hPV hwl (hP hin) rdl (wt s.t (a:Int)).length 0 n (endG s a p) _ h3 (by omega) (by omega) st3 fv3 bs3 fun j y hj=>absurd hj (Nat.not_lt_zero _)).mono ?_;rintro u hh ⟨e,s',rows',a1,a2,a3,a4⟩;exact⟨e,s',rows',a1,⟨kvs,clk,exM,a2,by rw[a3.t,et];exact mp⟩,a3,fun _=>a4⟩
end
end Go.Am
