import Derived.Test.YtjfbmdhdcpdcbaaGreatZB
set_option linter.unusedSimpArgs false
set_option linter.unusedVariables false
namespace Go.Am
open Go Go.RowKit
def avoid(p:Nat->Bool):Value->Bool
 | .pointer (some ⟨b,_,none⟩)=>p b
 | .slice (some ⟨b,_,none⟩) _ _=>p b
 | .map (some b)=>p b
 | .func _ ⟨xs⟩ ⟨ys⟩=>avoids xs&&avoids ys
 | .iface _ x=>avoid p x
 | .agg ⟨xs⟩=>avoids xs
 | .tuple ⟨xs⟩=>avoids xs
 |_=>true
where
 avoids:List Value->Bool
 | []=>true
 |x::xs=>avoid p x&&avoids xs
mutual
theorem VR.avoid{p:Nat->Bool}{ρ:RMap}(hp: ∀b,p b=false->ρ b=none): ∀{x y:Value},VR ρ x y->Go.Am.avoid p x=true
 |_,_,.bool b=>by simp[Go.Am.avoid]
 |_,_,.int k n=>by simp[Go.Am.avoid]
 |_,_,.string s=>by simp[Go.Am.avoid]
 |_,_,.pnil=>by simp[Go.Am.avoid]
 |_,_,.ptr (b:=b) h=>by simp only[Go.Am.avoid];cases hq:p b with|true=>rfl|false=>rw[hp b hq]at h;cases h
 |_,_,.snil n c=>by simp[Go.Am.avoid]
 |_,_,.sl (b:=b) h hc=>by simp only[Go.Am.avoid];cases hq:p b with|true=>rfl|false=>rw[hp b hq]at h;cases h
 |_,_,.slo (b:=b) h hc he hn=>by simp only[Go.Am.avoid];cases hq:p b with|true=>rfl|false=>rw[hp b hq]at h;cases h
 |_,_,.slz (b:=b) h hc he=>by simp only[Go.Am.avoid];cases hq:p b with|true=>rfl|false=>rw[hp b hq]at h;cases h
 |_,_,.sl0 (b:=b) h=>by simp only[Go.Am.avoid];cases hq:p b with|true=>rfl|false=>rw[hp b hq]at h;cases h
 |_,_,.mnil=>by simp[Go.Am.avoid]
 |_,_,.map (b:=b) h=>by simp only[Go.Am.avoid];cases hq:p b with|true=>rfl|false=>rw[hp b hq]at h;cases h
 |_,_,.func h1 h2=>by simp only[Go.Am.avoid,VRs.avoid hp h1,VRs.avoid hp h2];rfl
 |_,_,.nilFunc=>by simp[Go.Am.avoid]
 |_,_,.nilIface=>by simp[Go.Am.avoid]
 |_,_,.iface h=>by simp only[Go.Am.avoid];exact VR.avoid hp h
 |_,_,.agg h=>by simp only[Go.Am.avoid];exact VRs.avoid hp h
 |_,_,.tuple h=>by simp only[Go.Am.avoid];exact VRs.avoid hp h
theorem VRs.avoid{p:Nat->Bool}{ρ:RMap}(hp: ∀b,p b=false->ρ b=none): ∀{x y:List Value},VRs ρ x y->Go.Am.avoid.avoids p x=true
 |_,_,.nil=>rfl
 |_,_,.cons h1 h2=>by simp only[Go.Am.avoid.avoids,VR.avoid hp h1,VRs.avoid hp h2];rfl
end
mutual
theorem VR.ren{p:Nat->Bool}{ρ ρ':RMap}(hp: ∀b L,p b=true->ρ b=some L->ρ' b=some L): ∀{x y:Value},VR ρ x y->Go.Am.avoid p x=true->VR ρ' x y
 |_,_,.bool b,_=>.bool b
 |_,_,.int k n,_=>.int k n
 |_,_,.string s,_=>.string s
 |_,_,.pnil,_=>.pnil
 |_,_,.ptr h,ha=>.ptr (hp _ _ (by simpa[Go.Am.avoid]using ha) h)
 |_,_,.snil n c,_=>.snil n c
 |_,_,.sl h hc,ha=>.sl (hp _ _ (by simpa[Go.Am.avoid]using ha) h) hc
 |_,_,.slo h hc he hn,ha=>.slo (hp _ _ (by simpa[Go.Am.avoid]using ha) h) hc he hn
 |_,_,.slz h hc he,ha=>.slz (hp _ _ (by simpa[Go.Am.avoid]using ha) h) hc he
 |_,_,.sl0 h,ha=>.sl0 (hp _ _ (by simpa[Go.Am.avoid]using ha) h)
 |_,_,.mnil,_=>.mnil
 |_,_,.map h,ha=>.map (hp _ _ (by simpa[Go.Am.avoid]using ha) h)
 |_,_,.func h1 h2,ha=>by
  simp only[Go.Am.avoid,Bool.and_eq_true]at ha;exact .func (VRs.ren hp h1 ha.1) (VRs.ren hp h2 ha.2)
 |_,_,.nilFunc,_=>.nilFunc
 |_,_,.nilIface,_=>.nilIface
 |_,_,.iface h,ha=>.iface (VR.ren hp h (by simpa[Go.Am.avoid]using ha))
 |_,_,.agg h,ha=>.agg (VRs.ren hp h (by simpa[Go.Am.avoid]using ha))
 |_,_,.tuple h,ha=>.tuple (VRs.ren hp h (by simpa[Go.Am.avoid]using ha))
theorem VRs.ren{p:Nat->Bool}{ρ ρ':RMap}(hp: ∀b L,p b=true->ρ b=some L->ρ' b=some L): ∀{x y:List Value},VRs ρ x y->Go.Am.avoid.avoids p x=true->VRs ρ' x y
 |_,_,.nil,_=>.nil
 |_,_,.cons h1 h2,ha=>by
  simp only[Go.Am.avoid.avoids,Bool.and_eq_true]at ha;exact .cons (VR.ren hp h1 ha.1) (VRs.ren hp h2 ha.2)
end
theorem avoids_mem{p:Nat->Bool}: ∀{xs:List Value},Go.Am.avoid.avoids p xs=true↔ ∀x∈xs,Go.Am.avoid p x=true
 | []=>by simp[Go.Am.avoid.avoids]
 |x::xs=>by simp[Go.Am.avoid.avoids,avoids_mem (xs:=xs)]
def inR2(n0 m b:Nat):Bool:=decide (n0<=b)&&decide (b<n0+m)
def hide(n0 m:Nat)(h:Heap):Heap:=(List.range h.length).map fun b=>if inR2 n0 m b=true then .hole else(h[b]?).getD .dead
theorem hide_len(n0 m:Nat)(h:Heap):(hide n0 m h).length=h.length:=by simp[hide]
theorem hide_get{n0 m:Nat}{h:Heap}{b:Nat}:(hide n0 m h)[b]?=if b<h.length then(if inR2 n0 m b=true then some .hole else h[b]?)else none:=by
 unfold hide;rw[List.getElem?_map]
 by_cases hb:b<h.length
 ·rw[List.getElem?_range hb,if_pos hb];simp only[Option.map_some]
  split
  ·rfl
  ·rw[List.getElem?_eq_getElem hb];rfl
 ·rw[if_neg hb,List.getElem?_eq_none (by simpa using hb)];rfl
theorem hide_set{n0 m:Nat}{h:Heap}{b:Nat}{A:AObj}(hb:inR2 n0 m b=true):hide n0 m (h.set b A)=hide n0 m h:=by
 apply List.ext_getElem?
 intro i;rw[hide_get,hide_get,List.length_set]
 by_cases e:i=b
 ·subst e;rw[hb];simp
 ·rw[List.getElem?_set_ne (Ne.symm e)]
theorem hide_app{n0 m:Nat}{h l:Heap}(hl:n0+m<=h.length):hide n0 m (h++l)=hide n0 m h++l:=by
 apply List.ext_getElem?
 intro i;rw[hide_get]
 by_cases hi:i<h.length
 ·rw[List.getElem?_append_left (l₁:=hide n0 m h) (by rw[hide_len];exact hi),hide_get,if_pos hi,if_pos (by rw[List.length_append];omega),List.getElem?_append_left hi]
 ·rw[List.getElem?_append_right (l₁:=hide n0 m h) (by rw[hide_len];omega),hide_len];have:inR2 n0 m i=false:=by unfold inR2;simp;omega
  rw[this]
  by_cases hi2:i<(h++l).length
  ·rw[if_pos hi2,if_neg (by simp),List.getElem?_append_right (by omega)]
  ·rw[if_neg hi2,List.getElem?_eq_none (by rw[List.length_append]at hi2;omega)]
theorem hide_keep(h:Heap)(m:Nat):hide h.length m (h++List.replicate m .hole)=h++List.replicate m .hole:=by
 apply List.ext_getElem?
 intro i;rw[hide_get]
 by_cases hi:i<(h++List.replicate m AObj.hole).length
 ·rw[if_pos hi]
  split
  ·rename_i e;unfold inR2 at e;rw[Bool.and_eq_true,decide_eq_true_eq,decide_eq_true_eq]at e;rw[List.getElem?_append_right e.1,List.getElem?_replicate,if_pos (by omega)]
  ·rfl
 ·rw[if_neg hi,List.getElem?_eq_none (by omega)]
section
variable {B:Nat}{w0:World}{ρ:RMap}{h:Heap}{w:World}
theorem Rel.grow{w':World}(hr:Rel B w0 ρ h w)(hb:Below w.heap.size w w'):Rel B w0 ρ h w':=by
 refine⟨hr.below.trans ⟨hb.os,hb.tape,hb.output,hb.size,fun k hk=>hb.block k (by have:=hr.base;omega)⟩,by have:=hr.base;have:=hb.size;omega,hr.fin,?_,?_,hr.void,hr.sep,hr.gl⟩
 ·intro b L o h1 h2 h3;have:=hr.lt b L o h1 h2 h3;have:=hb.size;omega
 ·intro b o ho hnn hdd;obtain⟨L,hL,hO⟩:=hr.obj' b o ho hnn hdd;exact⟨L,hL,hO.frame (hb.block _ (hr.lt b L o hL ho hdd))⟩
theorem Rel.other{ρ':RMap}{h':Heap}(hr:Rel B w0 ρ h w)(hl:h'.length=h.length)(hs: ∀(b:Nat) o,h'[b]?=some o->o= .dead\/(h[b]?=some o/\(o= .hole->ρ' b=none)/\(∀L,ρ' b=some L->ρ b=some L)))
  (hle:ρ.le ρ') (hf: ∀b L,ρ' b=some L->b<h.length):Rel B w0 ρ' h' w:=by
 have back: ∀(b:Nat) o,h'[b]?=some o->o≠ .dead->h[b]?=some o/\(o= .hole->ρ' b=none)/\(∀L,ρ' b=some L->ρ b=some L):=fun b o ho hd=>by
  rcases hs b o ho with h1|h1
  ·exact absurd h1 hd
  ·exact h1
 refine⟨hr.below,hr.base,fun b L hb=>by rw[hl];exact hf b L hb,fun b L o h1 h2 h3=>?_,fun b o ho hn hd=>?_,fun b hb=>?_,?_,hr.gl⟩
 ·obtain⟨a1,a2,a3⟩:=back b o h2 h3;exact hr.lt b L o (a3 L h1) a1 h3
 ·obtain⟨a1,a2,a3⟩:=back b o ho hd;obtain⟨L,hL,hO⟩:=hr.obj' b o a1 hn hd;exact⟨L,hle _ _ hL,hO.mono hle⟩
 ·exact(back b _ hb (by intro h;cases h)).2.1 rfl
 ·intro b b' o o' L L' hne h1 h2 hw1 hw2 hL hL';obtain⟨a1,_,a3⟩:=back b o h1 (by rintro rfl;simp[AObj.owned]at hw1);obtain⟨b1,_,b3⟩:=back b' o' h2 (by rintro rfl;simp[AObj.owned]at hw2);exact hr.sep b b' o o' L L' hne a1 b1 hw1 hw2 (a3 L hL) (b3 L' hL')
end
def cellsA:AObj->List Value
 | .row _ _ cs=>cs
 |_=>[]
theorem Rel.moveLast{B:Nat}{w0:World}{ρ ρ1:RMap}{h:Heap}{w w':World}{A:AObj}{b:Nat}(hr:Rel B w0 ρ h w)(hb:h[b]?=some .hole)(hle:ρ.le ρ1)(hown:A.owned=true)(hmap: ∀es c,A= .map es c->es=[])
  (h1:Rel w.heap.size w ρ1 (h.map Go.Am.freeze++[A]) w') (hA: ∀c∈cellsA A,avoid (fun x=>decide (x≠h.length)) c=true):
  ∃L,ρ1 h.length=some L/\ρ.le (fun x=>if x=b then some L else if x=h.length then none else ρ1 x)/\Rel B w0 (fun x=>if x=b then some L else if x=h.length then none else ρ1 x) (h.set b A) w':=by
 have hA':(h.map Go.Am.freeze++[A])[h.length]?=some A:=by rw[List.getElem?_append_right (by simp)];simp
 have nh:A≠ .hole:=by rintro rfl;simp[AObj.owned]at hown
 have nd:A≠ .dead:=by rintro rfl;simp[AObj.owned]at hown
 obtain⟨L,hL,hO⟩:=h1.obj' _ _ hA' nh nd;have hbl:b<h.length:=(List.getElem?_eq_some_iff.1 hb).1;have hbb:=h1.below;have hv:ρ b=none:=hr.void b hb;have hv1:ρ1 b=none:=h1.void b (by rw[List.getElem?_append_left (by simpa using hbl),List.getElem?_map,hb];rfl);have hn:ρ h.length=none:=by
  cases hq:ρ h.length with
  |none=>rfl
  |some L=>exact absurd (hr.fin _ _ hq) (by omega)
 have hLb:w.heap.size<=L.blk:=by
  cases A with
  |dead=>exact absurd rfl nd
  |hole=>exact absurd rfl nh
  |map es c=>exact hO.1
  |row m esz cs=>cases m with
   |ro=>simp[AObj.owned]at hown
   |own=>exact hO.1
   |opn=>exact hO.1
 have hle2:ρ.le (fun x=>if x=b then some L else if x=h.length then none else ρ1 x):=by
  intro x Lx hx
  show(if x=b then some L else if x=h.length then none else ρ1 x)=some Lx
  rw[if_neg (by rintro rfl;rw[hv]at hx;cases hx),if_neg (by rintro rfl;rw[hn]at hx;cases hx)];exact hle _ _ hx
 have ren: ∀x L',decide (x≠h.length)=true->ρ1 x=some L'->(if x=b then some L else if x=h.length then none else ρ1 x)=some L':=by
  intro x L' hx hL';rw[if_neg (by rintro rfl;rw[hv1]at hL';cases hL'),if_neg (by simpa using hx)];exact hL'
 have old: ∀(x:Nat) o,x≠b->(h.set b A)[x]?=some o->h[x]?=some o:=fun x o hx ho=>by rwa [List.getElem?_set_ne (Ne.symm hx)]at ho
 have at': ∀x Lx,(if x=b then some L else if x=h.length then none else ρ1 x)=some Lx->x≠b->ρ1 x=some Lx/\x≠h.length:=by
  intro x Lx hx hxb;rw[if_neg hxb]at hx
  split at hx
  ·cases hx
  ·rename_i e;exact⟨hx,e⟩
 have loc: ∀(x:Nat) o Lx,x≠b->h[x]?=some o->o≠ .hole->o≠ .dead->(if x=b then some L else if x=h.length then none else ρ1 x)=some Lx->ρ x=some Lx:=by
  intro x o Lx hxb ho h2 h3 hx;obtain⟨L2,hL2,_⟩:=hr.obj' x o ho h2 h3;have:=hle2 _ _ hL2;rw[show(if x=b then some L else if x=h.length then none else ρ1 x)=some L2 from this]at hx;cases hx;exact hL2
 refine⟨L,hL,hle2,hr.below.trans ⟨hbb.os,hbb.tape,hbb.output,hbb.size,fun k hk=>hbb.block k (by have:=hr.base;omega)⟩,by have:=hr.base;have:=hbb.size;omega,?_,?_,?_,?_,?_,hr.gl⟩
 ·intro x Lx hx
  by_cases hxb:x=b
  ·subst hxb;simpa using hbl
  ·obtain⟨a1,a2⟩:=at' x Lx hx hxb;have:=h1.fin _ _ a1;simp at this ⊢;omega
 ·intro x Lx o hx ho hd
  by_cases hxb:x=b
  ·subst hxb;have hx:(if x=x then some L else if x=h.length then none else ρ1 x)=some Lx:=hx;rw[if_pos rfl]at hx;cases hx;exact h1.lt _ _ _ hL hA' nd
  ·have ho:=old x o hxb ho;obtain⟨a1,a2⟩:=at' x Lx hx hxb;have hlt:=(List.getElem?_eq_some_iff.1 ho).1
   by_cases hh:o= .hole
   ·subst hh;have:=h1.void x (by rw[List.getElem?_append_left (by simpa using hlt),List.getElem?_map,ho];rfl);rw[this]at a1;cases a1
   ·have:=hr.lt x Lx o (loc x o Lx hxb ho hh hd hx) ho hd;have:=hbb.size;omega
 ·intro x o ho h2 h3
  by_cases hxb:x=b
  ·subst hxb;rw[List.getElem?_set_self hbl]at ho;cases ho;refine⟨L,by show(if x=x then some L else _)=_;rw[if_pos rfl],?_⟩;have hB:=hr.base;cases hAe:A with
   |dead=>exact absurd hAe nd
   |hole=>exact absurd hAe nh
   |map es c=>
    rw[hAe]at hO;have:=hmap es c hAe;subst this;obtain⟨_,es',e1,e2⟩:=hO;cases e2;exact⟨by omega,[],e1,.nil⟩
   |row m esz cs=>
    rw[hAe]at hO hA;have hcs:Go.Am.avoid.avoids (fun x=>decide (x≠h.length)) cs=true:=avoids_mem.2 fun c hc=>hA c hc;cases m with
    |ro=>rw[hAe]at hown;simp[AObj.owned]at hown
    |own=>obtain⟨h0,pre,vs,suf,e,lo,hi,g1,g2,g3,g4⟩:=hO;exact⟨by omega,pre,vs,suf,e,lo,hi,g1,g2,VRs.ren ren g3 hcs,g4⟩
    |opn=>obtain⟨h0,pre,vs,suf,e,lo,hi,g1,g2,g3,g4⟩:=hO;exact⟨by omega,pre,vs,suf,e,lo,hi,g1,g2,VRs.ren ren g3 hcs,g4⟩
  ·have ho:=old x o hxb ho;obtain⟨Lx,hLx,hOx⟩:=hr.obj' x o ho h2 h3;exact⟨Lx,hle2 _ _ hLx,(hOx.mono hle2).frame (hbb.block _ (hr.lt x Lx o hLx ho h3))⟩
 ·intro x ho
  by_cases hxb:x=b
  ·subst hxb;rw[List.getElem?_set_self hbl]at ho;cases ho;exact absurd rfl nh
  ·have ho:=old x _ hxb ho;have hlt:=(List.getElem?_eq_some_iff.1 ho).1
   show(if x=b then some L else if x=h.length then none else ρ1 x)=none
   rw[if_neg hxb,if_neg (by omega)];exact h1.void x (by rw[List.getElem?_append_left (by simpa using hlt),List.getElem?_map,ho];rfl)
 ·intro x y o o' Lx Ly hne ho ho' hw hw' hx hy;have key: ∀(x:Nat) o Lx,x≠b->(h.set b A)[x]?=some o->o.owned=true->(if x=b then some L else if x=h.length then none else ρ1 x)=some Lx->h[x]?=some o/\ρ x=some Lx/\Lx.blk<w.heap.size:=by
   intro x o Lx hxb ho hw hx;have ho:=old x o hxb ho;have a2:o≠ .hole:=by rintro rfl;simp[AObj.owned]at hw
   have a3:o≠ .dead:=by rintro rfl;simp[AObj.owned]at hw
   have:=loc x o Lx hxb ho a2 a3 hx;exact⟨ho,this,hr.lt x Lx o this ho a3⟩
  by_cases hxb:x=b
  ·subst hxb;have hx:(if x=x then some L else if x=h.length then none else ρ1 x)=some Lx:=hx;rw[if_pos rfl]at hx;cases hx;have:=key y o' Ly (Ne.symm hne) ho' hw' hy;omega
  ·obtain⟨a1,a2,a3⟩:=key x o Lx hxb ho hw hx
   by_cases hyb:y=b
   ·subst hyb;have hy:(if y=y then some L else if y=h.length then none else ρ1 y)=some Ly:=hy;rw[if_pos rfl]at hy;cases hy;omega
   ·obtain⟨b1,b2,b3⟩:=key y o' Ly hyb ho' hw' hy;exact hr.sep x y o o' Lx Ly hne a1 b1 hw hw' a2 b2
inductive NewF|ptr|sl (l c:Nat)|map
def NewF.at:NewF->Nat->Value
 | .ptr,b=>.pointer (some ⟨b,0,none⟩)
 | .sl l c,b=>.slice (some ⟨b,0,none⟩) l c
 | .map,b=>.map (some b)
theorem NewF.move{F:NewF}{ρ ρ':RMap}{b b':Nat}{L:RLoc}{v':Value}(h1:ρ b=some L)(h2:ρ' b'=some L)(hv:VR ρ (F.at b) v'):VR ρ' (F.at b') v':=by
 cases F with
 |ptr=>
  simp only[NewF.at]at hv ⊢;cases hv with
  |ptr h=>rw[h1]at h;cases h;exact .ptr h2
 |sl l c=>
  simp only[NewF.at]at hv ⊢;cases hv with
  |sl h hc=>rw[h1]at h;cases h;exact .sl h2 hc
  |slo h hc he hn=>rw[h1]at h;cases h;exact .slo h2 hc he hn
  |slz h hc he=>rw[h1]at h;cases h;exact .slz h2 hc he
  |sl0 h=>exact .sl0 h2
 |map=>
  simp only[NewF.at]at hv ⊢;cases hv with
  |map h=>rw[h1]at h;cases h;exact .map h2
def New(P:Program)(o:Oper)(t:Tm)(F:NewF)(A:AObj):Prop:=(∀k:Heap,aeff P o t k=some (F.at k.length,k++[A]))/\A.owned=true/\ ∀es c,A= .map es c->es=[]
theorem New.congr{P:Program}{o:Oper}{t t':Tm}{F:NewF}{A:AObj}(ha:agree t t' o.op.operands.toList)(h:New P o t F A):New P o t' F A:=
 ⟨fun k=>by rw[<-aeff_congr ha];exact h.1 k,h.2⟩
theorem new_of{P:Program}{o:Oper}{t:Tm}{h h':Heap}{v:Value}(hc:cls P o.op=2)(hv:aeff P o t h=some (v,h')): ∃F A,New P o t F A/\v=F.at h.length/\h'=h++[A]:=by
 obtain⟨dst,op,ty,pos,aft,grd⟩:=o;dsimp only at hc;unfold aeff at hv;dsimp only at hv;cases op with
 |box T x=>
  dsimp only at hv;cases hx:ev t x with
  |none=>rw[hx]at hv;cases hv
  |some u=>
   rw[hx]at hv;simp only[abox,Option.some.injEq,Prod.mk.injEq]at hv;exact⟨.ptr,_,⟨fun k=>by simp only[aeff,hx,abox];rfl,rfl,fun es c he=>by cases he⟩,hv.1.symm,hv.2.symm⟩
 |alloc T=>
  dsimp only[aalloc]at hv
  split at hv<;>try (cases hv;done)
  rename_i i hi
  split at hv<;>try (cases hv;done)
  rename_i z hz
  split at hv<;>try (cases hv;done)
  rename_i hp;simp only[abox,Option.some.injEq,Prod.mk.injEq]at hv;exact⟨.ptr,_,⟨fun k=>by simp only[aeff,aalloc,hi,hz,if_pos hp,abox];rfl,rfl,fun es c he=>by cases he⟩,hv.1.symm,hv.2.symm⟩
 |buildSlice T n ps=>
  dsimp only[abuildSlice]at hv
  split at hv<;>try (cases hv;done)
  rename_i qs hq
  split at hv<;>try (cases hv;done)
  rename_i e hu
  split at hv<;>try (cases hv;done)
  rename_i i hi
  split at hv<;>try (cases hv;done)
  rename_i z hz
  split at hv<;>try (cases hv;done)
  rename_i hp
  split at hv<;>try (cases hv;done)
  rename_i cs hcs;simp only[Option.some.injEq,Prod.mk.injEq]at hv;exact⟨.sl n n,_,⟨fun k=>by simp only[aeff,hq,abuildSlice,hu,hi,hz,if_pos hp,hcs];rfl,rfl,fun es c he=>by cases he⟩,hv.1.symm,hv.2.symm⟩
 |makeSlice T l c=>
  dsimp only[amakeSlice]at hv
  split at hv<;>try (cases hv;done)
  rename_i l' c' hl hcc
  split at hv<;>try (cases hv;done)
  rename_i e k1 l'' k2 c'' hu
  split at hv<;>try (cases hv;done)
  rename_i i hi
  split at hv<;>try (cases hv;done)
  rename_i z hz
  split at hv<;>try (cases hv;done)
  rename_i hp;simp only[Option.some.injEq,Prod.mk.injEq]at hv;exact⟨.sl _ _,_,⟨fun k=>by simp only[aeff,hl,hcc,amakeSlice,hu,hi,hz,if_pos hp];rfl,rfl,fun es c he=>by cases he⟩,hv.1.symm,hv.2.symm⟩
 |makeMap T r=>
  dsimp only[amakeMap]at hv
  split at hv<;>try (cases hv;done)
  rename_i r' hr
  split at hv
  ·simp only[Option.some.injEq,Prod.mk.injEq]at hv;exact⟨.map,_,⟨fun k=>by simp only[aeff,hr,amakeMap];rfl,rfl,fun es c he=>by cases he;rfl⟩,hv.1.symm,hv.2.symm⟩
  ·split at hv<;>try (cases hv;done)
   rename_i hu;simp only[Option.some.injEq,Prod.mk.injEq]at hv;exact⟨.map,_,⟨fun k=>by simp only[aeff,hr,amakeMap,hu];rfl,rfl,fun es c he=>by cases he;rfl⟩,hv.1.symm,hv.2.symm⟩
  ·cases hv
 |call c=>
  obtain⟨callee,args,ats⟩:=c;cases callee with
  |builtin b=>cases b<;>(simp[cls]at hc)
  |_=>(simp[cls]at hc)
 |convert s d x=>simp only[cls]at hc;split at hc<;>cases hc
 |_=>(simp[cls]at hc)
section
variable {P:Program}{B:Nat}{w0:World}{ρ:RMap}{h:Heap}{w:World}{t:Tm}{ts:List Value}
theorem wp_val{ops:Array Oper}{Q:Exit->Act->World->Prop}{o:Oper}{rest:List Oper}{v':Value}{w':World}(hw:Region.wanted o (yielded ops (Act.mk ⟨ts⟩ []).tmps)=true)(hx:(execOp (tev ts) o).run P w= .ok (.value v') w')
  (hn:wpList P ops Q rest ((Act.mk ⟨ts⟩ []).put o.dst v') w'):wpList P ops Q (o::rest) ⟨⟨ts⟩,[]⟩ w:=by
 unfold wpList;rw[if_pos hw]
 left
 unfold Oper.wp;simp only[tev]at hx;rw[hx];exact hn
theorem wp_nil{ops:Array Oper}{Q:Exit->Act->World->Prop}{o:Oper}{rest:List Oper}{w':World}(hw:Region.wanted o (yielded ops (Act.mk ⟨ts⟩ []).tmps)=true)(hx:(execOp (tev ts) o).run P w= .ok .skip w')
  (hn:wpList P ops Q rest ((Act.mk ⟨ts⟩ []).put o.dst undef) w'):wpList P ops Q (o::rest) ⟨⟨ts⟩,[]⟩ w:=by
 unfold wpList;rw[if_pos hw]
 left
 unfold Oper.wp;simp only[tev]at hx;rw[hx];exact hn
theorem wp_call{ops:Array Oper}{Q:Exit->Act->World->Prop}{o:Oper}{rest:List Oper}{g:FuncId}{as:Array Value}(hw:Region.wanted o (yielded ops (Act.mk ⟨ts⟩ []).tmps)=true)(hx:(execOp (tev ts) o).run P w= .ok (.enter g as) w)
  (hn:Calls P g as w fun e w'=> ∃v',e= .returned v'/\wpList P ops Q rest ((Act.mk ⟨ts⟩ []).put o.dst v') w'):wpList P ops Q (o::rest) ⟨⟨ts⟩,[]⟩ w:=by
 unfold wpList;rw[if_pos hw]
 left
 unfold Oper.wp;simp only[tev]at hx;rw[hx];simp only[Oper.upon];refine hn.mono ?_;rintro e w' ⟨v',rfl,h1⟩;exact h1
theorem acallee_ok{o:Oper}{f:FuncId}{args:List Value}(h1:acallee P o t=some (f,args))(ht:TRs ρ t ts): ∃rargs,VRs ρ args rargs/\ ∀w,(execOp (tev ts) o).run P w= .ok (.enter f ⟨rargs⟩) w:=by
 unfold acallee at h1
 split at h1
 rotate_left
 ·cases h1
 rename_i fo as ats hop
 split at h1
 rotate_left
 ·cases h1
 rename_i g first captured as' hf has
 split at h1<;>simp at h1
 rename_i hen;obtain⟨hg,ha⟩:=h1;subst hg;have ha:first++as'++captured=args:=by simpa using ha
 subst ha;have hfv:=ev_ok ht hf;have hav:=evs_ok ht has;generalize hfr:tev ts fo=fr at hfv;cases hfv with
 | @func _ _ ys _ vs hfst hcap=>
  have hen':=hen;unfold enterable at hen'
  split at hen'
  rotate_left
  ·cases hen'
  rename_i fn hfn;simp only[Bool.and_eq_true]at hen';obtain⟨hbody,hname⟩:=hen';have hb2:fn.body.isNone=false:=by cases hq:fn.body<;>simp_all
  refine⟨ys++as.toList.map (tev ts)++vs,(hfst.append hav).append hcap,fun w=>?_⟩;have e:as.map (tev ts)=⟨as.toList.map (tev ts)⟩:=by apply Array.ext';simp
  have e2: ∀(a b c:List Value),(Array.mk a++Array.mk b)++Array.mk c=Array.mk (a++b++c):=by
   intro a b c;apply Array.ext';simp
  simp only[execOp,hop,resolve,Sem.run_bind,Sem.run_pure,Result.andThen_ok,hfr,Deferred.ofValue,invoke,callFunc,run_program,hfn,e,e2];rw[if_neg (by simpa using hname),if_neg (by simp[hb2])]
  rfl
end
theorem aread_more{P:Program}{o:Oper}{t:Tm}{h h':Heap}{v:Value}(hv:aread P o t h=some v)(hs: ∀(b:Nat) o',h[b]?=some o'->o'≠ .hole->h'[b]?=some o'):aread P o t h'=some v:=by
 have row: ∀(b:Nat){m:Mode}{e:Nat}{cs:List Value},h[b]?=some (.row m e cs)->h'[b]?=some (.row m e cs):=fun b m e cs hb=>hs b _ hb (by intro h;cases h);have mp: ∀(b:Nat){es:List MapEntry}{c:Nat},h[b]?=some (.map es c)->h'[b]?=some (.map es c):=fun b es c hb=>hs b _ hb (by intro h;cases h);obtain⟨dst,op,ty,pos,aft,grd⟩:=o;unfold aread at hv ⊢;dsimp only at hv ⊢;cases op with
 |load T x=>
  dsimp only at hv ⊢;cases hx:ev t x with
  |none=>rw[hx]at hv;cases hv
  |some u=>
   rw[hx]at hv;dsimp only at hv ⊢;unfold aload at hv ⊢
   split at hv<;>try (cases hv;done)
   rename_i b o
   try dsimp only
   cases hb:h[b]? with
   |none=>rw[hb]at hv;cases hv
   |some ob=>
    rw[hb]at hv;cases ob with
    |row m e cs=>rw[row b hb];exact hv
    |_=>cases hv
 |lookup T x k ok=>
  dsimp only at hv ⊢;cases hx:ev t x with
  |none=>rw[hx]at hv;cases hv
  |some u=>
   cases hk:ev t k with
   |none=>rw[hx,hk]at hv;cases hv
   |some q=>
    rw[hx,hk]at hv;dsimp only at hv ⊢;unfold alookup at hv ⊢
    split at hv<;>try (cases hv;done)
    rename_i kt et hu;simp only[hu];dsimp only at hv ⊢;cases u with
    |map r=>
     cases r with
     |none=>exact hv
     |some b=>
      dsimp only at hv ⊢;cases hb:h[b]? with
      |none=>rw[hb]at hv;simp at hv
      |some ob=>
       rw[hb]at hv;cases ob with
       |map es c=>rw[mp b hb];exact hv
       |_=>cases hv
    |_=>simp at hv
 |convert s d x=>
  dsimp only at hv ⊢;cases hx:ev t x with
  |none=>rw[hx]at hv;cases hv
  |some u=>
   rw[hx]at hv;dsimp only at hv ⊢;unfold abytesStr at hv ⊢
   split at hv<;>try (cases hv;done)
   ·rename_i e b o n c h1 h2
    try simp only[h1,h2]
    split at hv<;>try (cases hv;done)
    rename_i i h3 h4
    try simp only[h3,h4]
    by_cases hn0:n=0
    ·rw[if_pos hn0]at hv ⊢;exact hv
    rw[if_neg hn0]at hv ⊢;cases hb:h[b]? with
    |none=>rw[hb]at hv;simp at hv
    |some ob=>
     rw[hb]at hv;cases ob with
     |row m e cs=>rw[row b hb];exact hv
     |_=>cases hv
   ·rename_i e n c h1 h2
    try simp only[h1,h2]
    exact hv
 |call c=>
  obtain⟨callee,args,ats⟩:=c;cases callee with
  |builtin b=>
   cases b with
   |len=>
    dsimp only at hv ⊢;cases hx:evs t args.toList with
    |none=>rw[hx]at hv;cases hv
    |some vs=>
     rw[hx]at hv;dsimp only at hv ⊢;unfold amapLen at hv ⊢
     split at hv<;>try (cases hv;done)
     rename_i T b h1
     try simp only[h1]
     cases hb:h[b]? with
     |none=>rw[hb]at hv;split at hv<;>simp_all
     |some ob=>
      rw[hb]at hv;cases ob with
      |map es c=>rw[mp b hb];exact hv
      |_=>split at hv<;>simp_all
   |_=>cases hv
  |_=>cases hv
 |_=>cases hv
section
variable {P:Program}{t:Tm}{h:Heap}
theorem call4{o:Oper}{r:FuncId×List Value}(h1:acallee P o t=some r):cls P o.op=4:=Classical.byContradiction fun h0=>by rw[no_call (P:=P) (t:=t) h0]at h1;cases h1
theorem read0{o:Oper}{k:Heap}{v:Value}(h1:aread P o t k=some v):cls P o.op≠0/\cls P o.op≠2:=by
 refine⟨fun h0=>?_,fun h0=>?_⟩
 ·rw[(only_pure (P:=P) (t:=t) (h:=k) h0).1]at h1;cases h1
 ·rw[(only_new (P:=P) (t:=t) (h:=k) h0).2.1]at h1;cases h1
theorem eff0{o:Oper}{k:Heap}{r:Value×Heap}(h1:aeff P o t k=some r):cls P o.op≠0/\cls P o.op≠1:=by
 refine⟨fun h0=>?_,fun h0=>?_⟩
 ·rw[(only_pure (P:=P) (t:=t) (h:=k) h0).2.1]at h1;cases h1
 ·rw[(only_read (P:=P) (t:=t) (h:=k) h0).1]at h1;cases h1
end
inductive Kd|norm|call|fill (j:Nat)
abbrev GOp:=Oper×Kd
def FCall(P:Program)(f:FuncId)(args:List Value)(h:Heap)(v:Value)(news:Heap):Prop:=
 ACall P f args (h.map freeze) (fun u k=>u=v/\k=h.map freeze++news)/\ ∀o∈news,notroA o
def notIn(n0 m b:Nat):Bool:=!inR2 n0 m b
def isApp:Op->Bool
 | .call ⟨.builtin .append,_,_⟩=>true
 |_=>false
def argsOf:Op->List Operand
 | .call ⟨_,args,_⟩=>args.toList
 |_=>[]
def GAct(P:Program)(n0 m:Nat)(o:Oper)(t:Tm)(k:Heap)(v:Value)(news:Heap):Prop:=
 (∃f args,acallee P o t=some (f,args)/\avoid.avoids (notIn n0 m) args=true/\FCall P f args k v news)\/
 (∃as,isApp o.op=true/\evs t (argsOf o.op)=some as/\avoid.avoids (notIn n0 m) as=true/\aeff P o t (k.map freeze)=some (v,k.map freeze++news)/\ ∀o∈news,notroA o)
theorem isApp_ops{op:Op}(h:isApp op=true):op.operands.toList=argsOf op:=by
 unfold isApp at h
 split at h
 ·simp[Op.operands,argsOf,Call.operands]
 ·cases h
theorem isApp_cls{P:Program}{op:Op}(h:isApp op=true):cls P op=3:=by
 unfold isApp at h
 split at h
 ·rfl
 ·cases h
theorem GAct.congr{P:Program}{n0 m:Nat}{o:Oper}{t t':Tm}{k:Heap}{v:Value}{news:Heap}(ha:agree t t' o.op.operands.toList)(h:GAct P n0 m o t k v news):GAct P n0 m o t' k v news:=by
 rcases h with⟨f,args,h1,h2,h3⟩|⟨as,h1,h2,h3,h4,h5⟩
 ·exact .inl ⟨f,args,by rw[<-acallee_congr ha];exact h1,h2,h3⟩
 ·exact .inr ⟨as,h1,by rw[<-evs_congr (by rw[<-isApp_ops h1];exact ha)];exact h2,h3,by rw[<-aeff_congr ha];exact h4,h5⟩
theorem GAct.cls{P:Program}{n0 m:Nat}{o:Oper}{t:Tm}{k:Heap}{v:Value}{news:Heap}(h:GAct P n0 m o t k v news):Go.Am.cls P o.op≠0/\Go.Am.cls P o.op≠1:=by
 rcases h with⟨f,args,h1,h2,h3⟩|⟨as,h1,h2,h3,h4,h5⟩
 ·rw[call4 h1];exact⟨by decide,by decide⟩
 ·rw[isApp_cls h1];exact⟨by decide,by decide⟩
def nxm(P:Program)(md:Bool)(o:GOp):Bool:=match o.2 with
 | .norm=>md&&Nat.ble (cls P o.1.op) 1
 |_=>md
def AOpG(P:Program)(ops:Array Oper)(n0 m:Nat)(o:GOp)(K:Bool->Tm->Heap->Prop)(md:Bool)(t:Tm)(h:Heap):Prop:=
 gok ops o.1 t=true/\if Region.wanted o.1 (ayielded ops t)then
  (∃v,apure P o.1 t=some v/\K (nxm P md o) (aput t o.1.dst v) h)\/
  (∃v,aread P o.1 t (if md=true then hide n0 m h else h)=some v/\K (nxm P md o) (aput t o.1.dst v) h)\/
  (o.2= .call/\md=true/\ ∃v news,n0+m<=h.length/\GAct P n0 m o.1 t (hide n0 m h) v news/\K (nxm P md o) (aput t o.1.dst v) (h++news))\/
  (md=true/\ ∃j F A,o.2= .fill j/\j<m/\h[n0+j]?=some .hole/\New P o.1 t F A/\K (nxm P md o) (aput t o.1.dst (F.at (n0+j))) (h.set (n0+j) A))\/
  (o.2= .norm/\((∃v h',aeff P o.1 t h=some (v,h')/\K (nxm P md o) (aput t o.1.dst v) h')\/
   (∃f args R,acallee P o.1 t=some (f,args)/\ACall P f args h R/\ ∀v h',R v h'->K (nxm P md o) (aput t o.1.dst v) h')))
 else K (nxm P md o) (aput t o.1.dst undef) h
def AOpsG(P:Program)(ops:Array Oper)(n0 m:Nat)(K:Bool->Tm->Heap->Prop):List GOp->Bool->Tm->Heap->Prop
 | []=>K
 |o::rest=>AOpG P ops n0 m o (AOpsG P ops n0 m K rest)
def StG(B:Nat)(w0:World)(n0 m:Nat)(md:Bool)(ρ:RMap)(h:Heap)(w:World):Prop:=
 Rel B w0 ρ h w/\(md=true-> ∃ρ0,Rel B w0 ρ0 (hide n0 m h) w/\ρ0.le ρ/\(∀b,inR2 n0 m b=false->ρ b=ρ0 b)/\n0+m<=h.length)
section
variable {P:Program}{B:Nat}{w0:World}{ρ ρb:RMap}{h:Heap}{w:World}{t:Tm}{ts:List Value}{n0 m:Nat}{md:Bool}
theorem StG.fill(hs:StG B w0 n0 m true ρ h w){j:Nat}(hj:j<m)(hh:h[n0+j]?=some .hole){o:Oper}{F:NewF}{A:AObj}(hn:New P o t F A)(ht:TRs ρ t ts):
  ∃ρ' w' v',ρ.le ρ'/\(execOp (tev ts) o).run P w= .ok (.value v') w'/\VR ρ' (F.at (n0+j)) v'/\StG B w0 n0 m true ρ' (h.set (n0+j) A) w':=by
 obtain⟨hi,hlo⟩:=hs;obtain⟨ρ0,lo,le0,out,hlen⟩:=hlo rfl;obtain⟨hn1,hown,hmap⟩:=hn;have hb:n0+j<h.length:=(List.getElem?_eq_some_iff.1 hh).1;have hin:inR2 n0 m (n0+j)=true:=by unfold inR2;simp;omega
 obtain⟨ρ1,w',n,hle,hrun,hnr,h1⟩:=aeff_ok hi.freeze (hn1 (h.map freeze)) ht;obtain⟨ρ2,w2,n2,hle2,hrun2,hnr2,h2⟩:=aeff_ok (hi.freeze.keep 1) (hn1 (h.map freeze++List.replicate 1 .hole)) ht;have hv2:ρ2 h.length=none:=h2.void _ (by
  rw[List.append_assoc,List.getElem?_append_right (by simp)];simp)
 have hA: ∀c∈cellsA A,avoid (fun x=>decide (x≠h.length)) c=true:=by
  have hA':(h.map freeze++List.replicate 1 AObj.hole++[A])[h.length+1]?=some A:=by
   rw[List.getElem?_append_right (by simp)];simp
  have nh:A≠ .hole:=by rintro rfl;simp[AObj.owned]at hown
  have nd:A≠ .dead:=by rintro rfl;simp[AObj.owned]at hown
  obtain⟨L,hL,hO⟩:=h2.obj' _ _ hA' nh nd;intro c hc;cases A with
  |dead=>exact absurd rfl nd
  |hole=>exact absurd rfl nh
  |map es c=>cases hc
  |row md esz cs=>
   have hp: ∀b,(fun x=>decide (x≠h.length)) b=false->ρ2 b=none:=by
    intro b hb;have:b=h.length:=by simpa using hb
    rw[this];exact hv2
   have hcs:avoid.avoids (fun x=>decide (x≠h.length)) cs=true:=by
    cases md with
    |ro=>simp[AObj.owned]at hown
    |own=>obtain⟨_,pre,vs,suf,e,lo,hi,g1,g2,g3,g4⟩:=hO;exact VRs.avoid hp g3
    |opn=>obtain⟨_,pre,vs,suf,e,lo,hi,g1,g2,g3,g4⟩:=hO;exact VRs.avoid hp g3
   exact avoids_mem.1 hcs c hc
 obtain⟨L,hL,hle3,hnew⟩:=hi.moveLast hh hle hown hmap h1 hA;have hlh:(h.map freeze).length=h.length:=by simp
 have hv': ∃v',n= .value v'/\VR ρ1 (F.at h.length) v':=by
  rw[hlh]at hnr;cases n<;>simp only[NR]at hnr
  ·exact⟨_,rfl,hnr⟩
  ·cases F<;>cases hnr
 obtain⟨v',rfl,hv'⟩:=hv';refine⟨_,w',v',hle3,hrun,NewF.move hL (by show(if n0+j=n0+j then some L else _)=some L;rw[if_pos rfl]) hv',hnew,fun _=>?_⟩;generalize hρ:(fun x=>if x=n0+j then some L else if x=h.length then none else ρ1 x)=ρ' at hnew hle3 ⊢;have out': ∀b,inR2 n0 m b=false->(fun x=>if inR2 n0 m x=true then none else ρ' x) b=ρ' b:=by
  intro b hb
  show(if inR2 n0 m b=true then none else ρ' b)=ρ' b
  rw[if_neg (by simp[hb])]
 have inn': ∀b,inR2 n0 m b=true->(fun x=>if inR2 n0 m x=true then none else ρ' x) b=none:=by
  intro b hb
  show(if inR2 n0 m b=true then none else ρ' b)=none
  rw[if_pos hb]
 generalize(fun x=>if inR2 n0 m x=true then none else ρ' x)=ρ0' at out' inn';have hid: ∀b,inR2 n0 m b=true->(hide n0 m h)[b]?=some .hole:=by
  intro b hb;have hlt:b<h.length:=by unfold inR2 at hb;simp at hb;omega
  rw[hide_get,if_pos hlt,if_pos hb]
 refine⟨ρ0',?_,?_,fun b hb=>(out' b hb).symm,by rw[List.length_set];exact hlen⟩
 ·rw[hide_set hin];refine(lo.grow h1.below).other rfl ?_ ?_ ?_
  ·intro b o ho;cases hb2:inR2 n0 m b with
   |true=>exact .inr ⟨ho,fun _=>inn' b hb2,fun L hL=>by rw[inn' b hb2]at hL;cases hL⟩
   |false=>
    have ho2:=ho;rw[hide_get]at ho2
    split at ho2<;>try (cases ho2;done)
    rw[if_neg (by simp[hb2])]at ho2;have hne:b≠n0+j:=by rintro rfl;rw[hin]at hb2;cases hb2
    by_cases hd:o= .dead
    ·exact .inl hd
    ·refine .inr ⟨ho,fun hh2=>?_,fun L hL=>?_⟩
     ·rw[out' b hb2];exact hnew.void b (by rw[List.getElem?_set_ne (Ne.symm hne),ho2,hh2])
     ·rw[out' b hb2]at hL
      by_cases hh2:o= .hole
      ·have:=hnew.void b (by rw[List.getElem?_set_ne (Ne.symm hne),ho2,hh2]);rw[this]at hL;cases hL
      ·obtain⟨L2,hL2,_⟩:=hi.obj' b o ho2 hh2 hd;have:=hle3 _ _ hL2;rw[this]at hL;cases hL;rw[<-out b hb2];exact hL2
  ·intro b L hL;cases hb2:inR2 n0 m b with
   |true=>have:=lo.void b (hid b hb2);rw[this]at hL;cases hL
   |false=>rw[out' b hb2];exact hle3 _ _ (le0 _ _ hL)
  ·intro b L hL;cases hb2:inR2 n0 m b with
   |true=>rw[inn' b hb2]at hL;cases hL
   |false=>
    rw[out' b hb2]at hL;have:=hnew.fin b L hL;rw[List.length_set]at this;rw[hide_len];exact this
 ·intro b L hL;cases hb2:inR2 n0 m b with
  |true=>rw[inn' b hb2]at hL;cases hL
  |false=>rw[out' b hb2]at hL;exact hL
def bury(n0 m:Nat)(h:Heap):Heap:=(List.range h.length).map fun b=>if inR2 n0 m b=true then .dead else(h[b]?).getD .dead
theorem bury_len(n0 m:Nat)(h:Heap):(bury n0 m h).length=h.length:=by simp[bury]
theorem bury_get{n0 m:Nat}{h:Heap}{b:Nat}:(bury n0 m h)[b]?=if b<h.length then(if inR2 n0 m b=true then some .dead else h[b]?)else none:=by
 unfold bury;rw[List.getElem?_map]
 by_cases hb:b<h.length
 ·rw[List.getElem?_range hb,if_pos hb];simp only[Option.map_some]
  split
  ·rfl
  ·rw[List.getElem?_eq_getElem hb];rfl
 ·rw[if_neg hb,List.getElem?_eq_none (by simpa using hb)];rfl
theorem StG.grow(hi:Rel B w0 ρ h w){ρ0:RMap}(lo:Rel B w0 ρ0 (hide n0 m h) w)(le0:ρ0.le ρ)(out: ∀b,inR2 n0 m b=false->ρ b=ρ0 b)(hlen:n0+m<=h.length){news:Heap}{ρ0':RMap}{w':World}(hl:ρ0.le ρ0')
  (hr':Rel w.heap.size w ρ0' ((hide n0 m h).map freeze++news) w') (hc2: ∀o∈news,notroA o): ∃ρ',ρ.le ρ'/\ρ0'.le ρ'/\StG B w0 n0 m true ρ' (h++news) w':=by
 have hid: ∀b,inR2 n0 m b=true->(hide n0 m h)[b]?=some .hole:=by
  intro b hb;have hlt:b<h.length:=by unfold inR2 at hb;simp at hb;omega
  rw[hide_get,if_pos hlt,if_pos hb]
 have hole0: ∀b:Nat,(hide n0 m h)[b]?=some .hole->ρ0' b=none:=by
  intro b hb;have hlt:=(List.getElem?_eq_some_iff.1 hb).1;refine hr'.void b ?_;rw[List.getElem?_append_left (by simpa using hlt),List.getElem?_map,hb];rfl
 have lo':=lo.thawNew hl (by simp) hole0 hr' hc2;have out': ∀b,inR2 n0 m b=false->(fun x=>if inR2 n0 m x=true then ρ x else ρ0' x) b=ρ0' b:=by
  intro b hb
  show(if inR2 n0 m b=true then ρ b else ρ0' b)=ρ0' b
  rw[if_neg (by simp[hb])]
 have inn': ∀b,inR2 n0 m b=true->(fun x=>if inR2 n0 m x=true then ρ x else ρ0' x) b=ρ b:=by
  intro b hb
  show(if inR2 n0 m b=true then ρ b else ρ0' b)=ρ b
  rw[if_pos hb]
 generalize(fun x=>if inR2 n0 m x=true then ρ x else ρ0' x)=ρ' at out' inn';have hle:ρ.le ρ':=by
  intro b L hL;cases hb:inR2 n0 m b with
  |true=>rw[inn' b hb];exact hL
  |false=>rw[out' b hb];exact hl _ _ (by rw[<-out b hb];exact hL)
 have le0':ρ0'.le ρ':=by
  intro b L hL;cases hb:inR2 n0 m b with
  |true=>rw[hole0 b (hid b hb)]at hL;cases hL
  |false=>rw[out' b hb];exact hL
 refine⟨ρ',hle,le0',?_,fun _=>⟨ρ0',by rw[hide_app hlen];exact lo',le0',out',by rw[List.length_append];omega⟩⟩;refine hi.thawNew hle (hf:=bury n0 m ((hide n0 m h).map freeze)) (by rw[bury_len,List.length_map,hide_len]) ?_ ?_ hc2
 ·intro b hb;cases hb2:inR2 n0 m b with
  |true=>rw[inn' b hb2];exact hi.void b hb
  |false=>
   rw[out' b hb2];refine hole0 b ?_;have hlt:=(List.getElem?_eq_some_iff.1 hb).1;rw[hide_get,if_pos hlt,if_neg (by simp[hb2])];exact hb
 ·refine hr'.other (by simp[bury_len]) ?_ le0' ?_
  ·intro b o ho
   by_cases hlt:b<h.length
   ·rw[List.getElem?_append_left (by rw[bury_len,List.length_map,hide_len];exact hlt),bury_get,if_pos (by rw[List.length_map,hide_len];exact hlt)]at ho;cases hb2:inR2 n0 m b with
    |true=>rw[hb2,if_pos rfl]at ho;cases ho;exact .inl rfl
    |false=>
     rw[hb2,if_neg (by simp)]at ho;have ho':(List.map freeze (hide n0 m h)++news)[b]?=some o:=by
      rw[List.getElem?_append_left (by rw[List.length_map,hide_len];exact hlt)];exact ho
     refine .inr ⟨ho',fun hh=>?_,fun L hL=>by rw[out' b hb2]at hL;exact hL⟩;rw[out' b hb2];exact hr'.void b (by rw[ho',hh])
   ·rw[List.getElem?_append_right (by rw[bury_len,List.length_map,hide_len];omega),bury_len,List.length_map,hide_len]at ho;have ho':(List.map freeze (hide n0 m h)++news)[b]?=some o:=by
     rw[List.getElem?_append_right (by rw[List.length_map,hide_len];omega),List.length_map,hide_len];exact ho
    have hb2:inR2 n0 m b=false:=by unfold inR2;simp;omega
    refine .inr ⟨ho',fun hh=>?_,fun L hL=>by rw[out' b hb2]at hL;exact hL⟩;rw[out' b hb2];exact hr'.void b (by rw[ho',hh])
  ·intro b L hL;cases hb2:inR2 n0 m b with
   |true=>
    have hlt:b<h.length:=by unfold inR2 at hb2;simp at hb2;omega
    rw[List.length_append,List.length_map,hide_len];omega
   |false=>rw[out' b hb2]at hL;exact hr'.fin b L hL
theorem StG.call(hs:StG B w0 n0 m true ρ h w){f:FuncId}{args rargs:List Value}{v:Value}{news:Heap}(hc:FCall P f args (hide n0 m h) v news)(ha:avoid.avoids (notIn n0 m) args=true)(hv:VRs ρ args rargs):
  Calls P f ⟨rargs⟩ w fun e w'=> ∃v' ρ',e= .returned v'/\ρ.le ρ'/\VR ρ' v v'/\StG B w0 n0 m true ρ' (h++news) w':=by
 obtain⟨hi,hlo⟩:=hs;obtain⟨ρ0,lo,le0,out,hlen⟩:=hlo rfl;obtain⟨hc1,hc2⟩:=hc;have hv0:VRs ρ0 args rargs:=VRs.ren (p:=notIn n0 m) (fun b L h1 h2=>by rw[<-out b (by simpa[notIn]using h1)];exact h2) hv ha;refine(hc1 w.heap.size w ρ0 rargs w lo.freeze hv0).mono ?_;rintro e w' ⟨u,v',h',ρ0',rfl,⟨rfl,rfl⟩,hl,hr',hvr⟩;obtain⟨ρ',e1,e2,e3⟩:=StG.grow hi lo le0 out hlen hl hr' hc2;exact⟨v',ρ',rfl,e1,hvr.mono e2,e3⟩
def only(t:Tm)(xs:List Operand):Tm:=(List.range t.length).map fun i=>match xs.any (fun x=>match x with| .tmp j=>j==i|_=>false)with
 |true=>(t[i]?).getD none
 |false=>none
theorem only_get{t:Tm}{xs:List Operand}(i:Nat):(only t xs)[i]?=if i<t.length then(if xs.any (fun x=>match x with| .tmp j=>j==i|_=>false)=true then t[i]? else some none)else none:=by
 unfold only;rw[List.getElem?_map]
 by_cases hi:i<t.length
 ·rw[List.getElem?_range hi,if_pos hi,Option.map_some];cases hq:xs.any (fun x=>match x with| .tmp j=>j==i|_=>false)with
  |true=>rw[if_pos rfl];dsimp only;rw[List.getElem?_eq_getElem hi];rfl
  |false=>rw[if_neg (by decide)]
 ·rw[if_neg hi,List.getElem?_eq_none (by simpa using hi)];rfl
theorem only_agree{t:Tm}{xs:List Operand}:agree t (only t xs) xs:=by
 intro i hi;rw[only_get]
 by_cases h:i<t.length
 ·rw[if_pos h,if_pos (by rw[List.any_eq_true];exact⟨.tmp i,hi,by simp⟩)]
 ·rw[if_neg h,List.getElem?_eq_none (by omega)]
theorem evs_mem{t:Tm}{i:Nat}{v:Value}: ∀{xs:List Operand}{as:List Value},evs t xs=some as->Operand.tmp i∈xs->tget t i=some v->v∈as
 | [],_,_,h2,_=>by cases h2
 |x::xs,as,h1,h2,h3=>by
  unfold evs at h1
  split at h1<;>try (cases h1;done)
  rename_i y ys hy hys;cases h1;rcases List.mem_cons.1 h2 with e|e
  ·subst e;simp only[ev]at hy;rw[h3]at hy;cases hy;exact .head _
  ·exact .tail _ (evs_mem hys e h3)
theorem StG.app(hs:StG B w0 n0 m true ρ h w){o:Oper}{as:List Value}{v:Value}{news:Heap}(h1:isApp o.op=true)(h2:evs t (argsOf o.op)=some as)(h3:avoid.avoids (notIn n0 m) as=true)
  (h4:aeff P o t ((hide n0 m h).map freeze)=some (v,(hide n0 m h).map freeze++news)) (h5: ∀o∈news,notroA o) (ht:TRs ρ t ts):
  ∃ρ' w' n,ρ.le ρ'/\(execOp (tev ts) o).run P w= .ok n w'/\NR ρ' v n/\StG B w0 n0 m true ρ' (h++news) w':=by
 obtain⟨hi,hlo⟩:=hs;obtain⟨ρ0,lo,le0,out,hlen⟩:=hlo rfl;have ho:=isApp_ops h1;have h6:aeff P o (only t (argsOf o.op)) ((hide n0 m h).map freeze)=some (v,(hide n0 m h).map freeze++news):=by
  rw[<-aeff_congr (by rw[ho];exact only_agree)];exact h4
 have ht0:TRs ρ0 (only t (argsOf o.op)) ts:=by
  refine⟨by unfold only;simp;exact ht.1,fun i v hv=>?_⟩;rw[only_get]at hv
  split at hv<;>try (cases hv;done)
  split at hv<;>try (cases hv;done)
  rename_i hany;obtain⟨x,hx1,hx2⟩:=List.any_eq_true.1 hany;have hx:x= .tmp i:=by
   cases x with
   |tmp j=>simp at hx2;rw[hx2]
   |_=>simp at hx2
  subst hx;have hm:v∈as:=evs_mem h2 hx1 (by unfold tget;rw[hv]);obtain⟨v',q1,q2⟩:=ht.2 i v hv;exact⟨v',q1,VR.ren (p:=notIn n0 m) (fun b L h1 h2=>by rw[<-out b (by simpa[notIn]using h1)];exact h2) q2 (avoids_mem.1 h3 v hm)⟩
 obtain⟨ρ0',w',n,q1,q2,q3,q4⟩:=aeff_ok lo.freeze h6 ht0;obtain⟨ρ',e1,e2,e3⟩:=StG.grow hi lo le0 out hlen q1 q4 h5;exact⟨ρ',w',n,e1,q2,by cases n<;>simp only[NR]at q3 ⊢ <;>first|exact q3.mono e2|exact q3,e3⟩
theorem StG.nx(hs:StG B w0 n0 m md ρ h w)(o:GOp):StG B w0 n0 m (nxm P md o) ρ h w:=
 ⟨hs.1,fun hm=>hs.2 (by
  unfold nxm at hm
  split at hm
  ·simp at hm;exact hm.1
  ·exact hm)⟩
theorem nxm_eff{md:Bool}{o:GOp}(hk:o.2= .norm)(h0:cls P o.1.op≠0)(h1:cls P o.1.op≠1):nxm P md o=false:=by
 unfold nxm;rw[hk];dsimp only;have:Nat.ble (cls P o.1.op) 1=false:=by
  cases hq:Nat.ble (cls P o.1.op) 1 with
  |false=>rfl
  |true=>have:=Nat.le_of_ble_eq_true hq;omega
 rw[this,Bool.and_false]
theorem AOpsG.sound(ops:Array Oper)(l:List GOp){K:Bool->Tm->Heap->Prop}: ∀{md:Bool}{t:Tm}{h:Heap},AOpsG P ops n0 m K l md t h-> ∀{ρ:RMap}{ts:List Value}{w:World},ρb.le ρ->StG B w0 n0 m md ρ h w->TRs ρ t ts->
  wpList P ops (fun e a w=>e= .normal/\Sim B w0 ρb (fun t h=> ∃md,K md t h) a w) (l.map (·.1)) ⟨⟨ts⟩,[]⟩ w:=by
 induction l with
 |nil=>
  intro md t h hK ρ ts w hle hs ht;exact⟨rfl,t,h,ρ,ts,⟨md,hK⟩,hle,hs.1,rfl,ht⟩
 |cons o rest ih=>
  intro md t h hK ρ ts w hle hs ht;simp only[AOpsG,AOpG]at hK;obtain⟨hg,hK⟩:=hK;have hwe:=wanted_eq ht ops o.1 hg;simp only[List.map_cons]
  split at hK
  rotate_left
  ·rename_i hw;unfold wpList;rw[hwe,if_neg hw];obtain⟨ts',h5,h6⟩:=aput_ok ht VR.undef o.1.dst;rw[h5];exact ih hK hle (hs.nx o) h6
  rename_i hw;have hw':=hwe.trans hw;rcases hK with⟨v,h1,h2⟩|⟨v,h1,h2⟩|⟨hk,rfl,v,news,hlen,⟨f,args,h1,h2,h3⟩|⟨as,g1,g2,g3,g4,g5⟩,h4⟩|⟨rfl,j,F,A,hk,hj,hh,hn,h4⟩|⟨hk,⟨v,h',h1,h2⟩|⟨f,args,R,h1,h2,h3⟩⟩
  ·obtain⟨v',h3,h4⟩:=apure_ok h1 ht;refine wp_val hw' (h4 w) ?_;obtain⟨ts',h5,h6⟩:=aput_ok ht h3 o.1.dst;rw[h5];exact ih h2 hle (hs.nx o) h6
  ·have: ∃v',VR ρ v v'/\(execOp (tev ts) o.1).run P w= .ok (.value v') w:=by
    cases md with
    |false=>exact aread_ok hs.1 h1 ht
    |true=>
     have hr:Rel B w0 ρ (bury n0 m h) w:=by
      refine hs.1.other (bury_len _ _ _) (fun b o ho=>?_) ρ.le_refl (fun b L hL=>hs.1.fin b L hL);rw[bury_get]at ho
      split at ho<;>try (cases ho;done)
      split at ho
      ·cases ho;exact .inl rfl
      ·exact .inr ⟨ho,fun hh=>hs.1.void b (by rw[ho,hh]),fun L hL=>hL⟩
     refine aread_ok hr (aread_more h1 fun b o' ho hne=>?_) ht;rw[if_pos rfl,hide_get]at ho;rw[bury_get]
     split at ho<;>try (cases ho;done)
     rename_i hlt;rw[if_pos hlt]
     split at ho
     ·cases ho;exact absurd rfl hne
     ·rename_i hn;rw[if_neg hn];exact ho
   obtain⟨v',h3,h4⟩:=this;refine wp_val hw' h4 ?_;obtain⟨ts',h5,h6⟩:=aput_ok ht h3 o.1.dst;rw[h5];exact ih h2 hle (hs.nx o) h6
  ·obtain⟨rargs,h5,h6⟩:=acallee_ok h1 ht;refine wp_call hw' (h6 w) ((hs.call h3 h2 h5).mono ?_);rintro e w' ⟨v',ρ',rfl,hl,hvr,hs'⟩;obtain⟨ts',h7,h8⟩:=aput_ok (ht.mono hl) hvr o.1.dst;exact⟨v',rfl,by rw[h7];exact ih h4 (RMap.le_trans hle hl) (hs'.nx o) h8⟩
  ·obtain⟨ρ',w',n,hl,hrun,hvr,hs'⟩:=hs.app g1 g2 g3 g4 g5 ht;cases n<;>simp only[NR]at hvr
   ·refine wp_val hw' hrun ?_;obtain⟨ts',h7,h8⟩:=aput_ok (ht.mono hl) hvr o.1.dst;rw[h7];exact ih h4 (RMap.le_trans hle hl) (hs'.nx o) h8
   ·subst hvr;refine wp_nil hw' hrun ?_;obtain⟨ts',h7,h8⟩:=aput_ok (ht.mono hl) VR.undef o.1.dst;rw[h7];exact ih h4 (RMap.le_trans hle hl) (hs'.nx o) h8
  ·obtain⟨ρ',w',v',hl,hrun,hvr,hs'⟩:=hs.fill hj hh hn ht;refine wp_val hw' hrun ?_;obtain⟨ts',h7,h8⟩:=aput_ok (ht.mono hl) hvr o.1.dst;rw[h7];exact ih h4 (RMap.le_trans hle hl) (hs'.nx o) h8
  ·obtain⟨ρ',w',n,h3,h4,h5,h6⟩:=aeff_ok hs.1 h1 ht;have hz:=eff0 h1;rw[nxm_eff hk hz.1 hz.2]at h2;cases n<;>simp only[NR]at h5
   ·refine wp_val hw' h4 ?_;obtain⟨ts',h7,h8⟩:=aput_ok (ht.mono h3) h5 o.1.dst;rw[h7];exact ih h2 (RMap.le_trans hle h3) ⟨h6,fun h=>by cases h⟩ h8
   ·subst h5;refine wp_nil hw' h4 ?_;obtain⟨ts',h7,h8⟩:=aput_ok (ht.mono h3) VR.undef o.1.dst;rw[h7];exact ih h2 (RMap.le_trans hle h3) ⟨h6,fun h=>by cases h⟩ h8
  ·obtain⟨rargs,h5,h6⟩:=acallee_ok h1 ht;have hz:=call4 h1;have e:=nxm_eff (P:=P) (md:=md) hk (by rw[hz];decide) (by rw[hz];decide);simp only[e]at h3;refine wp_call hw' (h6 w) ((h2 B w0 ρ rargs w hs.1 h5).mono ?_);rintro e w' ⟨v,v',h',ρ',rfl,hR,hl,hr',hvr⟩;obtain⟨ts',h7,h8⟩:=aput_ok (ht.mono hl) hvr o.1.dst;exact⟨v',rfl,by rw[h7];exact ih (h3 _ _ hR) (RMap.le_trans hle hl) ⟨hr',fun h=>by cases h⟩ h8⟩
end
def isFill:Kd->Bool
 | .fill _=>true
 |_=>false
def isCallK:Kd->Bool
 | .call=>true
 |_=>false
def isNorm:Kd->Bool
 | .norm=>true
 |_=>false
def kdne:Kd->Kd->Bool
 | .fill i,.fill j=>!(i==j)
 |_,_=>false
def compatG(a b:Nat)(x y:Kd):Bool:=
 a==0||(b==0&&!(a==4&&isNorm x))||(a==1&&b==1)||(a==1&&isCallK y)||(a==1&&isFill y&&b==2)||(isCallK x&&isFill y&&b==2)||(kdne x y&&a==2&&b==2)
def indepG(P:Program)(ops:Array Oper)(x y:GOp):Bool:=x.1.apart ops y.1&&compatG (cls P x.1.op) (cls P y.1.op) x.2 y.2
def kdOf:List (Nat×Kd)->Nat->Kd
 | [],_=>.norm
 |(j,k)::xs,i=>match Nat.beq j i with
  |true=>k
  |false=>kdOf xs i
section
variable {P:Program}{ops:Array Oper}{n0 m:Nat}{t:Tm}{h:Heap}{md:Bool}
theorem AOpG.mono{o:GOp}{K K':Bool->Tm->Heap->Prop}(hK: ∀md t h,K md t h->K' md t h)(ho:AOpG P ops n0 m o K md t h):AOpG P ops n0 m o K' md t h:=by
 unfold AOpG at ho ⊢;refine⟨ho.1,?_⟩
 replace ho:=ho.2
 split
 ·rename_i hw;rw[if_pos hw]at ho;rcases ho with⟨v,h1,h2⟩|⟨v,h1,h2⟩|⟨hk,hm,v,news,hl,h1,h4⟩|⟨hm,j,F,A,hk,hj,hh,hn,h4⟩|⟨hk,⟨v,h',h1,h2⟩|⟨f,args,R,h1,h2,h3⟩⟩
  ·exact .inl ⟨v,h1,hK _ _ _ h2⟩
  ·exact .inr (.inl ⟨v,h1,hK _ _ _ h2⟩)
  ·exact .inr (.inr (.inl ⟨hk,hm,v,news,hl,h1,hK _ _ _ h4⟩))
  ·exact .inr (.inr (.inr (.inl ⟨hm,j,F,A,hk,hj,hh,hn,hK _ _ _ h4⟩)))
  ·exact .inr (.inr (.inr (.inr ⟨hk,.inl ⟨v,h',h1,hK _ _ _ h2⟩⟩)))
  ·exact .inr (.inr (.inr (.inr ⟨hk,.inr ⟨f,args,R,h1,h2,fun v h' hr=>hK _ _ _ (h3 v h' hr)⟩⟩)))
 ·rename_i hw;rw[if_neg hw]at ho;exact hK _ _ _ ho
theorem only_fill{o:Oper}{F:NewF}{A:AObj}(hn:New P o t F A):cls P o.op≠0/\cls P o.op≠1:=by
 have:=hn.1 [];refine⟨fun h0=>?_,fun h0=>?_⟩
 ·rw[(only_pure (P:=P) (t:=t) (h:=[]) h0).2.1]at this;cases this
 ·rw[(only_read (P:=P) (t:=t) (h:=[]) h0).1]at this;cases this
theorem AOpG.swap{x y:GOp}(hi:indepG P ops x y=true){K:Bool->Tm->Heap->Prop}(ho:AOpG P ops n0 m x (AOpG P ops n0 m y K) md t h):AOpG P ops n0 m y (AOpG P ops n0 m x K) md t h:=by
 obtain⟨x,kx⟩:=x;obtain⟨y,ky⟩:=y;simp only[indepG,Bool.and_eq_true]at hi;obtain⟨hap,hcm⟩:=hi;simp only[compatG,Bool.or_eq_true,Bool.and_eq_true,beq_iff_eq,Bool.not_eq_true',Bool.and_eq_false_iff]at hcm;obtain⟨a1,a2,a3⟩:=Oper.apart_spec hap;have ax: ∀{v:Value},agree (aput t y.dst v) t x.op.operands.toList:=agree_put a3;have ax': ∀{v:Value},agree t (aput t y.dst v) x.op.operands.toList:=fun i hi=>(ax i hi).symm;have ay: ∀{v:Value},agree (aput t x.dst v) t y.op.operands.toList:=agree_put a1;have cm: ∀(v u:Value),aput (aput t x.dst v) y.dst u=aput (aput t y.dst u) x.dst v:=fun v u=>aput_comm v u a2;unfold AOpG at ho ⊢;dsimp only at ho ⊢;simp only[wanted_put a1,gok_put a1]at ho;simp only[wanted_put a3,gok_put a3];obtain⟨gx,ho⟩:=ho;have hcom:nxm P (nxm P md (x,kx)) (y,ky)=nxm P (nxm P md (y,ky)) (x,kx):=by
  unfold nxm;cases kx<;>cases ky<;>simp[Bool.and_assoc,Bool.and_comm,Bool.and_left_comm]
 have hAm:cls P y.op≠0->nxm P md (x,kx)=md:=by
  intro hy0;unfold nxm;cases kx with
  |norm=>
   have:cls P x.op<=1:=by
    simp[isCallK,kdne]at hcm;omega
   simp[Nat.ble_eq_true_of_le this]
  |_=>rfl
 have hBm:cls P x.op≠0->nxm P md (y,ky)=md:=by
  intro hx0;unfold nxm;cases ky with
  |norm=>
   have:cls P y.op<=1:=by
    cases kx<;>simp[isCallK,isFill,kdne]at hcm<;>omega
   simp[Nat.ble_eq_true_of_le this]
  |_=>rfl
 have gy:gok ops y t=true:=by
  split at ho
  ·rcases ho with⟨v,h1,h2⟩|⟨v,h1,h2⟩|⟨hk,hm,v,news,hl,h1,h4⟩|⟨hm,j,F,A,hk,hj,hh,hn,h4⟩|⟨hk,⟨v,h',h1,h2⟩|⟨f,args,R,h1,h2,h3⟩⟩
   ·exact h2.1
   ·exact h2.1
   ·exact h4.1
   ·exact h4.1
   ·exact h2.1
   ·have hx4:=call4 h1;have hk:kx= .norm:=hk;subst hk;simp[hx4,isNorm,isCallK,kdne]at hcm
  ·exact ho.1
 simp only[gx,gy,true_and,hcom]at ho ⊢
 by_cases hy:Region.wanted y (ayielded ops t)
 rotate_left
 ·rw[if_neg hy];simp only[if_neg hy,cm]at ho
  split
  ·rename_i hw;rw[if_pos hw]at ho;rcases ho with⟨v,h1,h2⟩|⟨v,h1,h2⟩|⟨hk,hm,v,news,hl,h1,h4⟩|⟨hm,j,F,A,hk,hj,hh,hn,h4⟩|⟨hk,⟨v,h',h1,h2⟩|⟨f,args,R,h1,h2,h3⟩⟩
   ·exact .inl ⟨v,by rw[apure_congr ax];exact h1,h2⟩
   ·exact .inr (.inl ⟨v,by rw[hBm (read0 h1).1,aread_congr ax];exact h1,h2⟩)
   ·exact .inr (.inr (.inl ⟨hk,by rw[hBm h1.cls.1];exact hm,v,news,hl,h1.congr ax',h4⟩))
   ·exact .inr (.inr (.inr (.inl ⟨by rw[hBm (only_fill hn).1];exact hm,j,F,A,hk,hj,hh,hn.congr ax',h4⟩)))
   ·exact .inr (.inr (.inr (.inr ⟨hk,.inl ⟨v,h',by rw[aeff_congr ax];exact h1,h2⟩⟩)))
   ·exact .inr (.inr (.inr (.inr ⟨hk,.inr ⟨f,args,R,by rw[acallee_congr ax];exact h1,h2,h3⟩⟩)))
  ·rename_i hw;rw[if_neg hw]at ho;exact ho
 rw[if_pos hy];simp only[if_pos hy]at ho
 by_cases hx:Region.wanted x (ayielded ops t)
 rotate_left
 ·simp only[if_neg hx]at ho ⊢;rcases ho with⟨v,h1,h2⟩|⟨v,h1,h2⟩|⟨hk,hm,v,news,hl,h1,h4⟩|⟨hm,j,F,A,hk,hj,hh,hn,h4⟩|⟨hk,⟨v,h',h1,h2⟩|⟨f,args,R,h1,h2,h3⟩⟩
  ·exact .inl ⟨v,by rw[<-apure_congr ay];exact h1,by rw[<-cm];exact h2⟩
  ·exact .inr (.inl ⟨v,by rw[<-aread_congr ay, <-hAm (read0 h1).1];exact h1,by rw[<-cm];exact h2⟩)
  ·exact .inr (.inr (.inl ⟨hk,by rw[hAm h1.cls.1]at hm;exact hm,v,news,hl,h1.congr ay,by rw[<-cm];exact h4⟩))
  ·exact .inr (.inr (.inr (.inl ⟨by rw[hAm (only_fill hn).1]at hm;exact hm,j,F,A,hk,hj,hh,hn.congr ay,by rw[<-cm];exact h4⟩)))
  ·exact .inr (.inr (.inr (.inr ⟨hk,.inl ⟨v,h',by rw[<-aeff_congr ay];exact h1,by rw[<-cm];exact h2⟩⟩)))
  ·exact .inr (.inr (.inr (.inr ⟨hk,.inr ⟨f,args,R,by rw[<-acallee_congr ay];exact h1,h2,fun v h' hr=>by rw[<-cm];exact h3 v h' hr⟩⟩)))
 simp only[if_pos hx]at ho ⊢;rcases ho with⟨v,h1,h2⟩|⟨v,h1,h2⟩|⟨hkx,rfl,v,newsx,hlx,h1,h2⟩|⟨rfl,jx,Fx,Ax,hkx,hjx,hhx,hnx,h2⟩|⟨hkx,⟨v,h',h1,h2⟩|⟨fx,argsx,Rx,h1,hx2,h2⟩⟩
 ·
  rcases h2 with⟨u,h3,h4⟩|⟨u,h3,h4⟩|⟨hk,hm,u,news,hl,h3,h4⟩|⟨hm,j,F,A,hk,hj,hh,hn,h4⟩|⟨hk,⟨u,h',h3,h4⟩|⟨f,args,R,h3,g2,h4⟩⟩
  ·exact .inl ⟨u,by rw[<-apure_congr ay];exact h3,.inl ⟨v,by rw[apure_congr ax];exact h1,by rw[<-cm];exact h4⟩⟩
  ·rw[hAm (read0 h3).1]at h3;exact .inr (.inl ⟨u,by rw[<-aread_congr ay];exact h3,.inl ⟨v,by rw[apure_congr ax];exact h1,by rw[<-cm];exact h4⟩⟩)
  ·rw[hAm h3.cls.1]at hm;exact .inr (.inr (.inl ⟨hk,hm,u,news,hl,h3.congr ay,.inl ⟨v,by rw[apure_congr ax];exact h1,by rw[<-cm];exact h4⟩⟩))
  ·rw[hAm (only_fill hn).1]at hm;exact .inr (.inr (.inr (.inl ⟨hm,j,F,A,hk,hj,hh,hn.congr ay,.inl ⟨v,by rw[apure_congr ax];exact h1,by rw[<-cm];exact h4⟩⟩)))
  ·exact .inr (.inr (.inr (.inr ⟨hk,.inl ⟨u,h',by rw[<-aeff_congr ay];exact h3,.inl ⟨v,by rw[apure_congr ax];exact h1,by rw[<-cm];exact h4⟩⟩⟩)))
  ·exact .inr (.inr (.inr (.inr ⟨hk,.inr ⟨f,args,R,by rw[<-acallee_congr ay];exact h3,g2,fun u h' hr=>.inl ⟨v,by rw[apure_congr ax];exact h1,by rw[<-cm];exact h4 u h' hr⟩⟩⟩)))
 ·
  obtain⟨hx0,hx2⟩:=read0 h1;have hB:=hBm hx0;rcases h2 with⟨u,h3,h4⟩|⟨u,h3,h4⟩|⟨hk,hm,u,news,hl,h3,h4⟩|⟨hm,j,F,A,hk,hj,hh,hn,h4⟩|⟨hk,⟨u,h',h3,h4⟩|⟨f,args,R,h3,g2,h4⟩⟩
  ·exact .inl ⟨u,by rw[<-apure_congr ay];exact h3,.inr (.inl ⟨v,by rw[hB,aread_congr ax];exact h1,by rw[<-cm];exact h4⟩)⟩
  ·rw[hAm (read0 h3).1]at h3;exact .inr (.inl ⟨u,by rw[<-aread_congr ay];exact h3,.inr (.inl ⟨v,by rw[hB,aread_congr ax];exact h1,by rw[<-cm];exact h4⟩)⟩)
  ·rw[hAm h3.cls.1]at hm;rw[if_pos hm]at h1;refine .inr (.inr (.inl ⟨hk,hm,u,news,hl,h3.congr ay,.inr (.inl ⟨v,?_,by rw[<-cm];exact h4⟩)⟩));rw[hB,if_pos hm,hide_app hl,aread_congr ax];exact aread_more h1 fun b o' ho' _=>by rw[List.getElem?_append_left (List.getElem?_eq_some_iff.1 ho').1];exact ho'
  ·rw[hAm (only_fill hn).1]at hm;rw[if_pos hm]at h1;refine .inr (.inr (.inr (.inl ⟨hm,j,F,A,hk,hj,hh,hn.congr ay,.inr (.inl ⟨v,?_,by rw[<-cm];exact h4⟩)⟩)));rw[hB,if_pos hm,hide_set (by unfold inR2;simp;omega),aread_congr ax];exact h1
  ·exfalso;rw[aeff_congr ay]at h3;have:=eff0 h3;have hk:ky= .norm:=hk;subst hk;simp[isCallK,isFill,isNorm,kdne,hx0,this.1,this.2]at hcm
  ·exfalso;rw[acallee_congr ay]at h3;have:=call4 h3;have hk:ky= .norm:=hk;subst hk;simp[isCallK,isFill,isNorm,kdne,hx0,this]at hcm
 ·
  have hx4:=h1.cls;have hkx:kx= .call:=hkx;subst hkx;have hB:=hBm hx4.1;simp[isCallK,isFill,isNorm,kdne,hx4.1,hx4.2]at hcm;rcases h2 with⟨u,h3,h4⟩|⟨u,h3,h4⟩|⟨hk,hm,u,news,hl,h3,h4⟩|⟨hm,j,F,A,hk,hj,hh,hn,h4⟩|⟨hk,⟨u,h',h3,h4⟩|⟨f,args,R,h3,g2,h4⟩⟩
  ·exact .inl ⟨u,by rw[<-apure_congr ay];exact h3,.inr (.inr (.inl ⟨rfl,by rw[hB],v,newsx,hlx,h1.congr ax',by rw[<-cm];exact h4⟩))⟩
  ·exfalso;rw[aread_congr ay]at h3;have:=read0 h3;omega
  ·exfalso;have hq:=h3.cls;have hk:ky= .call:=hk;subst hk;simp[isFill]at hcm;exact hq.1 hcm
  ·rw[hAm (only_fill hn).1]at hm;rw[List.getElem?_append_left (by omega)]at hh;have hin:inR2 n0 m (n0+j)=true:=by unfold inR2;simp;omega
   refine .inr (.inr (.inr (.inl ⟨rfl,j,F,A,hk,hj,hh,hn.congr ay,.inr (.inr (.inl ⟨rfl,by rw[hB],v,newsx,by rw[List.length_set];exact hlx,by rw[hide_set hin];exact h1.congr ax',?_⟩))⟩)));rw[<-cm, <-List.set_append_left _ _ (by omega)];exact h4
  ·exfalso;rw[aeff_congr ay]at h3;have:=eff0 h3;have hk:ky= .norm:=hk;subst hk;simp[isFill]at hcm;omega
  ·exfalso;rw[acallee_congr ay]at h3;have:=call4 h3;omega
 ·
  have hxx:=only_fill hnx;have hkx:kx= .fill jx:=hkx;subst hkx;have hB:=hBm hxx.1;simp[isCallK,isNorm,hxx.1,hxx.2]at hcm;rcases h2 with⟨u,h3,h4⟩|⟨u,h3,h4⟩|⟨hk,hm,u,news,hl,h3,h4⟩|⟨hm,j,F,A,hk,hj,hh,hn,h4⟩|⟨hk,⟨u,h',h3,h4⟩|⟨f,args,R,h3,g2,h4⟩⟩
  ·exact .inl ⟨u,by rw[<-apure_congr ay];exact h3,.inr (.inr (.inr (.inl ⟨by rw[hB],jx,Fx,Ax,rfl,hjx,hhx,hnx.congr ax',by rw[<-cm];exact h4⟩)))⟩
  ·exfalso;rw[aread_congr ay]at h3;have:=read0 h3;omega
  ·exfalso;have:=h3.cls;have hk:ky= .call:=hk;subst hk;simp[kdne]at hcm;omega
  ·rw[hAm (only_fill hn).1]at hm;have hk:ky= .fill j:=hk;subst hk;have hne:jx≠j:=by
    rcases hcm with hcm|hcm
    ·have h3:=hn.1 [];rw[aeff_congr ay,(only_pure (P:=P) (t:=t) (h:=[]) hcm).2.1]at h3;cases h3
    ·simpa[kdne]using hcm.1.1
   rw[List.getElem?_set_ne (by omega)]at hh;refine .inr (.inr (.inr (.inl ⟨rfl,j,F,A,rfl,hj,hh,hn.congr ay,.inr (.inr (.inr (.inl ⟨by rw[hB],jx,Fx,Ax,rfl,hjx,by rw[List.getElem?_set_ne (by omega)];exact hhx,hnx.congr ax',?_⟩)))⟩)));rw[<-cm,List.set_comm _ _ (by omega)];exact h4
  ·exfalso;rw[aeff_congr ay]at h3;have:=eff0 h3;have hk:ky= .norm:=hk;subst hk;simp[kdne]at hcm;omega
  ·exfalso;rw[acallee_congr ay]at h3;have:=call4 h3;omega
 ·
  have hx0:=eff0 h1;have hkx:kx= .norm:=hkx;subst hkx;have hy0:cls P y.op=0:=by
   simp[isCallK,isNorm,isFill,kdne,hx0.1,hx0.2]at hcm;exact hcm.1
  rcases h2 with⟨u,h3,h4⟩|⟨u,h3,h4⟩|⟨hk,hm,u,news,hl,h3,h4⟩|⟨hm,j,F,A,hk,hj,hh,hn,h4⟩|⟨hk,⟨u,h',h3,h4⟩|⟨f,args,R,h3,g2,h4⟩⟩
  ·exact .inl ⟨u,by rw[<-apure_congr ay];exact h3,.inr (.inr (.inr (.inr ⟨rfl,.inl ⟨v,h',by rw[aeff_congr ax];exact h1,by rw[<-cm];exact h4⟩⟩)))⟩
  ·rw[(only_pure (P:=P) hy0).1]at h3;cases h3
  ·exact absurd hy0 h3.cls.1
  ·exact absurd hy0 (only_fill hn).1
  ·rw[(only_pure (P:=P) hy0).2.1]at h3;cases h3
  ·rw[(only_pure (P:=P) (h:=h) hy0).2.2]at h3;cases h3
 ·
  have hx4:=call4 h1;have hkx:kx= .norm:=hkx;subst hkx;simp[hx4,isNorm,isCallK,kdne]at hcm
end
def gopr(ops:Array Oper)(fl:List (Nat×Kd))(i:Nat):Option GOp:=
 match ops[i]? with
 |some o=>some (o,kdOf fl i)
 |none=>none
def gopsr(ops:Array Oper)(fl:List (Nat×Kd))(l:List Nat):List GOp:=l.filterMap (gopr ops fl)
def pairOkG(P:Program)(ops:Array Oper)(fl:List (Nat×Kd))(M:List Nat)(p q:Nat):Bool:=
 (M.getD q 0).testBit p||(match gopr ops fl p,gopr ops fl q with
  |some x,some y=>indepG P ops x y
  |_,_=>false)
def pairsOkG(P:Program)(ops:Array Oper)(fl:List (Nat×Kd))(M:List Nat):List Nat->Bool
 | []=>true
 |p::rest=>rest.all (pairOkG P ops fl M p)&&pairsOkG P ops fl M rest
def chkG(P:Program)(ops:Array Oper)(fl:List (Nat×Kd))(ord:List Nat):Bool:=
 decide (ord.length<=ops.size)&&ord.all (· <ops.size)&&nodupB ord&&(List.range ops.size).all (ord.contains ·)&&
 (ops.toList.zipIdx.all fun(o,i)=>o.after.toList.all fun e=>!Region.binds .any e||decide (e.on<i))&&
 pairsOkG P ops fl (masksGo [] ops.toList) ord
section
variable {P:Program}{ops:Array Oper}{n0 mm:Nat}{K:Bool->Tm->Heap->Prop}
theorem pairsOkG_ok{fl:List (Nat×Kd)}{M l:List Nat}(h:pairsOkG P ops fl M l=true):l.Pairwise fun p q=>pairOkG P ops fl M p q=true:=by
 induction l with
 |nil=>exact .nil
 |cons p l ih=>
  simp only[pairsOkG,Bool.and_eq_true,List.all_eq_true]at h;exact .cons h.1 (ih h.2)
theorem bubbleG{x:GOp}: ∀(l1 l2:List GOp),(∀p∈l1,indepG P ops p x=true)-> ∀{md:Bool}{t:Tm}{h:Heap},AOpsG P ops n0 mm K (l1++x::l2) md t h->AOpsG P ops n0 mm K (x::(l1++l2)) md t h:=by
 intro l1
 induction l1 with
 |nil=>intro l2 _ md t h hk;exact hk
 |cons p l1 ih=>
  intro l2 hp md t h hk;have h1:AOpG P ops n0 mm p (AOpsG P ops n0 mm K (x::(l1++l2))) md t h:=AOpG.mono (fun md t h=>ih l2 fun q hq=>hp q (by simp[hq])) hk;exact AOpG.swap (hp p (by simp)) h1
theorem ordersG{fl:List (Nat×Kd)}{ord:List Nat}(hchk:chkG P ops fl ord=true): ∀(fuel tt:Nat)(listed:Array Bool)(C:List Nat),listed.size=ops.size->(∀i,i<ops.size->(listed.getD i false=false↔i∈C))->
  C.Sublist ord->(∀(j:Nat)(o:Oper),listed.getD j false=true->ops[j]?=some o-> ∀e∈o.after.toList,Region.binds .any e=true->listed.getD e.on false=true)->C.length<=fuel->
  ∀{md:Bool}{t:Tm}{h:Heap},AOpsG P ops n0 mm K (gopsr ops fl C) md t h->AOpsG P ops n0 mm K (gopsr ops fl (Region.linearise.go .any ops fuel tt listed [])) md t h:=by
 simp only[chkG,Bool.and_eq_true,List.all_eq_true,decide_eq_true_eq]at hchk;obtain⟨⟨⟨⟨⟨hle,hlt⟩,hnd⟩,hall⟩,hedge⟩,hpairs⟩:=hchk;have hnd:=nodupB_ok hnd;have hpw:=pairsOkG_ok hpairs;have hmask:=masks_ok ops ops.toList [] [] (by simp) rfl (by simp);have hedge': ∀(i:Nat)(o:Oper),ops[i]?=some o-> ∀e∈o.after.toList,Region.binds .any e=true->e.on<i:=by
  intro i o ho e he hb;have h1:=hedge (o,i) (by rw[List.mem_zipIdx_iff_getElem?];rw[Array.getElem?_toList];exact ho);have h2:=h1 e he;simpa[hb]using h2
 intro fuel
 induction fuel with
 |zero=>
  intro tt listed C _ _ _ _ hlen md t h hk;have:C=[]:=List.eq_nil_of_length_eq_zero (by omega);subst this;exact hk
 |succ fuel ih=>
  intro tt listed C hsz hC hsub hcl hlen md t h hk;simp only[Region.linearise.go]
  split
  ·rename_i i hi;have himem:=List.mem_of_getElem? hi;simp only[List.mem_filter,List.mem_range,Bool.and_eq_true,Bool.not_eq_true']at himem;obtain⟨hin,hnl0,haft⟩:=himem;have hnl:listed.getD i false=false:=by
    have hil:i<listed.size:=by omega
    simpa[Array.getD_eq_getD_getElem?,hil]using hnl0
   have hiC:i∈C:=(hC i hin).1 hnl;obtain⟨o,ho⟩: ∃o,ops[i]?=some o:=⟨ops[i],by simp[hin]⟩;have hdir: ∀(o:Oper),ops[i]?=some o-> ∀e∈o.after.toList,Region.binds .any e=true->listed.getD e.on false=true:=by
    intro o' ho' e he hb;rw[ho']at haft;simp only[Option.map_some,Option.getD_some,Array.all_eq_true_iff_forall_mem]at haft;have:=haft e (by simpa using he);simpa[hb]using this
   obtain⟨C1,C2,rfl⟩:=List.append_of_mem hiC;have hCnd:(C1++i::C2).Nodup:=hsub.nodup hnd;have hCpw:=List.Pairwise.sublist hsub hpw;have hind: ∀p∈gopsr ops fl C1,indepG P ops p (o,kdOf fl i)=true:=by
    intro p hp;obtain⟨k,hk1,hk2⟩:=List.mem_filterMap.1 hp;have hki:pairOkG P ops fl (masksGo [] ops.toList) k i=true:=(List.pairwise_append.1 hCpw).2.2 k hk1 i (by simp);simp only[pairOkG,Bool.or_eq_true]at hki;rcases hki with hki|hki
    ·exfalso;rw[List.getD_eq_getElem?_getD]at hki;cases hq:(masksGo [] ops.toList)[i]? with
     |none=>rw[hq]at hki;simp at hki
     |some m=>
      rw[hq]at hki;have htr:=hmask i m hq k hki;have hkl:=Tr_listed (listed:=fun j=>listed.getD j false=true) hcl htr hdir;have hklt:k<ops.size:=by
       have:=hlt k (hsub.subset (by simp[hk1]));simpa using this
      have:=(hC k hklt).2 (by simp[hk1]);rw[this]at hkl;cases hkl
    ·have hfi:gopr ops fl i=some (o,kdOf fl i):=by simp[gopr,ho]
     rw[hk2,hfi]at hki;exact hki
   have hb:AOpsG P ops n0 mm K ((o,kdOf fl i)::(gopsr ops fl C1++gopsr ops fl C2)) md t h:=by
    refine bubbleG _ _ hind ?_;have:gopsr ops fl (C1++i::C2)=gopsr ops fl C1++(o,kdOf fl i)::gopsr ops fl C2:=by
     simp[gopsr,List.filterMap_append,List.filterMap_cons,gopr,ho]
    rw[<-this];exact hk
   rw[linearise_go_acc];have hgo:gopsr ops fl ([i].reverse++Region.linearise.go .any ops fuel (tt / (List.filter (fun i=>!listed.getD i true&&(Option.map (fun x=>x.after.all fun e=>!Region.binds Region.Mode.any e||listed.getD e.on false) ops[i]?).getD false) (List.range ops.size)).length) (listed.setIfInBounds i true) [])=
     (o,kdOf fl i)::gopsr ops fl (Region.linearise.go .any ops fuel (tt / (List.filter (fun i=>!listed.getD i true&&(Option.map (fun x=>x.after.all fun e=>!Region.binds Region.Mode.any e||listed.getD e.on false) ops[i]?).getD false) (List.range ops.size)).length) (listed.setIfInBounds i true) []):=by
    simp[gopsr,List.filterMap_cons,gopr,ho]
   rw[hgo];refine AOpG.mono (fun md t h hk2=>?_) hb;have hgetset: ∀j,(listed.setIfInBounds i true).getD j false=if i=j then true else listed.getD j false:=by
    intro j;simp only[Array.getD_eq_getD_getElem?,Array.getElem?_setIfInBounds]
    split
    ·subst_vars;rw[if_pos (by omega)];rfl
    ·rfl
   refine ih _ _ (C1++C2) (by simpa using hsz) ?_ ?_ ?_ (by simp at hlen ⊢;omega) (by simpa[gopsr,List.filterMap_append]using hk2)
   ·intro j hj;rw[hgetset];have hij:i∉C1++C2:=by
     obtain⟨_,h2,h3⟩:=List.nodup_append.1 hCnd;intro hm;rcases List.mem_append.1 hm with hm|hm
     ·exact h3 i hm i (by simp) rfl
     ·exact(List.nodup_cons.1 h2).1 hm
    split
    ·subst_vars;simpa using hij
    ·rename_i hne;rw[hC j hj];simp only[List.mem_append,List.mem_cons];constructor
     ·rintro(h|h|h)
      ·exact .inl h
      ·exact absurd h.symm hne
      ·exact .inr h
     ·rintro(h|h)
      ·exact .inl h
      ·exact .inr (.inr h)
   ·exact List.Sublist.trans (List.Sublist.append (List.Sublist.refl C1) (List.sublist_cons_self i C2)) hsub
   ·intro j o' hj ho' e he hb';rw[hgetset]at hj ⊢
    split
    ·rfl
    ·split at hj
     ·subst_vars;exact hdir o' ho' e he hb'
     ·exact hcl j o' hj ho' e he hb'
  ·rename_i hnone;have hempty:C=[]:=by
    cases C with
    |nil=>rfl
    |cons c C=>
     exfalso;obtain⟨m,hm1,hm2⟩:=least_ex (p:=fun k=>k∈c::C) c (by simp);have hmlt:m<ops.size:=by
      have:=hlt m (hsub.subset hm1);simpa using this
     have hready:m∈(List.range ops.size).filter fun i=>!listed.getD i true&&((ops[i]?).map (·.after.all fun e=>!Region.binds .any e||listed.getD e.on false)).getD false:=by
      simp only[List.mem_filter,List.mem_range,Bool.and_eq_true,Bool.not_eq_true'];refine⟨hmlt,?_,?_⟩
      ·have h0:=(hC m hmlt).2 hm1;have hml:m<listed.size:=by omega
       simpa[Array.getD_eq_getD_getElem?,hml]using h0
      obtain⟨o,ho⟩: ∃o,ops[m]?=some o:=⟨ops[m],by simp[hmlt]⟩;rw[ho];simp only[Option.map_some,Option.getD_some,Array.all_eq_true_iff_forall_mem];intro e he
      by_cases hb:Region.binds .any e=true
      ·have hlt':=hedge' m o ho e (by simpa using he) hb;have hnC:=hm2 e.on hlt';cases hq:listed.getD e.on false with
       |true=>simp
       |false=>exact absurd ((hC e.on (by omega)).1 hq) hnC
      ·simp[hb]
     have hlen2:=List.length_pos_of_mem hready;rw[List.getElem?_eq_none_iff]at hnone;have:=Nat.mod_lt tt hlen2;omega
   subst hempty;exact hk
theorem gopsr_fst(fl:List (Nat×Kd))(l:List Nat):(gopsr ops fl l).map (·.1)=l.filterMap fun i=>ops[i]?:=by
 induction l with
 |nil=>rfl
 |cons i l ih=>
  simp only[gopsr,List.filterMap_cons,gopr]at ih ⊢;cases hi:ops[i]? with
  |none=>exact ih
  |some o=>simp[ih]
theorem AWp.drawnG{P:Program}{ops:Array Oper}{Q:Exit->Tm->Heap->Prop}{t:Tm}{h:Heap}{id:Nat}(fl:List (Nat×Kd))(ord:List Nat)(mm:Nat)(hm:P.follows .mixedOrders=true)(hchk:chkG P ops fl ord=true)
  (hl:AOpsG P ops h.length mm (fun _=>Q .normal) (gopsr ops fl ord) true t (h++List.replicate mm .hole)):AWp P (.region id ops true) Q t h:=by
 intro B w0 ρ ts w hr ht;refine wp_mono (Q:=fun e a w=>e= .normal/\Sim B w0 ρ (Q .normal) a w) (wp_region_draw fun tt=>?_) (by rintro e a w ⟨rfl,hs⟩;exact hs);simp only[Region.schedule,hm,Bool.true_or,if_true];rw[wpOps_filter, <-gopsr_fst fl];have hchk':=hchk;simp only[chkG,Bool.and_eq_true,List.all_eq_true,decide_eq_true_eq]at hchk';obtain⟨⟨⟨⟨⟨hle,hlt⟩,hnd⟩,hall⟩,hedge⟩,hpairs⟩:=hchk';have hord:AOpsG P ops h.length mm (fun _=>Q .normal) (gopsr ops fl (Region.linearise .any ops tt)) true t (h++List.replicate mm .hole):=by
  unfold Region.linearise;refine ordersG hchk ops.size tt _ ord (by simp) (fun i hi=>?_) (List.Sublist.refl _) (fun j o hj=>?_) hle hl
  ·have:=hall i (by simpa using hi);simp[Array.getD_eq_getD_getElem?,Array.getElem?_replicate,hi];simpa using this
  ·simp only[Array.getD_eq_getD_getElem?,Array.getElem?_replicate]at hj
   split at hj<;>simp at hj
 have hr':Rel B w0 ρ h {w with drawn:=w.drawn+1}:=hr.draw (n:=w.drawn+1);have hs:StG B w0 h.length mm true ρ (h++List.replicate mm .hole) {w with drawn:=w.drawn+1}:=
  ⟨hr'.keep mm,fun _=>⟨ρ,by rw[hide_keep];exact hr'.keep mm,ρ.le_refl,fun _ _=>rfl,by simp⟩⟩
 have hK:(fun t h=> ∃_:Bool,Q .normal t h)=Q .normal:=by
  funext t h;exact propext ⟨fun⟨_,hq⟩=>hq,fun hq=>⟨true,hq⟩⟩
 have:=AOpsG.sound ops _ hord ρ.le_refl hs ht;rw[hK]at this;exact this
end
inductive PObj where
 |base (o:AObj)
 |cat (p:PObj) (k:Nat) (new:List Value) (sz:Nat)
def lenL:List Value->Nat
 | []=>0
 |_::xs=>.succ (lenL xs)
theorem lenL_eq(l:List Value):lenL l=l.length:=by
 induction l with
 |nil=>rfl
 |cons x xs ih=>simp[lenL,ih]
def baseC:AObj->List Value
 | .row _ _ cs=>cs
 |_=>[]
def PObj.cells:PObj->List Value
 | .base o=>baseC o
 | .cat p k new _=>p.cells.take k++new
def PObj.len:PObj->Nat
 | .base o=>lenL (baseC o)
 | .cat p k new _=>match Nat.ble k p.len with
  |true=>Nat.add k (lenL new)
  |false=>Nat.add p.len (lenL new)
theorem PObj.len_eq: ∀p:PObj,p.len=p.cells.length
 | .base o=>lenL_eq _
 | .cat p k new _=>by
  simp only[PObj.len,PObj.cells,List.length_append,List.length_take,lenL_eq,p.len_eq];cases h:Nat.ble k p.cells.length with
  |true=>have:=Nat.le_of_ble_eq_true h;show k+new.length=_;omega
  |false=>
   have: ¬ k<=p.cells.length:=fun c=>by rw[Nat.ble_eq_true_of_le c]at h;cases h
   show p.cells.length+new.length=_;omega
def appL:List Value->List Value->List Value
 | [],l=>l
 |x::xs,l=>x::appL xs l
theorem appL_eq(a l:List Value):appL a l=a++l:=by
 induction a with
 |nil=>rfl
 |cons x xs ih=>simp[appL,ih]
def tkL:Nat->List Value->List Value
 |0,_=>[]
 | .succ _,[]=>[]
 | .succ n,x::xs=>x::tkL n xs
theorem tkL_eq: ∀(n:Nat)(l:List Value),tkL n l=l.take n
 |0,_=>by simp[tkL]
 | .succ _,[]=>by simp[tkL]
 | .succ n,x::xs=>by simp[tkL,tkL_eq n xs]
def PObj.flat:PObj->List Value->List Value
 | .base o,acc=>appL (baseC o) acc
 | .cat p k new _,acc=>match Nat.beq k p.len with
  |true=>p.flat (appL new acc)
  |false=>appL (tkL k (p.flat [])) (appL new acc)
theorem PObj.flat_eq: ∀(p:PObj)(acc:List Value),p.flat acc=p.cells++acc
 | .base o,acc=>appL_eq _ _
 | .cat p k new _,acc=>by
  simp only[PObj.flat,PObj.cells,p.flat_eq,appL_eq,tkL_eq,List.append_nil];cases h:Nat.beq k p.len with
  |true=>
   have:=Nat.eq_of_beq_eq_true h;rw[p.len_eq]at this;rw[this,List.take_length,List.append_assoc]
  |false=>dsimp only;rw[List.append_assoc]
def PObj.toA:PObj->AObj
 | .base o=>o
 | .cat p k new sz=>.row .opn sz ((PObj.cat p k new sz).flat [])
theorem PObj.toA_cat(p:PObj)(k:Nat)(new:List Value)(sz:Nat):(PObj.cat p k new sz).toA= .row .opn sz (p.cells.take k++new):=by
 simp only[PObj.toA,PObj.flat_eq,PObj.cells,List.append_nil]
theorem PObj.toA_cells{p:PObj}{m:Mode}{e:Nat}{cs:List Value}(h:p.toA= .row m e cs):p.cells=cs:=by
 cases p with
 |base o=>simp only[PObj.toA]at h;subst h;rfl
 |cat p k new sz=>rw[PObj.toA_cat]at h;cases h;rfl
def optA(o:Option PObj):Option AObj:=match o with
 |some p=>some p.toA
 |none=>none
inductive Br where
 |leaf
 |node (o:PObj) (l r:Br)
noncomputable def Br.get1(b:Br):Nat->Option PObj:=
 Br.rec (motive:=fun _=>Nat->Option PObj) (fun _=>none)
  (fun o _ _ gl gr j=>Bool.rec (motive:=fun _=>Option PObj) (Bool.rec (motive:=fun _=>Option PObj) (gr (Nat.div j 2)) (gl (Nat.div j 2)) (Nat.beq (Nat.mod j 2) 0)) (some o) (Nat.beq j 1)) b
noncomputable def Br.upd1(b:Br):Nat->PObj->Option Br:=
 Br.rec (motive:=fun _=>Nat->PObj->Option Br)
  (fun j o=>Bool.rec (motive:=fun _=>Option Br) none (some (.node o .leaf .leaf)) (Nat.beq j 1))
  (fun x l r ul ur j o=>Bool.rec (motive:=fun _=>Option Br)
   (Bool.rec (motive:=fun _=>Option Br)
    (Option.rec (motive:=fun _=>Option Br) none (fun r'=>some (.node x l r')) (ur (Nat.div j 2) o))
    (Option.rec (motive:=fun _=>Option Br) none (fun l'=>some (.node x l' r)) (ul (Nat.div j 2) o)) (Nat.beq (Nat.mod j 2) 0))
   (some (.node o l r)) (Nat.beq j 1)) b
noncomputable def Br.getP(b:Br)(i:Nat):Option PObj:=b.get1 (.succ i)
noncomputable def Br.get(b:Br)(i:Nat):Option AObj:=optA (b.getP i)
noncomputable def Br.updP(b:Br)(i:Nat)(o:PObj):Option Br:=b.upd1 (.succ i) o
noncomputable def Br.upd(b:Br)(i:Nat)(o:AObj):Option Br:=b.updP i (.base o)
theorem Br.get1_node(o:PObj)(l r:Br)(j:Nat):(Br.node o l r).get1 j=if j=1 then some o else if j % 2=0 then l.get1 (j / 2)else r.get1 (j / 2):=by
 show Bool.rec (motive:=fun _=>Option PObj) (Bool.rec (motive:=fun _=>Option PObj) (r.get1 (j / 2)) (l.get1 (j / 2)) (Nat.beq (j % 2) 0)) (some o) (Nat.beq j 1)=_
 cases h1:Nat.beq j 1 with
 |true=>rw[if_pos (Nat.eq_of_beq_eq_true h1)]
 |false=>
  rw[if_neg (Nat.ne_of_beq_eq_false h1)];cases h2:Nat.beq (j % 2) 0 with
  |true=>rw[if_pos (Nat.eq_of_beq_eq_true h2)]
  |false=>rw[if_neg (Nat.ne_of_beq_eq_false h2)]
theorem Br.upd1_node(o x:PObj)(l r:Br)(j:Nat):(Br.node x l r).upd1 j o=if j=1 then some (.node o l r)else if j % 2=0 then(l.upd1 (j / 2) o).map (fun l'=>.node x l' r)else(r.upd1 (j / 2) o).map (fun r'=>.node x l r'):=by
 show Bool.rec (motive:=fun _=>Option Br) (Bool.rec (motive:=fun _=>Option Br) (Option.rec (motive:=fun _=>Option Br) none (fun r'=>some (.node x l r')) (r.upd1 (j / 2) o)) (Option.rec (motive:=fun _=>Option Br) none (fun l'=>some (.node x l' r)) (l.upd1 (j / 2) o)) (Nat.beq (j % 2) 0)) (some (.node o l r)) (Nat.beq j 1)=_
 cases h1:Nat.beq j 1 with
 |true=>rw[if_pos (Nat.eq_of_beq_eq_true h1)]
 |false=>
  rw[if_neg (Nat.ne_of_beq_eq_false h1)];cases h2:Nat.beq (j % 2) 0 with
  |true=>rw[if_pos (Nat.eq_of_beq_eq_true h2)];cases l.upd1 (j / 2) o<;>rfl
  |false=>rw[if_neg (Nat.ne_of_beq_eq_false h2)];cases r.upd1 (j / 2) o<;>rfl
theorem Br.upd1_get{o:PObj}: ∀{br br':Br}{i:Nat},0<i->br.upd1 i o=some br'-> ∀j,0<j->br'.get1 j=if j=i then some o else br.get1 j:=by
 intro br
 induction br with
 |leaf=>
  intro br' i hi hu j hj;have hu:Bool.rec (motive:=fun _=>Option Br) none (some (.node o .leaf .leaf)) (Nat.beq i 1)=some br':=hu;cases h1:Nat.beq i 1 with
  |false=>rw[h1]at hu;cases hu
  |true=>
   rw[h1]at hu;cases hu;have:=Nat.eq_of_beq_eq_true h1;rw[Br.get1_node,this]
   split
   ·rfl
   ·split<;>rfl
 |node x l r ihl ihr=>
  intro br' i hi hu j hj;rw[Br.upd1_node]at hu
  split at hu
  ·cases hu;rename_i h1;rw[Br.get1_node,Br.get1_node,h1]
   split<;>rfl
  ·rename_i hi1
   split at hu
   ·rename_i he;simp only[Option.map_eq_some_iff]at hu;obtain⟨l',hl',rfl⟩:=hu;rw[Br.get1_node,Br.get1_node]
    split
    ·rename_i hj1;rw[if_neg (by omega)]
    ·rename_i hj1
     split
     ·rename_i hje;rw[ihl (by omega) hl' _ (by omega)]
      by_cases hji:j=i
      ·rw[if_pos (by rw[hji]),if_pos hji]
      ·rw[if_neg (by omega),if_neg hji]
     ·rename_i hje;rw[if_neg (by rintro rfl;exact hje he)]
   ·rename_i he;simp only[Option.map_eq_some_iff]at hu;obtain⟨r',hr',rfl⟩:=hu;rw[Br.get1_node,Br.get1_node]
    split
    ·rename_i hj1;rw[if_neg (by omega)]
    ·rename_i hj1
     split
     ·rename_i hje;rw[if_neg (by rintro rfl;exact he hje)]
     ·rename_i hje;rw[ihr (by omega) hr' _ (by omega)]
      by_cases hji:j=i
      ·rw[if_pos (by rw[hji]),if_pos hji]
      ·rw[if_neg (by omega),if_neg hji]
theorem Br.updP_get{o:PObj}{br br':Br}{i:Nat}(h:br.updP i o=some br')(j:Nat):br'.getP j=if j=i then some o else br.getP j:=by
 have:=Br.upd1_get (Nat.succ_pos i) h (.succ j) (Nat.succ_pos j);unfold Br.getP;rw[this]
 by_cases hji:j=i
 ·rw[if_pos (by rw[hji]),if_pos hji]
 ·rw[if_neg (by omega),if_neg hji]
theorem Br.upd_get{o:AObj}{br br':Br}{i:Nat}(h:br.upd i o=some br')(j:Nat):br'.get j=if j=i then some o else br.get j:=by
 have:=Br.updP_get h j;unfold Br.get;rw[this]
 split<;>rfl
structure PH where
 n:Nat
 fz:Nat
 br:Br
def frz(b:Bool)(o:AObj):AObj:=match b with
 |true=>freeze o
 |false=>o
noncomputable def PH.abs(h:PH):Heap:=(List.range h.n).map fun i=>frz (Nat.blt i h.fz) ((h.br.get i).getD .dead)
noncomputable def PH.raw(h:PH)(b:Nat):Option AObj:=Bool.rec (motive:=fun _=>Option AObj) none (h.br.get b) (Nat.blt b h.n)
noncomputable def PH.get(h:PH)(b:Nat):Option AObj:=match h.raw b with
 |some o=>match Nat.blt b h.fz with
  |true=>some (freeze o)
  |false=>some o
 |none=>none
def seqN{α:Type}(n:Nat)(K:Nat->α):α:=match n with
 |0=>K 0
 | .succ m=>K (.succ m)
theorem seqN_eq{α:Type}(n:Nat)(K:Nat->α):seqN n K=K n:=by cases n<;>rfl
noncomputable def PH.set(h:PH)(b:Nat)(o:AObj):Option PH:=
 Bool.rec (motive:=fun _=>Option PH) none (Bool.rec (motive:=fun _=>Option PH) none
  (Option.rec (motive:=fun _=>Option PH) none (fun br=>seqN h.n fun n=>seqN h.fz fun z=>some ⟨n,z,br⟩) (h.br.upd b o)) (Nat.ble h.fz b)) (Nat.blt b h.n)
noncomputable def PH.push(h:PH)(o:AObj):Option PH:=
 Bool.rec (motive:=fun _=>Option PH) none (Option.rec (motive:=fun _=>Option PH) none (fun br=>seqN (.succ h.n) fun n=>seqN h.fz fun z=>some ⟨n,z,br⟩) (h.br.upd h.n o)) (Nat.ble h.fz h.n)
noncomputable def PH.pushP(h:PH)(o:PObj):Option PH:=
 Bool.rec (motive:=fun _=>Option PH) none (Option.rec (motive:=fun _=>Option PH) none (fun br=>seqN (.succ h.n) fun n=>seqN h.fz fun z=>some ⟨n,z,br⟩) (h.br.updP h.n o)) (Nat.ble h.fz h.n)
def PH.fzn(h:PH):PH:=⟨h.n,h.n,h.br⟩
theorem PH.length(h:PH):h.abs.length=h.n:=by simp[PH.abs]
theorem PH.raw_ok{h:PH}{b:Nat}{o:AObj}(hg:h.raw b=some o):b<h.n/\h.br.get b=some o:=by
 unfold PH.raw at hg;cases hb:Nat.blt b h.n with
 |false=>rw[hb]at hg;cases hg
 |true=>rw[hb]at hg;exact⟨Nat.le_of_ble_eq_true hb,hg⟩
theorem PH.raw_abs{h:PH}{b:Nat}{o:AObj}(hg:h.raw b=some o):h.abs[b]?=some (frz (Nat.blt b h.fz) o):=by
 obtain⟨h1,h2⟩:=PH.raw_ok hg;simp[PH.abs,List.getElem?_range h1,h2]
theorem PH.raw_row{h:PH}{b:Nat}{m:Mode}{esz:Nat}{cs:List Value}(hg:h.raw b=some (.row m esz cs)): ∃m',h.abs[b]?=some (.row m' esz cs):=by
 have:=PH.raw_abs hg;cases hb:Nat.blt b h.fz with
 |true=>rw[hb]at this;exact⟨_,this⟩
 |false=>rw[hb]at this;exact⟨_,this⟩
theorem PH.get_abs{h:PH}{b:Nat}{o:AObj}(hg:h.get b=some o):h.abs[b]?=some o:=by
 unfold PH.get at hg
 split at hg<;>try (cases hg;done)
 rename_i o' hr;have:=PH.raw_abs hr
 split at hg
 ·rename_i hb;cases hg;rw[this,hb];rfl
 ·rename_i hb;cases hg;rw[this,hb];rfl
theorem PH.set_abs{h h':PH}{b:Nat}{o:AObj}(hs:h.set b o=some h'):h'.abs=h.abs.set b o:=by
 unfold PH.set at hs;cases hb:Nat.blt b h.n with
 |false=>rw[hb]at hs;cases hs
 |true=>
 cases hf:Nat.ble h.fz b with
 |false=>rw[hb,hf]at hs;cases hs
 |true=>
 cases hu:h.br.upd b o with
 |none=>rw[hb,hf,hu]at hs;cases hs
 |some br=>
 rw[hb,hf,hu]at hs;have hs:(seqN h.n fun n=>seqN h.fz fun z=>some (PH.mk n z br))=some h':=hs;rw[seqN_eq,seqN_eq]at hs;cases hs;have:=Br.upd_get hu
 apply List.ext_getElem?
 intro j;rw[List.getElem?_set];simp only[PH.abs,List.getElem?_map,List.length_map,List.length_range];have hb:b<h.n:=Nat.le_of_ble_eq_true hb;have hf:h.fz<=b:=Nat.le_of_ble_eq_true hf
 by_cases hj:j<h.n
 ·rw[List.getElem?_range hj,Option.map_some,this j]
  by_cases hbj:b=j
  ·subst hbj;have:Nat.blt b h.fz=false:=by
    cases hq:Nat.blt b h.fz with
    |false=>rfl
    |true=>have:b<h.fz:=Nat.le_of_ble_eq_true hq;omega
   simp[hb,this,frz]
  ·rw[if_neg (fun e=>hbj e.symm),if_neg hbj];rfl
 ·rw[if_neg (by omega)];simp[List.getElem?_eq_none (show(List.range h.n).length<=j by simp;omega)]
theorem PH.push_abs{h h':PH}{o:AObj}(hs:h.push o=some h'):h'.abs=h.abs++[o]:=by
 unfold PH.push at hs;cases hf:Nat.ble h.fz h.n with
 |false=>rw[hf]at hs;cases hs
 |true=>
 cases hu:h.br.upd h.n o with
 |none=>rw[hf,hu]at hs;cases hs
 |some br=>
 rw[hf,hu]at hs;have hs:(seqN (.succ h.n) fun n=>seqN h.fz fun z=>some (PH.mk n z br))=some h':=hs;rw[seqN_eq,seqN_eq]at hs;cases hs;have:=Br.upd_get hu;have hf:h.fz<=h.n:=Nat.le_of_ble_eq_true hf;simp only[PH.abs,List.range_succ,List.map_append,List.map_cons,List.map_nil]
 congr 1
 ·apply List.map_congr_left
  intro j hj;rw[this j,if_neg (by simp at hj;omega)]
 ·have hq:Nat.blt h.n h.fz=false:=by
   cases hq:Nat.blt h.n h.fz with
   |false=>rfl
   |true=>have:h.n<h.fz:=Nat.le_of_ble_eq_true hq;omega
  rw[this h.n,if_pos rfl,hq];rfl
theorem PH.pushP_abs{h h':PH}{o:PObj}(hs:h.pushP o=some h'):h'.abs=h.abs++[o.toA]:=by
 unfold PH.pushP at hs;cases hf:Nat.ble h.fz h.n with
 |false=>rw[hf]at hs;cases hs
 |true=>
 cases hu:h.br.updP h.n o with
 |none=>rw[hf,hu]at hs;cases hs
 |some br=>
 rw[hf,hu]at hs;have hs:(seqN (.succ h.n) fun n=>seqN h.fz fun z=>some (PH.mk n z br))=some h':=hs;rw[seqN_eq,seqN_eq]at hs;cases hs;have: ∀j,br.get j=if j=h.n then some o.toA else h.br.get j:=fun j=>by unfold Br.get;rw[Br.updP_get hu];split<;>rfl
 have hf:h.fz<=h.n:=Nat.le_of_ble_eq_true hf;simp only[PH.abs,List.range_succ,List.map_append,List.map_cons,List.map_nil]
 congr 1
 ·apply List.map_congr_left
  intro j hj;rw[this j,if_neg (by simp at hj;omega)]
 ·have hq:Nat.blt h.n h.fz=false:=by
   cases hq:Nat.blt h.n h.fz with
   |false=>rfl
   |true=>have:h.n<h.fz:=Nat.le_of_ble_eq_true hq;omega
  rw[this h.n,if_pos rfl,hq];rfl
theorem PH.fzn_abs(h:PH):h.fzn.abs=h.abs.map freeze:=by
 simp only[PH.abs,PH.fzn,List.map_map]
 apply List.map_congr_left
 intro j hj;have hj:j<h.n:=by simpa using hj
 have:Nat.blt j h.n=true:=Nat.ble_eq_true_of_le hj;simp only[this,frz,Function.comp]
 split
 ·rw[freeze_freeze]
 ·rfl
def notro:AObj->Bool
 | .row .ro _ _=>false
 |_=>true
structure Inv(h h':PH):Prop where
 fz:h'.fz=h.fz
 le:h.n<=h'.n
 low: ∀i,i<h.fz->h'.br.get i=h.br.get i
 nr:(∀i o,h.fz<=i->i<h.n->h.br.get i=some o->notro o=true)-> ∀i o,h'.fz<=i->i<h'.n->h'.br.get i=some o->notro o=true
theorem Inv.refl(h:PH):Inv h h:=⟨rfl,Nat.le_refl _,fun _ _=>rfl,fun h=>h⟩
theorem Inv.trans{h h1 h2:PH}(a:Inv h h1)(b:Inv h1 h2):Inv h h2:=
 ⟨b.fz.trans a.fz,Nat.le_trans a.le b.le,fun i hi=>(b.low i (by rw[a.fz];exact hi)).trans (a.low i hi),fun c=>b.nr (a.nr c)⟩
theorem PH.set_inv{h h':PH}{b:Nat}{o:AObj}(hs:h.set b o=some h')(ho:notro o=true):Inv h h':=by
 unfold PH.set at hs;cases hb:Nat.blt b h.n with
 |false=>rw[hb]at hs;cases hs
 |true=>
 cases hf:Nat.ble h.fz b with
 |false=>rw[hb,hf]at hs;cases hs
 |true=>
 cases hu:h.br.upd b o with
 |none=>rw[hb,hf,hu]at hs;cases hs
 |some br=>
 rw[hb,hf,hu]at hs;have hs:(seqN h.n fun n=>seqN h.fz fun z=>some (PH.mk n z br))=some h':=hs;rw[seqN_eq,seqN_eq]at hs;cases hs;have:=Br.upd_get hu;have hf:h.fz<=b:=Nat.le_of_ble_eq_true hf;refine⟨rfl,Nat.le_refl _,fun i hi=>?_,fun c i o' h1 h2 h3=>?_⟩
 ·dsimp only;rw[this i,if_neg (by omega)]
 ·dsimp only at h1 h2 h3;rw[this i]at h3
  split at h3
  ·cases h3;exact ho
  ·exact c i o' h1 h2 h3
theorem PH.push_inv{h h':PH}{o:AObj}(hs:h.push o=some h')(ho:notro o=true):Inv h h':=by
 unfold PH.push at hs;cases hf:Nat.ble h.fz h.n with
 |false=>rw[hf]at hs;cases hs
 |true=>
 cases hu:h.br.upd h.n o with
 |none=>rw[hf,hu]at hs;cases hs
 |some br=>
 rw[hf,hu]at hs;have hs:(seqN (.succ h.n) fun n=>seqN h.fz fun z=>some (PH.mk n z br))=some h':=hs;rw[seqN_eq,seqN_eq]at hs;cases hs;have:=Br.upd_get hu;have hf:h.fz<=h.n:=Nat.le_of_ble_eq_true hf;refine⟨rfl,Nat.le_succ _,fun i hi=>?_,fun c i o' h1 h2 h3=>?_⟩
 ·dsimp only;rw[this i,if_neg (by omega)]
 ·dsimp only at h1 h2 h3;rw[this i]at h3
  split at h3
  ·cases h3;exact ho
  ·exact c i o' h1 (by omega) h3
theorem PH.pushP_inv{h h':PH}{o:PObj}(hs:h.pushP o=some h')(ho:notro o.toA=true):Inv h h':=by
 unfold PH.pushP at hs;cases hf:Nat.ble h.fz h.n with
 |false=>rw[hf]at hs;cases hs
 |true=>
 cases hu:h.br.updP h.n o with
 |none=>rw[hf,hu]at hs;cases hs
 |some br=>
 rw[hf,hu]at hs;have hs:(seqN (.succ h.n) fun n=>seqN h.fz fun z=>some (PH.mk n z br))=some h':=hs;rw[seqN_eq,seqN_eq]at hs;cases hs;have: ∀j,br.get j=if j=h.n then some o.toA else h.br.get j:=fun j=>by unfold Br.get;rw[Br.updP_get hu];split<;>rfl
 have hf:h.fz<=h.n:=Nat.le_of_ble_eq_true hf;refine⟨rfl,Nat.le_succ _,fun i hi=>?_,fun c i o' h1 h2 h3=>?_⟩
 ·dsimp only;rw[this i,if_neg (by omega)]
 ·dsimp only at h1 h2 h3;rw[this i]at h3
  split at h3
  ·cases h3;exact ho
  ·exact c i o' h1 (by omega) h3
def PH.back(h h':PH):PH:=⟨h'.n,h.fz,h'.br⟩
theorem PH.back_abs{h h':PH}(hi:Inv h.fzn h')(hz:h.fz<=h.n): ∃news,h'.abs=h.abs.map freeze++news/\(h.back h').abs=h.abs++news/\ ∀o∈news,notro o=true:=by
 have hle:h.n<=h'.n:=hi.le;have hfz:h'.fz=h.n:=hi.fz;have hlow: ∀i,i<h.n->h'.br.get i=h.br.get i:=hi.low;have hnr:=hi.nr (fun i o h1 h2 _=>absurd h2 (by have:(PH.fzn h).fz=h.n:=rfl;have:(PH.fzn h).n=h.n:=rfl;omega));have hr:List.range h'.n=List.range h.n++(List.range (h'.n-h.n)).map (h.n+ ·):=by
  rw[<-List.range_add];congr 1;omega
 refine⟨(List.range (h'.n-h.n)).map fun i=>(h'.br.get (h.n+i)).getD .dead,?_,?_,?_⟩
 ·simp only[PH.abs,hr,List.map_append,List.map_map]
  congr 1
  ·apply List.map_congr_left
   intro j hj;have hj:j<h.n:=by simpa using hj
   have h1:Nat.blt j h'.fz=true:=by rw[hfz];exact Nat.ble_eq_true_of_le hj
   simp only[h1,Function.comp,hlow j hj,frz]
   split
   ·rw[freeze_freeze]
   ·rfl
  ·apply List.map_congr_left
   intro j hj;have h1:Nat.blt (h.n+j) h'.fz=false:=by
    cases hq:Nat.blt (h.n+j) h'.fz with
    |false=>rfl
    |true=>have:h.n+j<h'.fz:=Nat.le_of_ble_eq_true hq;omega
   simp only[Function.comp,h1,frz]
 ·simp only[PH.abs,PH.back,hr,List.map_append,List.map_map]
  congr 1
  ·apply List.map_congr_left
   intro j hj;have hj:j<h.n:=by simpa using hj
   simp only[hlow j hj]
  ·apply List.map_congr_left
   intro j hj;have h1:Nat.blt (h.n+j) h.fz=false:=by
    cases hq:Nat.blt (h.n+j) h.fz with
    |false=>rfl
    |true=>have:h.n+j<h.fz:=Nat.le_of_ble_eq_true hq;omega
   simp only[Function.comp,h1,frz]
 ·intro o ho;simp only[List.mem_map,List.mem_range]at ho;obtain⟨i,hi',rfl⟩:=ho;cases hq:h'.br.get (h.n+i)with
  |none=>rfl
  |some o=>exact hnr (h.n+i) o (by omega) (by omega) hq
theorem PH.back_inv{h h':PH}(hi:Inv h.fzn h')(hz:h.fz<=h.n):Inv h (h.back h'):=by
 have hle:h.n<=h'.n:=hi.le;have hfz:h'.fz=h.n:=hi.fz;have hlow: ∀i,i<h.n->h'.br.get i=h.br.get i:=hi.low;have hnr:=hi.nr (fun i o h1 h2 _=>absurd h2 (by have:(PH.fzn h).fz=h.n:=rfl;have:(PH.fzn h).n=h.n:=rfl;omega));refine⟨rfl,hle,fun i h1=>hlow i (by omega),fun c i o h1 h2 h3=>?_⟩
 by_cases hin:i<h.n
 ·have h3:h'.br.get i=some o:=h3;rw[hlow i hin]at h3;exact c i o h1 hin h3
 ·exact hnr i o (by omega) h2 h3
abbrev R:=Option (Value×PH)
noncomputable def vb(o:Option Value)(K:Value->R):R:=Option.rec (motive:=fun _=>R) none K o
noncomputable def hb(o:R)(K:Value->PH->R):R:=Option.rec (motive:=fun _=>R) none (fun p=>Prod.rec (motive:=fun _=>R) K p) o
noncomputable def gd(b:Bool)(o:Option Value):Option Value:=Bool.rec (motive:=fun _=>Option Value) (some undef) o b
noncomputable def gh(b:Bool)(h:PH)(o:R):R:=Bool.rec (motive:=fun _=>R) (some (undef,h)) o b
def isB(want:Bool)(v:Value):Bool:=match v with
 | .bool b=>match want with
  |true=>b
  |false=>match b with
   |true=>false
   |false=>true
 |_=>false
def isTF(v:Value):Option Bool:=match v with
 | .bool b=>some b
 |_=>none
noncomputable def bite(v:Value)(x y:R):R:=Option.rec (motive:=fun _=>R) none (fun b=>Bool.rec (motive:=fun _=>R) y x b) (isTF v)
noncomputable def ucons(ys:List Value)(K:Value->List Value->R):R:=List.rec (motive:=fun _=>R) none (fun y ys _=>K y ys) ys
abbrev Kt:=List Value->PH->R
def jn(k:Kt)(body:Kt->R):R:=body k
noncomputable def lp(n:Nat)(body:Kt->Kt):Kt:=Nat.rec (motive:=fun _=>Kt) (fun _ _=>none) (fun _ ih=>body ih) n
noncomputable def pcall(r:R):Option Value:=Option.rec (motive:=fun _=>Option Value) none (fun p=>Bool.rec (motive:=fun _=>Option Value) none (some p.1) (plainV p.1)) r
theorem pcall_ok{r:R}{v:Value}(h:pcall r=some v): ∃h',r=some (v,h')/\plainV v=true:=by
 cases r with
 |none=>cases h
 |some p=>
  have h:Bool.rec (motive:=fun _=>Option Value) none (some p.1) (plainV p.1)=some v:=h;cases hp:plainV p.1 with
  |false=>rw[hp]at h;cases h
  |true=>rw[hp]at h;cases h;exact⟨p.2,rfl,hp⟩
noncomputable def fcall(h:PH)(r:R):R:=Option.rec (motive:=fun _=>R) none (fun p=>Bool.rec (motive:=fun _=>R) none (some (p.1,h.back p.2)) (Nat.ble h.fz h.n)) r
theorem fcall_ok{h h':PH}{r:R}{v:Value}(hx:fcall h r=some (v,h')): ∃h1,r=some (v,h1)/\h'=h.back h1/\h.fz<=h.n:=by
 cases r with
 |none=>cases hx
 |some p=>
  have hx:Bool.rec (motive:=fun _=>R) none (some (p.1,h.back p.2)) (Nat.ble h.fz h.n)=some (v,h'):=hx;cases hp:Nat.ble h.fz h.n with
  |false=>rw[hp]at hx;cases hx
  |true=>rw[hp]at hx;cases hx;exact⟨p.2,rfl,rfl,Nat.le_of_ble_eq_true hp⟩
theorem vb_ok{o:Option Value}{K:Value->R}{r:Value×PH}(h:vb o K=some r): ∃v,o=some v/\K v=some r:=by
 cases o with
 |none=>cases h
 |some v=>exact⟨v,rfl,h⟩
theorem hb_ok{o:R}{K:Value->PH->R}{r:Value×PH}(h:hb o K=some r): ∃v h',o=some (v,h')/\K v h'=some r:=by
 cases o with
 |none=>cases h
 |some v=>exact⟨v.1,v.2,rfl,h⟩
theorem bite_ok{v:Value}{x y:R}{r:Value×PH}(h:bite v x y=some r):(v= .bool true/\x=some r)\/(v= .bool false/\y=some r):=by
 unfold bite isTF at h;cases v<;>try (cases h;done)
 rename_i b;cases b
 ·exact .inr ⟨rfl,h⟩
 ·exact .inl ⟨rfl,h⟩
noncomputable def nth(l:List Value):Nat->Option Value:=
 List.rec (motive:=fun _=>Nat->Option Value) (fun _=>none) (fun x _ ih i=>Nat.rec (motive:=fun _=>Option Value) (some x) (fun j _=>ih j) i) l
theorem nth_eq(l:List Value): ∀i,nth l i=l[i]?:=by
 induction l with
 |nil=>intro i;rfl
 |cons x l ih=>intro i;cases i with
  |zero=>rfl
  |succ i=>rw[List.getElem?_cons_succ, <-ih];rfl
def scal(P:Program)(T:TypeId):Bool:=
 match P.underlying T with
 |some (.struct _)|some (.array _ _)|none=>false
 |_=>true
def aggSz(P:Program)(T:TypeId):Option Nat:=
 match P.underlying T,P.info? T with
 |some (.struct _),some i=>some i.size
 |some (.array _ _),some i=>some i.size
 |_,_=>none
def fieldOff(P:Program)(S:TypeId)(f:Nat):Option Nat:=
 match P.underlying S with
 |some (.struct fs)=>match fs[f]? with
  |some fd=>match P.info? fd.type with
   |some i=>if i.size=0 then none else some fd.offset
   |none=>none
  |none=>none
 |_=>none
def sliceSz(P:Program)(T:TypeId):Option Nat:=
 match P.underlying T with
 |some (.slice e)=>(P.info? e).map (·.size)
 |_=>none
def arrSz(P:Program)(T:TypeId):Option (Nat×Nat):=
 match P.underlying T with
 |some (.array n e)=>(P.info? e).map fun i=>(n,i.size)
 |_=>none
def strT(P:Program)(T:TypeId):Bool:=
 match P.underlying T with
 |some .string=>true
 |_=>false
section
variable {P:Program}{h:Heap}
theorem apart_scal{T:TypeId}(hs:scal P T=true)(cs:List Value)(off:Nat):apart P T cs off=cs[off]?:=by
 unfold scal at hs;unfold apart
 split<;>simp_all
theorem apart_agg{T:TypeId}{n:Nat}(hs:aggSz P T=some n)(cs:List Value)(off:Nat)(hle:off+n<=cs.length):apart P T cs off=some (.agg ⟨(cs.drop off).take n⟩):=by
 unfold aggSz at hs;unfold apart
 split at hs<;>simp_all
theorem fieldAddr_of{S:TypeId}{f n:Nat}(hs:fieldOff P S f=some n)(b o:Nat):afieldAddr P S (.pointer (some ⟨b,o,none⟩)) f=some (.pointer (some ⟨b,o+n,none⟩)):=by
 unfold fieldOff at hs;unfold afieldAddr
 split at hs
 ·rename_i fs hu
  split at hs
  ·rename_i fd hf
   split at hs
   ·rename_i i hi
    split at hs<;>simp at hs
    subst hs;simp[hu,hf,hi, *]
   ·cases hs
  ·cases hs
 ·cases hs
theorem indexAddr_of{T:TypeId}{sz:Nat}(hs:sliceSz P T=some sz){b o n c:Nat}{k:IntKind}{i:Int}(h0:0<=i)(h1:i<n):
  aindexAddr P T (.slice (some ⟨b,o,none⟩) n c) (.int k i)=some (.pointer (some ⟨b,o+i.toNat*sz,none⟩)):=by
 unfold sliceSz at hs;unfold aindexAddr
 split at hs
 ·rename_i e hu;simp only[Option.map_eq_some_iff]at hs;obtain⟨inf,hi,rfl⟩:=hs;simp[hu,hi,h0,h1]
 ·cases hs
theorem arrAddr_of{T:TypeId}{n sz:Nat}(hs:arrSz P T=some (n,sz)){b o:Nat}{k:IntKind}{i:Int}(h0:0<=i)(h1:i<n):
  aindexAddr P T (.pointer (some ⟨b,o,none⟩)) (.int k i)=some (.pointer (some ⟨b,o+i.toNat*sz,none⟩)):=by
 unfold arrSz at hs;unfold aindexAddr
 split at hs
 ·rename_i n e hu;simp only[Option.map_eq_some_iff,Prod.mk.injEq]at hs;obtain⟨inf,hi,rfl,rfl⟩:=hs;simp[hu,hi,h0,h1]
 ·cases hs
end
def kb(a b:IntKind):Bool:=match a,b with
 | .i64,.i64=>true
 |a,b=>decide (a=b)
theorem kb_ok{a b:IntKind}(h:kb a b=true):a=b:=by
 unfold kb at h
 split at h
 ·rfl
 ·simpa using h
def mkI(k:IntKind)(x:Int):Option Value:=match x with
 | .ofNat n=>seqN n fun n=>some (.int k (.ofNat n))
 | .negSucc n=>seqN n fun n=>some (.int k (.negSucc n))
theorem mkI_eq(k:IntKind)(x:Int):mkI k x=some (.int k x):=by cases x<;>simp[mkI,seqN_eq]
def kmx(k:IntKind):Nat:=match k with
 | .i64=>9223372036854775807
 | .u64=>18446744073709551615
 | .u8=>255
 | .i32=>2147483647
 | .u32=>4294967295
 | .i8=>127
 | .i16=>32767
 | .u16=>65535
def wr(k:IntKind)(x:Int):Int:=match x with
 | .ofNat n=>match Nat.ble n (kmx k)with
  |true=>.ofNat n
  |false=>k.wrap (.ofNat n)
 | .negSucc n=>match k with
  | .i64=>match Nat.ble n 9223372036854775807 with
   |true=>.negSucc n
   |false=>IntKind.i64.wrap (.negSucc n)
  |k=>k.wrap (.negSucc n)
theorem wrap_in{x:Int}(h0: -9223372036854775808<=x)(h1:x<9223372036854775808):IntKind.i64.wrap x=x:=by
 simp only[IntKind.wrap,IntKind.signed,IntKind.bits];simp;omega
theorem wrap_nat(k:IntKind)(n:Nat)(h:n<=kmx k):k.wrap (.ofNat n)= .ofNat n:=by
 cases k<;>simp only[kmx]at h<;>simp only[IntKind.wrap,IntKind.signed,IntKind.bits]<;>simp<;>omega
theorem wr_eq(k:IntKind)(x:Int):wr k x=k.wrap x:=by
 unfold wr
 split
 ·split
  ·rename_i n hn;exact(wrap_nat k _ (Nat.le_of_ble_eq_true hn)).symm
  ·rfl
 ·split
  ·split
   ·rename_i n hn;have:=Nat.le_of_ble_eq_true hn;exact(wrap_in (by rw[Int.negSucc_eq];omega) (by rw[Int.negSucc_eq];omega)).symm
   ·rfl
  ·rfl
def ilt(x y:Int):Bool:=match x with
 | .ofNat m=>match y with
  | .ofNat n=>Nat.blt m n
  | .negSucc _=>false
 | .negSucc m=>match y with
  | .ofNat _=>true
  | .negSucc n=>Nat.blt n m
def ieq(x y:Int):Bool:=match x with
 | .ofNat m=>match y with
  | .ofNat n=>Nat.beq m n
  | .negSucc _=>false
 | .negSucc m=>match y with
  | .ofNat _=>false
  | .negSucc n=>Nat.beq m n
theorem blt_eq(m n:Nat):Nat.blt m n=decide (m<n):=by
 rw[Bool.eq_iff_iff,decide_eq_true_iff];exact⟨fun h=>Nat.le_of_ble_eq_true h,fun h=>Nat.ble_eq_true_of_le h⟩
theorem beq_eq(m n:Nat):Nat.beq m n=decide (m=n):=by
 rw[Bool.eq_iff_iff,decide_eq_true_iff];exact⟨Nat.eq_of_beq_eq_true,fun h=>by subst h;exact Nat.beq_refl m⟩
theorem ilt_eq(x y:Int):ilt x y=decide (x<y):=by
 cases x<;>cases y<;>simp only[ilt,blt_eq]<;>rw[Bool.eq_iff_iff]<;>(try simp[Int.negSucc_eq])<;>(try omega)
theorem ieq_eq(x y:Int):ieq x y=decide (x=y):=by
 cases x<;>cases y<;>simp only[ieq,beq_eq]<;>rw[Bool.eq_iff_iff]<;>(try simp[Int.negSucc_eq])<;>(try omega)
def ile(x y:Int):Bool:=match ilt y x with
 |true=>false
 |false=>true
def ine(x y:Int):Bool:=match ieq y x with
 |true=>false
 |false=>true
theorem ile_eq(x y:Int):ile x y=decide (x<=y):=by
 unfold ile;rw[ilt_eq];by_cases h:y<x<;>simp[h]<;>omega
theorem ine_eq(x y:Int):ine x y=!decide (x=y):=by
 unfold ine;rw[ieq_eq];by_cases h:y=x
 ·simp[h]
 ·have: ¬ x=y:=fun e=>h e.symm;simp[h,this]
def boolV(b:Bool):Option Value:=match b with
 |true=>some (.bool true)
 |false=>some (.bool false)
def vInt(v:Value):Option (IntKind×Int):=match v with
 | .int k x=>some (k,x)
 |_=>none
theorem vInt_ok{v:Value}{k:IntKind}{x:Int}(h:vInt v=some (k,x)):v= .int k x:=by
 unfold vInt at h
 split at h<;>cases h
 rfl
noncomputable def two{α:Type}(a b:Value)(K:IntKind->Int->Int->Option α):Option α:=
 Option.rec (motive:=fun _=>Option α) none (fun p=>Prod.rec (motive:=fun _=>Option α) (fun k x=>
  Option.rec (motive:=fun _=>Option α) none (fun q=>Prod.rec (motive:=fun _=>Option α) (fun k' y=>Bool.rec (motive:=fun _=>Option α) none (K k x y) (kb k k')) q) (vInt b)) p) (vInt a)
theorem two_ok{α:Type}{a b:Value}{K:IntKind->Int->Int->Option α}{r:α}(h:two a b K=some r): ∃k x y,a= .int k x/\b= .int k y/\K k x y=some r:=by
 unfold two at h;cases h1:vInt a with
 |none=>rw[h1]at h;cases h
 |some p=>
  cases h2:vInt b with
  |none=>rw[h1,h2]at h;cases h
  |some q=>
   obtain⟨k,x⟩:=p;obtain⟨k',y⟩:=q;rw[h1,h2]at h
   replace h:Bool.rec (motive:=fun _=>Option α) none (K k x y) (kb k k')=some r:=h
   cases h3:kb k k' with
   |false=>rw[h3]at h;cases h
   |true=>
    rw[h3]at h;have:=kb_ok h3;subst this;exact⟨_,_,_,vInt_ok h1,vInt_ok h2,h⟩
theorem two_i{α:Type}{k:IntKind}{x y:Int}{K:IntKind->Int->Int->Option α}:two (.int k x) (.int k y) K=K k x y:=by
 have:kb k k=true:=by cases k<;>rfl
 show Bool.rec (motive:=fun _=>Option α) none (K k x y) (kb k k)=_
 rw[this]
noncomputable def xAri(f:Int->Int->Int)(a b:Value):Option Value:=two a b fun k x y=>mkI k (wr k (f x y))
noncomputable def xCmp(f:Int->Int->Bool)(a b:Value):Option Value:=two a b fun _ x y=>some (.bool (f x y))
def xMinMax(f:Int->Int->Bool)(a b:Value):Option Value:=match a with
 | .int k x=>match b with
  | .int k' y=>match kb k k' with
   |true=>match f x y with
    |true=>some (.int k x)
    |false=>some (.int k y)
   |false=>none
  |_=>none
 |_=>none
noncomputable def xNot(a:Value):Option Value:=Option.rec (motive:=fun _=>Option Value) none (fun b=>Bool.rec (motive:=fun _=>Option Value) (some (.bool true)) (some (.bool false)) b) (isTF a)
noncomputable def xPick(c a b:Value):Option Value:=Option.rec (motive:=fun _=>Option Value) none (fun c=>Bool.rec (motive:=fun _=>Option Value) (some b) (some a) c) (isTF c)
theorem isTF_ok{v:Value}{b:Bool}(h:isTF v=some b):v= .bool b:=by
 unfold isTF at h
 split at h<;>cases h
 rfl
theorem xNot_ok{a v:Value}(h:xNot a=some v): ∃b,a= .bool b/\v= .bool !b:=by
 unfold xNot at h;cases h1:isTF a with
 |none=>rw[h1]at h;cases h
 |some b=>rw[h1]at h;exact⟨b,isTF_ok h1,by cases b<;>(cases h;rfl)⟩
theorem xPick_ok{c a b v:Value}(h:xPick c a b=some v):(c= .bool true/\v=a)\/(c= .bool false/\v=b):=by
 unfold xPick at h;cases h1:isTF c with
 |none=>rw[h1]at h;cases h
 |some d=>
  rw[h1]at h;cases d with
  |true=>cases h;exact .inl ⟨isTF_ok h1,rfl⟩
  |false=>cases h;exact .inr ⟨isTF_ok h1,rfl⟩
theorem xAri_ok{f:Int->Int->Int}{a b v:Value}(h:xAri f a b=some v): ∃k x y,a= .int k x/\b= .int k y/\v= .int k (k.wrap (f x y)):=by
 obtain⟨k,x,y,rfl,rfl,h2⟩:=two_ok h;rw[mkI_eq,wr_eq]at h2;cases h2;exact⟨_,_,_,rfl,rfl,rfl⟩
theorem xCmp_ok{f:Int->Int->Bool}{a b v:Value}(h:xCmp f a b=some v): ∃k x y,a= .int k x/\b= .int k y/\v= .bool (f x y):=by
 obtain⟨k,x,y,rfl,rfl,h2⟩:=two_ok h;cases h2;exact⟨_,_,_,rfl,rfl,rfl⟩
theorem prun_of{P:Program}{s:Sem Value}{v:Value}(h:pureRun P s=some v)(hp:plainV v=true):prun P s=some v:=by simp[prun,h,hp]
theorem abin_of{P:Program}{op:BinOp}{T:TypeId}{x y:Operand}{a b v:Value}(ha:plainV a=true)(hb:plainV b=true)(hv:pureRun P (do eqGuard op T x y a b;binOp op T a b)=some v)(hp:plainV v=true):abin P op T x y a b=some v:=by
 simp[abin,ha,hb,prun_of hv hp]
def shN(x:Int)(s:Nat):Option Int:=match x with
 | .ofNat m=>seqN (Nat.shiftRight m s) fun q=>some (.ofNat q)
 | .negSucc m=>seqN (Nat.shiftRight m s) fun q=>some (.negSucc q)
def xShr(a b:Value):Option Value:=match a,b with
 | .int k x,.int _ (.ofNat s)=>match Nat.ble s k.bits with
  |true=>match shN x s with
   |some q=>some (.int k q)
   |none=>none
  |false=>none
 |_,_=>none
def xShl(a b:Value):Option Value:=match a,b with
 | .int k x,.int _ (.ofNat s)=>match Nat.ble s k.bits with
  |true=>mkI k (wr k (Int.mul x (.ofNat (Nat.pow 2 s))))
  |false=>none
 |_,_=>none
def bitN(k:IntKind)(x:Int):Nat:=match x with
 | .ofNat m=>match Nat.ble m (kmx k)with
  |true=>m
  |false=>(BitVec.ofInt k.bits (.ofNat m)).toNat
 | .negSucc m=>(BitVec.ofInt k.bits (.negSucc m)).toNat
def xBit(f:Nat->Nat->Nat)(a b:Value):Option Value:=match a,b with
 | .int k x,.int k' y=>match kb k k' with
  |true=>mkI k (wr k (.ofNat (f (bitN k x) (bitN k y))))
  |false=>none
 |_,_=>none
def xQuo(a b:Value):Option Value:=match a,b with
 | .int k x,.int k' y=>match kb k k' with
  |true=>match ieq y 0 with
   |false=>mkI k (wr k (Int.tdiv x y))
   |true=>none
  |false=>none
 |_,_=>none
def xRem(a b:Value):Option Value:=match a,b with
 | .int k x,.int k' y=>match kb k k' with
  |true=>match ieq y 0 with
   |false=>mkI k (Int.tmod x y)
   |true=>none
  |false=>none
 |_,_=>none
theorem kmx_lt(k:IntKind):kmx k<2 ^ k.bits:=by cases k<;>decide
theorem shN_ok{x q:Int}{s:Nat}(h:shN x s=some q):q=x.fdiv (2 ^ s):=by
 have hp:(2:Int) ^ s=Int.ofNat (2 ^ s):=by simp
 obtain⟨n,hn⟩: ∃n,2 ^ s=n+1:=⟨2 ^ s-1,by have:=Nat.two_pow_pos s;omega⟩;unfold shN at h
 split at h<;>rw[seqN_eq]at h<;>cases h
 ·rw[hp,Int.fdiv_eq_ediv_of_nonneg _ (show(0:Int)<=Int.ofNat (2 ^ s)from Int.natCast_nonneg _)]
  show _=Int.ofNat (_ / _)
  rw[<-Nat.shiftRight_eq_div_pow];rfl
 ·rw[hp,hn]
  show _=Int.negSucc (_ / (n+1))
  rw[<-hn, <-Nat.shiftRight_eq_div_pow];rfl
theorem xShr_ok{a b v:Value}(h:xShr a b=some v): ∃(k k':IntKind) (x:Int) (s:Nat),a= .int k x/\b= .int k' (.ofNat s)/\s<=k.bits/\v= .int k (x.fdiv (2 ^ s)):=by
 unfold xShr at h
 split at h<;>try (cases h;done)
 split at h<;>try (cases h;done)
 rename_i hs
 split at h<;>try (cases h;done)
 rename_i q hq;cases h;exact⟨_,_,_,_,rfl,rfl,Nat.le_of_ble_eq_true hs,by rw[shN_ok hq]⟩
theorem xShl_ok{a b v:Value}(h:xShl a b=some v): ∃(k k':IntKind) (x:Int) (s:Nat),a= .int k x/\b= .int k' (.ofNat s)/\s<=k.bits/\v= .int k (k.wrap (x*2 ^ s)):=by
 unfold xShl at h
 split at h<;>try (cases h;done)
 split at h<;>try (cases h;done)
 rename_i k x k' s _ hs;rw[mkI_eq,wr_eq]at h;cases h;refine⟨_,_,_,_,rfl,rfl,Nat.le_of_ble_eq_true hs,?_⟩;have:(2:Int) ^ s=Int.ofNat (2 ^ s):=by simp
 rw[this];rfl
theorem bitN_eq(k:IntKind)(x:Int):bitN k x=(BitVec.ofInt k.bits x).toNat:=by
 unfold bitN
 split
 ·split
  ·rename_i m h;have:=Nat.lt_of_le_of_lt (Nat.le_of_ble_eq_true h) (kmx_lt k);rw[Int.ofNat_eq_natCast,BitVec.ofInt_natCast,BitVec.toNat_ofNat,Nat.mod_eq_of_lt this]
  ·rfl
 ·rfl
theorem xBit_ok{f:Nat->Nat->Nat}{a b v:Value}(h:xBit f a b=some v): ∃(k:IntKind) (x y:Int),a= .int k x/\b= .int k y/\v= .int k (k.wrap (.ofNat (f (BitVec.ofInt k.bits x).toNat (BitVec.ofInt k.bits y).toNat))):=by
 unfold xBit at h
 split at h<;>try (cases h;done)
 rename_i k m k' n
 split at h<;>try (cases h;done)
 rename_i hk;cases kb_ok hk;rw[mkI_eq,wr_eq,bitN_eq,bitN_eq]at h;cases h;exact⟨_,_,_,rfl,rfl,rfl⟩
theorem xQuo_ok{a b v:Value}(h:xQuo a b=some v): ∃(k:IntKind) (x y:Int),a= .int k x/\b= .int k y/\y≠0/\v= .int k (k.wrap (x.tdiv y)):=by
 unfold xQuo at h
 split at h<;>try (cases h;done)
 rename_i k m k' n
 split at h<;>try (cases h;done)
 rename_i hk;cases kb_ok hk
 split at h<;>try (cases h;done)
 rename_i h1;rw[mkI_eq,wr_eq]at h;cases h;rw[ieq_eq]at h1;exact⟨_,_,_,rfl,rfl,of_decide_eq_false h1,rfl⟩
theorem xRem_ok{a b v:Value}(h:xRem a b=some v): ∃(k:IntKind) (x y:Int),a= .int k x/\b= .int k y/\y≠0/\v= .int k (x.tmod y):=by
 unfold xRem at h
 split at h<;>try (cases h;done)
 rename_i k m k' n
 split at h<;>try (cases h;done)
 rename_i hk;cases kb_ok hk
 split at h<;>try (cases h;done)
 rename_i h1;rw[mkI_eq]at h;cases h;rw[ieq_eq]at h1;exact⟨_,_,_,rfl,rfl,of_decide_eq_false h1,rfl⟩
noncomputable def ibin(op:BinOp):Option (Value->Value->Option Value):=match op with
 | .add=>some (xAri Int.add)
 | .sub=>some (xAri Int.sub)
 | .mul=>some (xAri Int.mul)
 | .lss=>some (xCmp ilt)
 | .leq=>some (xCmp ile)
 | .gtr=>some (xCmp fun x y=>ilt y x)
 | .geq=>some (xCmp fun x y=>ile y x)
 | .eql=>some (xCmp ieq)
 | .neq=>some (xCmp ine)
 | .shr=>some xShr
 | .shl=>some xShl
 | .and=>some (xBit Nat.land)
 | .or=>some (xBit Nat.lor)
 | .xor=>some (xBit Nat.xor)
 | .quo=>some xQuo
 | .rem=>some xRem
 |_=>none
theorem ibin_ok{P:Program}{op:BinOp}{T:TypeId}{x y:Operand}{a b v:Value}{f:Value->Value->Option Value}(hf:ibin op=some f)(h:f a b=some v):abin P op T x y a b=some v:=by
 cases op<;>simp only[ibin,Option.some.injEq]at hf<;>first|(cases hf;done)|subst hf
 case shr=>
  obtain⟨k,k',x,s,rfl,rfl,hs,rfl⟩:=xShr_ok h;refine abin_of rfl rfl ?_ rfl
  show pureRun P (Op.shift .shr k x k' (.ofNat s))=_
  unfold Op.shift;rw[if_neg (by simp)];have e:min (Int.toNat (Int.ofNat s)) k.bits=s:=by simp;omega
  simp only[e]
  rfl
 case shl=>
  obtain⟨k,k',x,s,rfl,rfl,hs,rfl⟩:=xShl_ok h;refine abin_of rfl rfl ?_ rfl
  show pureRun P (Op.shift .shl k x k' (.ofNat s))=_
  unfold Op.shift;rw[if_neg (by simp)];have e:min (Int.toNat (Int.ofNat s)) k.bits=s:=by simp;omega
  simp only[e]
  rfl
 case quo=>
  obtain⟨k,x,y,rfl,rfl,hn,rfl⟩:=xQuo_ok h;refine abin_of rfl rfl ?_ rfl;have:pureRun P (Op.intDiv .quo k x y)=some (.int k (k.wrap (x.tdiv y))):=by
   unfold Op.intDiv;rw[if_neg hn]
   rfl
  rw[<-this];cases k<;>rfl
 case rem=>
  obtain⟨k,x,y,rfl,rfl,hn,rfl⟩:=xRem_ok h;refine abin_of rfl rfl ?_ rfl;have:pureRun P (Op.intDiv .rem k x y)=some (.int k (x.tmod y)):=by
   unfold Op.intDiv;rw[if_neg hn]
   rfl
  rw[<-this];cases k<;>rfl
 case and=>
  obtain⟨k,x,y,rfl,rfl,rfl⟩:=xBit_ok h;refine abin_of rfl rfl ?_ rfl;have:pureRun P (Op.intBits .and k x y)=some (.int k (k.wrap (.ofNat (Nat.land (BitVec.ofInt k.bits x).toNat (BitVec.ofInt k.bits y).toNat)))):=by
   unfold Op.intBits;simp only[BitVec.toNat_and];rfl
  rw[<-this];cases k<;>rfl
 case or=>
  obtain⟨k,x,y,rfl,rfl,rfl⟩:=xBit_ok h;refine abin_of rfl rfl ?_ rfl;have:pureRun P (Op.intBits .or k x y)=some (.int k (k.wrap (.ofNat (Nat.lor (BitVec.ofInt k.bits x).toNat (BitVec.ofInt k.bits y).toNat)))):=by
   unfold Op.intBits;simp only[BitVec.toNat_or];rfl
  rw[<-this];cases k<;>rfl
 case xor=>
  obtain⟨k,x,y,rfl,rfl,rfl⟩:=xBit_ok h;refine abin_of rfl rfl ?_ rfl;have:pureRun P (Op.intBits .xor k x y)=some (.int k (k.wrap (.ofNat (Nat.xor (BitVec.ofInt k.bits x).toNat (BitVec.ofInt k.bits y).toNat)))):=by
   unfold Op.intBits;simp only[BitVec.toNat_xor];rfl
  rw[<-this];cases k<;>rfl
 all_goals first
  |(obtain⟨k,m,n,rfl,rfl,rfl⟩:=xAri_ok h;exact abin_of rfl rfl (by cases k<;>rfl) rfl)
  |(obtain⟨k,m,n,rfl,rfl,rfl⟩:=xCmp_ok h;simp only[ilt_eq,ile_eq,ieq_eq,ine_eq];exact abin_of rfl rfl (by cases k<;>rfl) rfl)
def addrK(b o:Nat):Option Value:=seqN o fun o=>some (.pointer (some ⟨b,o,none⟩))
theorem addrK_eq(b o:Nat):addrK b o=some (.pointer (some ⟨b,o,none⟩)):=by simp[addrK,seqN_eq]
def vPtr(v:Value):Option (Nat×Nat):=match v with
 | .pointer (some ⟨b,o,none⟩)=>some (b,o)
 |_=>none
theorem vPtr_ok{v:Value}{b o:Nat}(h:vPtr v=some (b,o)):v= .pointer (some ⟨b,o,none⟩):=by
 unfold vPtr at h
 split at h<;>cases h
 rfl
def vSl(v:Value):Option (Nat×Nat×Nat):=match v with
 | .slice (some ⟨b,o,none⟩) n _=>some (b,o,n)
 |_=>none
theorem vSl_ok{v:Value}{b o n:Nat}(h:vSl v=some (b,o,n)): ∃c,v= .slice (some ⟨b,o,none⟩) n c:=by
 unfold vSl at h
 split at h<;>cases h
 exact⟨_,rfl⟩
def vNat(v:Value):Option Nat:=match v with
 | .int _ (.ofNat j)=>some j
 |_=>none
theorem vNat_ok{v:Value}{j:Nat}(h:vNat v=some j): ∃k,v= .int k (.ofNat j):=by
 unfold vNat at h
 split at h<;>cases h
 exact⟨_,rfl⟩
noncomputable def ob{α β:Type}(o:Option α)(K:α->Option β):Option β:=Option.rec (motive:=fun _=>Option β) none K o
theorem ob_ok{α β:Type}{o:Option α}{K:α->Option β}{r:β}(h:ob o K=some r): ∃a,o=some a/\K a=some r:=by
 cases o with
 |none=>cases h
 |some a=>exact⟨a,rfl,h⟩
noncomputable def ob2{α β γ:Type}(o:Option (α×β))(K:α->β->Option γ):Option γ:=Option.rec (motive:=fun _=>Option γ) none (fun p=>Prod.rec (motive:=fun _=>Option γ) K p) o
theorem ob2_ok{α β γ:Type}{o:Option (α×β)}{K:α->β->Option γ}{r:γ}(h:ob2 o K=some r): ∃a b,o=some (a,b)/\K a b=some r:=by
 cases o with
 |none=>cases h
 |some a=>exact⟨a.1,a.2,rfl,h⟩
noncomputable def ob3{α β γ δ:Type}(o:Option (α×β×γ))(K:α->β->γ->Option δ):Option δ:=Option.rec (motive:=fun _=>Option δ) none (fun p=>Prod.rec (motive:=fun _=>Option δ) (fun a q=>Prod.rec (motive:=fun _=>Option δ) (K a) q) p) o
theorem ob3_ok{α β γ δ:Type}{o:Option (α×β×γ)}{K:α->β->γ->Option δ}{r:δ}(h:ob3 o K=some r): ∃a b c,o=some (a,b,c)/\K a b c=some r:=by
 cases o with
 |none=>cases h
 |some a=>exact⟨a.1,a.2.1,a.2.2,rfl,h⟩
noncomputable def grd{α:Type}(b:Bool)(o:Option α):Option α:=Bool.rec (motive:=fun _=>Option α) none o b
theorem grd_ok{α:Type}{b:Bool}{o:Option α}{r:α}(h:grd b o=some r):b=true/\o=some r:=by
 cases b with
 |false=>cases h
 |true=>exact⟨rfl,h⟩
noncomputable def xFld(n:Nat)(x:Value):Option Value:=ob2 (vPtr x) fun b o=>addrK b (Nat.add o n)
noncomputable def xIdxS(sz:Nat)(x i:Value):Option Value:=ob3 (vSl x) fun b o n=>ob (vNat i) fun j=>grd (Nat.blt j n) (addrK b (Nat.add o (Nat.mul j sz)))
noncomputable def xIdxA(n sz:Nat)(x i:Value):Option Value:=ob2 (vPtr x) fun b o=>ob (vNat i) fun j=>grd (Nat.blt j n) (addrK b (Nat.add o (Nat.mul j sz)))
theorem xFld_ok{P:Program}{S:TypeId}{f n:Nat}(hs:fieldOff P S f=some n){x v:Value}(h:xFld n x=some v):afieldAddr P S x f=some v:=by
 obtain⟨b,o,h1,h2⟩:=ob2_ok h
 clear h
 cases vPtr_ok h1;rw[addrK_eq]at h2;cases h2;exact fieldAddr_of hs _ _
theorem xIdxS_ok{P:Program}{T:TypeId}{sz:Nat}(hs:sliceSz P T=some sz){x i v:Value}(h:xIdxS sz x i=some v):aindexAddr P T x i=some v:=by
 obtain⟨b,o,n,h1,h2⟩:=ob3_ok h;obtain⟨j,h3,h4⟩:=ob_ok h2;obtain⟨hlt,h5⟩:=grd_ok h4
 clear h h2 h4
 obtain⟨c,rfl⟩:=vSl_ok h1;obtain⟨k,rfl⟩:=vNat_ok h3;rw[addrK_eq]at h5;cases h5;rw[blt_eq]at hlt;exact indexAddr_of hs (by simp) (by simpa using hlt)
theorem xIdxA_ok{P:Program}{T:TypeId}{n sz:Nat}(hs:arrSz P T=some (n,sz)){x i v:Value}(h:xIdxA n sz x i=some v):aindexAddr P T x i=some v:=by
 obtain⟨b,o,h1,h2⟩:=ob2_ok h;obtain⟨j,h3,h4⟩:=ob_ok h2;obtain⟨hlt,h5⟩:=grd_ok h4
 clear h h2 h4
 cases vPtr_ok h1;obtain⟨k,rfl⟩:=vNat_ok h3;rw[addrK_eq]at h5;cases h5;rw[blt_eq]at hlt;exact arrAddr_of hs (by simp) (by simpa using hlt)
def rowC(o:AObj):Option (List Value):=match o with
 | .row _ _ cs=>some cs
 |_=>none
noncomputable def PH.cells(h:PH)(b:Nat):Option (List Value):=ob (h.raw b) rowC
theorem PH.cells_ok{h:PH}{b:Nat}{cs:List Value}(hc:h.cells b=some cs): ∃m esz,h.abs[b]?=some (.row m esz cs):=by
 obtain⟨o,h1,h2⟩:=ob_ok hc;unfold rowC at h2
 split at h2<;>cases h2
 obtain⟨m',hg⟩:=PH.raw_row h1;exact⟨m',_,hg⟩
noncomputable def xLd(x:Value)(h:PH):Option Value:=ob2 (vPtr x) fun b o=>ob (h.cells b) fun cs=>nth cs o
noncomputable def tkN(n:Nat):List Value->(List Value->Option Value)->Option Value:=
 Nat.rec (motive:=fun _=>List Value->(List Value->Option Value)->Option Value) (fun _ K=>K [])
  (fun _ ih l K=>List.rec (motive:=fun _=>Option Value) none (fun x xs _=>ih xs fun ys=>K (x::ys)) l) n
theorem tkN_ok{K:List Value->Option Value}{v:Value}{n:Nat}{l:List Value}(h:tkN n l K=some v):n<=l.length/\K (l.take n)=some v:=by
 induction n generalizing l K with
 |zero=>exact⟨Nat.zero_le _,by rw[List.take_zero];exact h⟩
 |succ n ih=>
  cases l with
  |nil=>cases h
  |cons x xs=>
   have h:tkN n xs (fun ys=>K (x::ys))=some v:=h;obtain⟨h1,h2⟩:=ih h;exact⟨by simpa using h1,by simpa using h2⟩
noncomputable def xLdA(n:Nat)(x:Value)(h:PH):Option Value:=ob2 (vPtr x) fun b o=>ob (h.cells b) fun cs=>tkN n (cs.drop o) fun ys=>some (.agg ⟨ys⟩)
theorem xLd_ok{P:Program}{T:TypeId}(hs:scal P T=true){x v:Value}{h:PH}(hl:xLd x h=some v):aload P T x h.abs=some v:=by
 obtain⟨b,o,h1,h2⟩:=ob2_ok hl;obtain⟨cs,h3,h4⟩:=ob_ok h2
 clear hl h2
 cases vPtr_ok h1;obtain⟨m,esz,hg⟩:=PH.cells_ok h3;rw[nth_eq]at h4;simp only[aload,hg,apart_scal hs,h4]
theorem xLdA_ok{P:Program}{T:TypeId}{n:Nat}(hs:aggSz P T=some n){x v:Value}{h:PH}(hn:0<n)(hl:xLdA n x h=some v):aload P T x h.abs=some v:=by
 obtain⟨b,o,h1,h2⟩:=ob2_ok hl;obtain⟨cs,h3,h4⟩:=ob_ok h2
 clear hl h2
 cases vPtr_ok h1;obtain⟨m,esz,hg⟩:=PH.cells_ok h3;obtain⟨h5,h6⟩:=tkN_ok h4;simp only[aload,hg];rw[apart_agg hs cs _ (by simp at h5;omega)];exact h6
def mro(m:Mode):Bool:=match m with
 | .ro=>true
 |_=>false
theorem mro_ok{m:Mode}(h:mro m=false):m≠ .ro:=by rintro rfl;simp[mro]at h
noncomputable def stK{α:Type}(cs:List Value):Nat->Value->(List Value->Option α)->Option α:=
 List.rec (motive:=fun _=>Nat->Value->(List Value->Option α)->Option α) (fun _ _ _=>none)
  (fun x xs ih i v K=>Nat.rec (motive:=fun _=>Option α) (K (v::xs)) (fun j _=>ih j v fun ys=>K (x::ys)) i) cs
theorem stK_ok{α:Type}{K:List Value->Option α}{r:α}{cs:List Value}{i:Nat}{v:Value}(h:stK cs i v K=some r):i<cs.length/\K (cs.set i v)=some r:=by
 induction cs generalizing i K with
 |nil=>cases h
 |cons x xs ih=>
  cases i with
  |zero=>exact⟨by simp,h⟩
  |succ i=>
   have h:stK xs i v (fun ys=>K (x::ys))=some r:=h;obtain⟨h1,h2⟩:=ih h;exact⟨by simpa using h1,h2⟩
noncomputable def stsK{α:Type}:List Value->Nat->List Value->(List Value->Option α)->Option α
 |cs,_,[],K=>K cs
 |cs,i,v::vs,K=>stK cs i v fun cs=>stsK cs (.succ i) vs K
theorem stsK_ok{α:Type}{K:List Value->Option α}{r:α}{vs cs:List Value}{i:Nat}(h:stsK cs i vs K=some r):(vs≠[]->i+vs.length<=cs.length)/\K (setsL cs i vs)=some r:=by
 induction vs generalizing cs i with
 |nil=>exact⟨fun h=>absurd rfl h,h⟩
 |cons v vs ih=>
  simp only[stsK]at h;obtain⟨h1,h2⟩:=stK_ok h;obtain⟨h3,h4⟩:=ih h2;refine⟨fun _=>?_,h4⟩
  by_cases hv:vs=[]
  ·subst hv;simp;omega
  ·have:=h3 hv;simp at this ⊢;omega
noncomputable def xSt1(x v:Value)(h:PH):R:=match x with
 | .pointer (some ⟨b,o,none⟩)=>match v.oneCell' with
  |true=>match h.get b with
   |some (.row m esz cs)=>match mro m with
    |false=>stK cs o v fun cs=>match h.set b (.row m esz cs)with
     |some h'=>some (undef,h')
     |none=>none
    |true=>none
   |_=>none
  |false=>none
 |_=>none
noncomputable def xStA(sz:Nat)(x v:Value)(h:PH):R:=match x with
 | .pointer (some ⟨b,o,none⟩)=>match v with
  | .agg ⟨vs⟩=>match Nat.beq vs.length sz with
   |true=>match oneCells vs with
    |true=>match h.get b with
     |some (.row m esz cs)=>match mro m with
      |false=>stsK cs o vs fun cs=>match h.set b (.row m esz cs)with
       |some h'=>some (undef,h')
       |none=>none
      |true=>none
     |_=>none
    |false=>none
   |false=>none
  |_=>none
 |_=>none
def infoSz(P:Program)(T:TypeId):Option Nat:=(P.info? T).map (·.size)
theorem oneCells_one{v:Value}(h:v.oneCell'=true):cellsL v=[v]:=by cases v<;>simp_all [Value.oneCell',cellsL]
theorem xSt1_ok{P:Program}{T:TypeId}(hs:infoSz P T=some 1){x v u:Value}{h h':PH}(hx:xSt1 x v h=some (u,h')):u=undef/\astore P T x v h.abs=some h'.abs:=by
 unfold xSt1 at hx
 split at hx<;>try (cases hx;done)
 split at hx<;>try (cases hx;done)
 split at hx<;>try (cases hx;done)
 split at hx<;>try (cases hx;done)
 rename_i b o _ h1 _ m esz cs hg _ hm;obtain⟨h2,h3⟩:=stK_ok hx
 split at h3<;>try (cases h3;done)
 rename_i h'' hset;cases h3;refine⟨rfl,?_⟩;unfold infoSz at hs;cases hi:P.info? T with
 |none=>simp[hi]at hs
 |some i=>
  simp only[hi,Option.map_some,Option.some.injEq]at hs;simp only[astore,hi,oneCells_one h1,PH.get_abs hg,hs,PH.set_abs hset];simp[oneCells,h1,mro_ok hm,setsL];omega
theorem xStA_ok{P:Program}{T:TypeId}{sz:Nat}(hs:infoSz P T=some sz)(hz:0<sz){x v u:Value}{h h':PH}(hx:xStA sz x v h=some (u,h')):u=undef/\astore P T x v h.abs=some h'.abs:=by
 unfold xStA at hx
 split at hx<;>try (cases hx;done)
 split at hx<;>try (cases hx;done)
 split at hx<;>try (cases hx;done)
 split at hx<;>try (cases hx;done)
 split at hx<;>try (cases hx;done)
 split at hx<;>try (cases hx;done)
 rename_i b o _ vs _ hl _ h1 _ m esz cs hg _ hm;obtain⟨h2,h3⟩:=stsK_ok hx
 split at h3<;>try (cases h3;done)
 rename_i h'' hset;cases h3;refine⟨rfl,?_⟩;have hl:=Nat.eq_of_beq_eq_true hl;unfold infoSz at hs;cases hi:P.info? T with
 |none=>simp[hi]at hs
 |some i=>
  simp only[hi,Option.map_some,Option.some.injEq]at hs;have hne:vs≠[]:=by rintro rfl;simp at hl;omega
  simp only[astore,hi,cellsL,PH.get_abs hg,hs,PH.set_abs hset,hl,h1];have:=h2 hne;simp[mro_ok hm];omega
def pnew(b:Nat):Value:=.pointer (some ⟨b,0,none⟩)
noncomputable def xNewP(cs:List Value)(h:PH):R:=match h.push (.row .own 1 cs)with
 |some h'=>some (.pointer (some ⟨h.n,0,none⟩),h')
 |none=>none
noncomputable def xBox(v:Value)(h:PH):R:=xNewP (cellsL v) h
def zcells(P:Program)(T:TypeId):Option (List Value):=match P.info? T with
 |some i=>match i.zero with
  |some z=>if plainV z then some (cellsL z)else none
  |none=>none
 |none=>none
noncomputable def xAlloc(zs:Option (List Value))(h:PH):R:=match zs with
 |some cs=>xNewP cs h
 |none=>none
theorem xNewP_ok{cs:List Value}{h h':PH}{v:Value}(hx:xNewP cs h=some (v,h')):v= .pointer (some ⟨h.abs.length,0,none⟩)/\h'.abs=h.abs++[.row .own 1 cs]:=by
 unfold xNewP at hx
 split at hx<;>try (cases hx;done)
 rename_i hp;cases hx;exact⟨by rw[PH.length],PH.push_abs hp⟩
theorem xBox_ok{v u:Value}{h h':PH}(hx:xBox v h=some (u,h')):abox v h.abs=some (u,h'.abs):=by
 obtain⟨h1,h2⟩:=xNewP_ok hx;simp[abox,h1,h2]
theorem xAlloc_ok{P:Program}{T:TypeId}{u:Value}{h h':PH}(hx:xAlloc (zcells P T) h=some (u,h')):aalloc P T h.abs=some (u,h'.abs):=by
 unfold xAlloc at hx
 split at hx<;>try (cases hx;done)
 rename_i cs hz;unfold zcells at hz
 split at hz<;>try (cases hz;done)
 split at hz<;>try (cases hz;done)
 split at hz<;>try (cases hz;done)
 rename_i i hi _ z hzz hp;cases hz;obtain⟨h1,h2⟩:=xNewP_ok hx;simp[aalloc,hi,hzz,hp,abox,h1,h2]
def zinfo(P:Program)(T:TypeId):Option (Nat×Nat×List Value):=match P.underlying T with
 |some (.slice e)=>match P.info? e with
  |some i=>match i.zero with
   |some z=>if plainV z&&decide ((cellsL z).length=i.size)then some (i.size,i.bytes,cellsL z)else none
   |none=>none
  |none=>none
 |_=>none
def zrows(z:List Value):Nat->List Value
 |0=>[]
 | .succ n=>z++zrows z n
theorem zrows_length(z:List Value)(n:Nat):(zrows z n).length=n*z.length:=by
 induction n with
 |zero=>simp[zrows]
 |succ n ih=>simp[zrows,ih,Nat.succ_mul];omega
theorem zrows_get(z:List Value)(n i:Nat)(hi:i<n*z.length):(zrows z n)[i]?=z[i % z.length]?:=by
 induction n generalizing i with
 |zero=>simp at hi
 |succ n ih=>
  simp only[zrows]
  by_cases h:i<z.length
  ·rw[List.getElem?_append_left h,Nat.mod_eq_of_lt h]
  ·rw[List.getElem?_append_right (by omega),ih _ (by rw[Nat.succ_mul]at hi;omega)];rw[Nat.mod_eq_sub_mod (a:=i) (b:=z.length) (by omega)]
theorem zrows_eq(z:List Value)(n:Nat):zrow z (n*z.length)=zrows z n:=by
 apply List.ext_getElem?
 intro i
 by_cases hi:i<n*z.length
 ·rw[zrows_get z n i hi];have hz:0<z.length:=by
   rcases Nat.eq_zero_or_pos z.length with h|h
   ·rw[h]at hi;simp at hi
   ·exact h
  simp[zrow,List.getElem?_range hi,List.getD_eq_getElem?_getD,List.getElem?_eq_getElem (Nat.mod_lt i hz)]
 ·rw[List.getElem?_eq_none (by simp[zrow];omega),List.getElem?_eq_none (by rw[zrows_length];omega)]
noncomputable def xMk(zi:Option (Nat×Nat×List Value))(l c:Value)(h:PH):R:=match zi with
 |some (sz,bt,z)=>match l with
  | .int _ (.ofNat l)=>match c with
   | .int _ (.ofNat c)=>match Nat.ble l c with
    |true=>match Nat.ble c 4611686018427387903 with
     |true=>match Nat.ble (Nat.mul bt c) 281474976710656 with
      |true=>match h.push (.row .own sz (zrows z c))with
       |some h'=>some (.slice (some ⟨h.n,0,none⟩) l c,h')
       |none=>none
      |false=>none
     |false=>none
    |false=>none
   |_=>none
  |_=>none
 |none=>none
theorem xMk_ok{P:Program}{T:TypeId}{l c u:Value}{h h':PH}(hx:xMk (zinfo P T) l c h=some (u,h')):amakeSlice P T l c h.abs=some (u,h'.abs):=by
 unfold xMk at hx
 split at hx<;>try (cases hx;done)
 rename_i sz bt z hz
 split at hx<;>try (cases hx;done)
 split at hx<;>try (cases hx;done)
 split at hx<;>try (cases hx;done)
 split at hx<;>try (cases hx;done)
 split at hx<;>try (cases hx;done)
 split at hx<;>try (cases hx;done)
 rename_i k l k' c _ h1 _ h2 _ h3 _ h'' hp;cases hx;unfold zinfo at hz
 split at hz<;>try (cases hz;done)
 split at hz<;>try (cases hz;done)
 split at hz<;>try (cases hz;done)
 split at hz<;>try (cases hz;done)
 rename_i e hu _ i hi _ zz hzz hc;cases hz;simp only[Bool.and_eq_true,decide_eq_true_eq]at hc;have h1:=Nat.le_of_ble_eq_true h1;have h2:=Nat.le_of_ble_eq_true h2;have h3:i.bytes*c<=281474976710656:=Nat.le_of_ble_eq_true h3;have h3':(i.bytes:Int)*(c:Int)<=281474976710656:=by
  rw[<-Int.natCast_mul];omega
 unfold amakeSlice;simp only[hu,hi,hzz,hc.1,hc.2,Int.ofNat_eq_natCast,Int.toNat_natCast,PH.push_abs hp,PH.length];rw[<-zrows_eq,hc.2];simp[h1,h3'];omega
noncomputable def tkA{α:Type}(n:Nat):List Value->List Value->(List Value->Option α)->Option α:=
 Nat.rec (motive:=fun _=>List Value->List Value->(List Value->Option α)->Option α) (fun _ tl K=>K tl)
  (fun _ ih l tl K=>List.rec (motive:=fun _=>Option α) none (fun x xs _=>ih xs tl fun ys=>K (x::ys)) l) n
theorem tkA_ok{α:Type}{K:List Value->Option α}{r:α}{n:Nat}{l tl:List Value}(h:tkA n l tl K=some r):n<=l.length/\K (l.take n++tl)=some r:=by
 induction n generalizing l K with
 |zero=>exact⟨Nat.zero_le _,by rw[List.take_zero];exact h⟩
 |succ n ih=>
  cases l with
  |nil=>cases h
  |cons x xs=>
   have h:tkA n xs tl (fun ys=>K (x::ys))=some r:=h;obtain⟨h1,h2⟩:=ih h;exact⟨by simpa using h1,by simpa using h2⟩
def bsRow(P:Program)(T:TypeId)(len:Nat)(parts:List (Nat×Value)):Option (Nat×List Value):=
 match P.underlying T with
 |some (.slice e)=>match P.info? e with
  |some i=>match i.zero with
   |some z=>
    if plainV z&&(decide (len=0)||decide (0<len*i.size))&&decide (len*i.size<=2 ^ 24)&&decide ((cellsL z).length=i.size)then
     match afill (fun j=>some (j*i.size,i.size)) (zrow (cellsL z) (len*i.size)) parts with
     |some cs=>some (i.size,cs)
     |none=>none
    else none
   |none=>none
  |none=>none
 |_=>none
noncomputable def xBS(len:Nat)(row:Option (Nat×List Value))(h:PH):R:=match row with
 |some (sz,cs)=>match h.push (.row .own sz cs)with
  |some h'=>some (.slice (some ⟨h.n,0,none⟩) len len,h')
  |none=>none
 |none=>none
theorem xBS_ok{P:Program}{T:TypeId}{len:Nat}{parts:List (Nat×Value)}{u:Value}{h h':PH}(hx:xBS len (bsRow P T len parts) h=some (u,h')):abuildSlice P T len parts h.abs=some (u,h'.abs):=by
 unfold xBS at hx
 split at hx<;>try (cases hx;done)
 rename_i sz cs hr
 split at hx<;>try (cases hx;done)
 rename_i h'' hp;cases hx;unfold bsRow at hr;unfold abuildSlice
 split at hr<;>try (cases hr;done)
 split at hr<;>try (cases hr;done)
 split at hr<;>try (cases hr;done)
 split at hr<;>try (cases hr;done)
 split at hr<;>try (cases hr;done)
 rename_i e hu _ i hi _ z hz hc _ cs' hf;cases hr;simp only[hu,hi,hz,hc,hf,if_true,PH.push_abs hp,PH.length]
noncomputable def ptail(size:Nat)(x:Value)(h:PH):Option (Nat×List Value):=
 match x with
 | .slice none 0 _=>some (0,[])
 | .slice (some ⟨b,o,none⟩) n _=>match h.raw b with
  |some (.row _ _ cs)=>tkA (Nat.mul n size) (cs.drop o) [] fun l=>match Nat.ble (Nat.add o (Nat.mul n size)) cs.length with
   |true=>some (n,l)
   |false=>none
  |_=>match Nat.beq n 0 with
   |true=>some (0,[])
   |false=>none
 | .string s=>match Nat.beq size 1 with
  |true=>some (s.size,s.data.toList.map fun b=>.int .u8 b.toNat)
  |false=>none
 |_=>none
theorem ptail_ok{size:Nat}{x:Value}{h:PH}{r:Nat×List Value}(hp:ptail size x h=some r):atail size x h.abs=some r:=by
 unfold ptail at hp;unfold atail
 split at hp
 ·exact hp
 ·split at hp
  ·rename_i hg;obtain⟨h1,h2⟩:=tkA_ok hp
   split at h2<;>try (cases h2;done)
   rename_i hle;have hle:=Nat.le_of_ble_eq_true hle;cases h2;obtain⟨m',hg⟩:=PH.raw_row hg;simp only[hg]
   split
   ·rename_i hz;subst hz;simp
   refine(if_pos hle).trans ?_;simp
  ·split at hp<;>try (cases hp;done)
   rename_i hz;cases hp;dsimp only;rw[if_pos (Nat.eq_of_beq_eq_true hz)]
 ·split at hp<;>try (cases hp;done)
  rename_i hb;dsimp only;rw[if_pos (Nat.eq_of_beq_eq_true hb)];exact hp
 ·cases hp
def appInfo(P:Program)(ats:Array TypeId):Option (Nat×Nat):=
 match ats[0]?,ats[1]? with
 |some sT,some xT=>match P.underlying sT,P.underlying xT with
  |some (.slice e),some xd=>match P.info? e with
   |none=>none
   |some i=>match i.zero with
    |none=>none
    |some z=>if isIntD xd||decide (i.size=0)||decide (i.bytes=0)||decide ((cellsL z).length≠i.size)then none else some (i.size,i.bytes)
  |_,_=>none
 |_,_=>none
def modn(m:Mode):Bool:=match m with
 | .opn=>true
 |_=>false
noncomputable def PH.ln(h:PH)(b:Nat):Nat:=match h.br.getP b with
 |some p=>p.len
 |none=>0
theorem PH.get_P{h:PH}{b:Nat}{m:Mode}{e:Nat}{cs:List Value}(hg:h.get b=some (.row m e cs)): ∃p,h.br.getP b=some p/\p.cells=cs/\h.ln b=cs.length:=by
 unfold PH.get at hg
 split at hg<;>try (cases hg;done)
 rename_i o hr;have h2:=(PH.raw_ok hr).2;unfold Br.get optA at h2
 split at h2<;>cases h2
 rename_i p hp;have hc:p.cells=cs:=by
  split at hg
  ·generalize hq:p.toA=q at hg;cases q with
   |row m' e' cs'=>simp only[freeze,Option.some.injEq,AObj.row.injEq]at hg;rw[PObj.toA_cells hq];exact hg.2.2
   |_=>simp[freeze]at hg
  ·generalize hq:p.toA=q at hg;cases hg;exact PObj.toA_cells hq
 refine⟨p,hp,hc,?_⟩;unfold PH.ln;rw[hp];dsimp only;rw[PObj.len_eq,hc]
noncomputable def growH(sz b k o:Nat)(cs new:List Value)(h:PH):Option PH:=match o with
 |0=>match h.br.getP b with
  |some p=>seqN k fun k=>h.pushP (.cat p k new sz)
  |none=>none
 | .succ o=>tkA k (cs.drop (.succ o)) new fun cs'=>h.push (.row .opn sz cs')
noncomputable def growR(sz b k o:Nat)(kill:Bool)(cs new:List Value)(n:Nat)(h:PH):R:=
 match growH sz b k o cs new h with
 |some h'=>match kill with
  |true=>match h'.set b .dead with
   |some h''=>seqN n fun n=>some (.slice (some ⟨h.n,0,none⟩) n openCap,h'')
   |none=>none
  |false=>seqN n fun n=>some (.slice (some ⟨h.n,0,none⟩) n openCap,h')
 |none=>none
theorem growH_ok{sz b k o:Nat}{cs new:List Value}{h h':PH}(hg: ∃p,h.br.getP b=some p/\p.cells=cs)(hx:growH sz b k o cs new h=some h'):h'.abs=h.abs++[.row .opn sz ((cs.drop o).take k++new)]:=by
 obtain⟨p,hp,hc⟩:=hg;unfold growH at hx
 split at hx
 ·rw[hp]at hx;dsimp only at hx;rw[seqN_eq]at hx;rw[PH.pushP_abs hx,PObj.toA_cat,hc,List.drop_zero]
 ·obtain⟨h1,h2⟩:=tkA_ok hx;exact PH.push_abs h2
theorem growH_inv{sz b k o:Nat}{cs new:List Value}{h h':PH}(hx:growH sz b k o cs new h=some h'):Inv h h':=by
 unfold growH at hx
 split at hx
 ·split at hx<;>try (cases hx;done)
  rw[seqN_eq]at hx;exact PH.pushP_inv hx rfl
 ·obtain⟨h1,h2⟩:=tkA_ok hx;exact PH.push_inv h2 rfl
noncomputable def stayR(b o sz sLen sCap n:Nat)(m:Mode)(esz:Nat)(cs new:List Value)(h:PH):R:=
 stsK cs (Nat.add o (Nat.mul sLen sz)) new fun cs'=>match h.set b (.row m esz cs')with
  |some h'=>seqN (Nat.add sLen n) fun k=>some (.slice (some ⟨b,o,none⟩) k sCap,h')
  |none=>none
noncomputable def xApp(ai:Option (Nat×Nat))(s x:Value)(h:PH):R:=match ai with
 |none=>none
 |some (sz,bt)=>match ptail sz x h with
  |none=>none
  |some (n,new)=>match oneCells new with
   |false=>none
   |true=>match s with
    | .slice none 0 0=>match Nat.beq n 0 with
     |true=>some (.slice none 0 0,h)
     |false=>match Nat.ble (Nat.mul (Nat.add (Nat.mul 2 n) 512) bt) 281474976710656 with
      |true=>match h.push (.row .opn sz new)with
       |some h'=>some (.slice (some ⟨h.n,0,none⟩) n openCap,h')
       |none=>none
      |false=>none
    | .slice (some ⟨b,o,none⟩) sLen sCap=>match Nat.beq n 0 with
     |true=>match Nat.ble sLen sCap with
      |true=>some (.slice (some ⟨b,o,none⟩) sLen sCap,h)
      |false=>none
     |false=>match Nat.ble (Nat.mul (Nat.add (Nat.mul 2 (Nat.add sLen n)) 512) bt) 281474976710656 with
      |false=>none
      |true=>match h.get b with
       |some (.row m esz cs)=>match Nat.ble (Nat.add o (Nat.mul sLen sz)) (h.ln b)with
        |false=>none
        |true=>match Nat.blt sCap 4611686018427387904 with
         |true=>match Nat.ble (Nat.add sLen n) sCap with
          |true=>match mro m with
           |true=>none
           |false=>match Nat.ble (Nat.add o (Nat.mul (Nat.add sLen n) sz)) (h.ln b)with
            |true=>stayR b o sz sLen sCap n m esz cs new h
            |false=>none
          |false=>growR sz b (Nat.mul sLen sz) o false cs new (Nat.add sLen n) h
         |false=>match modn m with
          |false=>none
          |true=>match Nat.beq esz sz with
           |false=>none
           |true=>match Nat.ble sCap openCap with
            |false=>none
            |true=>match Nat.beq (Nat.mul (Nat.sub openCap sCap) sz) o with
             |false=>none
             |true=>match Nat.ble (Nat.add o (Nat.mul (Nat.add sLen n) sz)) (h.ln b)with
              |true=>stayR b o sz sLen sCap n m esz cs new h
              |false=>growR sz b (Nat.mul sLen sz) o true cs new (Nat.add sLen n) h
       |_=>none
    |_=>none
theorem growR_ok{sz b k o n:Nat}{kill:Bool}{cs new:List Value}{h h':PH}{v:Value}(hg: ∃p,h.br.getP b=some p/\p.cells=cs)(hx:growR sz b k o kill cs new n h=some (v,h')):
  v= .slice (some ⟨h.abs.length,0,none⟩) n openCap/\h'.abs=(if kill then List.set (h.abs++[.row .opn sz ((cs.drop o).take k++new)]) b .dead else h.abs++[.row .opn sz ((cs.drop o).take k++new)]):=by
 unfold growR at hx
 split at hx<;>try (cases hx;done)
 rename_i h1' hp;have hp:=growH_ok hg hp;rw[PH.length];cases kill with
 |true=>
  dsimp only at hx
  split at hx<;>try (cases hx;done)
  rename_i h2' hs;rw[seqN_eq]at hx;cases hx;exact⟨rfl,by simp[PH.set_abs hs,hp]⟩
 |false=>
  dsimp only at hx;rw[seqN_eq]at hx;cases hx;exact⟨rfl,by simp[hp]⟩
theorem stayR_ok{b o sz sLen sCap n esz:Nat}{m:Mode}{cs new:List Value}{h h':PH}{v:Value}(hx:stayR b o sz sLen sCap n m esz cs new h=some (v,h')):
  v= .slice (some ⟨b,o,none⟩) (sLen+n) sCap/\h'.abs=h.abs.set b (.row m esz (setsL cs (o+sLen*sz) new)):=by
 unfold stayR at hx;obtain⟨h1,h2⟩:=stsK_ok hx
 split at h2<;>try (cases h2;done)
 rename_i h' hs;rw[seqN_eq]at h2;cases h2;exact⟨rfl,PH.set_abs hs⟩
theorem xApp_ok{P:Program}{ats:Array TypeId}{s x u:Value}{h h':PH}(hx:xApp (appInfo P ats) s x h=some (u,h')):aappend P ats [s,x] h.abs=some (u,h'.abs):=by
 unfold xApp at hx
 split at hx
 ·cases hx
 rename_i sz bt hai;unfold appInfo at hai
 split at hai<;>try (cases hai;done)
 rename_i sT xT h0 h1
 split at hai<;>try (cases hai;done)
 rename_i e xd hu hux
 split at hai<;>try (cases hai;done)
 rename_i i hi
 split at hai<;>try (cases hai;done)
 rename_i z hz
 split at hai
 ·cases hai
 rename_i hcond;cases hai
 split at hx
 ·cases hx
 rename_i n new ht
 split at hx
 ·cases hx
 rename_i hone;have ht:=ptail_ok ht;unfold aappend;simp only[h0,h1,hu,hux,hi,hz];rw[if_neg hcond];simp only[ht,hone,Bool.not_true,Bool.false_eq_true,if_false]
 split at hx
 ·try dsimp only
  split at hx
  ·rename_i hn;rw[if_pos (Nat.eq_of_beq_eq_true hn)];cases hx;rfl
  ·rename_i hn;rw[if_neg (Nat.ne_of_beq_eq_false hn)]
   split at hx<;>try (cases hx;done)
   rename_i hle;have hle:(2*n+512)*i.bytes<=2 ^ 48:=Nat.le_of_ble_eq_true hle;rw[if_pos hle]
   split at hx<;>try (cases hx;done)
   rename_i hp;cases hx;simp only[PH.push_abs hp,PH.length]
 ·rename_i b o sLen sCap
  try dsimp only
  split at hx
  ·rename_i hn
   split at hx<;>try (cases hx;done)
   rename_i hle;rw[if_pos ⟨Nat.eq_of_beq_eq_true hn,Nat.le_of_ble_eq_true hle⟩];cases hx;rfl
  ·rename_i hn;rw[if_neg (fun c=>Nat.ne_of_beq_eq_false hn c.1)]
   split at hx
   ·cases hx
   rename_i hle;have hle:(2*(sLen+n)+512)*i.bytes<=2 ^ 48:=Nat.le_of_ble_eq_true hle;rw[if_neg (fun c=>c hle)]
   split at hx<;>try (cases hx;done)
   rename_i m esz cs hg;obtain⟨p,hp1,hp2,hln⟩:=PH.get_P hg;have hgp: ∃p,h.br.getP b=some p/\p.cells=cs:=⟨p,hp1,hp2⟩;rw[hln]at hx;simp only[PH.get_abs hg]
   split at hx
   ·cases hx
   rename_i hlen;rw[if_pos (show o+sLen*i.size<=cs.length from Nat.le_of_ble_eq_true hlen)]
   split at hx
   ·rename_i hcap;rw[if_pos (show sCap<4611686018427387904 from Nat.le_of_ble_eq_true hcap)]
    split at hx
    ·rename_i hin;rw[if_pos (show sLen+n<=sCap from Nat.le_of_ble_eq_true hin)]
     split at hx
     ·cases hx
     rename_i hm
     split at hx<;>try (cases hx;done)
     rename_i hin2;rw[if_pos ⟨mro_ok hm,Nat.le_of_ble_eq_true hin2⟩];obtain⟨rfl,h2⟩:=stayR_ok hx;rw[h2]
    ·rename_i hin;rw[if_neg (fun c:sLen+n<=sCap=>by have:=Nat.ble_eq_true_of_le c;exact absurd (this.symm.trans hin) (by simp))];obtain⟨rfl,h2⟩:=growR_ok hgp hx;rw[h2]
     rfl
   ·rename_i hcap;rw[if_neg (fun c:sCap<4611686018427387904=>by have:=Nat.ble_eq_true_of_le c;exact absurd (this.symm.trans hcap) (by simp))]
    split at hx
    ·cases hx
    rename_i hm
    split at hx
    ·cases hx
    rename_i he
    split at hx
    ·cases hx
    rename_i hoc
    split at hx
    ·cases hx
    rename_i ho;have hm':m= .opn:=by cases m<;>simp_all [modn]
    rw[if_pos ⟨hm',Nat.eq_of_beq_eq_true he,Nat.le_of_ble_eq_true hoc,Nat.eq_of_beq_eq_true ho⟩]
    split at hx
    ·rename_i hin2;rw[if_pos (show o+(sLen+n)*i.size<=cs.length from Nat.le_of_ble_eq_true hin2)];obtain⟨rfl,h2⟩:=stayR_ok hx;rw[h2]
    ·rename_i hin2;rw[if_neg (fun c:o+(sLen+n)*i.size<=cs.length=>by have:=Nat.ble_eq_true_of_le c;exact absurd (this.symm.trans hin2) (by simp))];obtain⟨rfl,h2⟩:=growR_ok hgp hx;rw[h2]
     rfl
 ·cases hx
end Go.Am
