import Derived.Orders
import Derived.Below
import Derived.Laws.Cells
import Derived.Laws.BytesString
import Derived.Laws.IdiomCopy
import Derived.Laws.Externs
set_option linter.unusedVariables false
namespace Go.Am
open Go Go.RowKit
def Glob(_:Nat)(_:World):Prop:=True
theorem Glob.next{B:Nat}{w0 w:World}(g:Glob B w0)(hb:Below B w0 w)(hs:B<=w.heap.size):Glob w.heap.size w:=trivial
end Go.Am
set_option linter.unusedSimpArgs false
namespace Go.Am
open Go
structure RLoc where
 blk:Nat
 off:Nat
 cap:Nat
abbrev RMap:=Nat->Option RLoc
def openCap:Nat:=9223372036854775808
mutual
inductive VR(ρ:RMap):Value->Value->Prop
 |bool (b:Bool):VR ρ (.bool b) (.bool b)
 |int (k:IntKind) (n:Int):VR ρ (.int k n) (.int k n)
 |string (s:ByteArray):VR ρ (.string s) (.string s)
 |pnil:VR ρ (.pointer none) (.pointer none)
 |ptr {b o:Nat} {L:RLoc} (h:ρ b=some L):VR ρ (.pointer (some ⟨b,o,none⟩)) (.pointer (some ⟨L.blk,L.off+o,none⟩))
 |snil (n c:Nat):VR ρ (.slice none n c) (.slice none n c)
 |sl {b o n c:Nat} {L:RLoc} (h:ρ b=some L) (hc:c<4611686018427387904):VR ρ (.slice (some ⟨b,o,none⟩) n c) (.slice (some ⟨L.blk,L.off+o,none⟩) n c)
 |slo {b o n c c':Nat} {L:RLoc} (h:ρ b=some L) (hc:4611686018427387904<=c) (he:c'+openCap=c+L.cap) (hn:n<=c'):
   VR ρ (.slice (some ⟨b,o,none⟩) n c) (.slice (some ⟨L.blk,L.off+o,none⟩) n c')
 |slz {b o c:Nat} {L:RLoc} {a:Addr} (h:ρ b=some L) (hc:4611686018427387904<=c) (he:openCap=c+L.cap):VR ρ (.slice (some ⟨b,o,none⟩) 0 c) (.slice (some a) 0 0)
 |sl0 {b o:Nat} {L:RLoc} {a:Addr} (h:ρ b=some L):VR ρ (.slice (some ⟨b,o,none⟩) 0 0) (.slice (some a) 0 0)
 |mnil:VR ρ (.map none) (.map none)
 |map {b:Nat} {L:RLoc} (h:ρ b=some L):VR ρ (.map (some b)) (.map (some L.blk))
 |func {fn:Fn} {xs ys us vs:List Value}:VRs ρ xs ys->VRs ρ us vs->VR ρ (.func fn ⟨xs⟩ ⟨us⟩) (.func fn ⟨ys⟩ ⟨vs⟩)
 |nilFunc:VR ρ .nilFunc .nilFunc
 |nilIface:VR ρ .nilIface .nilIface
 |iface {t:TypeId} {x y:Value}:VR ρ x y->VR ρ (.iface t x) (.iface t y)
 |agg {xs ys:List Value}:VRs ρ xs ys->VR ρ (.agg ⟨xs⟩) (.agg ⟨ys⟩)
 |tuple {xs ys:List Value}:VRs ρ xs ys->VR ρ (.tuple ⟨xs⟩) (.tuple ⟨ys⟩)
inductive VRs(ρ:RMap):List Value->List Value->Prop
 |nil:VRs ρ [] []
 |cons {x y:Value} {xs ys:List Value}:VR ρ x y->VRs ρ xs ys->VRs ρ (x::xs) (y::ys)
end
def RMap.le(ρ ρ':RMap):Prop:= ∀b L,ρ b=some L->ρ' b=some L
theorem RMap.le_refl(ρ:RMap):ρ.le ρ:=fun _ _ h=>h
theorem RMap.le_trans{ρ ρ' ρ'':RMap}(h:ρ.le ρ')(h':ρ'.le ρ''):ρ.le ρ'':=fun b L e=>h' b L (h b L e)
mutual
theorem VR.mono{ρ ρ':RMap}(hl:ρ.le ρ'): ∀{x y:Value},VR ρ x y->VR ρ' x y
 |_,_,.bool b=>.bool b
 |_,_,.int k n=>.int k n
 |_,_,.string s=>.string s
 |_,_,.pnil=>.pnil
 |_,_,.ptr h=>.ptr (hl _ _ h)
 |_,_,.snil n c=>.snil n c
 |_,_,.sl h hc=>.sl (hl _ _ h) hc
 |_,_,.slo h hc he hn=>.slo (hl _ _ h) hc he hn
 |_,_,.slz h hc he=>.slz (hl _ _ h) hc he
 |_,_,.sl0 h=>.sl0 (hl _ _ h)
 |_,_,.mnil=>.mnil
 |_,_,.map h=>.map (hl _ _ h)
 |_,_,.func h1 h2=>.func (VRs.mono hl h1) (VRs.mono hl h2)
 |_,_,.nilFunc=>.nilFunc
 |_,_,.nilIface=>.nilIface
 |_,_,.iface h=>.iface (VR.mono hl h)
 |_,_,.agg h=>.agg (VRs.mono hl h)
 |_,_,.tuple h=>.tuple (VRs.mono hl h)
theorem VRs.mono{ρ ρ':RMap}(hl:ρ.le ρ'): ∀{x y:List Value},VRs ρ x y->VRs ρ' x y
 |_,_,.nil=>.nil
 |_,_,.cons h1 h2=>.cons (VR.mono hl h1) (VRs.mono hl h2)
end
section
variable {ρ:RMap}
theorem VRs.length{xs ys:List Value}(h:VRs ρ xs ys):xs.length=ys.length:=by
 induction xs generalizing ys with
 |nil=>cases h;rfl
 |cons x xs ih=>cases h with|cons h1 h2=>simp[ih h2]
theorem VRs.get{xs ys:List Value}(h:VRs ρ xs ys){i:Nat}{v:Value}(hi:xs[i]?=some v): ∃v',ys[i]?=some v'/\VR ρ v v':=by
 induction xs generalizing ys i with
 |nil=>simp at hi
 |cons x xs ih=>
  cases h with
  |cons h1 h2=>
   cases i with
   |zero=>simp at hi;subst hi;exact⟨_,by simp,h1⟩
   |succ i=>simp at hi;simpa using ih h2 hi
theorem VRs.getBack{xs ys:List Value}(h:VRs ρ xs ys){i:Nat}{v':Value}(hi:ys[i]?=some v'): ∃v,xs[i]?=some v/\VR ρ v v':=by
 induction xs generalizing ys i with
 |nil=>cases h;simp at hi
 |cons x xs ih=>
  cases h with
  |cons h1 h2=>
   cases i with
   |zero=>simp at hi;subst hi;exact⟨_,by simp,h1⟩
   |succ i=>simp at hi;simpa using ih h2 hi
theorem VRs.set{xs ys:List Value}(h:VRs ρ xs ys){v v':Value}(hv:VR ρ v v')(i:Nat):VRs ρ (xs.set i v) (ys.set i v'):=by
 induction xs generalizing ys i with
 |nil=>cases h;simp;exact .nil
 |cons x xs ih=>
  cases h with
  |cons h1 h2=>
   cases i with
   |zero=>exact .cons hv h2
   |succ i=>exact .cons h1 (ih h2 i)
theorem VRs.append{xs ys us vs:List Value}(h:VRs ρ xs ys)(h':VRs ρ us vs):VRs ρ (xs++us) (ys++vs):=by
 induction xs generalizing ys with
 |nil=>cases h;simpa using h'
 |cons x xs ih=>cases h with|cons h1 h2=>exact .cons h1 (ih h2)
theorem VRs.take{xs ys:List Value}(h:VRs ρ xs ys)(n:Nat):VRs ρ (xs.take n) (ys.take n):=by
 induction xs generalizing ys n with
 |nil=>cases h;simp;exact .nil
 |cons x xs ih=>
  cases h with
  |cons h1 h2=>
   cases n with
   |zero=>simp;exact .nil
   |succ n=>exact .cons h1 (ih h2 n)
theorem VRs.drop{xs ys:List Value}(h:VRs ρ xs ys)(n:Nat):VRs ρ (xs.drop n) (ys.drop n):=by
 induction xs generalizing ys n with
 |nil=>cases h;simp;exact .nil
 |cons x xs ih=>
  cases h with
  |cons h1 h2=>
   cases n with
   |zero=>exact .cons h1 h2
   |succ n=>simpa using ih h2 n
theorem VR.undef:VR ρ undef undef:=.tuple .nil
end
def plainV:Value->Bool
 | .bool _| .int _ _| .string _| .pointer none| .slice none _ _| .map none| .nilFunc| .nilIface=>true
 | .agg ⟨xs⟩| .tuple ⟨xs⟩=>plainVs xs
 | .iface _ x=>plainV x
 |_=>false
where
 plainVs:List Value->Bool
 | []=>true
 |x::xs=>plainV x&&plainVs xs
mutual
theorem VR.plain{ρ:RMap}: ∀{x:Value},plainV x=true->VR ρ x x
 | .bool b,_=>.bool b
 | .int k n,_=>.int k n
 | .string s,_=>.string s
 | .pointer none,_=>.pnil
 | .slice none n c,_=>.snil n c
 | .map none,_=>.mnil
 | .nilFunc,_=>.nilFunc
 | .nilIface,_=>.nilIface
 | .agg ⟨xs⟩,h=>.agg (VRs.plain (by simpa[plainV]using h))
 | .tuple ⟨xs⟩,h=>.tuple (VRs.plain (by simpa[plainV]using h))
 | .iface t x,h=>.iface (VR.plain (by simpa[plainV]using h))
 | .pointer (some _),h=>by simp[plainV]at h
 | .slice (some _) _ _,h=>by simp[plainV]at h
 | .map (some _),h=>by simp[plainV]at h
 | .float _ _,h=>by simp[plainV]at h
 | .complex _ _ _,h=>by simp[plainV]at h
 | .chan _,h=>by simp[plainV]at h
 | .func _ _ _,h=>by simp[plainV]at h
theorem VRs.plain{ρ:RMap}: ∀{xs:List Value},plainV.plainVs xs=true->VRs ρ xs xs
 | [],_=>.nil
 |x::xs,h=>by
  simp[plainV.plainVs]at h;exact .cons (VR.plain h.1) (VRs.plain h.2)
end
mutual
theorem VR.plain_eq{ρ:RMap}: ∀{x y:Value},VR ρ x y->plainV x=true->y=x
 |_,_,.bool b,_=>rfl
 |_,_,.int k n,_=>rfl
 |_,_,.string s,_=>rfl
 |_,_,.pnil,_=>rfl
 |_,_,.ptr h,hp=>by simp[plainV]at hp
 |_,_,.snil n c,_=>rfl
 |_,_,.sl h hc,hp=>by simp[plainV]at hp
 |_,_,.slo h hc he hn,hp=>by simp[plainV]at hp
 |_,_,.slz h hc he,hp=>by simp[plainV]at hp
 |_,_,.sl0 h,hp=>by simp[plainV]at hp
 |_,_,.mnil,_=>rfl
 |_,_,.map h,hp=>by simp[plainV]at hp
 |_,_,.func h1 h2,hp=>by simp[plainV]at hp
 |_,_,.nilFunc,_=>rfl
 |_,_,.nilIface,_=>rfl
 |_,_,.iface h,hp=>by rw[VR.plain_eq h (by simpa[plainV]using hp)]
 |_,_,.agg h,hp=>by rw[VRs.plain_eq h (by simpa[plainV]using hp)]
 |_,_,.tuple h,hp=>by rw[VRs.plain_eq h (by simpa[plainV]using hp)]
theorem VRs.plain_eq{ρ:RMap}: ∀{x y:List Value},VRs ρ x y->plainV.plainVs x=true->y=x
 |_,_,.nil,_=>rfl
 |_,_,.cons h1 h2,hp=>by
  simp[plainV.plainVs]at hp;rw[VR.plain_eq h1 hp.1,VRs.plain_eq h2 hp.2]
end
abbrev Tm:=List (Option Value)
structure TRs(ρ:RMap)(t:Tm)(ts:List Value):Prop where
 len:t.length=ts.length
 get: ∀(i:Nat) v,t[i]?=some (some v)-> ∃v',ts[i]?=some v'/\VR ρ v v'
theorem TRs.mono{ρ ρ':RMap}(hl:ρ.le ρ'){t:Tm}{ts:List Value}(h:TRs ρ t ts):TRs ρ' t ts:=
 ⟨h.len,fun i v hv=>let⟨v',h1,h2⟩:=h.get i v hv;⟨v',h1,h2.mono hl⟩⟩
theorem TRs.set{ρ:RMap}{t:Tm}{ts:List Value}(h:TRs ρ t ts){v v':Value}(hv:VR ρ v v')(d:Nat):TRs ρ (t.set d (some v)) (ts.set d v'):=by
 refine⟨by simp[h.len],fun i u hu=>?_⟩
 by_cases hid:d=i
 ·subst hid;have hlt:d<t.length:=by
   have:=(List.getElem?_eq_some_iff.1 hu).1;simpa using this
  rw[List.getElem?_set_self hlt]at hu;cases hu;exact⟨v',by rw[List.getElem?_set_self (by rw[<-h.len];exact hlt)],hv⟩
 ·rw[List.getElem?_set_ne hid]at hu ⊢;exact h.get i u hu
theorem TRs.weak{ρ:RMap}{t t':Tm}{ts:List Value}(h:TRs ρ t ts)(hl:t'.length=t.length)(hs: ∀(i:Nat) v,t'[i]?=some (some v)->t[i]?=some (some v)):TRs ρ t' ts:=
 ⟨hl.trans h.len,fun i v hv=>h.get i v (hs i v hv)⟩
theorem TRs.of{ρ:RMap}{xs ys:List Value}(h:VRs ρ xs ys)(n:Nat)(zs:List Value)(hz:zs.length=n):TRs ρ (xs.map some++List.replicate n none) (ys++zs):=by
 refine⟨by simp[h.length,hz],fun i v hv=>?_⟩
 by_cases hi:i<xs.length
 ·rw[List.getElem?_append_left (by simpa using hi)]at hv;simp only[List.getElem?_map,Option.map_eq_some_iff,Option.some.injEq,exists_eq_right]at hv;obtain⟨v',h1,h2⟩:=h.get hv;exact⟨v',by rw[List.getElem?_append_left (by rw[<-h.length];exact hi)];exact h1,h2⟩
 ·rw[List.getElem?_append_right (by simpa using hi)]at hv;rw[List.getElem?_replicate]at hv
  split at hv<;>simp at hv
def tget(t:Tm)(i:Nat):Option Value:=
 match t[i]? with
 |some (some v)=>some v
 |_=>none
theorem TRs.tget{ρ:RMap}{t:Tm}{ts:List Value}(h:TRs ρ t ts){i:Nat}{v:Value}(hv:tget t i=some v): ∃v',ts[i]?=some v'/\VR ρ v v':=by
 unfold Go.Am.tget at hv
 split at hv
 ·cases hv;exact h.get _ _ ‹_›
 ·cases hv
end Go.Am
namespace Go.Am
open Go Go.RowKit
inductive Mode|ro|own|opn
 deriving DecidableEq,Repr
inductive AObj where
 |dead
 |hole
 |row (m:Mode) (esz:Nat) (cs:List Value)
 |map (es:List MapEntry) (clock:Nat)
def AObj.owned:AObj->Bool
 | .row .own _ _| .row .opn _ _| .map _ _=>true
 |_=>false
abbrev Heap:=List AObj
inductive ERs(ρ:RMap):List MapEntry->List MapEntry->Prop
 |nil:ERs ρ [] []
 |cons {k k' v v':Value} {b:Nat} {xs ys:List MapEntry}:VR ρ k k'->VR ρ v v'->ERs ρ xs ys->ERs ρ (⟨k,v,b⟩::xs) (⟨k',v',b⟩::ys)
theorem ERs.mono{ρ ρ':RMap}(hl:ρ.le ρ'){xs ys:List MapEntry}(h:ERs ρ xs ys):ERs ρ' xs ys:=by
 induction h with
 |nil=>exact .nil
 |cons h1 h2 _ ih=>exact .cons (h1.mono hl) (h2.mono hl) ih
def OR(ρ:RMap)(w:World)(B:Nat)(L:RLoc):AObj->Prop
 | .dead=>True
 | .hole=>True
 | .row .ro _ cs=>L.blk<B/\ ∀(i:Nat) v,cs[i]?=some v-> ∃v',w.cell? ⟨L.blk,L.off+i,none⟩=some v'/\VR ρ v v'
 | .row .own _ cs=>B<=L.blk/\ ∃(pre vs suf:List Value) (e:TypeId) (lo hi:Nat),w.heap[L.blk]?=some (.cells ⟨pre++vs++suf⟩ e (lo,hi))/\pre.length=L.off/\VRs ρ cs vs/\
   (lo=hi\/(pre++vs++suf).length<=lo)
 | .row .opn esz cs=>B<=L.blk/\ ∃(pre vs suf:List Value) (e:TypeId) (lo hi:Nat),w.heap[L.blk]?=some (.cells ⟨pre++vs++suf⟩ e (lo,hi))/\pre.length=L.off/\VRs ρ cs vs/\
   (lo=hi\/(pre++vs++suf).length<=lo)/\vs.length+suf.length=L.cap*esz
 | .map es clock=>B<=L.blk/\ ∃es',w.heap[L.blk]?=some (.map ⟨es'⟩ clock)/\ERs ρ es es'
structure Rel(B:Nat)(w0:World)(ρ:RMap)(h:Heap)(w:World):Prop where
 below:Below B w0 w
 base:B<=w.heap.size
 fin: ∀b L,ρ b=some L->b<h.length
 lt: ∀b L o,ρ b=some L->h[b]?=some o->o≠ .dead->L.blk<w.heap.size
 obj': ∀(b:Nat) o,h[b]?=some o->o≠ .hole->o≠ .dead-> ∃L,ρ b=some L/\OR ρ w B L o
 void: ∀b:Nat,h[b]?=some .hole->ρ b=none
 sep: ∀(b b':Nat) o o' L L',b≠b'->h[b]?=some o->h[b']?=some o'->o.owned=true->o'.owned=true->ρ b=some L->ρ b'=some L'->L.blk≠L'.blk
 gl:Glob B w0
theorem Rel.obj{B:Nat}{w0:World}{ρ:RMap}{h:Heap}{w:World}(hr:Rel B w0 ρ h w)(b:Nat)(o:AObj)(ho:h[b]?=some o)(hn:o≠ .hole:=by(intro hh;cases hh))(hd:o≠ .dead:=by(intro hh;cases hh)): ∃L,ρ b=some L/\OR ρ w B L o:=hr.obj' b o ho hn hd
theorem OR.mono{ρ ρ':RMap}(hl:ρ.le ρ'){w:World}{B:Nat}{L:RLoc}{o:AObj}(h:OR ρ w B L o):OR ρ' w B L o:=by
 cases o with
 |dead=>trivial
 |hole=>trivial
 |map es clock=>obtain⟨h0,es',h1,h2⟩:=h;exact⟨h0,es',h1,h2.mono hl⟩
 |row m esz cs=>
  cases m with
  |ro=>exact⟨h.1,fun i v hv=>let⟨v',h1,h2⟩:=h.2 i v hv;⟨v',h1,h2.mono hl⟩⟩
  |own=>obtain⟨h0,pre,vs,suf,e,lo,hi,h1,h2,h3,h4⟩:=h;exact⟨h0,pre,vs,suf,e,lo,hi,h1,h2,h3.mono hl,h4⟩
  |opn=>obtain⟨h0,pre,vs,suf,e,lo,hi,h1,h2,h3,h4⟩:=h;exact⟨h0,pre,vs,suf,e,lo,hi,h1,h2,h3.mono hl,h4⟩
theorem OR.frame{ρ:RMap}{w w':World}{B:Nat}{L:RLoc}{o:AObj}(h:OR ρ w B L o)(hw:w'.heap[L.blk]?=w.heap[L.blk]?):OR ρ w' B L o:=by
 cases o with
 |dead=>trivial
 |hole=>trivial
 |map es clock=>obtain⟨h0,es',h1,h2⟩:=h;exact⟨h0,es',hw.trans h1,h2⟩
 |row m esz cs=>
  cases m with
  |ro=>exact⟨h.1,fun i v hv=>let⟨v',h1,h2⟩:=h.2 i v hv;⟨v',by rw[<-h1];simp[World.cell?,hw],h2⟩⟩
  |own=>obtain⟨h0,pre,vs,suf,e,lo,hi,h1,h2,h3,h4⟩:=h;exact⟨h0,pre,vs,suf,e,lo,hi,hw.trans h1,h2,h3,h4⟩
  |opn=>obtain⟨h0,pre,vs,suf,e,lo,hi,h1,h2,h3,h4⟩:=h;exact⟨h0,pre,vs,suf,e,lo,hi,hw.trans h1,h2,h3,h4⟩
section
variable {B:Nat}{w0:World}{ρ:RMap}{h:Heap}{w:World}
theorem Rel.draw(hr:Rel B w0 ρ h w){n:Nat}:Rel B w0 ρ h {w with drawn:=n} where
 below:=hr.below.trans ⟨rfl,rfl,rfl,Nat.le_refl _,fun _ _=>rfl⟩
 base:=hr.base
 fin:=hr.fin
 lt:=hr.lt
 obj':=fun b o ho hn hd=>let⟨L,h1,h2⟩:=hr.obj' b o ho hn hd;⟨L,h1,h2.frame rfl⟩
 void:=hr.void
 sep:=hr.sep
 gl:=hr.gl
theorem Rel.cell(hr:Rel B w0 ρ h w){b:Nat}{m:Mode}{esz:Nat}{cs:List Value}(ho:h[b]?=some (.row m esz cs)){L:RLoc}(hL:ρ b=some L){i:Nat}{v:Value}(hi:cs[i]?=some v):
  ∃v',w.cell? ⟨L.blk,L.off+i,none⟩=some v'/\VR ρ v v':=by
 obtain⟨L',hL',hO⟩:=hr.obj b _ ho;obtain rfl:L=L':=by rw[hL]at hL';exact Option.some.inj hL'
 have key: ∀(pre vs suf:List Value)(e:TypeId)(fz:Nat×Nat),w.heap[L.blk]?=some (.cells ⟨pre++vs++suf⟩ e fz)->pre.length=L.off->VRs ρ cs vs->
   ∃v',w.cell? ⟨L.blk,L.off+i,none⟩=some v'/\VR ρ v v':=by
  intro pre vs suf e fz h1 h2 h3;obtain⟨v',h4,h5⟩:=h3.get hi;refine⟨v',?_,h5⟩;simp only[World.cell?,h1];have hlt:i<vs.length:=(List.getElem?_eq_some_iff.1 h4).1;simp only[Option.isSome_none,Bool.false_eq_true,if_false,List.getElem?_toArray];rw[List.append_assoc,List.getElem?_append_right (by omega), <-h2,Nat.add_sub_cancel_left,List.getElem?_append_left hlt,h4]
 cases m with
 |ro=>exact hO.2 i v hi
 |own=>obtain⟨_,pre,vs,suf,e,lo,hi',h1,h2,h3,_⟩:=hO;exact key pre vs suf e _ h1 h2 h3
 |opn=>obtain⟨_,pre,vs,suf,e,lo,hi',h1,h2,h3,_⟩:=hO;exact key pre vs suf e _ h1 h2 h3
theorem Rel.push(hr:Rel B w0 ρ h w){o:AObj}{obj:Obj}{cap:Nat}
  (hO: ∀(ρ':RMap)(w':World),ρ.le ρ'->w'.heap[w.heap.size]?=some obj->OR ρ' w' B ⟨w.heap.size,0,cap⟩ o) (hnh:o≠ .hole:=by(intro hh;cases hh)):
  ∃ρ',ρ.le ρ'/\ρ' h.length=some ⟨w.heap.size,0,cap⟩/\Rel B w0 ρ' (h++[o]) {w with heap:=w.heap.push obj}:=by
 have hnew:ρ h.length=none:=by
  cases hq:ρ h.length with
  |none=>rfl
  |some L=>exact absurd (hr.fin _ _ hq) (by omega)
 refine⟨fun b=>if b=h.length then some ⟨w.heap.size,0,cap⟩else ρ b,?_,by simp,?_⟩
 ·intro b L hb
  show(if b=h.length then _ else ρ b)=some L
  rw[if_neg]
  ·exact hb
  ·rintro rfl;rw[hnew]at hb;cases hb
 ·have hle:ρ.le (fun b=>if b=h.length then some ⟨w.heap.size,0,cap⟩else ρ b):=by
   intro b L hb
   show(if b=h.length then _ else ρ b)=some L
   rw[if_neg]
   ·exact hb
   ·rintro rfl;rw[hnew]at hb;cases hb
  have hold: ∀k,k<w.heap.size->(w.heap.push obj)[k]?=w.heap[k]?:=by
   intro k hk;rw[Array.getElem?_push,if_neg (by omega)]
  have hblk: ∀(b:Nat)(L:RLoc),ρ b=some L->h[b]?≠none:=by
   intro b L hb hn;have:=hr.fin b L hb;simp at hn;omega
  refine⟨hr.below.trans ⟨rfl,rfl,rfl,by simp,fun k hk=>hold k (by have:=hr.base;omega)⟩,by have:=hr.base;simp;omega,?_,?_,?_,?_,?_,hr.gl⟩
  ·intro b L hb
   try simp only at hb
   split at hb
   ·simp;omega
   ·have:=hr.fin b L hb;simp;omega
  ·intro b L o' hb ho' hd
   try simp only at hb
   split at hb
   ·cases hb;simp
   ·have hlt:=hr.fin b L hb;rw[List.getElem?_append_left hlt]at ho';have:=hr.lt b L o' hb ho' hd;simp;omega
  ·intro b o' ho' hnn hdd
   by_cases hb:b=h.length
   ·subst hb;simp at ho';subst ho';exact⟨⟨w.heap.size,0,cap⟩,by simp,hO _ _ hle (by simp)⟩
   ·have hlt:b<h.length:=by
     have:=(List.getElem?_eq_some_iff.1 ho').1;simp at this;omega
    rw[List.getElem?_append_left hlt]at ho';obtain⟨L,hL,hO'⟩:=hr.obj' b o' ho' hnn hdd;refine⟨L,by simp[hb,hL],?_⟩
    by_cases hd:o'= .dead
    ·subst hd;trivial
    ·exact(hO'.mono hle).frame (hold _ (hr.lt b L o' hL ho' hd))
  ·intro b hb
   by_cases hbl:b=h.length
   ·subst hbl;simp at hb;exact absurd hb hnh
   ·have hlt:b<h.length:=by
     have:=(List.getElem?_eq_some_iff.1 hb).1;simp at this;omega
    rw[List.getElem?_append_left hlt]at hb
    show(if b=h.length then _ else ρ b)=none
    rw[if_neg hbl];exact hr.void b hb
  ·intro b b' o1 o2 L L' hne h1 h2 hw1 hw2 hL hL'
   try simp only at hL hL'
   by_cases hb:b=h.length
   ·subst hb;rw[if_pos rfl]at hL;cases hL;rw[if_neg (by omega)]at hL';rw[List.getElem?_append_left (hr.fin b' L' hL')]at h2;have:=hr.lt b' L' o2 hL' h2 (by rintro rfl;simp[AObj.owned]at hw2);simp;omega
   ·rw[if_neg hb]at hL;rw[List.getElem?_append_left (hr.fin b L hL)]at h1
    by_cases hb':b'=h.length
    ·subst hb';rw[if_pos rfl]at hL';cases hL';have:=hr.lt b L o1 hL h1 (by rintro rfl;simp[AObj.owned]at hw1);simp;omega
    ·rw[if_neg hb']at hL';rw[List.getElem?_append_left (hr.fin b' L' hL')]at h2;exact hr.sep b b' o1 o2 L L' hne h1 h2 hw1 hw2 hL hL'
theorem Rel.write(hr:Rel B w0 ρ h w){b:Nat}{o o':AObj}(ho:h[b]?=some o)(how:o.owned=true){L:RLoc}(hL:ρ b=some L){obj:Obj}(hB:B<=L.blk)
  (hO: ∀w':World,w'.heap[L.blk]?=some obj->OR ρ w' B L o') (hnh:o'≠ .hole:=by(intro hh;cases hh)):
  Rel B w0 ρ (h.set b o') {w with heap:=w.heap.setIfInBounds L.blk obj}:=by
 have hb:b<h.length:=(List.getElem?_eq_some_iff.1 ho).1;have hnd:o≠ .dead:=by rintro rfl;simp[AObj.owned]at how
 have hlt:=hr.lt b L o hL ho hnd;have hset: ∀k,k≠L.blk->(w.heap.setIfInBounds L.blk obj)[k]?=w.heap[k]?:=fun k hk=>Array.getElem?_setIfInBounds_ne (Ne.symm hk);refine⟨hr.below.trans ⟨rfl,rfl,rfl,by simp,fun k hk=>hset k (by omega)⟩,by simpa using hr.base,fun b' L' h'=>by simpa using hr.fin b' L' h',?_,?_,?_,?_,hr.gl⟩
 ·intro b' L' o2 h1 h2 h3
  by_cases hbb:b'=b
  ·subst hbb;rw[hL]at h1;cases h1;simpa using hlt
  ·rw[List.getElem?_set_ne (Ne.symm hbb)]at h2;simpa using hr.lt b' L' o2 h1 h2 h3
 ·intro b' o2 h2 hnn hdd
  by_cases hbb:b'=b
  ·subst hbb;rw[List.getElem?_set_self hb]at h2;cases h2;exact⟨L,hL,hO _ (by simp[hlt])⟩
  ·rw[List.getElem?_set_ne (Ne.symm hbb)]at h2;obtain⟨L',hL',hO'⟩:=hr.obj' b' o2 h2 hnn hdd;refine⟨L',hL',?_⟩;cases o2 with
   |dead=>trivial
   |hole=>trivial
   |map es clock=>exact hO'.frame (hset _ (hr.sep b' b _ _ L' L hbb h2 ho rfl how hL' hL))
   |row m esz cs=>
    cases m with
    |ro=>exact hO'.frame (hset _ (by have:=hO'.1;omega))
    |own=>exact hO'.frame (hset _ (hr.sep b' b _ _ L' L hbb h2 ho rfl how hL' hL))
    |opn=>exact hO'.frame (hset _ (hr.sep b' b _ _ L' L hbb h2 ho rfl how hL' hL))
 ·intro b' h2
  by_cases hbb:b'=b
  ·subst hbb;rw[List.getElem?_set_self hb]at h2;cases h2;exact absurd rfl hnh
  ·rw[List.getElem?_set_ne (Ne.symm hbb)]at h2;exact hr.void b' h2
 ·intro b1 b2 o1 o2 L1 L2 hne h1 h2 hw1 hw2 hL1 hL2;have back: ∀(b3:Nat)(o3:AObj),(h.set b o')[b3]?=some o3->o3.owned=true-> ∃o4,h[b3]?=some o4/\o4.owned=true:=by
   intro b3 o3 h3 h4
   by_cases hbb:b3=b
   ·subst hbb;exact⟨o,ho,how⟩
   ·rw[List.getElem?_set_ne (Ne.symm hbb)]at h3;exact⟨o3,h3,h4⟩
  obtain⟨o3,h3,h4⟩:=back b1 o1 h1 hw1;obtain⟨o5,h5,h6⟩:=back b2 o2 h2 hw2;exact hr.sep b1 b2 o3 o5 L1 L2 hne h3 h5 h4 h6 hL1 hL2
theorem Rel.kill(hr:Rel B w0 ρ h w)(b:Nat):Rel B w0 ρ (h.set b .dead) w:=by
 refine⟨hr.below,hr.base,fun b' L' h'=>by simpa using hr.fin b' L' h',?_,?_,?_,?_,hr.gl⟩
 ·intro b' L' o2 h1 h2 h3
  by_cases hbb:b'=b
  ·subst hbb;have hb:b'<h.length:=hr.fin b' L' h1;rw[List.getElem?_set_self hb]at h2;cases h2;exact absurd rfl h3
  ·rw[List.getElem?_set_ne (Ne.symm hbb)]at h2;exact hr.lt b' L' o2 h1 h2 h3
 ·intro b' o2 h2 hnn hdd
  by_cases hbb:b'=b
  ·subst hbb;have hb:b'<h.length:=by have:=(List.getElem?_eq_some_iff.1 h2).1;simpa using this
   rw[List.getElem?_set_self hb]at h2;cases h2;exact absurd rfl hdd
  ·rw[List.getElem?_set_ne (Ne.symm hbb)]at h2;exact hr.obj' b' o2 h2 hnn hdd
 ·intro b' h2
  by_cases hbb:b'=b
  ·subst hbb;have hb:b'<h.length:=by have:=(List.getElem?_eq_some_iff.1 h2).1;simpa using this
   rw[List.getElem?_set_self hb]at h2;cases h2
  ·rw[List.getElem?_set_ne (Ne.symm hbb)]at h2;exact hr.void b' h2
 ·intro b1 b2 o1 o2 L1 L2 hne h1 h2 hw1 hw2 hL1 hL2;have back: ∀(b3:Nat)(o3:AObj),(h.set b .dead)[b3]?=some o3->o3.owned=true->h[b3]?=some o3:=by
   intro b3 o3 h3 h4
   by_cases hbb:b3=b
   ·subst hbb;have hb:b3<h.length:=by have:=(List.getElem?_eq_some_iff.1 h3).1;simpa using this
    rw[List.getElem?_set_self hb]at h3;cases h3;simp[AObj.owned]at h4
   ·rwa [List.getElem?_set_ne (Ne.symm hbb)]at h3
  exact hr.sep b1 b2 o1 o2 L1 L2 hne (back _ _ h1 hw1) (back _ _ h2 hw2) hw1 hw2 hL1 hL2
theorem Rel.keep(hr:Rel B w0 ρ h w)(n:Nat):Rel B w0 ρ (h++List.replicate n .hole) w:=by
 have old: ∀(b:Nat) o,(h++List.replicate n AObj.hole)[b]?=some o->o≠ .hole->h[b]?=some o:=by
  intro b o ho hn
  by_cases hb:b<h.length
  ·rwa [List.getElem?_append_left hb]at ho
  ·rw[List.getElem?_append_right (by omega),List.getElem?_replicate]at ho
   split at ho
   ·cases ho;exact absurd rfl hn
   ·cases ho
 refine⟨hr.below,hr.base,fun b L hb=>by have:=hr.fin b L hb;simp;omega,fun b L o hb ho hd=>?_,fun b o ho hn hd=>hr.obj' b o (old b o ho hn) hn hd,fun b hb=>?_,?_,hr.gl⟩
 ·have hlt:=hr.fin b L hb;rw[List.getElem?_append_left hlt]at ho;exact hr.lt b L o hb ho hd
 ·cases hq:ρ b with
  |none=>rfl
  |some L=>
   have hlt:=hr.fin b L hq;rw[List.getElem?_append_left hlt]at hb;have:=hr.void b hb;rw[hq]at this;exact this
 ·intro b1 b2 o1 o2 L1 L2 hne h1 h2 hw1 hw2 hL1 hL2;exact hr.sep b1 b2 o1 o2 L1 L2 hne (old _ _ h1 (by rintro rfl;simp[AObj.owned]at hw1)) (old _ _ h2 (by rintro rfl;simp[AObj.owned]at hw2)) hw1 hw2 hL1 hL2
end
def pureRun(P:Program){α:Type}:Sem α->Option α
 | .pure a=>some a
 | .program k=>pureRun P (k P)
 |_=>none
theorem pureRun_ok{P:Program}{α:Type}{s:Sem α}{a:α}(h:pureRun P s=some a)(w:World):s.run P w= .ok a w:=by
 induction s generalizing w with
 |pure b=>simp[pureRun]at h;subst h;rfl
 |program k ih=>simp only[pureRun]at h;simp only[Sem.run];exact ih P h w
 |_=>simp[pureRun]at h
def ev(t:Tm):Operand->Option Value
 | .tmp i=>tget t i
 | .const v=>if plainV v then some v else none
 | .func f=>some (.func (.func f) #[] #[])
 | .global _=>none
def evs(t:Tm):List Operand->Option (List Value)
 | []=>some []
 |x::xs=>match ev t x,evs t xs with
  |some v,some vs=>some (v::vs)
  |_,_=>none
section
variable {ρ:RMap}{t:Tm}{ts:List Value}
abbrev tev(ts:List Value):Operand->Value:=Act.eval ⟨⟨ts⟩,[]⟩
theorem getD_toArray(ts:List Value)(i:Nat)(d:Value):(Array.mk ts).getD i d=ts.getD i d:=by
 simp[Array.getD,List.getD]
 split
 ·rename_i h;simp[List.getElem?_eq_getElem h]
 ·rename_i h;simp[List.getElem?_eq_none (Nat.le_of_not_lt h)]
theorem ev_ok(h:TRs ρ t ts){x:Operand}{v:Value}(he:ev t x=some v):VR ρ v (tev ts x):=by
 cases x with
 |tmp i=>
  simp only[ev]at he;obtain⟨v',h1,h2⟩:=h.tget he;simp only[tev,Act.eval,getD_toArray,List.getD_eq_getElem?_getD,h1];exact h2
 |const c=>simp only[ev]at he;split at he<;>simp at he;subst he;exact VR.plain ‹_›
 |func f=>simp only[ev,Option.some.injEq]at he;subst he;exact .func .nil .nil
 |global g=>simp[ev]at he
theorem evs_ok(h:TRs ρ t ts){xs:List Operand}{vs:List Value}(he:evs t xs=some vs):VRs ρ vs (xs.map (tev ts)):=by
 induction xs generalizing vs with
 |nil=>simp[evs]at he;subst he;exact .nil
 |cons x xs ih=>
  simp only[evs]at he
  split at he
  ·rename_i v vs' h1 h2;simp at he;subst he;exact .cons (ev_ok h h1) (ih h2)
  ·cases he
theorem VR.cells{x y:Value}(h:VR ρ x y):VRs ρ x.cells.toList y.cells.toList:=by
 cases h with
 |agg h=>exact h
 |sl0 h=>exact .cons (.sl0 h) .nil
 |_=>exact .cons (by constructor<;>assumption) .nil
end
def aggT(P:Program)(T:TypeId):Bool:=
 match P.underlying T with
 |some (.struct _)|some (.array _ _)=>true
 |_=>false
def apart(P:Program)(T:TypeId)(cs:List Value)(off:Nat):Option Value:=
 match P.underlying T with
 |some (.struct _)|some (.array _ _)=>match P.info? T with
  |some i=>if off+i.size<=cs.length then some (.agg ⟨(cs.drop off).take i.size⟩)else none
  |none=>none
 |some _=>cs[off]?
 |none=>none
section
variable {P:Program}{ρ:RMap}
theorem run_underlying'{T:TypeId}{d:TypeDesc}(h:P.underlying T=some d)(w:World):(underlying T).run P w= .ok d w:=by
 simp[underlying,h]
theorem run_typeInfo'{T:TypeId}{i:TypeInfo}(h:P.info? T=some i)(w:World):(typeInfo T).run P w= .ok i w:=by
 simp[typeInfo,h]
theorem run_sizeOf'{T:TypeId}{i:TypeInfo}(h:P.info? T=some i)(w:World):(sizeOf T).run P w= .ok i.size w:=by
 simp[sizeOf,run_typeInfo' h]
theorem run_zeroValue'{T:TypeId}{i:TypeInfo}{z:Value}(h:P.info? T=some i)(hz:i.zero=some z)(w:World):(zeroValue T).run P w= .ok z w:=by
 simp[zeroValue,run_typeInfo' h,hz]
theorem run_isAgg'{T:TypeId}{d:TypeDesc}(h:P.underlying T=some d)(w:World):(isAgg T).run P w= .ok (aggT P T) w:=by
 simp only[isAgg,Sem.run_bind,run_underlying' h,Result.andThen_ok,aggT,h];cases d<;>rfl
theorem mk_extract(ds:List Value)(a b:Nat):(Array.mk ds).extract a b=⟨(ds.drop a).take (b-a)⟩:=by
 have:(Array.mk ds)=ds.toArray:=rfl;rw[this,List.extract_toArray,List.extract_eq_take_drop]
theorem apart_ok{T:TypeId}{cs ds:List Value}{off:Nat}{v:Value}(h:apart P T cs off=some v)(hc:VRs ρ cs ds):
  ∃v',VR ρ v v'/\ ∀w,(part T ⟨ds⟩ off).run P w= .ok v' w:=by
 unfold apart at h
 split at h
 ·rename_i fs hu
  split at h
  ·rename_i i hi
   split at h<;>simp at h
   subst h;rename_i hle;refine⟨_,.agg ((hc.drop off).take i.size),fun w=>?_⟩;simp only[part,Sem.run_bind,run_isAgg' hu,Result.andThen_ok,aggT,hu,if_true,run_sizeOf' hi,Sem.run_pure];rw[mk_extract,Nat.add_sub_cancel_left]
  ·cases h
 ·rename_i n e hu
  split at h
  ·rename_i i hi
   split at h<;>simp at h
   subst h;refine⟨_,.agg ((hc.drop off).take i.size),fun w=>?_⟩;simp only[part,Sem.run_bind,run_isAgg' hu,Result.andThen_ok,aggT,hu,if_true,run_sizeOf' hi,Sem.run_pure];rw[mk_extract,Nat.add_sub_cancel_left]
  ·cases h
 ·rename_i d hu1 hu2 hu;obtain⟨v',h1,h2⟩:=hc.get h;refine⟨v',h2,fun w=>?_⟩;have hn:aggT P T=false:=by
   unfold aggT;rw[hu];cases d<;>first|rfl|(exact(hu1 _ rfl).elim)|(exact(hu2 _ _ rfl).elim)
  simp only[part,Sem.run_bind,run_isAgg' hu,Result.andThen_ok,hn,Bool.false_eq_true,if_false];simp[h1]
 ·cases h
end
def setsL(cs:List Value)(i:Nat):List Value->List Value
 | []=>cs
 |v::vs=>setsL (cs.set i v) (i+1) vs
def cellsL:Value->List Value
 | .agg ⟨cs⟩=>cs
 |v=>[v]
theorem cellsL_eq(v:Value):cellsL v=v.cells.toList:=by cases v<;>rfl
def afill(place:Nat->Option (Nat×Nat))(cells:List Value):List (Nat×Value)->Option (List Value)
 | []=>some cells
 |(i,v)::rest=>
  match place i with
  |none=>none
  |some (off,size)=>
   if(cellsL v).length≠size||off+(cellsL v).length>cells.length then none
   else afill place (setsL cells off (cellsL v)) rest
inductive PRs(ρ:RMap):List (Nat×Value)->List (Nat×Value)->Prop
 |nil:PRs ρ [] []
 |cons {i:Nat} {x y:Value} {xs ys:List (Nat×Value)}:VR ρ x y->PRs ρ xs ys->PRs ρ ((i,x)::xs) ((i,y)::ys)
section
variable {P:Program}{ρ:RMap}
theorem setsL_length(vs cs:List Value)(i:Nat):(setsL cs i vs).length=cs.length:=by
 induction vs generalizing cs i with
 |nil=>rfl
 |cons v vs ih=>simp[setsL,ih]
theorem setsL_ok{vs us:List Value}(hv:VRs ρ vs us){cs ds:List Value}(hc:VRs ρ cs ds)(i:Nat):VRs ρ (setsL cs i vs) (setsL ds i us):=by
 induction vs generalizing us cs ds i with
 |nil=>cases hv;exact hc
 |cons v vs ih=>cases hv with|cons h1 h2=>exact ih h2 (hc.set h1 i) (i+1)
theorem foldl_sets(vs:List Value)(ds:List Value)(off k:Nat):
  (vs.zipIdx k).foldl (fun(cs:Array Value) (x:Value×Nat)=>cs.setIfInBounds (off+x.2) x.1) ⟨ds⟩=⟨setsL ds (off+k) vs⟩:=by
 induction vs generalizing ds k with
 |nil=>simp[setsL]
 |cons v vs ih=>
  simp only[List.zipIdx_cons,List.foldl_cons,setsL];have:(Array.mk ds).setIfInBounds (off+k) v=⟨ds.set (off+k) v⟩:=by
   apply Array.ext'
   simp
  rw[this,ih];rfl
theorem fill_sets(v:Value)(ds:List Value)(off:Nat):
  v.cells.zipIdx.foldl (fun(cs:Array Value) (x:Value×Nat)=>cs.setIfInBounds (off+x.2) x.1) ⟨ds⟩=⟨setsL ds off v.cells.toList⟩:=by
 rw[<-Array.foldl_toList,Array.toList_zipIdx];simpa using foldl_sets v.cells.toList ds off 0
theorem VR.cellsL{x y:Value}(h:VR ρ x y):VRs ρ (cellsL x) (Go.Am.cellsL y):=by
 rw[cellsL_eq,cellsL_eq];exact h.cells
theorem afill_ok(place:Nat->Option (Nat×Nat)){parts qarts:List (Nat×Value)}(hp:PRs ρ parts qarts){cs ds r:List Value}(hc:VRs ρ cs ds)(h:afill place cs parts=some r):
  ∃r',Instr.fill place ⟨ds⟩ qarts=some ⟨r'⟩/\VRs ρ r r':=by
 induction hp generalizing cs ds with
 |nil=>simp[afill]at h;subst h;exact⟨ds,rfl,hc⟩
 | @cons i x y xs ys hxy _ ih=>
  simp only[afill]at h;simp only[Instr.fill]
  split at h
  ·cases h
  ·rename_i off size hpl;simp only[hpl]
   split at h
   ·cases h
   ·rename_i hcond;have hlen:=hxy.cellsL.length;have hsz:y.cells.size=(cellsL y).length:=by rw[cellsL_eq];simp
    have hcond': ¬((decide (y.cells.size≠size)||decide (off+y.cells.size>(Array.mk ds).size))=true):=by
     have:=hc.length;simp only[Bool.or_eq_true,decide_eq_true_eq,not_or,List.size_toArray]at hcond ⊢;rw[hsz, <-hlen];refine⟨hcond.1,?_⟩;have h2:=hcond.2;rw[hc.length]at h2;exact h2
    rw[if_neg hcond'];have:=fill_sets y ds off;simp only[this];rw[<-cellsL_eq];exact ih (setsL_ok hxy.cellsL hc off) h
def placesB(P:Program)(fs:Array Field):Bool:=fs.toList.all fun f=>(P.info? f.type).isSome
def placeOf(P:Program)(fs:Array Field)(i:Nat):Option (Nat×Nat):=
 match fs[i]? with
 |some f=>match P.info? f.type with
  |some i=>some (f.offset,i.size)
  |none=>none
 |none=>none
theorem mapM_places(l:List Field)(h:(l.all fun f=>(P.info? f.type).isSome)=true):
  ∃r:List (Nat×Nat),(∀w,(l.mapM (m:=Sem) fun f=>do pure (f.offset, <-sizeOf f.type)).run P w= .ok r w)/\ ∀i:Nat,r[i]?=(l[i]?).bind fun f=>(P.info? f.type).map fun i=>(f.offset,i.size):=by
 induction l with
 |nil=>exact⟨[],fun w=>rfl,fun i=>by simp⟩
 |cons f l ih=>
  simp only[List.all_cons,Bool.and_eq_true]at h;obtain⟨r,h1,h2⟩:=ih h.2;obtain⟨i,hi⟩:=Option.isSome_iff_exists.1 h.1;refine⟨(f.offset,i.size)::r,fun w=>?_,fun j=>?_⟩
  ·simp only[List.mapM_cons,Sem.run_bind,run_sizeOf' hi,Result.andThen_ok,Sem.run_pure,h1]
  ·cases j with
   |zero=>simp[hi]
   |succ j=>simpa using h2 j
def abuild(P:Program)(T:TypeId)(parts:List (Nat×Value)):Option Value:=
 match P.info? T with
 |none=>none
 |some i=>match i.zero with
  |none=>none
  |some z=>
   if plainV z then
    match P.underlying T with
    |some (.struct fs)=>if placesB P fs then(afill (placeOf P fs) (cellsL z) parts).map fun cs=>.agg ⟨cs⟩else none
    |some (.array _ e)=>match P.info? e with
     |some ie=>(afill (fun i=>some (i*ie.size,ie.size)) (cellsL z) parts).map fun cs=>.agg ⟨cs⟩
     |none=>none
    |_=>none
   else none
theorem abuild_ok{T:TypeId}{parts qarts:List (Nat×Value)}{v:Value}(h:abuild P T parts=some v)(hp:PRs ρ parts qarts):
  ∃v',VR ρ v v'/\ ∀w,(Instr.build T ⟨qarts⟩).run P w= .ok v' w:=by
 unfold abuild at h
 split at h
 ·cases h
 ·rename_i i hi
  split at h
  ·cases h
  ·rename_i z hz
   split at h
   ·rename_i hpl;have hcz:VRs ρ (cellsL z) (cellsL z):=(VR.plain hpl).cellsL;have hzc:z.cells=⟨cellsL z⟩:=by rw[cellsL_eq]
    split at h
    ·rename_i fs hu
     split at h
     ·rename_i hb;simp only[Option.map_eq_some_iff]at h;obtain⟨cs,h,rfl⟩:=h;obtain⟨r,hr,hvr⟩:=afill_ok _ hp hcz h;obtain⟨pl,hpl1,hpl2⟩:=mapM_places (P:=P) fs.toList hb;refine⟨_,.agg hvr,fun w=>?_⟩;simp only[Instr.build,Sem.run_bind,run_zeroValue' hi hz,Result.andThen_ok,run_underlying' hu];rw[Array.mapM_eq_mapM_toList];simp only[Sem.run_map,hpl1,Result.andThen_ok];have hplace:(fun x:Nat=>pl.toArray[x]?)=placeOf P fs:=by
       funext x
       simp only[List.getElem?_toArray,hpl2 x,placeOf];rw[Array.getElem?_toList];cases fs[x]? with
       |none=>rfl
       |some f=>simp only[Option.bind_some];cases P.info? f.type<;>rfl
      simp only[hplace,hzc,hr]
      rfl
     ·cases h
    ·rename_i n e hu
     split at h
     ·rename_i ie hie;simp only[Option.map_eq_some_iff]at h;obtain⟨cs,h,rfl⟩:=h;obtain⟨r,hr,hvr⟩:=afill_ok _ hp hcz h;refine⟨_,.agg hvr,fun w=>?_⟩;simp only[Instr.build,Sem.run_bind,run_zeroValue' hi hz,Result.andThen_ok,run_underlying' hu,run_sizeOf' hie,hzc,hr]
      rfl
     ·cases h
    ·cases h
   ·cases h
end
def prun(P:Program)(s:Sem Value):Option Value:=
 match pureRun P s with
 |some v=>if plainV v then some v else none
 |none=>none
theorem prun_ok{P:Program}{ρ:RMap}{s:Sem Value}{v:Value}(h:prun P s=some v):VR ρ v v/\ ∀w,s.run P w= .ok v w:=by
 unfold prun at h
 split at h
 ·rename_i v' hv
  split at h<;>simp at h
  subst h;exact⟨VR.plain ‹_›,fun w=>pureRun_ok hv w⟩
 ·cases h
def anil(P:Program)(T:TypeId)(a b:Value):Option Bool:=
 match P.underlying T,a,b with
 |some (.pointer _),.pointer none,.pointer (some _)=>some false
 |some (.pointer _),.pointer (some _),.pointer none=>some false
 |some (.slice _),.slice none _ _,.slice (some _) _ _=>some false
 |some (.slice _),.slice (some _) _ _,.slice none _ _=>some false
 |some (.map _ _),.map none,.map (some _)=>some false
 |some (.map _ _),.map (some _),.map none=>some false
 |some (.func _ _ _),.nilFunc,.func _ _ _=>some false
 |some (.func _ _ _),.func _ _ _,.nilFunc=>some false
 |_,_,_=>none
def abin(P:Program)(op:BinOp)(T:TypeId)(x y:Operand)(a b:Value):Option Value:=
 if plainV a&&plainV b then prun P (do eqGuard op T x y a b;binOp op T a b)
 else match op with
  | .eql=>(anil P T a b).map .bool
  | .neq=>(anil P T a b).map fun e=>.bool !e
  |_=>none
def intV:Value->Option Int
 | .int _ i=>some i
 |_=>none
def boundN(v:Option Value)(dflt y:Nat):Option Nat:=
 match v with
 |none=>some dflt
 |some v=>match v with
  | .int _ i=>if 0<=i/\i<=y then some i.toNat else none
  |_=>none
def acut(P:Program)(T:TypeId)(x:Value)(lo hi mx:Option Value):Option Value:=
 match P.underlying T,x with
 |some (.slice e),.slice a n c=>
  match P.info? e with
  |none=>none
  |some inf=>
   match boundN mx c c with
   |none=>none
   |some m=>
    if mx.isSome&&decide (4611686018427387904<=c)&&(decide (n<m)||decide (4611686018427387904<=m))then none else
    if mx.isSome&&hi.isNone then none else
    match boundN hi n m with
    |none=>none
    |some h=>
     if decide (4611686018427387904<=c)&&decide (n<h)then none else
     match boundN lo 0 h with
     |none=>none
     |some l=>
      if decide (4611686018427387904<=m)&&decide (m-l<4611686018427387904)then none else
      match a with
      |none=>some (.slice none (h-l) (m-l))
      |some ⟨b,o,none⟩=>some (.slice (some ⟨b,if m=l then o else o+l*inf.size,none⟩) (h-l) (m-l))
      |some ⟨_,_,some _⟩=>none
 |some (.array n e),.pointer (some ⟨b,o,none⟩)=>
  match P.info? e with
  |none=>none
  |some inf=>
   if mx.isSome then none else
   match boundN hi n n with
   |none=>none
   |some h=>match boundN lo 0 h with
    |none=>none
    |some l=>if 4611686018427387904<=n then none else some (.slice (some ⟨b,if n=l then o else o+l*inf.size,none⟩) (h-l) (n-l))
 |some .string,.string s=>
  if mx.isSome then none else
  match boundN hi s.size s.size with
  |none=>none
  |some h=>match boundN lo 0 h with
   |none=>none
   |some l=>some (.string (s.extract l h))
 |_,_=>none
def evo(t:Tm):Option Operand->Option (Option Value)
 |none=>some none
 |some x=>match ev t x with
  |some v=>some (some v)
  |none=>none
def evp(t:Tm):List (Nat×Operand)->Option (List (Nat×Value))
 | []=>some []
 |(i,x)::xs=>match ev t x,evp t xs with
  |some v,some vs=>some ((i,v)::vs)
  |_,_=>none
def afieldAddr(P:Program)(S:TypeId)(x:Value)(f:Nat):Option Value:=
 match P.underlying S,x with
 |some (.struct fs),.pointer (some ⟨b,o,none⟩)=>match fs[f]? with
  |some fd=>match P.info? fd.type with
   |some i=>if i.size=0 then none else some (.pointer (some ⟨b,o+fd.offset,none⟩))
   |none=>none
  |none=>none
 |_,_=>none
def afield(P:Program)(S:TypeId)(x:Value)(f:Nat):Option Value:=
 match P.underlying S,x with
 |some (.struct fs),.agg ⟨cs⟩=>match fs[f]? with
  |some fd=>apart P fd.type cs fd.offset
  |none=>none
 |_,_=>none
def aindexAddr(P:Program)(T:TypeId)(x ix:Value):Option Value:=
 match P.underlying T,x,ix with
 |some (.slice e),.slice (some ⟨b,o,none⟩) n _,.int _ i=>match P.info? e with
  |some inf=>if 0<=i/\i<n then some (.pointer (some ⟨b,o+i.toNat*inf.size,none⟩))else none
  |none=>none
 |some (.array n e),.pointer (some ⟨b,o,none⟩),.int _ i=>match P.info? e with
  |some inf=>if 0<=i/\i<n then some (.pointer (some ⟨b,o+i.toNat*inf.size,none⟩))else none
  |none=>none
 |_,_,_=>none
def aindex(P:Program)(T:TypeId)(x ix:Value):Option Value:=
 match P.underlying T,x,ix with
 |some (.array n e),.agg ⟨cs⟩,.int _ i=>match P.info? e with
  |some inf=>if 0<=i/\i<n then apart P e cs (i.toNat*inf.size)else none
  |none=>none
 |some .string,.string s,.int _ i=>if 0<=i then match s[i.toNat]? with
   |some b=>some (.int .u8 b.toNat)
   |none=>none
  else none
 |_,_,_=>none
def alen(P:Program)(ats:Array TypeId)(vs:List Value):Option Value:=
 match ats[0]?,vs with
 |some T,[x]=>match P.underlying T,x with
  |some .string,.string s=>some (.int .i64 s.size)
  |some (.array n _),_=>some (.int .i64 n)
  |some (.slice _),.slice _ n _=>some (.int .i64 n)
  |some (.map _ _),.map none=>some (.int .i64 0)
  |_,_=>none
 |_,_=>none
def acap(P:Program)(ats:Array TypeId)(vs:List Value):Option Value:=
 match ats[0]?,vs with
 |some T,[x]=>match P.underlying T,x with
  |some (.array n _),_=>some (.int .i64 n)
  |some (.slice _),.slice _ _ c=>if c<4611686018427387904 then some (.int .i64 c)else none
  |_,_=>none
 |_,_=>none
def apure(P:Program)(o:Oper)(t:Tm):Option Value:=
 match o.op with
 | .move x=>ev t x
 | .assign x=>ev t x
 | .pick c a b=>match ev t c with
  |some (.bool true)=>ev t a
  |some (.bool false)=>ev t b
  |_=>none
 | .build T parts=>match evp t parts.toList with
  |some ps=>abuild P T ps
  |none=>none
 | .nilCheck x=>match ev t x with
  |some (.pointer (some a))=>some (.pointer (some a))
  |some (.func (.func f) a b)=>some (.func (.func f) a b)
  |_=>none
 | .binOp op T x y _=>match ev t x,ev t y with
  |some a,some b=>abin P op T x y a b
  |_,_=>none
 | .unOp op _ x=>match ev t x with
  |some a=>if plainV a then prun P (Op.unary op a)else none
  |none=>none
 | .convert s d x=>match ev t x with
  |some a=>if plainV a then prun P (convert s d a)else none
  |none=>none
 | .makeFunc fn first captured=>match evs t first.toList,evs t captured.toList with
  |some f,some c=>some (.func fn ⟨f⟩ ⟨c⟩)
  |_,_=>none
 | .slice T x lo hi mx=>match ev t x,evo t lo,evo t hi,evo t mx with
  |some v,some l,some h,some m=>acut P T v l h m
  |_,_,_,_=>none
 | .fieldAddr S x f=>match ev t x with
  |some v=>afieldAddr P S v f
  |none=>none
 | .field S x f=>match ev t x with
  |some v=>afield P S v f
  |none=>none
 | .indexAddr T x ix=>match ev t x,ev t ix with
  |some v,some i=>aindexAddr P T v i
  |_,_=>none
 | .index T x ix=>match ev t x,ev t ix with
  |some v,some i=>aindex P T v i
  |_,_=>none
 | .extract x i=>match ev t x with
  |some (.tuple ⟨vs⟩)=>vs[i]?
  |_=>none
 | .call ⟨.builtin .len,args,ats⟩=>match evs t args.toList with
  |some vs=>alen P ats vs
  |none=>none
 | .call ⟨.builtin .cap,args,ats⟩=>match evs t args.toList with
  |some vs=>acap P ats vs
  |none=>none
 | .call ⟨.builtin .min,args,ats⟩=>match evs t args.toList with
  |some vs=>if plainV.plainVs vs then prun P (Builtin.min_ ats o.type ⟨vs⟩)else none
  |none=>none
 | .call ⟨.builtin .max,args,ats⟩=>match evs t args.toList with
  |some vs=>if plainV.plainVs vs then prun P (Builtin.max_ ats o.type ⟨vs⟩)else none
  |none=>none
 |_=>none
section
variable {P:Program}{ρ:RMap}{t:Tm}{ts:List Value}
def OptR(ρ:RMap)(a b:Option Value):Prop:=match a,b with
 |none,none=>True
 |some a,some b=>VR ρ a b
 |_,_=>False
theorem evp_ok(h:TRs ρ t ts){xs:List (Nat×Operand)}{vs:List (Nat×Value)}(he:evp t xs=some vs):PRs ρ vs (xs.map fun p=>(p.1,tev ts p.2)):=by
 induction xs generalizing vs with
 |nil=>simp[evp]at he;subst he;exact .nil
 |cons x xs ih=>
  obtain⟨i,x⟩:=x;simp only[evp]at he
  split at he
  ·rename_i v vs' h1 h2;simp at he;subst he;exact .cons (ev_ok h h1) (ih h2)
  ·cases he
theorem evo_ok(h:TRs ρ t ts){x:Option Operand}{v:Option Value}(he:evo t x=some v):OptR ρ v (x.map (tev ts)):=by
 cases x with
 |none=>simp[evo]at he;subst he;trivial
 |some x=>
  simp only[evo]at he
  split at he
  ·simp at he;subst he;exact ev_ok h ‹_›
  ·cases he
theorem eqGuard_nil{op:BinOp}{T:TypeId}{x y:Operand}{a b:Value}(h:(∀p q, ¬(a= .agg p/\b= .agg q))/\ ¬(a= .nilIface/\b= .nilIface))(w:World):(eqGuard op T x y a b).run P w= .ok () w:=by
 have key: ∀op',(op'= .eql\/op'= .neq)->(eqGuard op' T x y a b).run P w= .ok () w:=by
  intro op' ho;have:(eqGuard op' T x y a b)=(eqGuard .eql T x y a b):=by rcases ho with rfl|rfl<;>rfl
  rw[this];unfold eqGuard;simp only[Bool.not_true,Bool.false_eq_true,if_false]
  split
  ·exact(h.2 ⟨rfl,rfl⟩).elim
  ·exact(h.1 _ _ ⟨rfl,rfl⟩).elim
  ·rfl
 cases op<;>first|rfl|exact key _ (.inl rfl)|exact key _ (.inr rfl)
theorem equal_succ(T:TypeId)(a b:Value):Op.equal T a b=Op.equalIn (9999+1) T a b:=rfl
theorem anil_ok{T:TypeId}{a b a' b':Value}{e:Bool}(h:anil P T a b=some e)(ha:VR ρ a a')(hb:VR ρ b b')(w:World):
  (Op.equal T a' b').run P w= .ok e w/\((∀p q, ¬(a'= .agg p/\b'= .agg q))/\ ¬(a'= .nilIface/\b'= .nilIface))/\ ∀op x y,(op= .eql\/op= .neq)->(do eqGuard op T x y a' b';binOp op T a' b').run P w= .ok (.bool (if op= .eql then e else !e)) w:=by
 have key:(Op.equal T a' b').run P w= .ok e w/\((∀p q, ¬(a'= .agg p/\b'= .agg q))/\ ¬(a'= .nilIface/\b'= .nilIface))/\(∀k n,a'≠ .int k n)/\(∀s,a'≠ .string s)/\(∀k n,a'≠ .float k n)/\(∀k m n,a'≠ .complex k m n):=by
  unfold anil at h
  split at h<;>simp at h<;>subst h<;>cases ha<;>cases hb<;>
   (refine⟨?_,⟨by simp,by simp⟩,by simp,by simp,by simp,by simp⟩;rw[equal_succ,Op.equalIn];simp[run_underlying' (by assumption)])
 obtain⟨k1,k2,k3,k4,k5,k6⟩:=key;refine⟨k1,k2,fun op x y hop=>?_⟩;simp only[Sem.run_bind,eqGuard_nil k2,Result.andThen_ok];rcases hop with rfl|rfl
 ·have:binOp .eql T a' b'=(do pure (.bool (<-Op.equal T a' b'))):=by
   cases a'<;>cases b'<;>first|rfl|(exact(k3 _ _ rfl).elim)|(exact(k4 _ rfl).elim)|(exact(k5 _ _ rfl).elim)|(exact(k6 _ _ _ rfl).elim)
  rw[this];simp[k1]
 ·have:binOp .neq T a' b'=(do pure (.bool (!(<-Op.equal T a' b')))):=by
   cases a'<;>cases b'<;>first|rfl|(exact(k3 _ _ rfl).elim)|(exact(k4 _ rfl).elim)|(exact(k5 _ _ rfl).elim)|(exact(k6 _ _ _ rfl).elim)
  rw[this];simp[k1]
theorem abin_ok{op:BinOp}{T:TypeId}{x y:Operand}{a b a' b' v:Value}(h:abin P op T x y a b=some v)(ha:VR ρ a a')(hb:VR ρ b b'):
  ∃v',VR ρ v v'/\ ∀w,(do eqGuard op T x y a' b';binOp op T a' b').run P w= .ok v' w:=by
 unfold abin at h
 split at h
 ·rename_i hp;simp only[Bool.and_eq_true]at hp;obtain rfl:=ha.plain_eq hp.1;obtain rfl:=hb.plain_eq hp.2;obtain⟨h1,h2⟩:=prun_ok (ρ:=ρ) h;exact⟨v,h1,h2⟩
 ·split at h
  ·simp only[Option.map_eq_some_iff]at h;obtain⟨e,h,rfl⟩:=h;exact⟨_,.bool _,fun w=>by simpa using(anil_ok h ha hb w).2.2 .eql x y (.inl rfl)⟩
  ·simp only[Option.map_eq_some_iff]at h;obtain⟨e,h,rfl⟩:=h;exact⟨_,.bool _,fun w=>by simpa using(anil_ok h ha hb w).2.2 .neq x y (.inr rfl)⟩
  ·cases h
theorem sliceBound_ok{v v':Value}(hv:VR ρ v v'){d y n:Nat}(h:boundN (some v) d y=some n)(code:BoundsCode)(w:World):(Instr.sliceBound v' y code).run P w= .ok n w/\n<=y:=by
 simp only[boundN]at h
 split at h
 ·rename_i k i;cases hv
  split at h<;>simp at h
  subst h;rename_i hb;refine⟨?_,by omega⟩;simp only[Instr.sliceBound,asIntOf,Sem.run_bind,Sem.run_pure,Result.andThen_ok];rw[if_pos hb]
  rfl
 ·cases h
theorem sliceBounds_ok{lo hi mx:Option Value}{lo' hi' mx':Option Value}{cap len m h l:Nat}{isS:Bool}
  (h1:OptR ρ lo lo') (h2:OptR ρ hi hi') (h3:OptR ρ mx mx')
  (e3:boundN mx cap cap=some m) (hmh:(mx.isSome&&hi.isNone)=false) (e2:boundN hi len m=some h) (e1:boundN lo 0 h=some l) (w:World):
  (Instr.sliceBounds isS len cap lo' hi' mx').run P w= .ok (l,h,m) w/\l<=h:=by
 have hl:l<=h:=by
  cases lo with
  |none=>simp[boundN]at e1;omega
  |some a=>cases lo' with
   |none=>simp[OptR]at h1
   |some b=>exact(sliceBound_ok (P:=P) h1 e1 .index w).2
 refine⟨?_,hl⟩;have s3: ∀code,(match mx' with|some v=>Instr.sliceBound v cap code|none=>pure cap).run P w= .ok m w:=by
  intro code;cases mx with
  |none=>cases mx' with
   |none=>simp[boundN]at e3;subst e3;rfl
   |some b=>simp[OptR]at h3
  |some a=>cases mx' with
   |none=>simp[OptR]at h3
   |some b=>exact(sliceBound_ok h3 e3 code w).1
 have s1: ∀code,(match lo' with|some v=>Instr.sliceBound v h code|none=>pure 0).run P w= .ok l w:=by
  intro code;cases lo with
  |none=>cases lo' with
   |none=>simp[boundN]at e1;subst e1;rfl
   |some b=>simp[OptR]at h1
  |some a=>cases lo' with
   |none=>simp[OptR]at h1
   |some b=>exact(sliceBound_ok h1 e1 code w).1
 have s2: ∀c1 c2,(match hi',mx' with|some v,some _=>Instr.sliceBound v m c1|some v,none=>Instr.sliceBound v m c2|none,none=>pure len|none,some _=>stuck "Slice: max without high").run P w= .ok h w:=by
  intro c1 c2;cases hi with
  |none=>cases hi' with
   |none=>
    cases mx with
    |some a=>simp at hmh
    |none=>cases mx' with
     |none=>simp[boundN]at e2;subst e2;rfl
     |some b=>simp[OptR]at h3
   |some b=>simp[OptR]at h2
  |some a=>cases hi' with
   |none=>simp[OptR]at h2
   |some b=>cases mx'<;>exact(sliceBound_ok h2 e2 _ w).1
 clear h1 h2 h3 e1 e2 e3 hmh
 cases mx'<;>cases hi'<;>cases lo'<;>simp only[Sem.run_pure,Result.ok.injEq,and_true,run_stuck,reduceCtorEq,forall_const]at s1 s2 s3<;>
  simp only[Instr.sliceBounds,Sem.run_bind,Sem.run_pure,Result.andThen_ok,s1,s2,s3]
 all_goals exact(s2 .index .index).elim
end
section
variable {P:Program}{ρ:RMap}{t:Tm}{ts:List Value}
theorem addr_add(b o n:Nat):(Addr.mk b o none).add n=⟨b,o+n,none⟩:=by
 unfold Addr.add
 split
 ·subst_vars;rfl
 ·rfl
theorem boundN_le{v:Option Value}{d y n:Nat}(h:boundN v d y=some n)(hd:d<=y):n<=y:=by
 cases v with
 |none=>simp[boundN]at h;omega
 |some v=>
  simp only[boundN]at h
  split at h
  ·split at h<;>simp at h;omega
  ·cases h
theorem boundN_of{v:Option Value}{d y n:Nat}(h:boundN v d y=some n){y':Nat}(hy:n<=y')(hn:v.isSome=true)(d':Nat):boundN v d' y'=some n:=by
 cases v with
 |none=>simp at hn
 |some v=>
  simp only[boundN]at h ⊢
  split at h
  ·split at h<;>simp at h
   subst h;rw[if_pos (by omega)]
  ·cases h
theorem acut_ok{T:TypeId}{x x' v:Value}{lo hi mx lo' hi' mx':Option Value}(h:acut P T x lo hi mx=some v)(hx:VR ρ x x')(h1:OptR ρ lo lo')(h2:OptR ρ hi hi')(h3:OptR ρ mx mx'):
  ∃v',VR ρ v v'/\ ∀w,(Instr.sliceAt T x' lo' hi' mx').run P w= .ok v' w:=by
 unfold acut at h
 split at h
 ·rename_i e a n c hu
  split at h
  ·cases h
  rename_i inf hinf
  split at h
  ·cases h
  rename_i m hm
  split at h
  ·cases h
  rename_i hc1
  split at h
  ·cases h
  rename_i hc2
  split at h
  ·cases h
  rename_i hh hhe
  split at h
  ·cases h
  rename_i hc3
  split at h
  ·cases h
  rename_i l hle
  split at h
  ·cases h
  rename_i hc4;simp only[Bool.not_eq_true]at hc2;have real: ∀(a':Option Addr)(c' m':Nat),x'= .slice a' n c'->boundN mx c' c'=some m'->boundN hi n m'=some hh->l<=hh/\
    ∀w,(Instr.sliceAt T x' lo' hi' mx').run P w= .ok (.slice (if m'=l then a' else a'.map (·.add (l*inf.size))) (hh-l) (m'-l)) w:=by
   rintro a' c' m' rfl e3 e2;refine⟨(sliceBounds_ok (P:=P) (isS:=true) h1 h2 h3 e3 hc2 e2 hle default).2,fun w=>?_⟩;simp only[Instr.sliceAt,Sem.run_bind,run_underlying' hu,Result.andThen_ok];simp only[Instr.slice,Sem.run_bind,run_underlying' hu,Result.andThen_ok,(sliceBounds_ok (P:=P) (isS:=true) h1 h2 h3 e3 hc2 e2 hle w).1,run_sizeOf' hinf,Sem.run_pure]
  cases hx with
  |snil n c=>
   obtain⟨_,r⟩:=real none c m rfl hm hhe;simp at h;subst h;refine⟨_,.snil _ _,fun w=>?_⟩;rw[r w];simp
  | @sl b o n c L hL hc=>
   obtain⟨hlh,r⟩:=real _ c m rfl hm hhe;simp at h;subst h;have hmc:=boundN_le hm (Nat.le_refl _);have hv:VR ρ (.slice (some ⟨b,if m=l then o else o+l*inf.size,none⟩) (hh-l) (m-l)) (.slice (some ⟨L.blk,L.off+if m=l then o else o+l*inf.size,none⟩) (hh-l) (m-l)):=.sl hL (by omega);refine⟨_,hv,fun w=>?_⟩;rw[r w]
   by_cases hml:m=l<;>simp[hml,addr_add,Nat.add_assoc]
  | @slo b o n c c' L hL hc he hn=>
   simp at h;subst h;cases mx with
   |none=>
    simp[boundN]at hm;subst hm;have hhn:hh<=n:=by
     simp only[Bool.and_eq_true,decide_eq_true_eq,not_and]at hc3;have:=hc3 hc;omega
    have hhe':boundN hi n c'=some hh:=by
     cases hi with
     |none=>simpa[boundN]using hhe
     |some q=>exact boundN_of hhe (by omega) rfl n
    obtain⟨hlh,r⟩:=real _ c' c' rfl (by simp[boundN]) hhe';have hcl:4611686018427387904<=c-l:=by
     simp only[Bool.and_eq_true,decide_eq_true_eq,not_and]at hc4;have:=hc4 hc;omega
    have hlc:c≠l:=by omega
    by_cases hz:c'=l
    ·have hz2:hh-l=0:=by omega
     have hv:VR ρ (.slice (some ⟨b,if c=l then o else o+l*inf.size,none⟩) (hh-l) (c-l)) (.slice (some ⟨L.blk,L.off+o,none⟩) 0 0):=by
      rw[hz2];exact .slz hL hcl (by omega)
     refine⟨_,hv,fun w=>?_⟩;rw[r w];simp[hz,hz2]
    ·have hv:VR ρ (.slice (some ⟨b,if c=l then o else o+l*inf.size,none⟩) (hh-l) (c-l)) (.slice (some ⟨L.blk,L.off+if c=l then o else o+l*inf.size,none⟩) (hh-l) (c'-l)):=
      .slo hL hcl (by omega) (by omega)
     refine⟨_,hv,fun w=>?_⟩;rw[r w];simp[hz,hlc,addr_add,Nat.add_assoc]
   |some q=>
    have hmn:m<=n/\m<4611686018427387904:=by
     simp only[Option.isSome_some,Bool.true_and,Bool.and_eq_true,Bool.or_eq_true,decide_eq_true_eq,not_and]at hc1;have:=hc1 hc;omega
    have hm':boundN (some q) c' c'=some m:=boundN_of hm (by omega) rfl c';obtain⟨hlh,r⟩:=real _ c' m rfl hm' hhe;have hhm:hh<=m:=by
     cases hi with
     |none=>simp at hc2
     |some z=>
      simp only[boundN]at hhe
      split at hhe
      ·split at hhe<;>simp at hhe;omega
      ·cases hhe
    have hv:VR ρ (.slice (some ⟨b,if m=l then o else o+l*inf.size,none⟩) (hh-l) (m-l)) (.slice (some ⟨L.blk,L.off+if m=l then o else o+l*inf.size,none⟩) (hh-l) (m-l)):=.sl hL (by omega);refine⟨_,hv,fun w=>?_⟩;rw[r w]
    by_cases hml:m=l<;>simp[hml,addr_add,Nat.add_assoc]
  | @slz b o c L a' hL hc he=>
   simp at h;subst h;have zero: ∀{q:Nat},boundN hi 0 q=some 0->boundN hi 0 0=some 0:=by
    intro q hq;cases hi with
    |none=>simp[boundN]
    |some z=>exact boundN_of hq (Nat.le_refl _) rfl 0
   cases mx with
   |some q=>
    have hm0:m=0:=by
     simp only[Option.isSome_some,Bool.true_and,Bool.and_eq_true,Bool.or_eq_true,decide_eq_true_eq,not_and]at hc1;have:=hc1 hc;omega
    subst hm0;have hhm:hh=0:=by
     have:=boundN_le hhe (Nat.le_refl _);omega
    subst hhm;have hm':boundN (some q) 0 0=some 0:=boundN_of hm (Nat.le_refl _) rfl 0;obtain⟨hlh,r⟩:=real _ 0 0 rfl hm' hhe;obtain rfl:l=0:=by omega
    refine⟨_,.sl0 (a:=a') hL,fun w=>?_⟩;rw[r w];simp
   |none=>
    simp[boundN]at hm;subst hm;have hhn:hh=0:=by
     simp only[Bool.and_eq_true,decide_eq_true_eq,not_and]at hc3;have:=hc3 hc;omega
    subst hhn;have hhe':boundN hi 0 0=some 0:=by
     cases hi with
     |none=>simp[boundN]
     |some q=>exact boundN_of hhe (Nat.le_refl _) rfl 0
    obtain⟨hlh,r⟩:=real _ 0 0 rfl (by simp[boundN]) hhe';obtain rfl:l=0:=by omega
    refine⟨_,.slz (a:=a') hL (by simpa using hc) (by simpa using he),fun w=>?_⟩;rw[r w];simp
  | @sl0 b o L a' hL=>
   simp at h;subst h;have hm0:=boundN_le hm (Nat.le_refl _);obtain rfl:m=0:=by omega
   have hh0:=boundN_le hhe (Nat.le_refl _);obtain rfl:hh=0:=by omega
   obtain⟨hlh,r⟩:=real _ 0 0 rfl hm hhe;obtain rfl:l=0:=by omega
   refine⟨_,.sl0 (a:=a') hL,fun w=>?_⟩;rw[r w];simp
 ·rename_i n e b o hu
  split at h
  ·cases h
  rename_i inf hinf
  split at h
  ·cases h
  rename_i hmx;cases mx with
  |some _=>simp at hmx
  |none=>
  cases mx' with
  |some _=>simp[OptR]at h3
  |none=>
  split at h
  ·cases h
  rename_i hh hhe
  split at h
  ·cases h
  rename_i l hle
  split at h
  ·cases h
  rename_i hbig;simp at h;subst h;cases hx with
  | @ptr b o L hL=>
   have hv:VR ρ (.slice (some ⟨b,if n=l then o else o+l*inf.size,none⟩) (hh-l) (n-l)) (.slice (some ⟨L.blk,L.off+if n=l then o else o+l*inf.size,none⟩) (hh-l) (n-l)):=.sl hL (by omega);refine⟨_,hv,fun w=>?_⟩;have sb:=(sliceBounds_ok (P:=P) (isS:=false) (cap:=n) (mx:=none) (mx':=none) h1 h2 h3 (by simp[boundN]) (by simp) hhe hle w).1;simp only[Instr.sliceAt,Instr.sureAddr,Sem.run_bind,run_underlying' hu,Result.andThen_ok,Sem.run_pure,sb,run_sizeOf' hinf]
   by_cases hml:n=l<;>simp[hml,addr_add,Nat.add_assoc]
 ·rename_i s hu
  split at h
  ·cases h
  rename_i hmx;cases mx with
  |some _=>simp at hmx
  |none=>
  cases mx' with
  |some _=>simp[OptR]at h3
  |none=>
  split at h
  ·cases h
  rename_i hh hhe
  split at h
  ·cases h
  rename_i l hle;simp at h;subst h;cases hx with
  |string s=>
   refine⟨_,.string _,fun w=>?_⟩;have sb:=(sliceBounds_ok (P:=P) (isS:=false) (cap:=s.size) (mx:=none) (mx':=none) h1 h2 h3 (by simp[boundN]) (by simp) hhe hle w).1;simp only[Instr.sliceAt,Sem.run_bind,run_underlying' hu,Result.andThen_ok];simp only[Instr.slice,Sem.run_bind,run_underlying' hu,Result.andThen_ok,Option.isSome_none,Bool.false_eq_true,if_false,sb,Sem.run_pure]
 ·cases h
theorem afieldAddr_ok{S:TypeId}{x x' v:Value}{f:Nat}(h:afieldAddr P S x f=some v)(hx:VR ρ x x'): ∃v',VR ρ v v'/\ ∀w,(Instr.fieldAt S x' f).run P w= .ok v' w:=by
 unfold afieldAddr at h
 split at h
 ·rename_i fs b o hu
  split at h
  ·rename_i fd hf
   split at h
   ·rename_i i hi
    split at h<;>simp at h
    subst h;rename_i hz;cases hx with
    | @ptr b o L hL=>
     have hv:VR ρ (.pointer (some ⟨b,o+fd.offset,none⟩)) (.pointer (some ⟨L.blk,L.off+(o+fd.offset),none⟩)):=.ptr hL;refine⟨_,hv,fun w=>?_⟩;simp only[Instr.fieldAt,Sem.run_bind,run_underlying' hu,Result.andThen_ok,hf,Instr.sureAddr,Sem.run_pure,fieldPlace,run_sizeOf' hi];rw[if_neg hz];simp[addr_add,Nat.add_assoc]
   ·cases h
  ·cases h
 ·cases h
theorem afield_ok{S:TypeId}{x x' v:Value}{f:Nat}(h:afield P S x f=some v)(hx:VR ρ x x'): ∃v',VR ρ v v'/\ ∀w,(Instr.field S x' f).run P w= .ok v' w:=by
 unfold afield at h
 split at h
 ·rename_i fs cs hu
  split at h
  ·rename_i fd hf;cases hx with
   | @agg xs ys hxy=>
    obtain⟨v',h1,h2⟩:=apart_ok h hxy;refine⟨v',h1,fun w=>?_⟩;simp only[Instr.field,Sem.run_bind,run_underlying' hu,Result.andThen_ok,hf,asAgg,Sem.run_pure,h2]
  ·cases h
 ·cases h
theorem aindexAddr_ok{T:TypeId}{x x' ix ix' v:Value}(h:aindexAddr P T x ix=some v)(hx:VR ρ x x')(hi:VR ρ ix ix'): ∃v',VR ρ v v'/\ ∀w,(Instr.indexAt T x' ix').run P w= .ok v' w:=by
 unfold aindexAddr at h
 split at h
 ·rename_i e b o n c k i hu
  split at h
  ·rename_i inf hinf
   split at h<;>simp at h
   subst h;rename_i hb;cases hi;have fin: ∀(L:RLoc)(c':Nat),ρ b=some L-> ∀w,(Instr.indexAt T (.slice (some ⟨L.blk,L.off+o,none⟩) n c') (.int k i)).run P w= .ok (.pointer (some ⟨L.blk,L.off+(o+i.toNat*inf.size),none⟩)) w:=by
    intro L c' hL w;simp only[Instr.indexAt,asIntOf,Sem.run_bind,run_underlying' hu,Result.andThen_ok,Sem.run_pure,run_sizeOf' hinf];simp[hb,addr_add,Nat.add_assoc,run_sizeOf' hinf]
   cases hx with
   |sl hL hc=>exact⟨_,.ptr hL,fin _ _ hL⟩
   |slo hL hc he hn=>exact⟨_,.ptr hL,fin _ _ hL⟩
   |slz hL hc he=>omega
   |sl0 hL=>omega
  ·cases h
 ·rename_i n e b o k i hu
  split at h
  ·rename_i inf hinf
   split at h<;>simp at h
   subst h;rename_i hb;cases hi;cases hx with
   | @ptr b o L hL=>
    refine⟨_,.ptr hL,fun w=>?_⟩;simp only[Instr.indexAt,asIntOf,Sem.run_bind,run_underlying' hu,Result.andThen_ok,Sem.run_pure,Instr.sureAddr];simp[hb,addr_add,Nat.add_assoc,run_sizeOf' hinf]
  ·cases h
 ·cases h
theorem aindex_ok{T:TypeId}{x x' ix ix' v:Value}(h:aindex P T x ix=some v)(hx:VR ρ x x')(hi:VR ρ ix ix'): ∃v',VR ρ v v'/\ ∀w,(Instr.index T x' ix').run P w= .ok v' w:=by
 unfold aindex at h
 split at h
 ·rename_i n e cs k i hu
  split at h
  ·rename_i inf hinf
   split at h
   ·rename_i hb;cases hi;cases hx with
    | @agg xs ys hxy=>
     obtain⟨v',h1,h2⟩:=apart_ok h hxy;refine⟨v',h1,fun w=>?_⟩;simp only[Instr.index,asIntOf,Sem.run_bind,run_underlying' hu,Result.andThen_ok,Sem.run_pure];rw[if_pos hb];simp only[Sem.run_bind,run_sizeOf' hinf,Result.andThen_ok,h2]
   ·cases h
  ·cases h
 ·rename_i s k i hu
  split at h
  ·rename_i hb
   split at h
   ·rename_i b hsb;simp at h;subst h;cases hi;cases hx;refine⟨_,.int _ _,fun w=>?_⟩;simp only[Instr.index,asIntOf,Sem.run_bind,run_underlying' hu,Result.andThen_ok,Sem.run_pure];rw[if_pos hb,hsb]
    rfl
   ·cases h
  ·cases h
 ·cases h
theorem alen_ok{ats:Array TypeId}{vs us:List Value}{ty:TypeId}{v:Value}(h:alen P ats vs=some v)(hv:VRs ρ vs us): ∃v',VR ρ v v'/\ ∀w,(Builtin.len_ ats ty ⟨us⟩).run P w= .ok v' w:=by
 unfold alen at h
 split at h
 ·rename_i T x hT;cases hv with
  |cons hx hn=>
   cases hn
   split at h<;>first|(cases h;done)|skip
   all_goals
    rename_i hu;simp at h;subst h;refine⟨_,.int _ _,fun w=>?_⟩
    first
    |(cases hx<;>simp only[Builtin.len_,hT,List.getElem?_toArray,List.getElem?_cons_zero,Sem.run_bind,run_underlying' hu,Result.andThen_ok,Sem.run_pure,goInt];done)
    |(simp only[Builtin.len_,hT,List.getElem?_toArray,List.getElem?_cons_zero,Sem.run_bind,run_underlying' hu,Result.andThen_ok,Sem.run_pure,goInt];done)
 ·cases h
theorem acap_ok{ats:Array TypeId}{vs us:List Value}{ty:TypeId}{v:Value}(h:acap P ats vs=some v)(hv:VRs ρ vs us): ∃v',VR ρ v v'/\ ∀w,(Builtin.cap_ ats ty ⟨us⟩).run P w= .ok v' w:=by
 unfold acap at h
 split at h
 ·rename_i T x hT;cases hv with
  |cons hx hn=>
   cases hn
   split at h
   ·rename_i hu;simp at h;subst h;refine⟨_,.int _ _,fun w=>?_⟩;simp only[Builtin.cap_,hT,List.getElem?_toArray,List.getElem?_cons_zero,Sem.run_bind,run_underlying' hu,Result.andThen_ok,Sem.run_pure,goInt]
   ·rename_i hu
    split at h<;>simp at h
    subst h;refine⟨_,.int _ _,fun w=>?_⟩;cases hx<;>first|omega|simp only[Builtin.cap_,hT,List.getElem?_toArray,List.getElem?_cons_zero,Sem.run_bind,run_underlying' hu,Result.andThen_ok,Sem.run_pure,goInt]
   ·cases h
 ·cases h
theorem apure_ok{o:Oper}{v:Value}(h:apure P o t=some v)(ht:TRs ρ t ts):
  ∃v',VR ρ v v'/\ ∀w,(execOp (tev ts) o).run P w= .ok (.value v') w:=by
 obtain⟨dst,op,ty,pos,aft,grd⟩:=o;unfold apure at h
 split at h
 ·rename_i x hop;dsimp only at hop;subst hop;exact⟨_,ev_ok ht h,fun w=>rfl⟩
 ·rename_i x hop;dsimp only at hop;subst hop;exact⟨_,ev_ok ht h,fun w=>rfl⟩
 ·rename_i c a b hop;dsimp only at hop;subst hop
  split at h
  ·rename_i hc;have:=ev_ok ht hc;generalize hcv:tev ts c=cv at this;cases this;exact⟨_,ev_ok ht h,fun w=>by simp[execOp,hcv,asBool]⟩
  ·rename_i hc;have:=ev_ok ht hc;generalize hcv:tev ts c=cv at this;cases this;exact⟨_,ev_ok ht h,fun w=>by simp[execOp,hcv,asBool]⟩
  ·cases h
 ·rename_i T parts hop;dsimp only at hop;subst hop
  split at h
  ·rename_i ps hps;obtain⟨v',h1,h2⟩:=abuild_ok h (evp_ok ht hps);refine⟨v',h1,fun w=>?_⟩;have:(parts.map fun x:Nat×Operand=>(x.1,tev ts x.2))=⟨parts.toList.map fun p=>(p.1,tev ts p.2)⟩:=by
    apply Array.ext';simp
   simp only[execOp,Sem.run_bind];rw[this,h2];rfl
  ·cases h
 ·rename_i x hop;dsimp only at hop;subst hop
  split at h
  ·rename_i a hx;simp at h;subst h;have:=ev_ok ht hx;generalize hxv:tev ts x=xv at this;refine⟨xv,this,fun w=>?_⟩;cases this;simp[execOp,hxv]
  ·rename_i f a b hx;simp at h;subst h;have:=ev_ok ht hx;generalize hxv:tev ts x=xv at this;refine⟨xv,this,fun w=>?_⟩;cases this;simp[execOp,hxv]
  ·cases h
 ·rename_i op T x y yt hop;dsimp only at hop;subst hop
  split at h
  ·rename_i a b ha hb;obtain⟨v',h1,h2⟩:=abin_ok h (ev_ok ht ha) (ev_ok ht hb);refine⟨v',h1,fun w=>?_⟩;have:=h2 w;simp only[execOp];rw[Sem.run_bind,this];rfl
  ·cases h
 ·rename_i op T x hop;dsimp only at hop;subst hop
  split at h
  ·rename_i a ha
   split at h
   ·rename_i hp;obtain⟨h1,h2⟩:=prun_ok (ρ:=ρ) h;have:=(ev_ok ht ha).plain_eq hp;exact⟨v,h1,fun w=>by simp only[execOp];rw[this,Sem.run_bind,h2];rfl⟩
   ·cases h
  ·cases h
 ·rename_i s d x hop;dsimp only at hop;subst hop
  split at h
  ·rename_i a ha
   split at h
   ·rename_i hp;obtain⟨h1,h2⟩:=prun_ok (ρ:=ρ) h;have:=(ev_ok ht ha).plain_eq hp;exact⟨v,h1,fun w=>by simp only[execOp];rw[this,Sem.run_bind,h2];rfl⟩
   ·cases h
  ·cases h
 ·rename_i fn first captured hop;dsimp only at hop;subst hop
  split at h
  ·rename_i f c hf hc;simp at h;subst h;have e: ∀xs:Array Operand,xs.map (tev ts)=⟨xs.toList.map (tev ts)⟩:=fun xs=>by apply Array.ext';simp
   refine⟨_,.func (evs_ok ht hf) (evs_ok ht hc),fun w=>?_⟩;simp only[execOp,Instr.makeFunc,Sem.run_bind,Sem.run_pure,Result.andThen_ok,e]
  ·cases h
 ·rename_i T x lo hi mx hop;dsimp only at hop;subst hop
  split at h
  ·rename_i v0 l hh m hx hl hh' hm;obtain⟨v',h1,h2⟩:=acut_ok h (ev_ok ht hx) (evo_ok ht hl) (evo_ok ht hh') (evo_ok ht hm);exact⟨v',h1,fun w=>by simp only[execOp,Sem.run_bind,h2];rfl⟩
  ·cases h
 ·rename_i S x f hop;dsimp only at hop;subst hop
  split at h
  ·rename_i v0 hx;obtain⟨v',h1,h2⟩:=afieldAddr_ok h (ev_ok ht hx);exact⟨v',h1,fun w=>by simp only[execOp,Sem.run_bind,h2];rfl⟩
  ·cases h
 ·rename_i S x f hop;dsimp only at hop;subst hop
  split at h
  ·rename_i v0 hx;obtain⟨v',h1,h2⟩:=afield_ok h (ev_ok ht hx);exact⟨v',h1,fun w=>by simp only[execOp,Sem.run_bind,h2];rfl⟩
  ·cases h
 ·rename_i T x ix hop;dsimp only at hop;subst hop
  split at h
  ·rename_i v0 i0 hx hi;obtain⟨v',h1,h2⟩:=aindexAddr_ok h (ev_ok ht hx) (ev_ok ht hi);exact⟨v',h1,fun w=>by simp only[execOp,Sem.run_bind,h2];rfl⟩
  ·cases h
 ·rename_i T x ix hop;dsimp only at hop;subst hop
  split at h
  ·rename_i v0 i0 hx hi;obtain⟨v',h1,h2⟩:=aindex_ok h (ev_ok ht hx) (ev_ok ht hi);exact⟨v',h1,fun w=>by simp only[execOp,Sem.run_bind,h2];rfl⟩
  ·cases h
 ·rename_i x i hop;dsimp only at hop;subst hop
  split at h
  ·rename_i vs hx;have:=ev_ok ht hx;generalize hxv:tev ts x=xv at this;cases this with
   |tuple hvs=>
    obtain⟨v',h1,h2⟩:=hvs.get (by simpa using h);refine⟨v',h2,fun w=>?_⟩;simp[execOp,hxv,Instr.extract,h1]
  ·cases h
 all_goals (try (cases h;done))
 all_goals
  rename_i args ats hop;dsimp only at hop;subst hop
  split at h
  rotate_left
  ·cases h
  rename_i vs hvs;have e:args.map (tev ts)=⟨args.toList.map (tev ts)⟩:=by apply Array.ext';simp
 ·obtain⟨v',h1,h2⟩:=alen_ok (ty:=ty) h (evs_ok ht hvs);exact⟨v',h1,fun w=>by simp only[execOp,resolve,Sem.run_bind,Sem.run_pure,Result.andThen_ok,invoke,builtin,e,h2]⟩
 ·obtain⟨v',h1,h2⟩:=acap_ok (ty:=ty) h (evs_ok ht hvs);exact⟨v',h1,fun w=>by simp only[execOp,resolve,Sem.run_bind,Sem.run_pure,Result.andThen_ok,invoke,builtin,e,h2]⟩
 ·split at h
  ·rename_i hp;obtain⟨h1,h2⟩:=prun_ok (ρ:=ρ) h;have:=(evs_ok ht hvs).plain_eq hp;exact⟨v,h1,fun w=>by simp only[execOp,resolve,Sem.run_bind,Sem.run_pure,Result.andThen_ok,invoke,builtin,e,this,h2]⟩
  ·cases h
 ·split at h
  ·rename_i hp;obtain⟨h1,h2⟩:=prun_ok (ρ:=ρ) h;have:=(evs_ok ht hvs).plain_eq hp;exact⟨v,h1,fun w=>by simp only[execOp,resolve,Sem.run_bind,Sem.run_pure,Result.andThen_ok,invoke,builtin,e,this,h2]⟩
  ·cases h
end
def aload(P:Program)(T:TypeId)(x:Value)(h:Heap):Option Value:=
 match x with
 | .pointer (some ⟨b,o,none⟩)=>match h[b]? with
  |some (.row _ _ cs)=>apart P T cs o
  |_=>none
 |_=>none
def findAskA(P:Program)(kt:TypeId)(k:Value):List MapEntry->Nat->Option (Option (Nat×Value))
 | [],_=>some none
 |e::es,i=>match pureRun P (Op.equal kt k e.key)with
  |some true=>some (some (i,e.val))
  |some false=>findAskA P kt k es (i+1)
  |none=>none
def keysPlain(es:List MapEntry):Bool:=es.all fun e=>plainV e.key
def afind(P:Program)(kt:TypeId)(k:Value)(es:List MapEntry):Option (Option (Nat×Value)):=
 match P.underlying kt with
 |some d=>match Instr.findNow d k es 0 with
  |some r=>some r
  |none=>findAskA P kt k es 0
 |none=>none
def alookup(P:Program)(T:TypeId)(x k:Value)(ok:Bool)(h:Heap):Option Value:=
 match P.underlying T with
 |some (.map kt et)=>
  let es?:Option (List MapEntry):=match x with
   | .map none=>some []
   | .map (some b)=>match h[b]? with
    |some (.map es _)=>some es
    |_=>none
   |_=>none
  match es? with
  |none=>none
  |some es=>
   if plainV k&&keysPlain es then
    match pureRun P (Instr.checkKey es.isEmpty 10000 kt k)with
    |none=>none
    |some _=>match afind P kt k es with
     |none=>none
     |some (some (_,v))=>some (if ok then .tuple ⟨[v,.bool true]⟩else v)
     |some none=>match P.info? et with
      |some i=>match i.zero with
       |some z=>if plainV z then some (if ok then .tuple ⟨[z,.bool false]⟩else z)else none
       |none=>none
      |none=>none
   else none
 |_=>none
def bytesOf:List Value->Option (List Int)
 | []=>some []
 | .int .u8 n::xs=>match bytesOf xs with
  |some ns=>some (n::ns)
  |none=>none
 |_=>none
def abytesStr(P:Program)(s d:TypeId)(x:Value)(h:Heap):Option Value:=
 match P.underlying s,P.underlying d,x with
 |some (.slice e),some .string,.slice (some ⟨b,o,none⟩) n _=>match P.underlying e,P.info? e with
  |some (.int .u8),some _=>if n=0 then some (.string ByteArray.empty)else match h[b]? with
   |some (.row _ _ cs)=>if o+n<=cs.length then match bytesOf ((cs.drop o).take n)with
     |some ns=>some (.string (ns.foldl (fun r n=>r.push (UInt8.ofNat n.toNat)) ByteArray.empty))
     |none=>none
    else none
   |_=>none
  |_,_=>none
 |some (.slice e),some .string,.slice none _ _=>match P.underlying e,P.info? e with
  |some (.int .u8),some _=>some (.string ByteArray.empty)
  |_,_=>none
 |_,_,_=>none
def amapLen(P:Program)(ats:Array TypeId)(vs:List Value)(h:Heap):Option Value:=
 match ats[0]?,vs with
 |some T,[.map (some b)]=>match P.underlying T,h[b]? with
  |some (.map _ _),some (.map es _)=>some (.int .i64 es.length)
  |_,_=>none
 |_,_=>none
def aread(P:Program)(o:Oper)(t:Tm)(h:Heap):Option Value:=
 match o.op with
 | .load T x=>match ev t x with
  |some v=>aload P T v h
  |none=>none
 | .lookup T x k ok=>match ev t x,ev t k with
  |some v,some k=>alookup P T v k ok h
  |_,_=>none
 | .convert s d x=>match ev t x with
  |some v=>abytesStr P s d v h
  |none=>none
 | .call ⟨.builtin .len,args,ats⟩=>match evs t args.toList with
  |some vs=>amapLen P ats vs h
  |none=>none
 |_=>none
section
variable {P:Program}{B:Nat}{w0:World}{ρ:RMap}{h:Heap}{w:World}{t:Tm}{ts:List Value}
theorem cells_ex{cs:List Value}{f:Nat->Option Value}(hf: ∀(i:Nat) v,cs[i]?=some v-> ∃v',f i=some v'/\VR ρ v v'):
  ∃vs,VRs ρ cs vs/\ ∀(i:Nat) v,vs[i]?=some v->f i=some v:=by
 induction cs generalizing f with
 |nil=>exact⟨[],.nil,by simp⟩
 |cons c cs ih=>
  obtain⟨v',h1,h2⟩:=hf 0 c (by simp);obtain⟨vs,h3,h4⟩:=ih (f:=fun i=>f (i+1)) (fun i v hi=>hf (i+1) v (by simpa using hi));refine⟨v'::vs,.cons h2 h3,fun i v hi=>?_⟩;cases i with
  |zero=>simp at hi;subst hi;exact h1
  |succ i=>exact h4 i v (by simpa using hi)
theorem Rel.cells(hr:Rel B w0 ρ h w){b:Nat}{m:Mode}{esz:Nat}{cs:List Value}(ho:h[b]?=some (.row m esz cs)){L:RLoc}(hL:ρ b=some L)(o n:Nat):
  ∃vs,VRs ρ ((cs.drop o).take n) vs/\ ∀(j:Nat) v,vs[j]?=some v->w.cell? ((Addr.mk L.blk (L.off+o) none).add j)=some v:=by
 apply cells_ex
 intro i v hi;have hi':cs[o+i]?=some v:=by
  rw[List.getElem?_take]at hi
  split at hi
  ·simpa using hi
  ·cases hi
 obtain⟨v',h1,h2⟩:=hr.cell ho hL hi';exact⟨v',by rw[addr_add,Nat.add_assoc];exact h1,h2⟩
theorem aload_ok(hr:Rel B w0 ρ h w){T:TypeId}{x x' v:Value}(hv:aload P T x h=some v)(hx:VR ρ x x'): ∃v',VR ρ v v'/\(Instr.loadAt T x').run P w= .ok v' w:=by
 unfold aload at hv
 split at hv
 ·rename_i b o
  split at hv
  ·rename_i m esz cs hb;cases hx with
   | @ptr b o L hL=>
    unfold apart at hv;have agg: ∀(i:TypeInfo)(d:TypeDesc),P.underlying T=some d->aggT P T=true->P.info? T=some i->o+i.size<=cs.length->v= .agg ⟨(cs.drop o).take i.size⟩->
      ∃v',VR ρ v v'/\(Instr.loadAt T (.pointer (some ⟨L.blk,L.off+o,none⟩))).run P w= .ok v' w:=by
     rintro i d hu ha hi hle rfl;obtain⟨vs,h1,h2⟩:=hr.cells hb hL o i.size;refine⟨_,.agg h1,?_⟩;have hlen:vs.length=i.size:=by rw[<-h1.length];simp;omega
     have:=run_loadCells_list (P:=P) w _ vs h2;rw[hlen]at this;simp only[Instr.loadAt,Instr.sureAddr,Sem.run_bind,Sem.run_pure,Result.andThen_ok,loadVar,run_isAgg' hu,ha,if_true,run_sizeOf' hi,this]
    split at hv
    ·rename_i fs hu
     split at hv
     ·rename_i i hi
      split at hv<;>simp at hv
      exact agg i _ hu (by simp[aggT,hu]) hi ‹_› hv.symm
     ·cases hv
    ·rename_i n e hu
     split at hv
     ·rename_i i hi
      split at hv<;>simp at hv
      exact agg i _ hu (by simp[aggT,hu]) hi ‹_› hv.symm
     ·cases hv
    ·rename_i d hu1 hu2 hu;obtain⟨v',h1,h2⟩:=hr.cell hb hL hv;refine⟨v',h2,?_⟩;have hn:aggT P T=false:=by
      unfold aggT;rw[hu];cases d<;>first|rfl|(exact(hu1 _ rfl).elim)|(exact(hu2 _ _ rfl).elim)
     simp only[Instr.loadAt,Instr.sureAddr,Sem.run_bind,Sem.run_pure,Result.andThen_ok,loadVar,run_isAgg' hu,hn,Bool.false_eq_true,if_false];rw[run_load];simp[h1]
    ·cases hv
  ·cases hv
 ·cases hv
def FR(ρ:RMap):Option (Nat×Value)->Option (Nat×Value)->Prop
 |none,none=>True
 |some (j,v),some (j',v')=>j=j'/\VR ρ v v'
 |_,_=>False
theorem findNow_ok{d:TypeDesc}{k:Value}{es es':List MapEntry}(he:ERs ρ es es')(hp:keysPlain es=true){i:Nat}:
  (∀r,Instr.findNow d k es i=some r-> ∃r',Instr.findNow d k es' i=some r'/\FR ρ r r')/\(Instr.findNow d k es i=none->Instr.findNow d k es' i=none):=by
 induction he generalizing i with
 |nil=>refine⟨fun r hr=>?_,fun hn=>?_⟩<;>simp[Instr.findNow]at*;subst hr;trivial
 | @cons k1 k2 v1 v2 b xs ys hk hv _ ih=>
  simp only[keysPlain,List.all_cons,Bool.and_eq_true]at hp;obtain rfl:=hk.plain_eq hp.1;have ih':=@ih hp.2 (i+1);simp only[Instr.findNow];cases Instr.sameNow d k k2 with
  |none=>simp
  |some q=>cases q with
   |true=>simp[FR,hv]
   |false=>exact ih'
theorem findAskA_ok{kt:TypeId}{k:Value}{es es':List MapEntry}(he:ERs ρ es es')(hp:keysPlain es=true){i:Nat}{r:Option (Nat×Value)}(hr:findAskA P kt k es i=some r):
  ∃r':Option (Nat×Value),(∀w,(Instr.findAsking kt k es' i).run P w= .ok r' w)/\FR ρ r r':=by
 induction he generalizing i with
 |nil=>simp[findAskA]at hr;subst hr;exact⟨none,fun w=>rfl,trivial⟩
 | @cons k1 k2 v1 v2 b xs ys hk hv _ ih=>
  simp only[keysPlain,List.all_cons,Bool.and_eq_true]at hp;obtain rfl:=hk.plain_eq hp.1;simp only[findAskA]at hr
  split at hr
  ·rename_i hq;simp at hr;subst hr;refine⟨some (i,v2),fun w=>?_,rfl,hv⟩;simp only[Instr.findAsking,Sem.run_bind,pureRun_ok hq,Result.andThen_ok,if_true,Sem.run_pure]
  ·rename_i hq;obtain⟨r',h1,h2⟩:=ih hp.2 hr;refine⟨r',fun w=>?_,h2⟩;simp only[Instr.findAsking,Sem.run_bind,pureRun_ok hq,Result.andThen_ok,Bool.false_eq_true,if_false,h1]
  ·cases hr
theorem afind_ok{kt:TypeId}{k:Value}{es es':List MapEntry}(he:ERs ρ es es')(hp:keysPlain es=true){r:Option (Nat×Value)}(hr:afind P kt k es=some r):
  ∃r':Option (Nat×Value),(∀w,(Instr.findKey kt k es').run P w= .ok r' w)/\FR ρ r r':=by
 unfold afind at hr
 split at hr
 ·rename_i d hd
  split at hr
  ·rename_i r1 hn;simp at hr;subst hr;obtain⟨r',h1,h2⟩:=(findNow_ok he hp).1 _ hn;refine⟨r',fun w=>?_,h2⟩;simp only[Instr.findKey,Sem.run_bind,run_underlying' hd,Result.andThen_ok,h1,Sem.run_pure]
  ·rename_i hn;obtain⟨r',h1,h2⟩:=findAskA_ok he hp hr;refine⟨r',fun w=>?_,h2⟩;simp only[Instr.findKey,Sem.run_bind,run_underlying' hd,Result.andThen_ok,(findNow_ok he hp).2 hn,h1]
 ·cases hr
theorem ERs.length{es es':List MapEntry}(he:ERs ρ es es'):es.length=es'.length:=by induction he<;>simp_all
theorem run_getObj_map{b clock:Nat}{es:List MapEntry}(hb:w.heap[b]?=some (.map ⟨es⟩ clock)):(getObj b).run P w= .ok (.map ⟨es⟩ clock) w:=by
 simp[getObj,Sem.run,hb]
theorem alookup_ok(hr:Rel B w0 ρ h w){T:TypeId}{x x' k k' v:Value}{ok:Bool}(hv:alookup P T x k ok h=some v)(hx:VR ρ x x')(hk:VR ρ k k'):
  ∃v',VR ρ v v'/\(Instr.lookup T x' k' ok).run P w= .ok v' w:=by
 unfold alookup at hv
 split at hv
 rotate_left
 ·cases hv
 rename_i kt et hu;dsimp only at hv
 split at hv
 ·cases hv
 rename_i es hes
 split at hv
 rotate_left
 ·cases hv
 rename_i hp;simp only[Bool.and_eq_true]at hp;obtain rfl:=hk.plain_eq hp.1;have real: ∃es',ERs ρ es es'/\(x'= .map none/\es'=[]\/ ∃r clock,x'= .map (some r)/\w.heap[r]?=some (.map ⟨es'⟩ clock)):=by
  split at hes
  ·simp at hes;subst hes;cases hx;exact⟨[],.nil,.inl ⟨rfl,rfl⟩⟩
  ·rename_i b
   split at hes
   ·rename_i es2 clock hb;simp at hes;subst hes;cases hx with
    | @map b L hL=>
     obtain⟨L',hL',hO⟩:=hr.obj b _ hb;obtain rfl:L=L':=by rw[hL]at hL';exact Option.some.inj hL'
     obtain⟨_,es',h1,h2⟩:=hO;exact⟨es',h2,.inr ⟨_,_,rfl,h1⟩⟩
   ·cases hes
  ·cases hes
 obtain⟨es',he,hrun⟩:=real
 split at hv
 ·cases hv
 rename_i hck;have hem:(Array.mk es').isEmpty=es.isEmpty:=by
  have:=he.length;cases es<;>cases es'<;>simp_all
 have hck': ∀w,(Instr.checkKey (Array.mk es').isEmpty 10000 kt k').run P w= .ok () w:=fun w=>by rw[hem];exact pureRun_ok hck w
 split at hv
 ·cases hv
 ·rename_i i u hf;obtain⟨r',h1,h2⟩:=afind_ok he hp.2 hf;simp at hv;subst hv;cases r' with
  |none=>exact h2.elim
  |some p=>
   obtain⟨j',u'⟩:=p;have hv:VR ρ (if ok then .tuple ⟨[u,.bool true]⟩else u) (if ok then .tuple ⟨[u',.bool true]⟩else u'):=by
    cases ok
    ·exact h2.2
    ·exact .tuple (.cons h2.2 (.cons (.bool _) .nil))
   refine⟨_,hv,?_⟩;rcases hrun with⟨rfl,rfl⟩|⟨r,clock,rfl,hb⟩
   ·simp only[Instr.lookup,Sem.run_bind,run_underlying' hu,Result.andThen_ok,Sem.run_pure,hck',h1]
   ·simp only[Instr.lookup,Sem.run_bind,run_underlying' hu,Result.andThen_ok,Sem.run_pure,run_getObj_map hb,hck',h1]
 ·rename_i hf;obtain⟨r',h1,h2⟩:=afind_ok he hp.2 hf
  split at hv
  ·rename_i inf hinf
   split at hv
   ·rename_i z hz
    split at hv<;>simp at hv
    subst hv;rename_i hpz;cases r' with
    |some p=>exact h2.elim
    |none=>
     have hv:VR ρ (if ok then .tuple ⟨[z,.bool false]⟩else z) (if ok then .tuple ⟨[z,.bool false]⟩else z):=by
      cases ok
      ·exact VR.plain hpz
      ·exact .tuple (.cons (VR.plain hpz) (.cons (.bool _) .nil))
     refine⟨_,hv,?_⟩;rcases hrun with⟨rfl,rfl⟩|⟨r,clock,rfl,hb⟩
     ·simp only[Instr.lookup,Sem.run_bind,run_underlying' hu,Result.andThen_ok,Sem.run_pure,hck',h1,run_zeroValue' hinf hz]
     ·simp only[Instr.lookup,Sem.run_bind,run_underlying' hu,Result.andThen_ok,Sem.run_pure,run_getObj_map hb,hck',h1,run_zeroValue' hinf hz]
   ·cases hv
  ·cases hv
theorem bytesOf_ok{xs ys:List Value}(hx:VRs ρ xs ys){ns:List Int}(hb:bytesOf xs=some ns):ys=ns.map (Value.int .u8):=by
 induction xs generalizing ys ns with
 |nil=>cases hx;simp[bytesOf]at hb;subst hb;rfl
 |cons x xs ih=>
  cases hx with
  |cons h1 h2=>
   unfold bytesOf at hb
   split at hb
   ·rename_i heq;cases heq
   ·rename_i n xs' heq;cases heq
    split at hb
    ·rename_i ns' hn;simp at hb;subst hb;cases h1;rw[ih h2 hn];rfl
    ·cases hb
   ·cases hb
theorem abytesStr_ok(hr:Rel B w0 ρ h w){s d:TypeId}{x x' v:Value}(hv:abytesStr P s d x h=some v)(hx:VR ρ x x'): ∃v',VR ρ v v'/\(convert s d x').run P w= .ok v' w:=by
 unfold abytesStr at hv
 split at hv
 ·rename_i e b o n c hs hd
  split at hv
  ·rename_i inf he hinf
   split at hv
   ·rename_i h0;subst h0;simp at hv;subst hv;refine⟨_,.string _,?_⟩;cases hx<;>(rw[run_convert_bytes_string w s d e _ _ _ hs he hd];exact run_bytesToString w _ 0 _ [] rfl)
   split at hv
   ·rename_i m esz cs hb
    split at hv
    ·rename_i hle
     split at hv
     ·rename_i ns hns;simp at hv;subst hv;refine⟨_,.string _,?_⟩;have fin: ∀(L:RLoc)(c':Nat),ρ b=some L->(convert s d (.slice (some ⟨L.blk,L.off+o,none⟩) n c')).run P w= .ok (.string (ns.foldl (fun r n=>r.push (UInt8.ofNat n.toNat)) ByteArray.empty)) w:=by
       intro L c' hL;obtain⟨vs,h1,h2⟩:=hr.cells hb hL o n;have hlen:vs.length=n:=by rw[<-h1.length];simp;omega
       have hvs:=bytesOf_ok h1 hns;have:=run_loadCells_list (P:=P) w _ vs h2;rw[hlen,hvs]at this;rw[run_convert_bytes_string w s d e _ _ _ hs he hd,run_bytesToString w _ n c' ns this]
      cases hx with
      |sl hL hc=>exact fin _ _ hL
      |slo hL hc hcc hn=>exact fin _ _ hL
      | @slz b o c L a' hL hc hcz=>
       simp[bytesOf]at hns;subst hns;rw[run_convert_bytes_string w s d e _ _ _ hs he hd];have:(loadCells a' 0).run P w= .ok (([]:List Int).map (Value.int .u8)).toArray w:=rfl;exact run_bytesToString w a' 0 0 [] this
      | @sl0 b o L a' hL=>
       simp[bytesOf]at hns;subst hns;rw[run_convert_bytes_string w s d e _ _ _ hs he hd];have:(loadCells a' 0).run P w= .ok (([]:List Int).map (Value.int .u8)).toArray w:=rfl;exact run_bytesToString w a' 0 0 [] this
     ·cases hv
    ·cases hv
   ·cases hv
  ·cases hv
 ·rename_i e n c hs hd
  split at hv
  ·rename_i inf he hinf;cases hv;cases hx;refine⟨_,.string _,?_⟩;rw[run_convert_bytes_string w s d e _ _ _ hs he hd]
   rfl
  ·cases hv
 ·cases hv
theorem amapLen_ok(hr:Rel B w0 ρ h w){ats:Array TypeId}{ty:TypeId}{vs us:List Value}{v:Value}(hv:amapLen P ats vs h=some v)(hx:VRs ρ vs us): ∃v',VR ρ v v'/\(Builtin.len_ ats ty ⟨us⟩).run P w= .ok v' w:=by
 unfold amapLen at hv
 split at hv
 ·rename_i T b hT
  split at hv
  ·rename_i kt et es clock hu hb;simp at hv;subst hv;cases hx with
   |cons hx hn=>
    cases hn;cases hx with
    | @map b L hL=>
     obtain⟨L',hL',hO⟩:=hr.obj b _ hb;obtain rfl:L=L':=by rw[hL]at hL';exact Option.some.inj hL'
     obtain⟨_,es',h1,h2⟩:=hO;refine⟨_,.int _ _,?_⟩;simp only[Builtin.len_,hT,List.getElem?_toArray,List.getElem?_cons_zero,Sem.run_bind,run_underlying' hu,Result.andThen_ok,Sem.run_pure,goInt,run_getObj_map h1];simp[h2.length]
  ·cases hv
 ·cases hv
theorem aread_ok(hr:Rel B w0 ρ h w){o:Oper}{v:Value}(hv:aread P o t h=some v)(ht:TRs ρ t ts):
  ∃v',VR ρ v v'/\(execOp (tev ts) o).run P w= .ok (.value v') w:=by
 obtain⟨dst,op,ty,pos,aft,grd⟩:=o;unfold aread at hv
 split at hv
 ·rename_i T x hop;dsimp only at hop;subst hop
  split at hv
  ·rename_i v0 hx;obtain⟨v',h1,h2⟩:=aload_ok hr hv (ev_ok ht hx);exact⟨v',h1,by simp only[execOp,Sem.run_bind,h2];rfl⟩
  ·cases hv
 ·rename_i T x k ok hop;dsimp only at hop;subst hop
  split at hv
  ·rename_i v0 k0 hx hk;obtain⟨v',h1,h2⟩:=alookup_ok hr hv (ev_ok ht hx) (ev_ok ht hk);exact⟨v',h1,by simp only[execOp,Sem.run_bind,h2];rfl⟩
  ·cases hv
 ·rename_i s d x hop;dsimp only at hop;subst hop
  split at hv
  ·rename_i v0 hx;obtain⟨v',h1,h2⟩:=abytesStr_ok hr hv (ev_ok ht hx);exact⟨v',h1,by simp only[execOp,Sem.run_bind,h2];rfl⟩
  ·cases hv
 ·rename_i args ats hop;dsimp only at hop;subst hop
  split at hv
  ·rename_i vs hvs;have e:args.map (tev ts)=⟨args.toList.map (tev ts)⟩:=by apply Array.ext';simp
   obtain⟨v',h1,h2⟩:=amapLen_ok (ty:=ty) hr hv (evs_ok ht hvs);exact⟨v',h1,by simp only[execOp,resolve,Sem.run_bind,Sem.run_pure,Result.andThen_ok,invoke,builtin,e,h2]⟩
  ·cases hv
 ·cases hv
end
section
variable {P:Program}{B:Nat}{w0:World}{ρ:RMap}{h:Heap}{w:World}{t:Tm}{ts:List Value}
theorem VR.oneCell{x y:Value}(hxy:VR ρ x y)(hx:x.oneCell'=true):y.oneCell'=true:=by
 cases hxy<;>first|rfl|exact hx
theorem Rel.owned(hr:Rel B w0 ρ h w){b:Nat}{m:Mode}{esz:Nat}{cs:List Value}(ho:h[b]?=some (.row m esz cs))(hm:m≠ .ro){L:RLoc}(hL:ρ b=some L):
  B<=L.blk/\ ∃(pre vs suf:List Value) (e:TypeId) (lo hi:Nat),w.heap[L.blk]?=some (.cells ⟨pre++vs++suf⟩ e (lo,hi))/\pre.length=L.off/\VRs ρ cs vs/\
   (lo=hi\/(pre++vs++suf).length<=lo)/\(m= .opn->vs.length+suf.length=L.cap*esz):=by
 obtain⟨L',hL',hO⟩:=hr.obj b _ ho;obtain rfl:L=L':=by rw[hL]at hL';exact Option.some.inj hL'
 cases m with
 |ro=>exact absurd rfl hm
 |own=>obtain⟨h0,pre,vs,suf,e,lo,hi,h1,h2,h3,h4⟩:=hO;exact⟨h0,pre,vs,suf,e,lo,hi,h1,h2,h3,h4,by simp⟩
 |opn=>obtain⟨h0,pre,vs,suf,e,lo,hi,h1,h2,h3,h4,h5⟩:=hO;exact⟨h0,pre,vs,suf,e,lo,hi,h1,h2,h3,h4,fun _=>h5⟩
theorem setCell_eq{w:World}{b o:Nat}{c:List Value}{e:TypeId}{fz:Nat×Nat}(hb:w.heap[b]?=some (.cells ⟨c⟩ e fz))(v:Value):
  w.setCell ⟨b,o,none⟩ v= {w with heap:=w.heap.setIfInBounds b (.cells ⟨c.set o v⟩ e fz)}:=by
 have hlt:b<w.heap.size:=(Array.getElem?_eq_some_iff.1 hb).1;unfold World.setCell
 congr 1
 apply Array.ext_getElem?
 intro i;rw[Array.getElem?_modify,Array.getElem?_setIfInBounds]
 by_cases hib:b=i
 ·subst hib;rw[if_pos rfl,if_pos rfl,if_pos hlt,hb];simp
 ·rw[if_neg hib,if_neg hib]
theorem Rel.store1(hr:Rel B w0 ρ h w){b:Nat}{m:Mode}{esz:Nat}{cs:List Value}(ho:h[b]?=some (.row m esz cs))(hm:m≠ .ro){L:RLoc}(hL:ρ b=some L){i:Nat}(hi:i<cs.length)
  {v v':Value} (hv:VR ρ v v') (h1:v'.oneCell'=true):
  ∃w',(store ⟨L.blk,L.off+i,none⟩ v').run P w= .ok () w'/\Rel B w0 ρ (h.set b (.row m esz (cs.set i v))) w':=by
 obtain⟨hB,pre,vs,suf,e,lo,hi',hb,hpre,hvs,hfz,hop⟩:=hr.owned ho hm hL;have hlen:=hvs.length;refine⟨w.setCell ⟨L.blk,L.off+i,none⟩ v',?_,?_⟩
 ·rw[run_store P w _ _ _ h1];have hc:w.cell? ⟨L.blk,L.off+i,none⟩=some vs[i]:=by
   simp only[World.cell?,hb,Option.isSome_none,Bool.false_eq_true,if_false,List.getElem?_toArray];rw[List.append_assoc,List.getElem?_append_right (by omega), <-hpre,Nat.add_sub_cancel_left,List.getElem?_append_left (by omega),List.getElem?_eq_getElem]
  have hf:w.frozen? ⟨L.blk,L.off+i,none⟩=false:=by
   simp only[World.frozen?,hb,Bool.and_eq_false_iff,decide_eq_false_iff_not];simp at hfz;rcases hfz with hfz|hfz<;>omega
  simp[hc,hf]
 ·rw[setCell_eq hb];have hset:(pre++vs++suf).set (L.off+i) v'=pre++vs.set i v'++suf:=by
   rw[List.append_assoc,List.set_append_right _ _ (by omega), <-hpre,Nat.add_sub_cancel_left,List.set_append_left _ _ (by omega),List.append_assoc]
  rw[hset];have how:(AObj.row m esz cs).owned=true:=by cases m<;>first|rfl|exact absurd rfl hm
  refine hr.write ho how hL hB (fun w' hw'=>?_);have hlen2:(pre++vs.set i v'++suf).length=(pre++vs++suf).length:=by simp
  cases m with
  |ro=>exact absurd rfl hm
  |own=>exact⟨hB,pre,vs.set i v',suf,e,lo,hi',hw',hpre,hvs.set hv i,by rw[hlen2];exact hfz⟩
  |opn=>exact⟨hB,pre,vs.set i v',suf,e,lo,hi',hw',hpre,hvs.set hv i,by rw[hlen2];exact hfz,by simpa using hop rfl⟩
theorem Rel.stores{vs us:List Value}(hvs:VRs ρ vs us)(hone: ∀v∈vs,v.oneCell'=true): ∀{h:Heap}{w:World}(_:Rel B w0 ρ h w){b:Nat}{m:Mode}{esz:Nat}{cs:List Value}(_:h[b]?=some (.row m esz cs))(_:m≠ .ro){L:RLoc}(_:ρ b=some L){o k:Nat}(_:o+k+vs.length<=cs.length),
  ∃w',(storeCells ⟨L.blk,L.off+o,none⟩ us k).run P w= .ok () w'/\Rel B w0 ρ (h.set b (.row m esz (setsL cs (o+k) vs))) w':=by
 induction vs generalizing us with
 |nil=>
  intro h w hr b m esz cs ho hm L hL o k hle;cases hvs;refine⟨w,rfl,?_⟩;have:h.set b (.row m esz cs)=h:=by
   apply List.ext_getElem?
   intro i
   by_cases hib:b=i
   ·subst hib;have hlt:=(List.getElem?_eq_some_iff.1 ho).1;rw[List.getElem?_set_self hlt,ho]
   ·rw[List.getElem?_set_ne hib]
  simpa[setsL,this]using hr
 |cons v vs ih=>
  intro h w hr b m esz cs ho hm L hL o k hle;cases hvs with
  | @cons _ u _ us hv hvs=>
   simp only[List.length_cons]at hle;obtain⟨w1,h1,hr1⟩:=hr.store1 (P:=P) ho hm hL (i:=o+k) (by omega) hv (hv.oneCell (hone v (by simp)));have hlt:=(List.getElem?_eq_some_iff.1 ho).1;obtain⟨w2,h2,hr2⟩:=ih hvs (fun x hx=>hone x (by simp[hx])) hr1 (b:=b) (m:=m) (esz:=esz) (cs:=cs.set (o+k) v) (by rw[List.getElem?_set_self hlt]) hm hL (o:=o) (k:=k+1) (by simp;omega);refine⟨w2,?_,?_⟩
   ·simp only[storeCells,Sem.run_bind];rw[addr_add,Nat.add_assoc,h1];exact h2
   ·simpa[setsL,Nat.add_assoc,List.set_set]using hr2
end
def oneCells(vs:List Value):Bool:=vs.all (·.oneCell')
def astore(P:Program)(T:TypeId)(x v:Value)(h:Heap):Option Heap:=
 match x,P.info? T with
 | .pointer (some ⟨b,o,none⟩),some i=>
  if(cellsL v).length=i.size&&oneCells (cellsL v)then
   match h[b]? with
   |some (.row m esz cs)=>if m≠ .ro/\o+i.size<=cs.length then some (h.set b (.row m esz (setsL cs o (cellsL v))))else none
   |_=>none
  else none
 |_,_=>none
def zrow(z:List Value)(n:Nat):List Value:=(List.range n).map fun i=>z.getD (i % z.length) (.bool false)
def abox(v:Value)(h:Heap):Option (Value×Heap):=some (.pointer (some ⟨h.length,0,none⟩),h++[.row .own 1 (cellsL v)])
def aalloc(P:Program)(T:TypeId)(h:Heap):Option (Value×Heap):=
 match P.info? T with
 |some i=>match i.zero with
  |some z=>if plainV z then abox z h else none
  |none=>none
 |none=>none
def abuildSlice(P:Program)(T:TypeId)(len:Nat)(parts:List (Nat×Value))(h:Heap):Option (Value×Heap):=
 match P.underlying T with
 |some (.slice e)=>match P.info? e with
  |some i=>match i.zero with
   |some z=>
    if plainV z&&(decide (len=0)||decide (0<len*i.size))&&decide (len*i.size<=2 ^ 24)&&decide ((cellsL z).length=i.size)then
     match afill (fun j=>some (j*i.size,i.size)) (zrow (cellsL z) (len*i.size)) parts with
     |some cs=>some (.slice (some ⟨h.length,0,none⟩) len len,h++[.row .own i.size cs])
     |none=>none
    else none
   |none=>none
  |none=>none
 |_=>none
def amakeSlice(P:Program)(T:TypeId)(l c:Value)(h:Heap):Option (Value×Heap):=
 match P.underlying T,l,c with
 |some (.slice e),.int _ l,.int _ c=>match P.info? e with
  |some i=>match i.zero with
   |some z=>
    if plainV z&&decide (0<=l)&&decide (l<=c)&&decide (c<4611686018427387904)&&decide (i.bytes*c<=2 ^ 48)&&decide ((cellsL z).length=i.size)then
     some (.slice (some ⟨h.length,0,none⟩) l.toNat c.toNat,h++[.row .own i.size (zrow (cellsL z) (c.toNat*i.size))])
    else none
   |none=>none
  |none=>none
 |_,_,_=>none
def amakeMap(P:Program)(T:TypeId)(r:Option Value)(h:Heap):Option (Value×Heap):=
 match r with
 |none=>some (.map (some h.length),h++[.map [] 0])
 |some (.int _ _)=>match P.underlying T with
  |some (.map _ _)=>some (.map (some h.length),h++[.map [] 0])
  |_=>none
 |_=>none
def amapUpdate(P:Program)(T:TypeId)(x k v:Value)(h:Heap):Option Heap:=
 match P.underlying T,x with
 |some (.map kt _),.map (some b)=>match h[b]? with
  |some (.map es clock)=>
   if plainV k&&keysPlain es then
    match pureRun P (Instr.checkKey false 10000 kt k)with
    |none=>none
    |some _=>match afind P kt k es with
     |none=>none
     |some (some (i,_))=>if Instr.sameBits 10000 (((es[i]?).map (·.key)).getD k) k then some (h.set b (.map (es.modify i fun e=> {e with key:=k,val:=v}) clock))else none
     |some none=>some (h.set b (.map (es++[⟨k,v,clock⟩]) (clock+1)))
   else none
  |_=>none
 |_,_=>none
section
variable {P:Program}{B:Nat}{w0:World}{ρ:RMap}{h:Heap}{w:World}{t:Tm}{ts:List Value}
theorem astore_ok(hr:Rel B w0 ρ h w){T:TypeId}{x x' v v':Value}{h':Heap}(hs:astore P T x v h=some h')(hx:VR ρ x x')(hv:VR ρ v v'):
  ∃w',(Instr.storeAt T x' v').run P w= .ok () w'/\Rel B w0 ρ h' w':=by
 unfold astore at hs
 split at hs
 rotate_left
 ·cases hs
 rename_i b o i hi
 split at hs
 rotate_left
 ·cases hs
 rename_i hc;simp only[Bool.and_eq_true,decide_eq_true_eq]at hc
 split at hs
 rotate_left
 ·cases hs
 rename_i m esz cs hb
 split at hs<;>simp at hs
 subst hs;rename_i hm;cases hx with
 | @ptr b o L hL=>
  have hcl:=hv.cellsL;obtain⟨w',h1,h2⟩:=hr.stores (P:=P) hcl (by simpa[oneCells]using hc.2) hb hm.1 hL (o:=o) (k:=0) (by omega);refine⟨w',?_,by simpa using h2⟩;have hsz:v'.cells.size=i.size:=by
   rw[<-hc.1,hcl.length,cellsL_eq];simp
  simp only[Instr.storeAt,Instr.sureAddr,Sem.run_bind,Sem.run_pure,Result.andThen_ok,storeVar,run_sizeOf' hi];rw[if_neg (by simp[hsz])];rw[<-cellsL_eq];exact h1
theorem newRow_ok(hr:Rel B w0 ρ h w){cs ds:List Value}(hc:VRs ρ cs ds)(esz:Nat)(e:TypeId):
  ∃ρ' w',ρ.le ρ'/\(newRow e ⟨ds⟩).run P w= .ok ⟨w.heap.size,0,none⟩ w'/\ρ' h.length=some ⟨w.heap.size,0,0⟩/\Rel B w0 ρ' (h++[.row .own esz cs]) w':=by
 obtain⟨ρ',h1,h2,h3⟩:=hr.push (o:=.row .own esz cs) (obj:=.cells ⟨ds⟩ e (0,0)) (cap:=0) (fun ρ' w' hle hw'=>⟨hr.base,[],ds,[],e,0,0,by simpa using hw',rfl,hc.mono hle,.inl rfl⟩);exact⟨ρ',_,h1,rfl,h2,h3⟩
theorem abox_ok(hr:Rel B w0 ρ h w){T:TypeId}{v v' u:Value}{h':Heap}(hb:abox v h=some (u,h'))(hv:VR ρ v v'):
  ∃ρ' w' u',ρ.le ρ'/\(Instr.box T v').run P w= .ok u' w'/\VR ρ' u u'/\Rel B w0 ρ' h' w':=by
 simp only[abox,Option.some.injEq,Prod.mk.injEq]at hb;obtain⟨rfl,rfl⟩:=hb;obtain⟨ρ',w',h1,h2,h3,h4⟩:=newRow_ok (P:=P) hr hv.cellsL 1 T;refine⟨ρ',w',.pointer (some ⟨w.heap.size,0,none⟩),h1,?_,?_,h4⟩
 ·have:v'.cells=⟨cellsL v'⟩:=by rw[cellsL_eq]
  simp only[Instr.box,newVar,Sem.run_bind,this,h2,Result.andThen_ok,Sem.run_pure]
 ·simpa using VR.ptr (o:=0) h3
theorem aalloc_ok(hr:Rel B w0 ρ h w){T:TypeId}{u:Value}{h':Heap}(hb:aalloc P T h=some (u,h')):
  ∃ρ' w' u',ρ.le ρ'/\(Instr.alloc T true (.tuple #[])).run P w= .ok u' w'/\VR ρ' u u'/\Rel B w0 ρ' h' w':=by
 unfold aalloc at hb
 split at hb
 ·rename_i i hi
  split at hb
  ·rename_i z hz
   split at hb
   ·rename_i hp;obtain⟨ρ',w',u',h1,h2,h3,h4⟩:=abox_ok (P:=P) (T:=T) hr hb (VR.plain hp);refine⟨ρ',w',u',h1,?_,h3,h4⟩;simp only[Instr.alloc,Sem.run_bind,run_zeroValue' hi hz,Result.andThen_ok];exact h2
   ·cases hb
  ·cases hb
 ·cases hb
theorem VRs.ofPlain{xs:List Value}(h: ∀x∈xs,plainV x=true):VRs ρ xs xs:=by
 induction xs with
 |nil=>exact .nil
 |cons x xs ih=>exact .cons (VR.plain (h x (by simp))) (ih fun y hy=>h y (by simp[hy]))
theorem plain_mem: ∀{xs:List Value},plainV.plainVs xs=true-> ∀x∈xs,plainV x=true
 | [],_,x,hx=>by simp at hx
 |y::ys,h,x,hx=>by
  simp[plainV.plainVs]at h;rcases List.mem_cons.1 hx with rfl|hx
  ·exact h.1
  ·exact plain_mem h.2 x hx
theorem plain_cellsL{z:Value}(h:plainV z=true): ∀x∈cellsL z,plainV x=true:=by
 cases z<;>first|(intro x hx;simp[cellsL]at hx;subst hx;exact h)|skip
 rename_i cs;intro x hx;exact plain_mem (by simpa[plainV]using h) x (by simpa[cellsL]using hx)
theorem zrow_ok{z:Value}(h:plainV z=true)(n:Nat):VRs ρ (zrow (cellsL z) n) (zrow (cellsL z) n):=by
 apply VRs.ofPlain
 intro x hx;simp only[zrow,List.mem_map]at hx;obtain⟨i,_,rfl⟩:=hx;rw[List.getD_eq_getElem?_getD];cases hq:(cellsL z)[i % (cellsL z).length]? with
 |none=>rfl
 |some y=>exact plain_cellsL h y (List.mem_of_getElem? hq)
theorem zrow_eq(z:List Value)(n:Nat)(hz:n=0\/0<z.length):(Array.range n).map (fun i=>(Array.mk z)[i % (Array.mk z).size]!)=⟨zrow z n⟩:=by
 apply Array.ext'
 simp only[Array.toList_map,Array.toList_range,zrow]
 apply List.map_congr_left
 intro i hi;simp only[List.mem_range]at hi;have hlt:i % z.length<z.length:=Nat.mod_lt _ (by omega);simp[List.getD_eq_getElem?_getD,hlt]
theorem abuildSlice_ok(hr:Rel B w0 ρ h w){T:TypeId}{len:Nat}{ps qs:List (Nat×Value)}{u:Value}{h':Heap}(hb:abuildSlice P T len ps h=some (u,h'))(hp:PRs ρ ps qs):
  ∃ρ' w' u',ρ.le ρ'/\(Instr.buildSlice T len ⟨qs⟩).run P w= .ok u' w'/\VR ρ' u u'/\Rel B w0 ρ' h' w':=by
 unfold abuildSlice at hb
 split at hb
 rotate_left
 ·cases hb
 rename_i e hu
 split at hb
 rotate_left
 ·cases hb
 rename_i i hi
 split at hb
 rotate_left
 ·cases hb
 rename_i z hz
 split at hb
 rotate_left
 ·cases hb
 rename_i hc;simp only[Bool.and_eq_true,decide_eq_true_eq]at hc
 split at hb
 rotate_left
 ·cases hb
 rename_i cs hf;simp only[Option.some.injEq,Prod.mk.injEq]at hb;obtain⟨rfl,rfl⟩:=hb;obtain⟨r,hr1,hr2⟩:=afill_ok _ hp (zrow_ok hc.1.1.1 _) hf;obtain⟨ρ',w',h1,h2,h3,h4⟩:=newRow_ok (P:=P) hr hr2 i.size e;have hbig:len<4611686018427387904:=by
  have h5:=hc.1.1.2;have h6:=hc.1.2;rw[Bool.or_eq_true,decide_eq_true_eq,decide_eq_true_eq]at h5;rcases h5 with h5|h5
  ·omega
  have:0<i.size:=Nat.pos_of_ne_zero (by rintro h0;rw[h0]at h5;simp at h5);have:len<=len*i.size:=Nat.le_mul_of_pos_right _ this;omega
 refine⟨ρ',w',.slice (some ⟨w.heap.size,0,none⟩) len len,h1,?_,?_,h4⟩
 ·have hzc:z.cells=⟨cellsL z⟩:=by rw[cellsL_eq]
  simp only[Instr.buildSlice,Sem.run_bind,run_underlying' hu,Result.andThen_ok,run_sizeOf' hi];rw[if_neg (by omega)];have h5:=hc.1.1.2;rw[Bool.or_eq_true,decide_eq_true_eq,decide_eq_true_eq]at h5
  by_cases h0:len*i.size=0
  ·rw[if_pos h0];have e:((Array.range (len*i.size)).map fun j=>(#[]:Array Value)[j % (#[]:Array Value).size]!)=⟨zrow (cellsL z) (len*i.size)⟩:=by
    rw[h0];exact zrow_eq [] 0 (.inl rfl)
   simp only[Sem.run_bind,Result.andThen_ok,Sem.run_pure,e,hr1,h2]
  ·rw[if_neg h0];have hz1:0<(cellsL z).length:=by
    rw[hc.2];exact Nat.pos_of_ne_zero (by rintro h7;rw[h7]at h0;simp at h0)
   simp only[Sem.run_bind,run_zeroValue' hi hz,Result.andThen_ok,Sem.run_pure,hzc,zrow_eq _ _ (.inr hz1),hr1,h2]
 ·simpa using VR.sl (o:=0) (n:=len) h3 hbig
theorem wrap64_id{n:Int}(h0:0<=n)(h1:n<4611686018427387904):IntKind.i64.wrap n=n:=by
 simp only[IntKind.wrap,IntKind.signed,IntKind.bits];simp;omega
theorem amakeSlice_ok(hr:Rel B w0 ρ h w){T:TypeId}{l l' c c' u:Value}{h':Heap}(hb:amakeSlice P T l c h=some (u,h'))(hl:VR ρ l l')(hcc:VR ρ c c'):
  ∃ρ' w' u',ρ.le ρ'/\(Instr.makeSlice T l' c').run P w= .ok u' w'/\VR ρ' u u'/\Rel B w0 ρ' h' w':=by
 unfold amakeSlice at hb
 split at hb
 rotate_left
 ·cases hb
 rename_i e k1 l k2 c hu
 split at hb
 rotate_left
 ·cases hb
 rename_i i hi
 split at hb
 rotate_left
 ·cases hb
 rename_i z hz
 split at hb
 rotate_left
 ·cases hb
 rename_i hc;simp only[Bool.and_eq_true,decide_eq_true_eq]at hc;simp only[Option.some.injEq,Prod.mk.injEq]at hb;obtain⟨rfl,rfl⟩:=hb;cases hl;cases hcc;obtain⟨⟨⟨⟨⟨hp,h0⟩,hlc⟩,hcb⟩,hby⟩,hsz⟩:=hc;obtain⟨ρ',w',h1,h2,h3,h4⟩:=newRow_ok (P:=P) hr (zrow_ok hp (c.toNat*i.size)) i.size e;refine⟨ρ',w',.slice (some ⟨w.heap.size,0,none⟩) l.toNat c.toNat,h1,?_,?_,h4⟩
 ·have hzc:z.cells=⟨cellsL z⟩:=by rw[cellsL_eq]
  have wl:=wrap64_id h0 (by omega:l<4611686018427387904);have wc:=wrap64_id (by omega:0<=c) hcb;have tl:(decide (c<0)||decide ((i.bytes:Int)*c>2 ^ 48))=false:=by
   simp only[Bool.or_eq_false_iff,decide_eq_false_iff_not];constructor<;>omega
  simp only[Instr.makeSlice,Sem.run_bind,run_underlying' hu,Result.andThen_ok,asInt,asIntOf,Sem.run_pure,run_typeInfo' hi,wl,wc,tl];rw[if_neg (by simp;omega)];simp only[Sem.run_bind,run_askRoom,Result.andThen_ok,run_sizeOf' hi]
  by_cases hn:c.toNat*i.size=0
  ·rw[hn]at h2;simp only[hn,if_true,Sem.run_pure,Sem.run_bind,Result.andThen_ok];have:(Array.range 0).map (fun x=>(#[]:Array Value)[x % (#[]:Array Value).size]!)=⟨zrow (cellsL z) 0⟩:=by simp[zrow]
   rw[this,h2]
   rfl
  ·simp only[hn,if_false,Sem.run_pure,Sem.run_bind,Result.andThen_ok,run_zeroValue' hi hz,hzc];have hz1:0<(cellsL z).length:=by
    rw[hsz];exact Nat.pos_of_ne_zero (by rintro h0;rw[h0]at hn;simp at hn)
   rw[zrow_eq _ _ (.inr hz1),h2]
   rfl
 ·simpa using VR.sl (o:=0) (n:=l.toNat) h3 (by omega)
theorem amakeMap_ok(hr:Rel B w0 ρ h w){T:TypeId}{r r':Option Value}{u:Value}{h':Heap}(hb:amakeMap P T r h=some (u,h'))(hx:OptR ρ r r'):
  ∃ρ' w' u',ρ.le ρ'/\(Instr.makeMap T r').run P w= .ok u' w'/\VR ρ' u u'/\Rel B w0 ρ' h' w':=by
 have fin:u= .map (some h.length)->h'=h++[.map [] 0]-> ∃ρ' w' u',ρ.le ρ'/\(do pure (Value.map (some (<-newObj (.map #[] 0)))):Sem Value).run P w= .ok u' w'/\VR ρ' u u'/\Rel B w0 ρ' h' w':=by
  rintro rfl rfl;obtain⟨ρ',h1,h2,h3⟩:=hr.push (o:=.map [] 0) (obj:=.map #[] 0) (cap:=0) (fun ρ' w' hle hw'=>⟨hr.base,[],by simpa using hw',.nil⟩);exact⟨ρ',_,.map (some w.heap.size),h1,rfl,.map h2,h3⟩
 unfold amakeMap at hb
 split at hb
 ·simp only[Option.some.injEq,Prod.mk.injEq]at hb;cases r' with
  |some _=>simp[OptR]at hx
  |none=>exact fin hb.1.symm hb.2.symm
 ·rename_i k n
  split at hb
  ·rename_i kt et hu;simp only[Option.some.injEq,Prod.mk.injEq]at hb;cases r' with
   |none=>simp[OptR]at hx
   |some v=>
    cases hx;obtain⟨ρ',w',u',h1,h2,h3,h4⟩:=fin hb.1.symm hb.2.symm;refine⟨ρ',w',u',h1,?_,h3,h4⟩;simp only[Instr.makeMap,Sem.run_bind,run_underlying' hu,Result.andThen_ok,asInt,asIntOf,Sem.run_pure]at h2 ⊢;exact h2
  ·cases hb
 ·cases hb
theorem ERs.append{xs ys us vs:List MapEntry}(h1:ERs ρ xs ys)(h2:ERs ρ us vs):ERs ρ (xs++us) (ys++vs):=by
 induction h1 with
 |nil=>exact h2
 |cons a b _ ih=>exact .cons a b ih
theorem ERs.modify{xs ys:List MapEntry}(h1:ERs ρ xs ys){k k' v v':Value}(hk:VR ρ k k')(hv:VR ρ v v')(i:Nat):
  ERs ρ (xs.modify i fun e=> {e with key:=k,val:=v}) (ys.modify i fun e=> {e with key:=k',val:=v'}):=by
 induction h1 generalizing i with
 |nil=>simp;exact .nil
 |cons a b c ih=>
  cases i with
  |zero=>simpa using .cons hk hv c
  |succ i=>simpa using .cons a b (ih i)
theorem ERs.key{xs ys:List MapEntry}(h1:ERs ρ xs ys)(hp:keysPlain xs=true)(i:Nat)(k:Value):((ys[i]?).map (·.key)).getD k=((xs[i]?).map (·.key)).getD k:=by
 induction h1 generalizing i with
 |nil=>simp
 |cons a b c ih=>
  simp only[keysPlain,List.all_cons,Bool.and_eq_true]at hp;cases i with
  |zero=>simp[a.plain_eq hp.1]
  |succ i=>simpa using ih hp.2 i
theorem amapUpdate_ok(hr:Rel B w0 ρ h w){T:TypeId}{x x' k k' v v':Value}{h':Heap}(hs:amapUpdate P T x k v h=some h')(hx:VR ρ x x')(hk:VR ρ k k')(hv:VR ρ v v'):
  ∃w',(Instr.mapUpdate T x' k' v').run P w= .ok () w'/\Rel B w0 ρ h' w':=by
 unfold amapUpdate at hs
 split at hs
 rotate_left
 ·cases hs
 rename_i kt et b hu
 split at hs
 rotate_left
 ·cases hs
 rename_i es clock hb
 split at hs
 rotate_left
 ·cases hs
 rename_i hp;simp only[Bool.and_eq_true]at hp;obtain rfl:=hk.plain_eq hp.1
 split at hs
 ·cases hs
 rename_i hck;cases hx with
 | @map b L hL=>
  obtain⟨L',hL',hO⟩:=hr.obj b _ hb;obtain rfl:L=L':=by rw[hL]at hL';exact Option.some.inj hL'
  obtain⟨hB,es',h1,h2⟩:=hO;have fin: ∀(es2 es2':List MapEntry)(clock2:Nat),ERs ρ es2 es2'->Rel B w0 ρ (h.set b (.map es2 clock2)) {w with heap:=w.heap.setIfInBounds L.blk (.map ⟨es2'⟩ clock2)}:=
   fun es2 es2' clock2 he=>hr.write hb rfl hL hB (fun w' hw'=>⟨hB,es2',hw',he⟩)
  have hset: ∀o:Obj,(∀c e f,o≠ .cells c e f)->(setObj L.blk o).run P w= .ok () {w with heap:=w.heap.setIfInBounds L.blk o}:=by
   intro o ho;simp[setObj,Sem.run,h1]
  split at hs
  ·cases hs
  ·rename_i i u hf;obtain⟨r',h3,h4⟩:=afind_ok h2 hp.2 hf;cases r' with
   |none=>exact h4.elim
   |some p=>
    obtain⟨j,u'⟩:=p;obtain⟨rfl,_⟩:=h4
    split at hs<;>simp at hs
    subst hs;rename_i hsb;refine⟨_,?_,fin _ _ clock (h2.modify (VR.plain hp.1) hv i)⟩;have hkey:=h2.key hp.2 i k';have hmod:(Array.mk es').modify i (fun e=> {e with key:=k',val:=v'})=⟨es'.modify i fun e=> {e with key:=k',val:=v'}⟩:=by
     apply Array.ext';simp
    simp only[Instr.mapUpdate,Sem.run_bind,run_underlying' hu,Result.andThen_ok,run_getObj_map h1,pureRun_ok hck,h3,Instr.keyThatStays,List.getElem?_toArray,hkey,hsb,if_true,Sem.run_pure,hmod];exact hset _ (by simp)
  ·rename_i hf;obtain⟨r',h3,h4⟩:=afind_ok h2 hp.2 hf;cases r' with
   |some p=>exact h4.elim
   |none=>
    simp at hs;subst hs;refine⟨_,?_,fin _ _ (clock+1) (h2.append (.cons (VR.plain hp.1) hv .nil))⟩;have hmod:(Array.mk es').push ⟨k',v',clock⟩=⟨es'++[⟨k',v',clock⟩]⟩:=by
     apply Array.ext';simp
    simp only[Instr.mapUpdate,Sem.run_bind,run_underlying' hu,Result.andThen_ok,run_getObj_map h1,pureRun_ok hck,h3,hmod];exact hset _ (by simp)
end
def isIntD:TypeDesc->Bool
 | .int _=>true
 |_=>false
def atail(size:Nat)(x:Value)(h:Heap):Option (Nat×List Value):=
 match x with
 | .slice none 0 _=>some (0,[])
 | .slice (some ⟨b,o,none⟩) n _=>if n=0 then some (0,[])else match h[b]? with
  |some (.row _ _ cs)=>if o+n*size<=cs.length then some (n,(cs.drop o).take (n*size))else none
  |_=>none
 | .string s=>if size=1 then some (s.size,s.data.toList.map fun b=>.int .u8 b.toNat)else none
 |_=>none
def aappend(P:Program)(ats:Array TypeId)(vs:List Value)(h:Heap):Option (Value×Heap):=
 match ats[0]?,ats[1]?,vs with
 |some sT,some xT,[s,x]=>
  match P.underlying sT,P.underlying xT with
  |some (.slice e),some xd=>
   match P.info? e with
   |none=>none
   |some i=>match i.zero with
    |none=>none
    |some z=>
     if isIntD xd||decide (i.size=0)||decide (i.bytes=0)||decide ((cellsL z).length≠i.size)then none else
     match atail i.size x h with
     |none=>none
     |some (n,new)=>
      if !oneCells new then none else
      match s with
      | .slice none 0 0=>
       if n=0 then some (s,h)
       else if(2*n+512)*i.bytes<=2 ^ 48 then some (.slice (some ⟨h.length,0,none⟩) n openCap,h++[.row .opn i.size new])
       else none
      | .slice (some ⟨b,o,none⟩) sLen sCap=>
       if n=0/\sLen<=sCap then some (s,h)else
       if ¬(2*(sLen+n)+512)*i.bytes<=2 ^ 48 then none else
       match h[b]? with
       |some (.row m esz cs)=>
        if o+sLen*i.size<=cs.length then
         if sCap<4611686018427387904 then
          if sLen+n<=sCap then
           if m≠ .ro/\o+(sLen+n)*i.size<=cs.length then some (.slice (some ⟨b,o,none⟩) (sLen+n) sCap,h.set b (.row m esz (setsL cs (o+sLen*i.size) new)))else none
          else some (.slice (some ⟨h.length,0,none⟩) (sLen+n) openCap,h++[.row .opn i.size ((cs.drop o).take (sLen*i.size)++new)])
         else if m= .opn/\esz=i.size/\sCap<=openCap/\(openCap-sCap)*i.size=o then
          if o+(sLen+n)*i.size<=cs.length then some (.slice (some ⟨b,o,none⟩) (sLen+n) sCap,h.set b (.row m esz (setsL cs (o+sLen*i.size) new)))
          else some (.slice (some ⟨h.length,0,none⟩) (sLen+n) openCap,List.set (h++[AObj.row .opn i.size ((cs.drop o).take (sLen*i.size)++new)]) b .dead)
         else none
        else none
       |_=>none
      |_=>none
  |_,_=>none
 |_,_,_=>none
section
variable {P:Program}{B:Nat}{w0:World}{ρ:RMap}{h:Heap}{w:World}{t:Tm}{ts:List Value}
theorem growBy_le(n:Nat): ∀(r c:Nat),c<n->Builtin.growBy n r c<=2*n+192
 |0,c,hc=>by simp[Builtin.growBy];omega
 |r+1,c,hc=>by
  simp only[Builtin.growBy]
  split
  ·omega
  ·by_cases h2:c+(c+768) / 4<n
   ·exact growBy_le n r _ h2
   ·cases r with
    |zero=>simp[Builtin.growBy];omega
    |succ r=>simp only[Builtin.growBy];rw[if_pos (by omega)];omega
theorem nextslicecap_le{n c:Nat}(h:c<n):Builtin.nextslicecap n c<=2*n+512:=by
 unfold Builtin.nextslicecap
 split
 ·omega
 ·split
  ·omega
  ·have:=growBy_le n 4 c h;omega
theorem atail_ok(hr:Rel B w0 ρ h w){size:Nat}{x x':Value}{n:Nat}{new:List Value}(hx:VR ρ x x')(ht:atail size x h=some (n,new)):
  new.length=n*size/\ ∃us,VRs ρ new us/\(Builtin.lenOf x').run P w= .ok n w/\ ∀d,(Builtin.firstCells size n x').run P {w with drawn:=d}= .ok ⟨us⟩ {w with drawn:=d}:=by
 unfold atail at ht
 split at ht
 ·simp at ht;obtain⟨rfl,rfl⟩:=ht;cases hx;exact⟨by simp,[],.nil,rfl,fun d=>rfl⟩
 ·rename_i b o n' c
  split at ht
  ·rename_i hn0;subst hn0;simp at ht;obtain⟨rfl,rfl⟩:=ht;refine⟨by simp,[],.nil,?_⟩;have fin: ∀(a:Option Addr)(c':Nat),(Builtin.lenOf (.slice a 0 c')).run P w= .ok 0 w/\ ∀d,(Builtin.firstCells size 0 (.slice a 0 c')).run P {w with drawn:=d}= .ok ⟨[]⟩ {w with drawn:=d}:=
    fun a c'=>⟨rfl,fun d=>by simp only[Builtin.firstCells,Nat.zero_mul];cases a<;>rfl⟩
   cases hx<;>exact fin _ _
  split at ht
  ·rename_i m esz cs hb
   split at ht<;>simp at ht
   obtain⟨rfl,rfl⟩:=ht;rename_i hle;have fin: ∀(L:RLoc)(c':Nat),ρ b=some L-> ∃us,VRs ρ ((cs.drop o).take (n'*size)) us/\(Builtin.lenOf (.slice (some ⟨L.blk,L.off+o,none⟩) n' c')).run P w= .ok n' w/\
     ∀d,(Builtin.firstCells size n' (.slice (some ⟨L.blk,L.off+o,none⟩) n' c')).run P {w with drawn:=d}= .ok ⟨us⟩ {w with drawn:=d}:=by
    intro L c' hL;obtain⟨us,h1,h2⟩:=hr.cells hb hL o (n'*size);have hlen:us.length=n'*size:=by rw[<-h1.length];simp;omega
    refine⟨us,h1,rfl,fun d=>?_⟩;have:=run_loadCells_list (P:=P) {w with drawn:=d} _ us h2;rw[hlen]at this;exact this
   refine⟨by simp;omega,?_⟩;cases hx with
   |sl hL hc=>exact fin _ _ hL
   |slo hL hc he hn=>exact fin _ _ hL
   | @slz b o c L a' hL hc he=>
    refine⟨[],by simp;exact .nil,rfl,fun d=>?_⟩;simp only[Builtin.firstCells,Nat.zero_mul]
    rfl
   | @sl0 b o L a' hL=>
    refine⟨[],by simp;exact .nil,rfl,fun d=>?_⟩;simp only[Builtin.firstCells,Nat.zero_mul]
    rfl
  ·cases ht
 ·rename_i s
  split at ht<;>simp at ht
  obtain⟨rfl,rfl⟩:=ht;rename_i h1;subst h1;cases hx;refine⟨by simp,_,VRs.ofPlain (fun x hx=>by simp at hx;obtain⟨b,_,rfl⟩:=hx;rfl),rfl,fun d=>?_⟩;simp only[Builtin.firstCells,Sem.run_pure]
  congr 1
  apply Array.ext'
  simp
 ·cases ht
theorem newOpen_ok(hr:Rel B w0 ρ h w){cs ds rest:List Value}(hc:VRs ρ cs ds){esz cap:Nat}(e:TypeId)(hcap:ds.length+rest.length=cap*esz){n:Nat}(hn:n<=cap):
  ∃ρ',ρ.le ρ'/\VR ρ' (.slice (some ⟨h.length,0,none⟩) n openCap) (.slice (some ⟨w.heap.size,0,none⟩) n cap)/\Rel B w0 ρ' (h++[.row .opn esz cs]) {w with heap:=w.heap.push (.cells ⟨ds++rest⟩ e (0,0))}:=by
 obtain⟨ρ',h1,h2,h3⟩:=hr.push (o:=.row .opn esz cs) (obj:=.cells ⟨ds++rest⟩ e (0,0)) (cap:=cap) (fun ρ' w' hle hw'=>⟨hr.base,[],ds,rest,e,0,0,by simpa using hw',rfl,hc.mono hle,.inl rfl,hcap⟩);refine⟨ρ',h1,?_,h3⟩;have:=VR.slo (ρ:=ρ') (b:=h.length) (o:=0) (n:=n) (c:=openCap) (c':=cap) h2 (by decide) (by simp[Nat.add_comm]) hn;simpa using this
theorem grow_ok(hr:Rel B w0 ρ h w){ats:Array TypeId}{ty sT xT e:TypeId}{xd:TypeDesc}{i:TypeInfo}{z:Value}(h0:ats[0]?=some sT)(h1:ats[1]?=some xT)(hu:P.underlying sT=some (.slice e))(hx:P.underlying xT=some xd)
  (hi:P.info? e=some i) (hz:i.zero=some z) (hxd:isIntD xd=false) (hby:i.bytes≠0) (hzl:(cellsL z).length=i.size)
  {base:Option Addr} {sLen sCap n:Nat} {x':Value} {old new us vs:List Value} (hlen:(Builtin.lenOf x').run P w= .ok n w) (hold: ∀d,(Builtin.firstCells i.size sLen (.slice base sLen sCap)).run P {w with drawn:=d}= .ok ⟨us⟩ {w with drawn:=d})
  (hnew: ∀d,(Builtin.firstCells i.size n x').run P {w with drawn:=d}= .ok ⟨vs⟩ {w with drawn:=d}) (ho:VRs ρ old us) (hn:VRs ρ new vs) (hol:old.length=sLen*i.size) (hnl:new.length=n*i.size) (hgrow:sCap<sLen+n) (hb:(2*(sLen+n)+512)*i.bytes<=2 ^ 48):
  ∃ρ' w' u',ρ.le ρ'/\(Builtin.append_ ats ty #[.slice base sLen sCap,x']).run P w= .ok u' w'/\VR ρ' (.slice (some ⟨h.length,0,none⟩) (sLen+n) openCap) u'/\Rel B w0 ρ' (h++[.row .opn i.size (old++new)]) w':=by
 have hr':Rel B w0 ρ h {w with drawn:=w.drawn+1}:=hr.draw
 let newCap:=(sLen+n)+(w.tape w.drawn (.appendCap (sLen+n) sCap e)) % (2 ^ 63-(sLen+n))
 have hlo:(Builtin.zeroCells z.cells (newCap-(sLen+n))).toList.length=(newCap-(sLen+n))*i.size:=by
  have:z.cells.size=i.size:=by rw[<-hzl,cellsL_eq];simp
  simp[Builtin.zeroCells,this]
 obtain⟨ρ',r1,r2,r3⟩:=newOpen_ok hr' (ho.append hn) (esz:=i.size) (cap:=newCap) (rest:=(Builtin.zeroCells z.cells (newCap-(sLen+n))).toList) e
  (by
   rw[hlo, <-(ho.append hn).length];simp only[List.length_append,hol,hnl];rw[<-Nat.add_mul, <-Nat.add_mul]
   congr 1
   have:sLen+n<=newCap:=Nat.le_add_right _ _;omega) (n:=sLen+n) (Nat.le_add_right _ _)
 refine⟨ρ',_,_,r1,?_,r2,r3⟩;have hbound:Builtin.nextslicecap (sLen+n) sCap*i.bytes<=2 ^ 48:=Nat.le_trans (Nat.mul_le_mul_right _ (nextslicecap_le hgrow)) hb;have hfold: ∀(a1 a2:List Value)(a4:Array Value),(Array.mk a1++Array.mk a2++a4)=Array.mk (a1++a2++a4.toList):=by
  intro a1 a2 a4;apply Array.ext';simp
 have hzc:z.cells=⟨cellsL z⟩:=by rw[cellsL_eq]
 have hnc: ∀w:World,(choose (.appendCap (sLen+n) sCap e)).run P w= .ok ((sLen+n)+(w.tape w.drawn (.appendCap (sLen+n) sCap e)) % (2 ^ 63-(sLen+n))) {w with drawn:=w.drawn+1}:=fun w=>rfl;cases xd<;>first|(simp[isIntD]at hxd;done)|skip
 all_goals
  unfold Builtin.append_;simp only[h0,h1,List.getElem?_toArray,List.getElem?_cons_zero,List.getElem?_cons_succ,Sem.run_bind,run_underlying' hu,Result.andThen_ok,run_sizeOf' hi,Sem.run_pure,run_underlying' hx,Bool.false_eq_true,if_false,hlen];rw[if_neg (by omega),Sem.run_bind,run_typeInfo' hi,Result.andThen_ok,if_neg (by rintro⟨_,h|h⟩;exact h;exact hby h),Sem.run_bind,run_typeInfo' hi,Result.andThen_ok,if_neg (by omega)];simp only[Sem.run_bind,hnc,Result.andThen_ok,run_typeInfo' hi,run_askRoom,hold,Bool.not_false,if_true,hnew,run_zeroValue' hi hz,newRow,run_newObj,Sem.run_pure];rw[hfold]
theorem oneCells_mem{vs:List Value}(h:oneCells vs=true): ∀v∈vs,v.oneCell'=true:=by simpa[oneCells]using h
theorem stay_ok{ats:Array TypeId}{ty sT xT e:TypeId}{xd:TypeDesc}{i:TypeInfo}(h0:ats[0]?=some sT)(h1:ats[1]?=some xT)(hu:P.underlying sT=some (.slice e))(hx:P.underlying xT=some xd)
  (hi:P.info? e=some i) (hxd:isIntD xd=false)
  {base:Option Addr} {sLen sCap n:Nat} {x':Value} {vs:List Value} (hlen:(Builtin.lenOf x').run P w= .ok n w) (hnew: ∀d,(Builtin.firstCells i.size n x').run P {w with drawn:=d}= .ok ⟨vs⟩ {w with drawn:=d})
  (hstay:sLen+n<=sCap) {w':World} (hst: ∀a,base=some a->(storeCells (a.add (sLen*i.size)) vs).run P w= .ok () w') (hno:base=none->w'=w):
  (Builtin.append_ ats ty #[.slice base sLen sCap,x']).run P w= .ok (.slice base (sLen+n) sCap) w':=by
 have hnew0:(Builtin.firstCells i.size n x').run P w= .ok ⟨vs⟩ w:=hnew w.drawn;cases xd<;>first|(simp[isIntD]at hxd;done)|skip
 all_goals
  unfold Builtin.append_;simp only[h0,h1,List.getElem?_toArray,List.getElem?_cons_zero,List.getElem?_cons_succ,Sem.run_bind,run_underlying' hu,Result.andThen_ok,run_sizeOf' hi,Sem.run_pure,run_underlying' hx,Bool.false_eq_true,if_false,hlen];rw[if_pos hstay];cases base with
  |none=>simp only[Sem.run_bind,Bool.not_false,if_true,hnew0,Result.andThen_ok,Sem.run_pure,hno rfl]
  |some a=>simp only[Sem.run_bind,Bool.not_false,if_true,hnew0,Result.andThen_ok,Sem.run_pure,hst a rfl]
theorem Rel.regrow(hr:Rel B w0 ρ h w){b:Nat}{esz:Nat}{cs:List Value}(ho:h[b]?=some (.row .opn esz cs)){L:RLoc}(hL:ρ b=some L){o q k:Nat}(hq:o=q*esz){new us:List Value}(hn:VRs ρ new us)
  (hok:o+k<=cs.length) (hone: ∀v∈us,v.oneCell'=true) {n:Nat} (hfit:q+n<=L.cap) (hsz:k+new.length<=n*esz):
  ∃ρ' w',ρ.le ρ'/\(storeCells ⟨L.blk,L.off+(o+k),none⟩ us).run P w= .ok () w'/\VR ρ' (.slice (some ⟨h.length,0,none⟩) n openCap) (.slice (some ⟨L.blk,L.off+o,none⟩) n (L.cap-q))/\
   Rel B w0 ρ' ((h++[AObj.row .opn esz ((cs.drop o).take k++new)]).set b .dead) w':=by
 obtain⟨hB,pre,vs,suf,e,lo,hi',hb,hpre,hvs,hfz,hop⟩:=hr.owned ho (by simp) hL;have hop:=hop rfl;have hlen:=hvs.length;have hnl:=hn.length;have hblt:L.blk<w.heap.size:=(Array.getElem?_eq_some_iff.1 hb).1;have hroom:o+k+us.length<=vs.length+suf.length:=by
  rw[hop];have h1:(q+n)*esz<=L.cap*esz:=Nat.mul_le_mul_right _ hfit;rw[Nat.add_mul]at h1;omega
 have st: ∀(us:List Value)(k2:Nat)(c:List Value)(w:World),w.heap[L.blk]?=some (.cells ⟨c⟩ e (lo,hi'))->(lo=hi'\/c.length<=lo)->L.off+(o+k)+k2+us.length<=c.length->(∀v∈us,v.oneCell'=true)->
   (storeCells ⟨L.blk,L.off+(o+k),none⟩ us k2).run P w= .ok () {w with heap:=w.heap.setIfInBounds L.blk (.cells ⟨setsL c (L.off+(o+k)+k2) us⟩ e (lo,hi'))}:=by
  intro us
  induction us with
  |nil=>
   intro k2 c w hc _ _ _;simp only[storeCells,setsL,Sem.run_pure]
   congr 1
   have:w.heap.setIfInBounds L.blk (.cells ⟨c⟩ e (lo,hi'))=w.heap:=by
    apply Array.ext_getElem?
    intro i;rw[Array.getElem?_setIfInBounds]
    split
    ·rename_i h;subst h;have hlt:L.blk<w.heap.size:=(Array.getElem?_eq_some_iff.1 hc).1;rw[if_pos hlt,hc]
    ·rfl
   rw[this]
  |cons u us ih=>
   intro k2 c w hc hfz hle hone;simp only[List.length_cons]at hle;have h1:=hone u (by simp);have hcell:w.cell? ⟨L.blk,L.off+(o+k)+k2,none⟩=some (c[L.off+(o+k)+k2]'(by omega)):=by
    simp only[World.cell?,hc,Option.isSome_none,Bool.false_eq_true,if_false,List.getElem?_toArray];exact List.getElem?_eq_getElem _
   have hf:w.frozen? ⟨L.blk,L.off+(o+k)+k2,none⟩=false:=by
    simp only[World.frozen?,hc,Bool.and_eq_false_iff,decide_eq_false_iff_not];rcases hfz with hfz|hfz<;>omega
   have hlt:L.blk<w.heap.size:=(Array.getElem?_eq_some_iff.1 hc).1;have h2:(store ⟨L.blk,L.off+(o+k)+k2,none⟩ u).run P w= .ok () (w.setCell ⟨L.blk,L.off+(o+k)+k2,none⟩ u):=by
    rw[run_store P w _ _ _ h1];simp[hcell,hf]
   rw[setCell_eq hc]at h2;have h3:=ih (k2+1) (c.set (L.off+(o+k)+k2) u) {w with heap:=w.heap.setIfInBounds L.blk (.cells ⟨c.set (L.off+(o+k)+k2) u⟩ e (lo,hi'))} (by simp[hlt]) (by simpa using hfz) (by simp;omega) (fun v hv=>hone v (by simp[hv]));simp only[storeCells,Sem.run_bind];rw[addr_add,h2];simp only[Result.andThen_ok];rw[h3];simp only[setsL,Nat.add_assoc]
   congr 2
   apply Array.ext_getElem?
   intro i;simp only[Array.getElem?_setIfInBounds,Array.size_setIfInBounds]
   split<;>simp_all
 have st0:=st us 0 (pre++vs++suf) w hb hfz (by simp;omega) hone;have hrow:setsL (pre++vs++suf) (L.off+(o+k)+0) us=(pre++vs.take o)++((vs.drop o).take k++us)++((vs++suf).drop (o+k+us.length)):=by
  have sets_split: ∀(us a c:List Value),us.length<=c.length->setsL (a++c) a.length us=a++us++c.drop us.length:=by
   intro us
   induction us with
   |nil=>intro a c _;simp[setsL]
   |cons u us ih=>
    intro a c hc;cases c with
    |nil=>simp at hc
    |cons x c=>
     simp only[setsL];have:(a++x::c).set a.length u=(a++[u])++c:=by simp
     rw[this];have:=ih (a++[u]) c (by simpa using hc);simp only[List.length_append,List.length_cons,List.length_nil,Nat.zero_add]at this;rw[this];simp
  have hd:pre++vs++suf=(pre++vs.take (o+k))++(vs.drop (o+k)++suf):=by
   conv=>lhs;rw[<-List.take_append_drop (o+k) vs]
   simp only[List.append_assoc]
  rw[hd];have ha:L.off+(o+k)+0=(pre++vs.take (o+k)).length:=by simp;omega
  rw[ha,sets_split _ _ _ (by simp;omega)];have ht:vs.take (o+k)=vs.take o++(vs.drop o).take k:=by
   rw[List.take_add]
  have hdd:(vs.drop (o+k)++suf).drop us.length=(vs++suf).drop (o+k+us.length):=by
   rw[show(vs++suf).drop (o+k+us.length)=((vs++suf).drop (o+k)).drop us.length from by rw[List.drop_drop],List.drop_append_of_le_length (l₁:=vs) (by omega)]
  rw[ht,hdd];simp
 have hk:=hr.kill b;have hdead:(h.set b .dead)[b]?=some .dead:=by
  have hlt:=(List.getElem?_eq_some_iff.1 ho).1;rw[List.getElem?_set_self hlt]
 let L':RLoc:=⟨L.blk,L.off+o,L.cap-q⟩
 let ρ':RMap:=fun x=>if x=h.length then some L' else ρ x
 have hnew:ρ h.length=none:=by
  cases hq:ρ h.length with
  |none=>rfl
  |some L=>exact absurd (hr.fin _ _ hq) (by omega)
 have hle:ρ.le ρ':=by
  intro x Lx hx
  show(if x=h.length then some L' else ρ x)=some Lx
  rw[if_neg]
  ·exact hx
  ·rintro rfl;rw[hnew]at hx;cases hx
 have hblen:b<h.length:=(List.getElem?_eq_some_iff.1 ho).1;have hheap:(h++[AObj.row .opn esz ((cs.drop o).take k++new)]).set b .dead=h.set b .dead++[AObj.row .opn esz ((cs.drop o).take k++new)]:=by
  rw[List.set_append_left _ _ hblen]
 let w':World:= {w with heap:=w.heap.setIfInBounds L.blk (.cells ⟨setsL (pre++vs++suf) (L.off+(o+k)+0) us⟩ e (lo,hi'))}
 have hother: ∀j,j≠L.blk->w'.heap[j]?=w.heap[j]?:=fun j hj=>Array.getElem?_setIfInBounds_ne (Ne.symm hj);have hhere:w'.heap[L.blk]?=some (.cells ⟨setsL (pre++vs++suf) (L.off+(o+k)+0) us⟩ e (lo,hi')):=by
  show(w.heap.setIfInBounds _ _)[_]?=_
  simp[hblt]
 refine⟨ρ',w',hle,st0,?_,?_⟩
 ·have:=VR.slo (ρ:=ρ') (b:=h.length) (o:=0) (n:=n) (c:=openCap) (c':=L.cap-q) (L:=L') (by show(if h.length=h.length then some L' else _)=_;rw[if_pos rfl]) (by decide) (by show L.cap-q+openCap=openCap+(L.cap-q);omega) (by omega);simpa[L']using this
 ·rw[hheap];refine⟨hr.below.trans ⟨rfl,rfl,rfl,by simp[w'],fun j hj=>hother j (by omega)⟩,by simpa[w']using hr.base,?_,?_,?_,?_,?_,hr.gl⟩
  ·intro x Lx hx;have hx':(if x=h.length then some L' else ρ x)=some Lx:=hx
   split at hx'
   ·simp;omega
   ·have:=hr.fin x Lx hx';simp;omega
  ·intro x Lx o2 hx ho2 hnd;have hx':(if x=h.length then some L' else ρ x)=some Lx:=hx
   split at hx'
   ·cases hx';simpa[w',L']using hblt
   ·have hf:=hr.fin x Lx hx';rw[List.getElem?_append_left (by simpa using hf)]at ho2;simpa[w']using hk.lt x Lx o2 hx' ho2 hnd
  ·intro x o2 ho2 hnn hdd
   by_cases hxl:x=h.length
   ·subst hxl;have:(h.set b .dead++[AObj.row .opn esz ((cs.drop o).take k++new)])[h.length]?=some (AObj.row .opn esz ((cs.drop o).take k++new)):=by
     rw[List.getElem?_append_right (by simp)];simp
    rw[this]at ho2;cases ho2;refine⟨L',by show(if h.length=h.length then some L' else _)=_;rw[if_pos rfl],?_⟩;refine⟨hB,pre++vs.take o,(vs.drop o).take k++us,(vs++suf).drop (o+k+us.length),e,lo,hi',?_,?_,?_,?_,?_⟩
    ·rw[<-hrow];exact hhere
    ·simp[L'];omega
    ·exact(((hvs.drop o).take k).append hn).mono hle
    ·have hl2:(pre++vs.take o++((vs.drop o).take k++us)++(vs++suf).drop (o+k+us.length)).length=(pre++vs++suf).length:=by
      rw[<-hrow,setsL_length]
     rw[hl2];exact hfz
    ·show((vs.drop o).take k++us).length+((vs++suf).drop (o+k+us.length)).length=(L.cap-q)*esz
     rw[Nat.sub_mul, <-hop, <-hq];simp;omega
   ·have hlt:x<h.length:=by
     have:=(List.getElem?_eq_some_iff.1 ho2).1;simp at this;omega
    rw[List.getElem?_append_left (by simpa using hlt)]at ho2;obtain⟨Lx,hLx,hO⟩:=hk.obj' x o2 ho2 hnn hdd;refine⟨Lx,by show(if x=h.length then some L' else ρ x)=_;rw[if_neg hxl];exact hLx,?_⟩
    by_cases hxb:x=b
    ·subst hxb;rw[hdead]at ho2;cases ho2;trivial
    ·rw[List.getElem?_set_ne (Ne.symm hxb)]at ho2;cases o2 with
     |dead=>trivial
     |hole=>trivial
     |map es clock=>exact(hO.mono hle).frame (hother _ (hr.sep x b _ _ Lx L hxb ho2 ho rfl rfl hLx hL))
     |row m2 esz2 cs2=>
      cases m2 with
      |ro=>exact(hO.mono hle).frame (hother _ (by have:=hO.1;omega))
      |own=>exact(hO.mono hle).frame (hother _ (hr.sep x b _ _ Lx L hxb ho2 ho rfl rfl hLx hL))
      |opn=>exact(hO.mono hle).frame (hother _ (hr.sep x b _ _ Lx L hxb ho2 ho rfl rfl hLx hL))
  ·intro x hx;have hlt:x<h.length:=by
    have hh:=(List.getElem?_eq_some_iff.1 hx).1;simp at hh
    by_cases e:x=h.length
    ·subst e;rw[List.getElem?_append_right (by simp)]at hx;simp at hx
    ·omega
   rw[List.getElem?_append_left (by simpa using hlt)]at hx
   show(if x=h.length then some L' else ρ x)=none
   rw[if_neg (by omega)];exact hk.void x hx
  ·have old: ∀(x:Nat)(o2:AObj),x≠h.length->(h.set b .dead++[AObj.row .opn esz ((cs.drop o).take k++new)])[x]?=some o2->o2.owned=true->x≠b/\h[x]?=some o2:=by
    intro x o2 hxl ho2 how;have hlt:x<h.length:=by
     have:=(List.getElem?_eq_some_iff.1 ho2).1;simp at this;omega
    rw[List.getElem?_append_left (by simpa using hlt)]at ho2
    by_cases hxb:x=b
    ·subst hxb;rw[hdead]at ho2;cases ho2;simp[AObj.owned]at how
    ·rw[List.getElem?_set_ne (Ne.symm hxb)]at ho2;exact⟨hxb,ho2⟩
   intro x y o1 o2 L1 L2 hne ho1 ho2 hw1 hw2 hL1 hL2;have hL1':(if x=h.length then some L' else ρ x)=some L1:=hL1;have hL2':(if y=h.length then some L' else ρ y)=some L2:=hL2
   by_cases hx:x=h.length
   ·rw[if_pos hx]at hL1';cases hL1';have hy:y≠h.length:=by omega
    rw[if_neg hy]at hL2';obtain⟨hyb,hoy⟩:=old y o2 hy ho2 hw2;exact(hr.sep y b o2 _ L2 L hyb hoy ho hw2 rfl hL2' hL).symm
   ·rw[if_neg hx]at hL1';obtain⟨hxb,hox⟩:=old x o1 hx ho1 hw1
    by_cases hy:y=h.length
    ·rw[if_pos hy]at hL2';cases hL2';exact hr.sep x b o1 _ L1 L hxb hox ho hw1 rfl hL1' hL
    ·rw[if_neg hy]at hL2';obtain⟨hyb,hoy⟩:=old y o2 hy ho2 hw2;exact hr.sep x y o1 o2 L1 L2 hne hox hoy hw1 hw2 hL1' hL2'
theorem aappend_ok(hr:Rel B w0 ρ h w){ats:Array TypeId}{ty:TypeId}{vs us:List Value}{u:Value}{h':Heap}(hb:aappend P ats vs h=some (u,h'))(hv:VRs ρ vs us):
  ∃ρ' w' u',ρ.le ρ'/\(Builtin.append_ ats ty ⟨us⟩).run P w= .ok u' w'/\VR ρ' u u'/\Rel B w0 ρ' h' w':=by
 unfold aappend at hb
 split at hb
 rotate_left
 ·cases hb
 rename_i sT xT s x h0 h1;cases hv with
 | @cons _ s' _ us hs hv=>
 cases hv with
 | @cons _ x' _ us hx hv=>
 cases hv
 split at hb
 rotate_left
 ·cases hb
 rename_i e xd hu hxu
 split at hb
 ·cases hb
 rename_i i hi
 split at hb
 ·cases hb
 rename_i z hz
 split at hb
 ·cases hb
 rename_i hcond;simp only[Bool.or_eq_true,decide_eq_true_eq,not_or,Bool.not_eq_true]at hcond;obtain⟨⟨⟨hxd,hsz⟩,hby⟩,hzl⟩:=hcond;have hzl:(cellsL z).length=i.size:=by omega
 split at hb
 ·cases hb
 rename_i n new htail
 split at hb
 ·cases hb
 rename_i hone;simp only[Bool.not_eq_true,Bool.not_eq_false']at hone;have hone:oneCells new=true:=by simpa using hone
 obtain⟨hnl,nus,hn1,hn2,hn3⟩:=atail_ok (P:=P) hr hx htail;have honeU: ∀v∈nus,v.oneCell'=true:=by
  intro v hv;obtain⟨j,hj⟩:=List.getElem?_of_mem hv;obtain⟨v0,h5,h6⟩:=hn1.getBack hj;exact h6.oneCell (oneCells_mem hone v0 (List.mem_of_getElem? h5))
 split at hb
 ·
  cases hs
  split at hb
  ·rename_i hn0;simp at hb;obtain⟨rfl,rfl⟩:=hb;subst hn0;refine⟨ρ,w,.slice none 0 0,ρ.le_refl,?_,.snil 0 0,hr⟩;exact stay_ok h0 h1 hu hxu hi hxd hn2 hn3 (by omega) (by simp) (by simp)
  ·split at hb<;>simp at hb
   obtain⟨rfl,rfl⟩:=hb;rename_i hn0 hbnd;obtain⟨ρ',w',u',r1,r2,r3,r4⟩:=grow_ok (ty:=ty) hr h0 h1 hu hxu hi hz hxd hby hzl (base:=none) (sLen:=0) (sCap:=0) hn2 (old:=[]) (us:=[]) (fun d=>rfl) hn3 .nil hn1 (by simp) hnl (by omega) (by simpa using hbnd);exact⟨ρ',w',u',r1,r2,by simpa using r3,by simpa using r4⟩
 ·rename_i b o sLen sCap;have true_s: ∃(L:RLoc) (a:Addr) (c':Nat),ρ b=some L/\s'= .slice (some a) sLen c'/\((a=⟨L.blk,L.off+o,none⟩/\((sCap<4611686018427387904/\c'=sCap)\/(4611686018427387904<=sCap/\c'+openCap=sCap+L.cap/\sLen<=c')))\/
    (sLen=0/\c'=0/\(sCap=0\/(4611686018427387904<=sCap/\openCap=sCap+L.cap)))):=by
   cases hs with
   |sl hL hc=>exact⟨_,_,_,hL,rfl,.inl ⟨rfl,.inl ⟨hc,rfl⟩⟩⟩
   |slo hL hc he hn=>exact⟨_,_,_,hL,rfl,.inl ⟨rfl,.inr ⟨hc,he,hn⟩⟩⟩
   |slz hL hc he=>exact⟨_,_,_,hL,rfl,.inr ⟨rfl,rfl,.inr ⟨hc,he⟩⟩⟩
   |sl0 hL=>exact⟨_,_,_,hL,rfl,.inr ⟨rfl,rfl,.inl rfl⟩⟩
  obtain⟨L,a,c',hL,rfl,hcase⟩:=true_s
  split at hb
  ·rename_i hn0;simp at hb;obtain⟨rfl,rfl⟩:=hb;obtain⟨rfl,hsc⟩:=hn0;have hnil:nus=[]:=by
    have:=hn1.length;simp only[hnl,Nat.zero_mul]at this;exact List.eq_nil_of_length_eq_zero this.symm
   subst hnil;refine⟨ρ,w,.slice (some a) sLen c',ρ.le_refl,?_,hs,hr⟩;have:=stay_ok (ty:=ty) h0 h1 hu hxu hi hxd (base:=some a) (sLen:=sLen) (sCap:=c') hn2 hn3 (by rcases hcase with⟨_,h⟩|h<;>omega) (w':=w) (fun a _=>rfl) (fun hh=>by cases hh);simpa using this
  split at hb
  ·cases hb
  rename_i hn0 hbnd;have hbnd:(2*(sLen+n)+512)*i.bytes<=2 ^ 48:=by omega
  split at hb
  rotate_left
  ·cases hb
  rename_i m esz cs hrow
  split at hb
  rotate_left
  ·cases hb
  rename_i hle;have hold:a=⟨L.blk,L.off+o,none⟩\/sLen=0-> ∃ous,VRs ρ ((cs.drop o).take (sLen*i.size)) ous/\ ∀d,(Builtin.firstCells i.size sLen (.slice (some a) sLen c')).run P {w with drawn:=d}= .ok ⟨ous⟩ {w with drawn:=d}:=by
   intro ha;rcases ha with rfl|rfl
   ·obtain⟨ous,h2,h3⟩:=hr.cells hrow hL o (sLen*i.size);refine⟨ous,h2,fun d=>?_⟩;have hlen:ous.length=sLen*i.size:=by rw[<-h2.length];simp;omega
    have:=run_loadCells_list (P:=P) {w with drawn:=d} _ ous h3;rw[hlen]at this;exact this
   ·refine⟨[],by simp;exact .nil,fun d=>?_⟩;simp only[Builtin.firstCells,Nat.zero_mul]
    rfl
  have hol:((cs.drop o).take (sLen*i.size)).length=sLen*i.size:=by simp;omega
  split at hb
  ·
   rename_i hsc;have hc':c'=sCap:=by omega
   subst hc'
   split at hb
   ·rename_i hfit;have hnz:sLen+n≠0:=fun hh=>hn0 ⟨by omega,by omega⟩;rcases hcase with⟨rfl,hcase⟩|hcase
    rotate_left
    ·omega
    split at hb<;>simp at hb
    obtain⟨rfl,rfl⟩:=hb;rename_i hm;obtain⟨w',r1,r2⟩:=hr.stores (P:=P) hn1 (oneCells_mem hone) hrow hm.1 hL (o:=o+sLen*i.size) (k:=0) (by rw[hnl];rw[Nat.add_mul]at hm;omega);refine⟨ρ,w',_,ρ.le_refl,stay_ok h0 h1 hu hxu hi hxd hn2 hn3 hfit (fun a ha=>?_) (fun hh=>by cases hh),.sl hL hsc,by simpa using r2⟩;cases ha;rw[addr_add,Nat.add_assoc];exact r1
   ·rename_i hfit;simp at hb;obtain⟨rfl,rfl⟩:=hb;obtain⟨ous,h2,h3⟩:=hold (by rcases hcase with⟨h,_⟩|⟨h,_⟩<;>simp[h]);exact grow_ok (ty:=ty) hr h0 h1 hu hxu hi hz hxd hby hzl hn2 h3 hn3 h2 hn1 hol hnl (by omega) hbnd
  ·
   rename_i hsc
   split at hb
   rotate_left
   ·cases hb
   rename_i hop;obtain⟨rfl,rfl,hsco,ho⟩:=hop;obtain⟨hB,pre,vvs,suf,e',lo,hi',hbk,hpre,hvvs,hfz,hopn⟩:=hr.owned hrow (by simp) hL;have hopn:=hopn rfl;have hvl:=hvvs.length;have hpos:0<i.size:=Nat.pos_of_ne_zero hsz
   split at hb
   ·
    rename_i hfit;simp at hb;obtain⟨rfl,rfl⟩:=hb;have hmul:(openCap-sCap)*i.size+(sLen+n)*i.size<=L.cap*i.size:=by omega
    rw[<-Nat.add_mul]at hmul;have hmul:=Nat.le_of_mul_le_mul_right hmul hpos;rcases hcase with⟨rfl,hcase⟩|hcase
    ·rcases hcase with hcase|⟨hcc,he,hnc⟩
     ·omega
     have hfit':sLen+n<=c':=by omega
     obtain⟨w',r1,r2⟩:=hr.stores (P:=P) hn1 (oneCells_mem hone) hrow (by simp) hL (o:=o+sLen*i.size) (k:=0) (by rw[hnl];rw[Nat.add_mul]at hfit;omega);refine⟨ρ,w',_,ρ.le_refl,stay_ok h0 h1 hu hxu hi hxd hn2 hn3 hfit' (fun a ha=>?_) (fun hh=>by cases hh),.slo hL hcc he hfit',by simpa using r2⟩;cases ha;rw[addr_add,Nat.add_assoc];exact r1
    ·exfalso;obtain⟨rfl,_,hcase⟩:=hcase;have he:openCap=sCap+L.cap:=by omega
     have:0<n:=Nat.pos_of_ne_zero (fun hh=>hn0 ⟨hh,by omega⟩);omega
   ·rename_i hfit;simp at hb;obtain⟨rfl,rfl⟩:=hb
    by_cases hin:sLen+n<=c'
    ·
     rcases hcase with⟨rfl,hcase⟩|hcase
     ·rcases hcase with hcase|⟨hcc,he,hnc⟩
      ·omega
      obtain⟨ρ',w',r1,r2,r3,r4⟩:=hr.regrow (P:=P) hrow hL (o:=o) (q:=openCap-sCap) (k:=sLen*i.size) (n:=sLen+n) ho.symm hn1 hle honeU (by omega) (by rw[hnl,Nat.add_mul];omega);have hcq:L.cap-(openCap-sCap)=c':=by omega
      rw[hcq]at r3;refine⟨ρ',w',_,r1,stay_ok h0 h1 hu hxu hi hxd hn2 hn3 hin (fun a ha=>?_) (fun hh=>by cases hh),r3,r4⟩;cases ha;rw[addr_add,Nat.add_assoc];exact r2
     ·exfalso;have:0<n:=Nat.pos_of_ne_zero (fun hh=>hn0 ⟨hh,by omega⟩);omega
    ·obtain⟨ous,h2,h3⟩:=hold (by rcases hcase with⟨h,_⟩|⟨h,_⟩<;>simp[h]);obtain⟨ρ',w',u',r1,r2,r3,r4⟩:=grow_ok (ty:=ty) hr h0 h1 hu hxu hi hz hxd hby hzl hn2 h3 hn3 h2 hn1 hol hnl (by omega) hbnd;exact⟨ρ',w',u',r1,r2,r3,r4.kill b⟩
 ·cases hb
end
def isAdd64(P:Program)(g:FuncId):Bool:=match P.funcs[g]? with
 |some fn=>fn.body.isNone&&fn.name== "sync/atomic.AddInt64" &&(Extern.findNext fn).isNone
 |none=>false
theorem find_add64{fn:Func}(hn:fn.name= "sync/atomic.AddInt64"):Extern.find fn=some (Extern.Atomic.update (Op.intArith .add) .i64 true):=by
 have h1:Extern.allGenericRows.lookup "sync/atomic.AddInt64" =none:=by kernel_rfl
 have h2:Extern.allTypedRows.lookup "sync/atomic.AddInt64" =none:=by kernel_rfl
 have h3:Extern.allRows.lookup "sync/atomic.AddInt64" =some (Extern.Atomic.update (Op.intArith .add) .i64 true):=by kernel_rfl
 unfold Extern.find;simp only[hn,h1,h2,h3]
 rfl
section
variable {P:Program}{B:Nat}{w0:World}{ρ:RMap}{h:Heap}{w:World}
theorem Rel.storeA(hr:Rel B w0 ρ h w){b:Nat}{m:Mode}{esz:Nat}{cs:List Value}(ho:h[b]?=some (.row m esz cs))(hm:m≠ .ro){L:RLoc}(hL:ρ b=some L){i:Nat}(hi:i<cs.length)
  {v v':Value} (hv:VR ρ v v') (h1:v'.oneCell'=true):
  ∃w',(store ⟨L.blk,L.off+i,none⟩ v' .atomic).run P w= .ok () w'/\Rel B w0 ρ (h.set b (.row m esz (cs.set i v))) w':=by
 obtain⟨hB,pre,vs,suf,e,lo,hi',hb,hpre,hvs,hfz,hop⟩:=hr.owned ho hm hL;have hlen:=hvs.length;refine⟨w.setCell ⟨L.blk,L.off+i,none⟩ v',?_,?_⟩
 ·rw[run_store P w _ _ _ h1];have hc:w.cell? ⟨L.blk,L.off+i,none⟩=some vs[i]:=by
   simp only[World.cell?,hb,Option.isSome_none,Bool.false_eq_true,if_false,List.getElem?_toArray];rw[List.append_assoc,List.getElem?_append_right (by omega), <-hpre,Nat.add_sub_cancel_left,List.getElem?_append_left (by omega),List.getElem?_eq_getElem]
  have hf:w.frozen? ⟨L.blk,L.off+i,none⟩=false:=by
   simp only[World.frozen?,hb,Bool.and_eq_false_iff,decide_eq_false_iff_not];simp at hfz;rcases hfz with hfz|hfz<;>omega
  simp[hc,hf]
 ·rw[setCell_eq hb];have hset:(pre++vs++suf).set (L.off+i) v'=pre++vs.set i v'++suf:=by
   rw[List.append_assoc,List.set_append_right _ _ (by omega), <-hpre,Nat.add_sub_cancel_left,List.set_append_left _ _ (by omega),List.append_assoc]
  rw[hset];have how:(AObj.row m esz cs).owned=true:=by cases m<;>first|rfl|exact absurd rfl hm
  refine hr.write ho how hL hB (fun w' hw'=>?_);have hlen2:(pre++vs.set i v'++suf).length=(pre++vs++suf).length:=by simp
  cases m with
  |ro=>exact absurd rfl hm
  |own=>exact⟨hB,pre,vs.set i v',suf,e,lo,hi',hw',hpre,hvs.set hv i,by rw[hlen2];exact hfz⟩
  |opn=>exact⟨hB,pre,vs.set i v',suf,e,lo,hi',hw',hpre,hvs.set hv i,by rw[hlen2];exact hfz,by simpa using hop rfl⟩
def aadd64(P:Program)(g:FuncId)(vs:List Value)(h:Heap):Option (Value×Heap):=match vs with
 | [.pointer (some ⟨b,o,none⟩),.int .i64 d]=>match h[b]? with
  |some (.row m esz cs)=>match cs[o]? with
   |some (.int .i64 x)=>if isAdd64 P g=true/\m≠ .ro then some (.int .i64 (IntKind.i64.wrap (x+d)),h.set b (.row m esz (cs.set o (.int .i64 (IntKind.i64.wrap (x+d))))))else none
   |_=>none
  |_=>none
 |_=>none
theorem aadd64_ok(hr:Rel B w0 ρ h w){g:FuncId}{vs us:List Value}{v:Value}{h':Heap}(hb:aadd64 P g vs h=some (v,h'))(hv:VRs ρ vs us):
  ∃w' u,(callFunc g ⟨us⟩).run P w= .ok (.value u) w'/\VR ρ v u/\Rel B w0 ρ h' w':=by
 unfold aadd64 at hb
 split at hb<;>try (cases hb;done)
 rename_i b o d
 split at hb<;>try (cases hb;done)
 rename_i m esz cs hrow
 split at hb<;>try (cases hb;done)
 rename_i x hx
 split at hb<;>try (cases hb;done)
 rename_i hc;obtain⟨ha,hm⟩:=hc;cases hb;cases hv with
 |cons h1 hv=>
 cases hv with
 |cons h2 hv=>
 cases hv;cases h2;cases h1 with
 |ptr hL=>
 rename_i L;have hlt:=(List.getElem?_eq_some_iff.1 hx).1;obtain⟨x',c1,c2⟩:=hr.cell hrow hL hx;cases c2;obtain⟨w',s1,s2⟩:=hr.storeA (P:=P) hrow hm hL hlt (VR.int (ρ:=ρ) .i64 (IntKind.i64.wrap (x+d))) rfl;refine⟨w',_,?_,.int _ _,s2⟩;unfold isAdd64 at ha
 split at ha<;>try (cases ha;done)
 rename_i fn hfn;simp only[Bool.and_eq_true,beq_iff_eq]at ha;obtain⟨⟨hbody,hname⟩,hnext⟩:=ha;rw[run_callFunc_extern hfn (by rw[hname];rfl) hbody (by simpa using hnext) (find_add64 hname)];have:(Extern.Atomic.update (Op.intArith .add) .i64 true ⟨[.pointer (some ⟨L.blk,L.off+o,none⟩),.int .i64 d]⟩).run P w= .ok (.int .i64 (IntKind.i64.wrap (x+d))) w':=by
  have hu:Extern.Atomic.update (Op.intArith .add) .i64 true ⟨[.pointer (some ⟨L.blk,L.off+o,none⟩),.int .i64 d]⟩=(do
    let a <-asAddr (.pointer (some ⟨L.blk,L.off+o,none⟩))
    let old <-Extern.Atomic.read (.int .i64) a
    let new <-Op.intArith .add .i64 (<-asInt old) (<-asInt (.int .i64 d))
    store a new .atomic
    pure new):=rfl
  rw[hu];simp only[Extern.Atomic.read,asAddr,asInt,Op.intArith,Sem.run_bind,Sem.run_pure,Result.andThen_ok,run_load,c1];simp[asIntOf,s1]
 rw[this];rfl
end
end Go.Am
