import Derived.Test.YtjfbmdhdcpdcbaaGreatZA
set_option linter.unusedSimpArgs false
set_option linter.unusedVariables false
namespace Go.Am
open Go Go.RowKit
def acopy(P:Program)(ats:Array TypeId)(vs:List Value)(h:Heap):Option (Value×Heap):=
 match ats[0]?,vs with
 |some dT,[.slice db dLen _,.slice sb sLen _]=>
  match P.underlying dT with
  |some (.slice e)=>match P.info? e with
   |none=>none
   |some i=>
    let n:=Nat.min sLen dLen
    match db,sb with
    |none,none=>if n=0 then some (.int .i64 0,h)else none
    |none,some _=>if n=0 then some (.int .i64 0,h)else none
    |some _,none=>if n=0 then some (.int .i64 0,h)else none
    |some ⟨b,o,none⟩,some ⟨b2,o2,none⟩=>
     if n=0 then some (.int .i64 0,h)else
     match h[b]?,h[b2]? with
     |some (.row m esz cs),some (.row _ _ cs2)=>
      let new:=(cs2.drop o2).take (n*i.size)
      if m≠ .ro/\o+n*i.size<=cs.length/\o2+n*i.size<=cs2.length/\oneCells new=true then some (.int .i64 n,h.set b (.row m esz (setsL cs o new)))else none
     |_,_=>none
    |_,_=>none
  |_=>none
 |_,_=>none
def aclear(P:Program)(ats:Array TypeId)(vs:List Value)(h:Heap):Option (Value×Heap):=
 match ats[0]?,vs with
 |some T,[x]=>match P.underlying T,x with
  |some (.slice _),.slice none _ _=>some (.tuple #[],h)
  |some (.slice _),.slice (some _) 0 _=>some (.tuple #[],h)
  |some (.slice e),.slice (some ⟨b,o,none⟩) n _=>match P.info? e with
   |some i=>match i.zero,h[b]? with
    |some z,some (.row m esz cs)=>
     let new:=zrow (cellsL z) (n*(cellsL z).length)
     if plainV z=true/\m≠ .ro/\o+n*(cellsL z).length<=cs.length/\oneCells new=true/\(cellsL z)≠[]then some (.tuple #[],h.set b (.row m esz (setsL cs o new)))else none
    |_,_=>none
   |none=>none
  |some (.map _ _),.map (some b)=>match h[b]? with
   |some (.map _ clock)=>some (.tuple #[],h.set b (.map [] clock))
   |_=>none
  |_,_=>none
 |_,_=>none
def adelete(P:Program)(ats:Array TypeId)(vs:List Value)(h:Heap):Option (Value×Heap):=
 match ats[0]?,vs with
 |some T,[.map (some b),k]=>match P.underlying T,h[b]? with
  |some (.map kt _),some (.map es clock)=>
   if plainV k&&keysPlain es then
    match pureRun P (Instr.checkKey es.isEmpty 10000 kt k)with
    |none=>none
    |some _=>match afind P kt k es with
     |none=>none
     |some (some (i,_))=>some (.tuple #[],h.set b (.map (es.eraseIdx i) clock))
     |some none=>some (.tuple #[],h.set b (.map es clock))
   else none
  |_,_=>none
 |_,_=>none
def astrBytes(P:Program)(s d:TypeId)(x:Value)(h:Heap):Option (Value×Heap):=
 match P.underlying s,P.underlying d,x with
 |some .string,some (.slice e),.string str=>match P.underlying e with
  |some (.int .u8)=>some (.slice (some ⟨h.length,0,none⟩) str.size openCap,h++[.row .opn 1 (str.data.toList.map fun b=>.int .u8 b.toNat)])
  |_=>none
 |some (.slice _),some (.slice e),.slice (some ⟨b,o,none⟩) n c=>match P.underlying e,h[b]? with
  |some (.int .u8),some (.row m esz cs)=>if s=d/\m≠ .ro/\0<c/\c<4611686018427387904 then some (.slice (some ⟨b,o,none⟩) n c,h)else none
  |_,_=>none
 |_,_,_=>none
def aeff(P:Program)(o:Oper)(t:Tm)(h:Heap):Option (Value×Heap):=
 match o.op with
 | .box _ x=>match ev t x with
  |some v=>abox v h
  |none=>none
 | .alloc T=>aalloc P T h
 | .buildSlice T len parts=>match evp t parts.toList with
  |some ps=>abuildSlice P T len ps h
  |none=>none
 | .makeSlice T l c=>match ev t l,ev t c with
  |some l,some c=>amakeSlice P T l c h
  |_,_=>none
 | .makeMap T r=>match evo t r with
  |some r=>amakeMap P T r h
  |none=>none
 | .store T a x=>match ev t a,ev t x with
  |some a,some v=>match astore P T a v h with
   |some h'=>some (undef,h')
   |none=>none
  |_,_=>none
 | .mapUpdate T m k x=>match ev t m,ev t k,ev t x with
  |some m,some k,some v=>match amapUpdate P T m k v h with
   |some h'=>some (undef,h')
   |none=>none
  |_,_,_=>none
 | .insert T m k x=>match ev t m,ev t k,ev t x with
  |some m,some k,some v=>match amapUpdate P T m k v h with
   |some h'=>some (undef,h')
   |none=>none
  |_,_,_=>none
 | .convert s d x=>match ev t x with
  |some v=>astrBytes P s d v h
  |none=>none
 | .call ⟨.value f,args,_⟩=>match ev t f,evs t args.toList with
  |some (.func (.func g) ⟨[]⟩ ⟨[]⟩),some vs=>aadd64 P g vs h
  |_,_=>none
 | .call ⟨.builtin .append,args,ats⟩=>match evs t args.toList with
  |some vs=>aappend P ats vs h
  |none=>none
 | .call ⟨.builtin .copy,args,ats⟩=>match evs t args.toList with
  |some vs=>acopy P ats vs h
  |none=>none
 | .call ⟨.builtin .clear,args,ats⟩=>match evs t args.toList with
  |some vs=>aclear P ats vs h
  |none=>none
 | .call ⟨.builtin .delete,args,ats⟩=>match evs t args.toList with
  |some vs=>adelete P ats vs h
  |none=>none
 |_=>none
def NR(ρ:RMap)(v:Value):Next->Prop
 | .value v'=>VR ρ v v'
 | .skip=>v=undef
 |_=>False
section
variable {P:Program}{B:Nat}{w0:World}{ρ:RMap}{h:Heap}{w:World}{t:Tm}{ts:List Value}
theorem acopy_ok(hr:Rel B w0 ρ h w){ats:Array TypeId}{ty:TypeId}{vs us:List Value}{u:Value}{h':Heap}(hb:acopy P ats vs h=some (u,h'))(hv:VRs ρ vs us):
  ∃w' u',(Builtin.copy_ ats ty ⟨us⟩).run P w= .ok u' w'/\VR ρ u u'/\Rel B w0 ρ h' w':=by
 unfold acopy at hb
 split at hb
 rotate_left
 ·cases hb
 rename_i dT db dLen dc sb sLen sc h0
 split at hb
 rotate_left
 ·cases hb
 rename_i e hu
 split at hb
 ·cases hb
 rename_i i hi;dsimp only at hb;cases hv with
 | @cons _ d' _ us hd hv=>
 cases hv with
 | @cons _ s' _ us hs hv=>
 cases hv;have hmin:Nat.min sLen dLen=min sLen dLen:=rfl;have shape: ∀{b:Option Addr}{n c:Nat}{x:Value},VR ρ (.slice b n c) x-> ∃b' c',x= .slice b' n c'/\(b=none->b'=none):=by
  intro b n c x hx;cases hx with
  |snil n c=>exact⟨_,_,rfl,fun _=>rfl⟩
  |sl hL hc=>exact⟨_,_,rfl,fun h=>by cases h⟩
  |slo hL hc he hn=>exact⟨_,_,rfl,fun h=>by cases h⟩
  |slz hL hc he=>exact⟨_,_,rfl,fun h=>by cases h⟩
  |sl0 hL=>exact⟨_,_,rfl,fun h=>by cases h⟩
 obtain⟨db',dc',rfl,hdn⟩:=shape hd;obtain⟨sb',sc',rfl,hsn⟩:=shape hs;have zero:Nat.min sLen dLen=0->(Builtin.copy_ ats ty ⟨[.slice db' dLen dc',.slice sb' sLen sc']⟩).run P w= .ok (.int .i64 0) w:=by
  intro hz;simp only[Builtin.copy_,h0,List.getElem?_toArray,List.getElem?_cons_zero,List.getElem?_cons_succ,Sem.run_bind,run_underlying' hu,Result.andThen_ok,Builtin.lenOf,Sem.run_pure,run_sizeOf' hi,hz];have hf:(Builtin.firstCells i.size 0 (.slice sb' sLen sc')).run P w= .ok #[] w:=by
   cases sb' with
   |none=>rfl
   |some a=>simp only[Builtin.firstCells,Nat.zero_mul];rfl
  rw[hf];cases db'<;>rfl
 split at hb
 ·split at hb<;>simp at hb
  obtain⟨rfl,rfl⟩:=hb;exact⟨w,_,zero ‹_›,.int _ _,hr⟩
 ·split at hb<;>simp at hb
  obtain⟨rfl,rfl⟩:=hb;exact⟨w,_,zero ‹_›,.int _ _,hr⟩
 ·split at hb<;>simp at hb
  obtain⟨rfl,rfl⟩:=hb;exact⟨w,_,zero ‹_›,.int _ _,hr⟩
 ·rename_i b o b2 o2
  split at hb
  ·simp at hb;obtain⟨rfl,rfl⟩:=hb;exact⟨w,_,zero ‹_›,.int _ _,hr⟩
  rename_i hnz
  split at hb
  rotate_left
  ·cases hb
  rename_i m esz cs m2 esz2 cs2 hrow hrow2
  split at hb<;>simp at hb
  obtain⟨rfl,rfl⟩:=hb;rename_i hc;obtain⟨hm,hle,hle2,hone⟩:=hc;have hnz':dLen≠0/\sLen≠0:=by
   constructor<;>rintro rfl<;>simp at hnz
  have dst: ∃L c,ρ b=some L/\db'=some ⟨L.blk,L.off+o,none⟩/\c=dc':=by
   cases hd with
   |sl hL hc=>exact⟨_,_,hL,rfl,rfl⟩
   |slo hL hc he hn=>exact⟨_,_,hL,rfl,rfl⟩
   |slz hL hc he=>exact absurd rfl hnz'.1
   |sl0 hL=>exact absurd rfl hnz'.1
  have src: ∃L c,ρ b2=some L/\sb'=some ⟨L.blk,L.off+o2,none⟩/\c=sc':=by
   cases hs with
   |sl hL hc=>exact⟨_,_,hL,rfl,rfl⟩
   |slo hL hc he hn=>exact⟨_,_,hL,rfl,rfl⟩
   |slz hL hc he=>exact absurd rfl hnz'.2
   |sl0 hL=>exact absurd rfl hnz'.2
  obtain⟨L,_,hL,rfl,_⟩:=dst;obtain⟨L2,_,hL2,rfl,_⟩:=src;obtain⟨ns,h2,h3⟩:=hr.cells hrow2 hL2 o2 (Nat.min sLen dLen*i.size);have hlen:ns.length=Nat.min sLen dLen*i.size:=by rw[<-h2.length];simp;omega
  have hload:=run_loadCells_list (P:=P) w _ ns h3;rw[hlen]at hload;obtain⟨w',r1,r2⟩:=hr.stores (P:=P) h2 (oneCells_mem hone) hrow hm hL (o:=o) (k:=0) (by rw[h2.length,hlen];omega);refine⟨w',.int .i64 (Nat.min sLen dLen),?_,.int _ _,by simpa using r2⟩;simp only[Builtin.copy_,h0,List.getElem?_toArray,List.getElem?_cons_zero,List.getElem?_cons_succ,Sem.run_bind,run_underlying' hu,Result.andThen_ok,Builtin.lenOf,Sem.run_pure,run_sizeOf' hi,Builtin.firstCells,hload];rw[r1]
  rfl
 ·cases hb
theorem aclear_ok(hr:Rel B w0 ρ h w){ats:Array TypeId}{ty:TypeId}{vs us:List Value}{u:Value}{h':Heap}(hb:aclear P ats vs h=some (u,h'))(hv:VRs ρ vs us):
  ∃w' u',(Builtin.clear_ ats ty ⟨us⟩).run P w= .ok u' w'/\VR ρ u u'/\Rel B w0 ρ h' w':=by
 unfold aclear at hb
 split at hb
 rotate_left
 ·cases hb
 rename_i T x h0;cases hv with
 | @cons _ x' _ us hx hv=>
 cases hv
 split at hb
 ·rename_i e n c hu;simp at hb;obtain⟨rfl,rfl⟩:=hb;cases hx;refine⟨w,_,?_,VR.undef,hr⟩;simp only[Builtin.clear_,h0,List.getElem?_toArray,List.getElem?_cons_zero,Sem.run_bind,run_underlying' hu,Result.andThen_ok,Sem.run_pure]
  rfl
 ·rename_i e a c hu;simp at hb;obtain⟨rfl,rfl⟩:=hb;have: ∃a' c',x'= .slice (some a') 0 c':=by
   cases hx<;>exact⟨_,_,rfl⟩
  obtain⟨a',c',rfl⟩:=this;refine⟨w,_,?_,VR.undef,hr⟩;simp only[Builtin.clear_,h0,List.getElem?_toArray,List.getElem?_cons_zero,Sem.run_bind,run_underlying' hu,Result.andThen_ok,Sem.run_pure]
  rfl
 ·rename_i e b o n c hn0 hu
  split at hb
  rotate_left
  ·cases hb
  rename_i i hi
  split at hb
  rotate_left
  ·cases hb
  rename_i z m esz cs hz hrow;dsimp only at hb
  split at hb<;>simp at hb
  obtain⟨rfl,rfl⟩:=hb;rename_i hc;obtain⟨hp,hm,hle,hone,hne⟩:=hc;have hlz:(zrow (cellsL z) (n*(cellsL z).length)).length=n*(cellsL z).length:=by simp[zrow]
  have fin: ∀(L:RLoc)(c':Nat),ρ b=some L->n≠0-> ∃w' u',(Builtin.clear_ ats ty ⟨[.slice (some ⟨L.blk,L.off+o,none⟩) n c']⟩).run P w= .ok u' w'/\VR ρ (.tuple #[]) u'/\Rel B w0 ρ (h.set b (.row m esz (setsL cs o (zrow (cellsL z) (n*(cellsL z).length))))) w':=by
   intro L c' hL hn;obtain⟨w',r1,r2⟩:=hr.stores (P:=P) (zrow_ok hp (n*(cellsL z).length)) (oneCells_mem hone) hrow hm hL (o:=o) (k:=0) (by rw[hlz];omega);refine⟨w',.tuple #[],?_,VR.undef,by simpa using r2⟩;have hzc:z.cells=⟨cellsL z⟩:=by rw[cellsL_eq]
   have hzero:(Builtin.zeroCells z.cells n).toList=zrow (cellsL z) (n*(cellsL z).length):=by
    simp only[Builtin.zeroCells,hzc];have:=zrow_eq (cellsL z) (n*(cellsL z).length) (.inr (by cases hq:cellsL z<;>simp_all));simp only[List.size_toArray]at this ⊢;rw[this]
   cases n with
   |zero=>exact absurd rfl hn
   |succ n=>
    simp only[Builtin.clear_,h0,List.getElem?_toArray,List.getElem?_cons_zero,Sem.run_bind,run_underlying' hu,Result.andThen_ok,Sem.run_pure,run_zeroValue' hi hz,hzero,r1]
  cases hx with
  |sl hL hc=>exact fin _ _ hL hn0
  |slo hL hc he hn=>exact fin _ _ hL hn0
  |slz hL hc he=>exact(hn0 rfl).elim
  |sl0 hL=>exact(hn0 rfl).elim
 ·rename_i kt et b hu
  split at hb
  ·rename_i es clock hm;simp at hb;obtain⟨rfl,rfl⟩:=hb;cases hx with
   | @map b L hL=>
    obtain⟨L',hL',hO⟩:=hr.obj b _ hm;obtain rfl:L=L':=by rw[hL]at hL';exact Option.some.inj hL'
    obtain⟨hB,es',h1,h2⟩:=hO;refine⟨{w with heap:=w.heap.setIfInBounds L.blk (.map #[] clock)},.tuple #[],?_,VR.undef,hr.write hm rfl hL hB (fun w' hw'=>⟨hB,[],hw',.nil⟩)⟩;have hset:(setObj L.blk (.map #[] clock)).run P w= .ok () {w with heap:=w.heap.setIfInBounds L.blk (.map #[] clock)}:=by
     simp[setObj,Sem.run,h1]
    simp only[Builtin.clear_,h0,List.getElem?_toArray,List.getElem?_cons_zero,Sem.run_bind,run_underlying' hu,Result.andThen_ok,Sem.run_pure,run_getObj_map h1,hset]
  ·cases hb
 ·cases hb
theorem ERs.eraseIdx{xs ys:List MapEntry}(h1:ERs ρ xs ys)(i:Nat):ERs ρ (xs.eraseIdx i) (ys.eraseIdx i):=by
 induction h1 generalizing i with
 |nil=>simp;exact .nil
 |cons a b c ih=>
  cases i with
  |zero=>simpa using c
  |succ i=>simpa using .cons a b (ih i)
theorem adelete_ok(hr:Rel B w0 ρ h w){ats:Array TypeId}{ty:TypeId}{vs us:List Value}{u:Value}{h':Heap}(hb:adelete P ats vs h=some (u,h'))(hv:VRs ρ vs us):
  ∃w' u',(Builtin.delete_ ats ty ⟨us⟩).run P w= .ok u' w'/\VR ρ u u'/\Rel B w0 ρ h' w':=by
 unfold adelete at hb
 split at hb
 rotate_left
 ·cases hb
 rename_i T b k h0
 split at hb
 rotate_left
 ·cases hb
 rename_i kt et es clock hu hm
 split at hb
 rotate_left
 ·cases hb
 rename_i hp;simp only[Bool.and_eq_true]at hp;cases hv with
 | @cons _ x' _ us hx hv=>
 cases hv with
 | @cons _ k' _ us hk hv=>
 cases hv;obtain rfl:=hk.plain_eq hp.1
 split at hb
 ·cases hb
 rename_i hck;cases hx with
 | @map b L hL=>
  obtain⟨L',hL',hO⟩:=hr.obj b _ hm;obtain rfl:L=L':=by rw[hL]at hL';exact Option.some.inj hL'
  obtain⟨hB,es',h1,h2⟩:=hO;have hem:(Array.mk es').isEmpty=es.isEmpty:=by
   have:=h2.length;cases es<;>cases es'<;>simp_all
  have fin: ∀(es2 es2':List MapEntry),ERs ρ es2 es2'->Rel B w0 ρ (h.set b (.map es2 clock)) {w with heap:=w.heap.setIfInBounds L.blk (.map ⟨es2'⟩ clock)}:=
   fun es2 es2' he=>hr.write hm rfl hL hB (fun w' hw'=>⟨hB,es2',hw',he⟩)
  have hset: ∀o:Obj,(setObj L.blk o).run P w= .ok () {w with heap:=w.heap.setIfInBounds L.blk o}:=by
   intro o;simp[setObj,Sem.run,h1]
  split at hb
  ·cases hb
  ·rename_i i u' hf;obtain⟨r',h3,h4⟩:=afind_ok h2 hp.2 hf;cases r' with
   |none=>exact h4.elim
   |some p=>
    obtain⟨j,u2⟩:=p;obtain⟨rfl,_⟩:=h4;simp at hb;obtain⟨rfl,rfl⟩:=hb;refine⟨_,.tuple #[],?_,VR.undef,fin _ _ (h2.eraseIdx i)⟩;have her:(Array.mk es').eraseIdxIfInBounds i=⟨es'.eraseIdx i⟩:=by
     apply Array.ext'
     simp
    simp only[Builtin.delete_,h0,List.getElem?_toArray,List.getElem?_cons_zero,List.getElem?_cons_succ,Sem.run_bind,run_underlying' hu,Result.andThen_ok,run_getObj_map h1,hem,pureRun_ok hck,h3,her,hset,Sem.run_pure]
  ·rename_i hf;obtain⟨r',h3,h4⟩:=afind_ok h2 hp.2 hf;cases r' with
   |some p=>exact h4.elim
   |none=>
    simp at hb;obtain⟨rfl,rfl⟩:=hb;refine⟨_,.tuple #[],?_,VR.undef,fin _ _ h2⟩;simp only[Builtin.delete_,h0,List.getElem?_toArray,List.getElem?_cons_zero,List.getElem?_cons_succ,Sem.run_bind,run_underlying' hu,Result.andThen_ok,run_getObj_map h1,hem,pureRun_ok hck,h3,hset,Sem.run_pure]
theorem astrBytes_ok(hr:Rel B w0 ρ h w){s d:TypeId}{x x' u:Value}{h':Heap}(hb:astrBytes P s d x h=some (u,h'))(hx:VR ρ x x'):
  ∃ρ' w' u',ρ.le ρ'/\(convert s d x').run P w= .ok u' w'/\VR ρ' u u'/\Rel B w0 ρ' h' w':=by
 unfold astrBytes at hb
 split at hb
 rotate_left
 ·rename_i e1 e b o n c hs hd
  split at hb
  rotate_left
  ·cases hb
  rename_i m esz cs he hrow
  split at hb
  rotate_left
  ·cases hb
  rename_i hcond;obtain⟨hsd,hm,hc0,hc1⟩:=hcond;simp only[Option.some.injEq,Prod.mk.injEq]at hb;obtain⟨rfl,rfl⟩:=hb;subst hsd;obtain rfl:e1=e:=by rw[hs]at hd;cases hd;rfl
  have main: ∀(L:RLoc),ρ b=some L->(∃(pre vs suf:List Value) (e:TypeId) (lo hi:Nat),w.heap[L.blk]?=some (.cells ⟨pre++vs++suf⟩ e (lo,hi))/\(lo=hi\/(pre++vs++suf).length<=lo)/\
    (∀(lo' hi':Nat),(pre++vs++suf).length<=lo'->Rel B w0 ρ h {w with heap:=w.heap.setIfInBounds L.blk (.cells ⟨pre++vs++suf⟩ e (lo',hi'))}))->
    ∃w',(convert s s (.slice (some ⟨L.blk,L.off+o,none⟩) n c)).run P w= .ok (.slice (some ⟨L.blk,L.off+o,none⟩) n c) w'/\Rel B w0 ρ h w':=by
   rintro L hL ⟨pre,vs,suf,e2,lo,hi,g1,g4,hw⟩;have hlt:L.blk<w.heap.size:=(Array.getElem?_eq_some_iff.1 g1).1;have hsh:w.shape? L.blk=some (e2,(pre++vs++suf).length):=by
    unfold World.shape?;rw[g1];simp[Nat.add_assoc]
   have hfr: ∃lo' hi':Nat,(pre++vs++suf).length<=lo'/\w.freeze ⟨L.blk,(pre++vs++suf).length,none⟩ 1= {w with heap:=w.heap.setIfInBounds L.blk (.cells ⟨pre++vs++suf⟩ e2 (lo',hi'))}:=by
    have key: ∀(lo' hi':Nat),(if(lo==hi)=true then((pre++vs++suf).length,(pre++vs++suf).length+1)else(min lo (pre++vs++suf).length,max hi ((pre++vs++suf).length+1)))=(lo',hi')->
      w.freeze ⟨L.blk,(pre++vs++suf).length,none⟩ 1= {w with heap:=w.heap.setIfInBounds L.blk (.cells ⟨pre++vs++suf⟩ e2 (lo',hi'))}:=by
     intro lo' hi' hq;unfold World.freeze;rw[if_neg (by simp)]
     congr 1
     apply Array.ext_getElem?
     intro j;rw[Array.getElem?_modify,Array.getElem?_setIfInBounds]
     by_cases hj:L.blk=j
     ·subst hj;rw[if_pos rfl,if_pos rfl,if_pos hlt,g1];simp only[Option.map_some,hq]
     ·rw[if_neg hj,if_neg hj]
    by_cases hlh:lo=hi
    ·exact⟨_,_,Nat.le_refl _,key _ _ (by rw[if_pos (by simpa using hlh)])⟩
    ·refine⟨_,_,?_,key _ _ (by rw[if_neg (by simpa using hlh)])⟩;rcases g4 with g4|g4
     ·exact absurd g4 hlh
     ·exact Nat.le_min.2 ⟨g4,Nat.le_refl _⟩
   obtain⟨lo',hi',f1,f2⟩:=hfr;refine⟨_,?_,hw lo' hi' f1⟩;simp only[convert,Sem.run_bind,run_underlying' hs,run_underlying' he,Result.andThen_ok,beq_self_eq_true,markStringish,run_shape,hsh,run_freeze,Sem.run_pure,f2]
  have fin: ∀{L:RLoc},ρ b=some L-> ∃w',(convert s s (.slice (some ⟨L.blk,L.off+o,none⟩) n c)).run P w= .ok (.slice (some ⟨L.blk,L.off+o,none⟩) n c) w'/\Rel B w0 ρ h w':=by
   intro L hL;obtain⟨L',hL',hO⟩:=hr.obj b _ hrow;obtain rfl:L=L':=by rw[hL]at hL';exact Option.some.inj hL'
   have hset:h.set b (.row m esz cs)=h:=by
    apply List.ext_getElem?
    intro i
    by_cases hi:b=i
    ·subst hi;rw[List.getElem?_set_self (List.getElem?_eq_some_iff.1 hrow).1,hrow]
    ·rw[List.getElem?_set_ne hi]
   refine main L hL ?_;cases m with
   |ro=>exact absurd rfl hm
   |own=>
    obtain⟨h0,pre,vs,suf,e2,lo,hi,g1,g2,g3,g4⟩:=hO;refine⟨pre,vs,suf,e2,lo,hi,g1,g4,fun lo' hi' hle=>?_⟩;have:=hr.write hrow rfl hL (obj:=.cells ⟨pre++vs++suf⟩ e2 (lo',hi')) (o':=.row .own esz cs) h0 (fun w' hw'=>⟨h0,pre,vs,suf,e2,lo',hi',hw',g2,g3,.inr hle⟩)
    rwa [hset]at this
   |opn=>
    obtain⟨h0,pre,vs,suf,e2,lo,hi,g1,g2,g3,g4,g5⟩:=hO;refine⟨pre,vs,suf,e2,lo,hi,g1,g4,fun lo' hi' hle=>?_⟩;have:=hr.write hrow rfl hL (obj:=.cells ⟨pre++vs++suf⟩ e2 (lo',hi')) (o':=.row .opn esz cs) h0 (fun w' hw'=>⟨h0,pre,vs,suf,e2,lo',hi',hw',g2,g3,.inr hle,g5⟩)
    rwa [hset]at this
  cases hx with
  |sl hL hc=>obtain⟨w',h1,h2⟩:=fin hL;exact⟨ρ,w',_,ρ.le_refl,h1,.sl hL hc,h2⟩
  |slo hL hc he2 hn=>omega
  |slz hL hc he2=>omega
  |sl0 hL=>omega
 ·cases hb
 rename_i e str hs hd
 split at hb
 rotate_left
 ·cases hb
 rename_i he;simp only[Option.some.injEq,Prod.mk.injEq]at hb;obtain⟨rfl,rfl⟩:=hb;cases hx
 let cap:=str.size+(w.tape w.drawn (.appendCap str.size 0 e)) % (2 ^ 63-str.size)
 let elems:List Value:=str.data.toList.map fun b=>.int .u8 b.toNat
 let rest:List Value:=List.replicate (cap-str.size) (.int .u8 0)
 have hel:elems.length=str.size:=by simp[elems]
 have hlen:elems.length+rest.length=cap*1:=by
  have:str.size<=cap:=Nat.le_add_right _ _;simp[rest,hel];omega
 have hr':Rel B w0 ρ h {w with drawn:=w.drawn+1}:=hr.draw;obtain⟨ρ',r1,r2,r3⟩:=hr'.push (o:=.row .opn 1 elems) (obj:=.cells ⟨elems++rest⟩ e ((elems++rest).length,(elems++rest).length+1)) (cap:=cap)
  (fun ρ' w' hle hw'=>⟨hr.base,[],elems,rest,e,(elems++rest).length,(elems++rest).length+1,by simpa using hw',rfl,VRs.ofPlain (fun x hx=>by simp[elems]at hx;obtain⟨b,_,rfl⟩:=hx;rfl),.inr (by simp),hlen⟩)
 refine⟨ρ', {w with drawn:=w.drawn+1,heap:=w.heap.push (.cells ⟨elems++rest⟩ e ((elems++rest).length,(elems++rest).length+1))},.slice (some ⟨w.heap.size,0,none⟩) str.size cap,r1,?_,?_,r3⟩
 ·simp only[convert,Sem.run_bind,run_underlying' hs,run_underlying' hd,run_underlying' he,Result.andThen_ok,Conv.stringToBytes];have hnc:(choose (.appendCap str.size 0 e)).run P w= .ok cap {w with drawn:=w.drawn+1}:=rfl;have hrow:(str.data.map fun b=>Value.int .u8 (b.toNat:Int))++Array.replicate (cap-str.size) (.int .u8 0)=⟨elems++rest⟩:=by
   apply Array.ext';simp[elems,rest]
  simp only[hnc,Result.andThen_ok,hrow,newRow,Sem.run_bind,run_newObj,Sem.run_pure,markStringish,run_shape];have hsh:World.shape? {heap:=w.heap.push (Obj.cells ⟨elems++rest⟩ e),tape:=w.tape,drawn:=w.drawn+1,os:=w.os,output:=w.output} w.heap.size=some (e,(elems++rest).length):=by
   simp[World.shape?]
  simp only[hsh,run_freeze,Result.andThen_ok]
  congr 1
  simp only[World.freeze];rw[if_neg (by simp)]
  congr 1
  apply Array.ext_getElem?
  intro j;rw[Array.getElem?_modify,Array.getElem?_push,Array.getElem?_push]
  by_cases hj:w.heap.size=j
  ·subst hj;simp
  ·have hj': ¬ j=w.heap.size:=fun h=>hj h.symm;simp[hj,hj']
 ·have:=VR.slo (ρ:=ρ') (b:=h.length) (o:=0) (n:=str.size) (c:=openCap) (c':=cap) r2 (by decide) (by simp[Nat.add_comm]) (Nat.le_add_right _ _);simpa using this
theorem aeff_ok(hr:Rel B w0 ρ h w){o:Oper}{v:Value}{h':Heap}(hb:aeff P o t h=some (v,h'))(ht:TRs ρ t ts):
  ∃ρ' w' n,ρ.le ρ'/\(execOp (tev ts) o).run P w= .ok n w'/\NR ρ' v n/\Rel B w0 ρ' h' w':=by
 obtain⟨dst,op,ty,pos,aft,grd⟩:=o;unfold aeff at hb
 split at hb
 ·rename_i T x hop;dsimp only at hop;subst hop
  split at hb
  ·rename_i v0 hx;obtain⟨ρ',w',u',h1,h2,h3,h4⟩:=abox_ok (P:=P) (T:=T) hr hb (ev_ok ht hx);exact⟨ρ',w',.value u',h1,by simp only[execOp,Sem.run_bind,h2];rfl,h3,h4⟩
  ·cases hb
 ·rename_i T hop;dsimp only at hop;subst hop;obtain⟨ρ',w',u',h1,h2,h3,h4⟩:=aalloc_ok hr hb;exact⟨ρ',w',.value u',h1,by simp only[execOp,Sem.run_bind,h2];rfl,h3,h4⟩
 ·rename_i T len parts hop;dsimp only at hop;subst hop
  split at hb
  ·rename_i ps hps;obtain⟨ρ',w',u',h1,h2,h3,h4⟩:=abuildSlice_ok hr hb (evp_ok ht hps);have:(parts.map fun x:Nat×Operand=>(x.1,tev ts x.2))=⟨parts.toList.map fun p=>(p.1,tev ts p.2)⟩:=by
    apply Array.ext';simp
   refine⟨ρ',w',.value u',h1,?_,h3,h4⟩;simp only[execOp,Sem.run_bind];rw[this,h2];rfl
  ·cases hb
 ·rename_i T l c hop;dsimp only at hop;subst hop
  split at hb
  ·rename_i l0 c0 hl hc;obtain⟨ρ',w',u',h1,h2,h3,h4⟩:=amakeSlice_ok hr hb (ev_ok ht hl) (ev_ok ht hc);exact⟨ρ',w',.value u',h1,by simp only[execOp,Sem.run_bind,h2];rfl,h3,h4⟩
  ·cases hb
 ·rename_i T r hop;dsimp only at hop;subst hop
  split at hb
  ·rename_i r0 hrr;obtain⟨ρ',w',u',h1,h2,h3,h4⟩:=amakeMap_ok hr hb (evo_ok ht hrr);exact⟨ρ',w',.value u',h1,by simp only[execOp,Sem.run_bind,h2];rfl,h3,h4⟩
  ·cases hb
 ·rename_i T a x hop;dsimp only at hop;subst hop
  split at hb
  ·rename_i a0 x0 ha hx
   split at hb<;>simp at hb
   obtain⟨rfl,rfl⟩:=hb;obtain⟨w',h1,h2⟩:=astore_ok hr ‹_› (ev_ok ht ha) (ev_ok ht hx);exact⟨ρ,w',.skip,ρ.le_refl,by simp only[execOp,Sem.run_bind,h1];rfl,rfl,h2⟩
  ·cases hb
 ·rename_i T m k x hop;dsimp only at hop;subst hop
  split at hb
  ·rename_i m0 k0 x0 hm hk hx
   split at hb<;>simp at hb
   obtain⟨rfl,rfl⟩:=hb;obtain⟨w',h1,h2⟩:=amapUpdate_ok hr ‹_› (ev_ok ht hm) (ev_ok ht hk) (ev_ok ht hx);exact⟨ρ,w',.skip,ρ.le_refl,by simp only[execOp,Sem.run_bind,h1];rfl,rfl,h2⟩
  ·cases hb
 ·rename_i T m k x hop;dsimp only at hop;subst hop
  split at hb
  ·rename_i m0 k0 x0 hm hk hx
   split at hb<;>simp at hb
   obtain⟨rfl,rfl⟩:=hb;obtain⟨w',h1,h2⟩:=amapUpdate_ok hr ‹_› (ev_ok ht hm) (ev_ok ht hk) (ev_ok ht hx);exact⟨ρ,w',.skip,ρ.le_refl,by simp only[execOp,Sem.run_bind,h1];rfl,rfl,h2⟩
  ·cases hb
 ·rename_i s d x hop;dsimp only at hop;subst hop
  split at hb
  ·rename_i v0 hx;obtain⟨ρ',w',u',h1,h2,h3,h4⟩:=astrBytes_ok hr hb (ev_ok ht hx);exact⟨ρ',w',.value u',h1,by simp only[execOp,Sem.run_bind,h2];rfl,h3,h4⟩
  ·cases hb
 ·rename_i f args ats hop;dsimp only at hop;subst hop
  split at hb
  rotate_left
  ·cases hb
  rename_i g vs hf hvs;have hfv:=ev_ok ht hf;obtain⟨w',u,h1,h2,h3⟩:=aadd64_ok (P:=P) hr hb (evs_ok ht hvs);generalize hfr:tev ts f=fr at hfv;cases hfv with
  |func hfst hcap=>
   cases hfst;cases hcap;refine⟨ρ,w',.value u,ρ.le_refl,?_,h2,h3⟩;have e:args.map (tev ts)=⟨args.toList.map (tev ts)⟩:=by apply Array.ext';simp
   have e2: ∀(b:List Value),(Array.mk ([]:List Value)++Array.mk b)++Array.mk []=Array.mk b:=by
    intro b;apply Array.ext';simp
   simp only[execOp,resolve,Sem.run_bind,Sem.run_pure,Result.andThen_ok,hfr,Deferred.ofValue,invoke,e,e2];exact h1
 all_goals (try (cases hb;done))
 all_goals
  rename_i args ats hop;dsimp only at hop;subst hop
  split at hb
  rotate_left
  ·cases hb
  rename_i vs hvs;have e:args.map (tev ts)=⟨args.toList.map (tev ts)⟩:=by apply Array.ext';simp
 ·obtain⟨ρ',w',u',h1,h2,h3,h4⟩:=aappend_ok (ty:=ty) hr hb (evs_ok ht hvs);exact⟨ρ',w',.value u',h1,by simp only[execOp,resolve,Sem.run_bind,Sem.run_pure,Result.andThen_ok,invoke,builtin,e,h2],h3,h4⟩
 ·obtain⟨w',u',h2,h3,h4⟩:=acopy_ok (ty:=ty) hr hb (evs_ok ht hvs);exact⟨ρ,w',.value u',ρ.le_refl,by simp only[execOp,resolve,Sem.run_bind,Sem.run_pure,Result.andThen_ok,invoke,builtin,e,h2],h3,h4⟩
 ·obtain⟨w',u',h2,h3,h4⟩:=aclear_ok (ty:=ty) hr hb (evs_ok ht hvs);exact⟨ρ,w',.value u',ρ.le_refl,by simp only[execOp,resolve,Sem.run_bind,Sem.run_pure,Result.andThen_ok,invoke,builtin,e,h2],h3,h4⟩
 ·obtain⟨w',u',h2,h3,h4⟩:=adelete_ok (ty:=ty) hr hb (evs_ok ht hvs);exact⟨ρ,w',.value u',ρ.le_refl,by simp only[execOp,resolve,Sem.run_bind,Sem.run_pure,Result.andThen_ok,invoke,builtin,e,h2],h3,h4⟩
end
def aput(t:Tm)(dst:Option Tmp)(v:Value):Tm:=
 match dst with
 |some d=>t.set d (some v)
 |none=>t
def ayielded(ops:Array Oper)(t:Tm)(j:Nat):Option Bool:=
 match ops[j]? with
 |some o=>match o.dst with
  |some d=>match tget t d with
   |some (.bool b)=>some b
   |_=>none
  |none=>none
 |none=>none
def gok(ops:Array Oper)(o:Oper)(t:Tm):Bool:=
 match o.guard with
 |none=>true
 |some (j,_)=>match ops[j]? with
  |some o'=>match o'.dst with
   |some d=>(tget t d).isSome
   |none=>true
  |none=>true
def enterable(P:Program)(f:FuncId):Bool:=
 match P.funcs[f]? with
 |some fn=>fn.body.isSome&&!(fn.name== "runtime.NumGoroutine")
 |none=>false
def acallee(P:Program)(o:Oper)(t:Tm):Option (FuncId×List Value):=
 match o.op with
 | .call ⟨.value f,args,_⟩=>match ev t f,evs t args.toList with
  |some (.func (.func g) ⟨first⟩ ⟨captured⟩),some as=>if enterable P g then some (g,first++as++captured)else none
  |_,_=>none
 |_=>none
def ACall(P:Program)(f:FuncId)(args:List Value)(h:Heap)(R:Value->Heap->Prop):Prop:=
 ∀(B:Nat)(w0:World)(ρ:RMap)(rargs:List Value)(w:World),Rel B w0 ρ h w->VRs ρ args rargs->
  Calls P f ⟨rargs⟩ w fun e w'=> ∃v v' h' ρ',e= .returned v'/\R v h'/\ρ.le ρ'/\Rel B w0 ρ' h' w'/\VR ρ' v v'
theorem ACall.mono{P:Program}{f:FuncId}{args:List Value}{h:Heap}{R R':Value->Heap->Prop}(hc:ACall P f args h R)(hR: ∀v h',R v h'->R' v h'):ACall P f args h R':=
 fun B w0 ρ rargs w hr hv=>(hc B w0 ρ rargs w hr hv).mono fun e w' ⟨v,v',h',ρ',h1,h2,h3⟩=>⟨v,v',h',ρ',h1,hR _ _ h2,h3⟩
def AOp(P:Program)(ops:Array Oper)(o:Oper)(K:Tm->Heap->Prop)(t:Tm)(h:Heap):Prop:=
 gok ops o t=true/\if Region.wanted o (ayielded ops t)then
  (∃v,apure P o t=some v/\K (aput t o.dst v) h)\/(∃v,aread P o t h=some v/\K (aput t o.dst v) h)\/(∃v h',aeff P o t h=some (v,h')/\K (aput t o.dst v) h')\/
  (∃f args R,acallee P o t=some (f,args)/\ACall P f args h R/\ ∀v h',R v h'->K (aput t o.dst v) h')
 else K (aput t o.dst undef) h
def AOps(P:Program)(ops:Array Oper)(K:Tm->Heap->Prop):List Oper->Tm->Heap->Prop
 | []=>K
 |o::rest=>AOp P ops o (AOps P ops K rest)
def Sim(B:Nat)(w0:World)(ρ:RMap)(K:Tm->Heap->Prop)(a:Act)(w:World):Prop:=
 ∃(t:Tm) (h:Heap) (ρ':RMap) (ts:List Value),K t h/\ρ.le ρ'/\Rel B w0 ρ' h w/\a=⟨⟨ts⟩,[]⟩/\TRs ρ' t ts
section
variable {P:Program}{B:Nat}{w0:World}
theorem Sim.up{ρ ρ':RMap}{K:Tm->Heap->Prop}{a:Act}{w:World}(hl:ρ.le ρ')(h:Sim B w0 ρ' K a w):Sim B w0 ρ K a w:=by
 obtain⟨t,h,ρ2,ts,h1,h2,h3,h4,h5⟩:=h;exact⟨t,h,ρ2,ts,h1,RMap.le_trans hl h2,h3,h4,h5⟩
theorem Sim.mono{ρ:RMap}{K K':Tm->Heap->Prop}{a:Act}{w:World}(hK: ∀t h,K t h->K' t h)(h:Sim B w0 ρ K a w):Sim B w0 ρ K' a w:=by
 obtain⟨t,h,ρ2,ts,h1,h2⟩:=h;exact⟨t,h,ρ2,ts,hK _ _ h1,h2⟩
theorem wanted_eq{ρ:RMap}{t:Tm}{ts:List Value}(ht:TRs ρ t ts)(ops:Array Oper)(o:Oper)(hg:gok ops o t=true):Region.wanted o (yielded ops (Act.mk ⟨ts⟩ []).tmps)=Region.wanted o (ayielded ops t):=by
 unfold Region.wanted;unfold gok at hg;cases hgd:o.guard with
 |none=>rfl
 |some g=>
  obtain⟨j,want⟩:=g;have:yielded ops (Act.mk ⟨ts⟩ []).tmps j=ayielded ops t j:=by
   unfold yielded ayielded;rw[hgd]at hg;dsimp only at hg;cases ho:ops[j]? with
   |none=>rfl
   |some o'=>
    rw[ho]at hg;dsimp only at hg;cases hd:o'.dst with
    |none=>simp[hd]
    |some d=>
     rw[hd]at hg;simp only[Option.bind_some,hd,List.getElem?_toArray];obtain⟨v,hq⟩:=Option.isSome_iff_exists.1 hg;obtain⟨v',h1,h2⟩:=ht.tget hq;rw[h1,hq];cases h2<;>rfl
  simp only[this]
theorem aput_ok{ρ:RMap}{t:Tm}{ts:List Value}(ht:TRs ρ t ts){v v':Value}(hv:VR ρ v v')(dst:Option Tmp): ∃ts',(Act.mk ⟨ts⟩ []).put dst v'=⟨⟨ts'⟩,[]⟩/\TRs ρ (aput t dst v) ts':=by
 cases dst with
 |none=>exact⟨ts,rfl,ht⟩
 |some d=>
  refine⟨ts.set d v',?_,ht.set hv d⟩;simp only[Act.put]
  congr 1
  apply Array.ext';simp
theorem AOps.sound(ops:Array Oper)(l:List Oper){K:Tm->Heap->Prop}: ∀{t:Tm}{h:Heap},AOps P ops K l t h-> ∀{ρ:RMap}{ts:List Value}{w:World},Rel B w0 ρ h w->TRs ρ t ts->
  wpList P ops (fun e a w=>e= .normal/\Sim B w0 ρ K a w) l ⟨⟨ts⟩,[]⟩ w:=by
 induction l with
 |nil=>
  intro t h hK ρ ts w hr ht;exact⟨rfl,t,h,ρ,ts,hK,ρ.le_refl,hr,rfl,ht⟩
 |cons o rest ih=>
  intro t h hK ρ ts w hr ht;simp only[AOps,AOp]at hK;obtain⟨hg,hK⟩:=hK;unfold wpList;rw[wanted_eq ht _ _ hg];have up: ∀{ρ':RMap}(hl:ρ.le ρ'){a:Act}{w:World},wpList P ops (fun e a w=>e= .normal/\Sim B w0 ρ' K a w) rest a w->wpList P ops (fun e a w=>e= .normal/\Sim B w0 ρ K a w) rest a w:=by
   intro ρ' hl a w hw;have mono: ∀(l:List Oper)(a:Act)(w:World),wpList P ops (fun e a w=>e= .normal/\Sim B w0 ρ' K a w) l a w->wpList P ops (fun e a w=>e= .normal/\Sim B w0 ρ K a w) l a w:=by
    intro l
    induction l with
    |nil=>intro a w h;exact⟨h.1,h.2.up hl⟩
    |cons o l ih=>
     intro a w h;unfold wpList at h ⊢
     split at h
     ·rename_i hw;rw[if_pos hw];rcases h with h|⟨h1,a2,w2,h2,_⟩
      ·left
       unfold Oper.wp at h ⊢
       revert h
       generalize(execOp a.eval o).run P w=r;intro h;cases r with
       |ok n w'=>
        cases n with
        |value v=>simp only[Oper.upon]at h ⊢;exact ih _ _ h
        |skip=>simp only[Oper.upon]at h ⊢;exact ih _ _ h
        |defer d=>simp only[Oper.upon]at h ⊢;exact ih _ _ h
        |row r as=>simp only[Oper.upon]at h ⊢;exact Rows.mono h fun v w'' he=>ih _ _ he
        |enter f as=>
         simp only[Oper.upon]at h ⊢;refine Calls.mono h ?_;rintro(v|c|_) w'' he
         ·exact ih _ _ he
         ·exact absurd he.1 (by simp)
         ·obtain⟨_,_,h2,_⟩:=he;cases h2
        |_=>simp only[Oper.upon]at h
       |halt x w'=>
        cases x<;>simp only[Oper.upon]at h ⊢ <;>first|exact h|exact absurd h.1 (by simp)
      ·cases h2
     ·rename_i hw;rw[if_neg hw];exact ih _ _ h
   exact mono rest a w hw
  split at hK
  ·rename_i hw;rw[if_pos hw]
   left
   rcases hK with⟨v,h1,h2⟩|⟨v,h1,h2⟩|⟨v,h',h1,h2⟩|⟨f,args,R,h1,h2,h3⟩
   ·obtain⟨v',h3,h4⟩:=apure_ok h1 ht;unfold Oper.wp;have h4':=h4 w;simp only[tev]at h4';rw[h4'];simp only[Oper.upon];obtain⟨ts',h5,h6⟩:=aput_ok ht h3 o.dst;rw[h5];exact ih h2 hr h6
   ·obtain⟨v',h3,h4⟩:=aread_ok hr h1 ht;unfold Oper.wp;simp only[tev]at h4;rw[h4];simp only[Oper.upon];obtain⟨ts',h5,h6⟩:=aput_ok ht h3 o.dst;rw[h5];exact ih h2 hr h6
   ·obtain⟨ρ',w',n,h3,h4,h5,h6⟩:=aeff_ok hr h1 ht;unfold Oper.wp;simp only[tev]at h4;rw[h4];cases n<;>simp only[NR]at h5
    ·simp only[Oper.upon];obtain⟨ts',h7,h8⟩:=aput_ok (ht.mono h3) h5 o.dst;rw[h7];exact up h3 (ih h2 h6 h8)
    ·subst h5;simp only[Oper.upon];obtain⟨ts',h7,h8⟩:=aput_ok (ht.mono h3) VR.undef o.dst;rw[h7];exact up h3 (ih h2 h6 h8)
   ·unfold acallee at h1
    split at h1
    rotate_left
    ·cases h1
    rename_i fo as ats hop
    split at h1
    rotate_left
    ·cases h1
    rename_i g first captured as' hf has
    split at h1<;>simp at h1
    rename_i hen;obtain⟨hg,ha⟩:=h1;subst hg;have ha:first++as'++captured=args:=by simpa using ha
    subst ha;have hfv:=ev_ok ht hf;have hav:=evs_ok ht has;generalize hfr:tev ts fo=fr at hfv;cases hfv with
    | @func _ _ ys _ vs hfst hcap=>
     have hen':=hen;unfold enterable at hen'
     split at hen'
     rotate_left
     ·cases hen'
     rename_i fn hfn;simp only[Bool.and_eq_true]at hen';obtain⟨hbody,hname⟩:=hen';have hb2:fn.body.isNone=false:=by cases hq:fn.body<;>simp_all
     have hrun:(execOp (tev ts) o).run P w= .ok (.enter g ⟨ys++as.toList.map (tev ts)++vs⟩) w:=by
      have e:as.map (tev ts)=⟨as.toList.map (tev ts)⟩:=by apply Array.ext';simp
      have e2: ∀(a b c:List Value),(Array.mk a++Array.mk b)++Array.mk c=Array.mk (a++b++c):=by
       intro a b c;apply Array.ext';simp
      simp only[execOp,hop,resolve,Sem.run_bind,Sem.run_pure,Result.andThen_ok,hfr,Deferred.ofValue,invoke,callFunc,run_program,hfn,e,e2];rw[if_neg (by simpa using hname),if_neg (by simp[hb2])]
      rfl
     unfold Oper.wp;simp only[tev]at hrun;rw[hrun];simp only[Oper.upon];refine(h2 B w0 ρ _ w hr ((hfst.append hav).append hcap)).mono ?_;rintro e w' ⟨v,v',h',ρ',rfl,h4,h5,h6,h7⟩;obtain⟨ts',h8,h9⟩:=aput_ok (ht.mono h5) h7 o.dst;simp only;rw[h8];exact up h5 (ih (h3 _ _ h4) h6 h9)
  ·rename_i hw;rw[if_neg hw];obtain⟨ts',h5,h6⟩:=aput_ok ht VR.undef o.dst;rw[h5];exact ih hK hr h6
end
def AWp(P:Program)(c:Code)(Q:Exit->Tm->Heap->Prop)(t:Tm)(h:Heap):Prop:=
 ∀(B:Nat)(w0:World)(ρ:RMap)(ts:List Value)(w:World),Rel B w0 ρ h w->TRs ρ t ts->c.wp P (fun e a w'=>Sim B w0 ρ (Q e) a w') ⟨⟨ts⟩,[]⟩ w
def aresult1(P:Program)(t:Tm)(h:Heap):ResultVar->Option Value
 | .tmp i=>tget t i
 | .cell a T=>match tget t a with
  |some x=>aload P T x h
  |none=>none
def aresultL(P:Program)(t:Tm)(h:Heap):List ResultVar->Option (List Value)
 | []=>some []
 |r::rs=>match aresult1 P t h r,aresultL P t h rs with
  |some v,some vs=>some (v::vs)
  |_,_=>none
def aresults(P:Program)(fn:Func)(t:Tm)(h:Heap):Option Value:=
 match aresultL P t h fn.results.toList with
 |some [v]=>some v
 |some vs=>some (.tuple ⟨vs⟩)
 |none=>none
def ABody(P:Program)(fn:Func)(R:Value->Heap->Prop)(e:Exit)(t:Tm)(h:Heap):Prop:=
 match e with
 | .normal| .ret=> ∃v,aresults P fn t h=some v/\R v h
 |_=>False
theorem least_ex{p:Nat->Prop}: ∀(n:Nat),p n-> ∃m,p m/\ ∀k,k<m-> ¬ p k:=by
 intro n
 induction n using Nat.strongRecOn with
 |_ n ih=>
  intro hn
  by_cases hk: ∃k,k<n/\p k
  ·obtain⟨k,h1,h2⟩:=hk;exact ih k h1 h2
  ·exact⟨n,hn,fun k h1 h2=>hk ⟨k,h1,h2⟩⟩
noncomputable def least(p:Nat->Prop):Nat:=Classical.epsilon fun m=>p m/\ ∀k,k<m-> ¬ p k
theorem least_spec{p:Nat->Prop}(h: ∃n,p n):p (least p)/\ ∀k,k<least p-> ¬ p k:=by
 obtain⟨n,hn⟩:=h;exact Classical.epsilon_spec (least_ex n hn)
theorem least_le{p:Nat->Prop}{n:Nat}(h:p n):least p<=n:=by
 have:=(least_spec ⟨n,h⟩).2 n;rcases Nat.lt_or_ge n (least p)with h1|h1
 ·exact absurd h (this h1)
 ·exact h1
section
variable {P:Program}{Q:Exit->Tm->Heap->Prop}{t:Tm}{h:Heap}
theorem AWp.mono{c:Code}{Q':Exit->Tm->Heap->Prop}(hc:AWp P c Q t h)(hq: ∀e t h,Q e t h->Q' e t h):AWp P c Q' t h:=
 fun B w0 ρ ts w hr ht=>wp_mono (hc B w0 ρ ts w hr ht) fun e a w' hs=>hs.mono (hq e)
theorem AWp.skip(hq:Q .normal t h):AWp P .skip Q t h:=fun B w0 ρ ts w hr ht=>wp_skip ⟨t,h,ρ,ts,hq,ρ.le_refl,hr,rfl,ht⟩
theorem AWp.exit{id:Nat}(hq:Q (.exit id) t h):AWp P (.exit id) Q t h:=fun B w0 ρ ts w hr ht=>wp_exit ⟨t,h,ρ,ts,hq,ρ.le_refl,hr,rfl,ht⟩
theorem AWp.ret(hq:Q .ret t h):AWp P .ret Q t h:=fun B w0 ρ ts w hr ht=>wp_ret ⟨t,h,ρ,ts,hq,ρ.le_refl,hr,rfl,ht⟩
def thenQ(P:Program)(b:Code)(Q:Exit->Tm->Heap->Prop)(e:Exit)(t:Tm)(h:Heap):Prop:=
 match e with
 | .normal=>AWp P b Q t h
 |e=>Q e t h
theorem AWp.seq{a b:Code}(ha:AWp P a (thenQ P b Q) t h):AWp P (.seq a b) Q t h:=by
 intro B w0 ρ ts w hr ht;refine wp_seq (wp_mono (ha B w0 ρ ts w hr ht) ?_);rintro e a' w' ⟨t',h',ρ',ts',hq,hl,hr',rfl,ht'⟩;cases e with
 |normal=>
  simp only[Exit.then];exact wp_mono (hq B w0 ρ' ts' w' hr' ht') fun e a w hs=>hs.up hl
 |_=>exact⟨t',h',ρ',ts',hq,hl,hr',rfl,ht'⟩
theorem AWp.cond{c:Operand}{x y:Code}{b:Bool}(hc:ev t c=some (.bool b))(hb:AWp P (if b then x else y) Q t h):AWp P (.cond c x y) Q t h:=by
 intro B w0 ρ ts w hr ht;have:=ev_ok ht hc;generalize hv:tev ts c=v at this;cases this;exact wp_cond (t:=b) hv (by have:=hb B w0 ρ ts w hr ht;cases b<;>exact this)
def blockQ(id:Nat)(Q:Exit->Tm->Heap->Prop)(e:Exit)(t:Tm)(h:Heap):Prop:=
 match e with
 | .exit id'=>if id'=id then Q .normal t h else Q (.exit id') t h
 |e=>Q e t h
theorem AWp.block{id:Nat}{c:Code}(hc:AWp P c (blockQ id Q) t h):AWp P (.block id c) Q t h:=by
 intro B w0 ρ ts w hr ht;refine wp_block (wp_mono (hc B w0 ρ ts w hr ht) ?_);rintro e a' w' hs;cases e with
 |exit id'=>
  simp only[Exit.inBlock,blockQ]at hs ⊢
  split
  ·rename_i hid;exact hs.mono fun t h hq=>by simpa only[blockQ,if_pos hid]using hq
  ·rename_i hid;exact hs.mono fun t h hq=>by simpa only[blockQ,if_neg hid]using hq
 |_=>exact hs
def roundQ(I:Nat->Tm->Heap->Prop)(n:Nat)(Q:Exit->Tm->Heap->Prop)(e:Exit)(t:Tm)(h:Heap):Prop:=
 match e with
 | .normal=> ∃m,m<n/\I m t h
 |e=>Q e t h
theorem AWp.loop{c:Code}(I:Nat->Tm->Heap->Prop)(n:Nat)(h0:I n t h)(hround: ∀n t h,I n t h->AWp P c (roundQ I n Q) t h):AWp P (.loop c) Q t h:=by
 intro B w0 ρ ts w hr ht
 let J:Act->World->Nat->Prop:=fun a w n=>Sim B w0 ρ (I n) a w
 refine wp_loop (fun a w=> ∃n,J a w n) (fun a w=>least (J a w)) ⟨n,t,h,ρ,ts,h0,ρ.le_refl,hr,rfl,ht⟩ ?_;rintro a w1 hJ;obtain⟨t',h',ρ',ts',hI,hl,hr',rfl,ht'⟩:=(least_spec hJ).1;refine wp_mono (hround _ t' h' hI B w0 ρ' ts' w1 hr' ht') ?_;rintro e a' w' hs;have hs:=hs.up hl;cases e with
 |normal=>
  simp only[Exit.then];obtain⟨t2,h2,ρ2,ts2,⟨m,hm,hIm⟩,hl2,hr2,rfl,ht2⟩:=hs;have hJ2:J ⟨⟨ts2⟩,[]⟩ w' m:=⟨t2,h2,ρ2,ts2,hIm,hl2,hr2,rfl,ht2⟩;exact⟨⟨m,hJ2⟩,Nat.lt_of_le_of_lt (least_le hJ2) hm⟩
 |_=>exact hs
theorem AWp.region{id:Nat}{ops:Array Oper}(hl:AOps P ops (Q .normal) ops.toList t h):AWp P (.region id ops false) Q t h:=by
 intro B w0 ρ ts w hr ht;refine wp_mono (wp_region_list (AOps.sound ops ops.toList hl hr ht)) ?_;rintro e a w ⟨rfl,hs⟩;exact hs
def resF(ts:List Value)(r:ResultVar):Sem Value:=match r with
 | .tmp i=>pure ((Array.mk ts).getD i undef)
 | .cell a T=>do loadVar T (<-asAddr ((Array.mk ts).getD a undef))
theorem results_resF(fn:Func)(ts:List Value):results fn ⟨ts⟩=(do let vs <-fn.results.mapM (resF ts);pure (if h:vs.size=1 then vs[0]else .tuple vs)):=by
 unfold results
 congr 1
theorem aresult1_ok{B:Nat}{w0:World}{ρ:RMap}{w:World}{ts:List Value}(hr:Rel B w0 ρ h w)(ht:TRs ρ t ts){r:ResultVar}{v:Value}(hv:aresult1 P t h r=some v):
  ∃v',VR ρ v v'/\(resF ts r).run P w= .ok v' w:=by
 cases r with
 |tmp i=>
  simp only[aresult1]at hv;obtain⟨v',h1,h2⟩:=ht.tget hv;exact⟨v',h2,by simp[resF,getD_toArray,List.getD_eq_getElem?_getD,h1]⟩
 |cell a T=>
  simp only[aresult1]at hv
  split at hv
  rotate_left
  ·cases hv
  rename_i x hx0;obtain⟨x',h0,hx⟩:=ht.tget hx0;obtain⟨v',h1,h2⟩:=aload_ok hr hv hx;refine⟨v',h1,?_⟩;have hp: ∃q,x'= .pointer (some q):=by
   unfold aload at hv
   split at hv
   ·cases hx;exact⟨_,rfl⟩
   ·cases hv
  obtain⟨q,rfl⟩:=hp;simp only[resF,getD_toArray,List.getD_eq_getElem?_getD,h0,Option.getD_some,asAddr,Sem.run_bind,Sem.run_pure,Result.andThen_ok];simpa[Instr.loadAt,Instr.sureAddr]using h2
theorem aresultL_ok{B:Nat}{w0:World}{ρ:RMap}{w:World}{ts:List Value}(hr:Rel B w0 ρ h w)(ht:TRs ρ t ts): ∀{rs:List ResultVar}{vs:List Value},aresultL P t h rs=some vs->
  ∃us,VRs ρ vs us/\(rs.mapM (resF ts)).run P w= .ok us w:=by
 intro rs
 induction rs with
 |nil=>intro vs hv;simp[aresultL]at hv;subst hv;exact⟨[],.nil,rfl⟩
 |cons r rs ih=>
  intro vs hv;simp only[aresultL]at hv
  split at hv
  ·rename_i v vs' h1 h2;simp at hv;subst hv;obtain⟨u,h3,h4⟩:=aresult1_ok hr ht h1;obtain⟨us,h5,h6⟩:=ih h2;refine⟨u::us,.cons h3 h5,?_⟩;simp only[List.mapM_cons,Sem.run_bind];rw[h4];simp only[Result.andThen_ok];rw[h6];simp only[Result.andThen_ok,Sem.run_pure]
  ·cases hv
theorem aresults_ok{B:Nat}{w0:World}{ρ:RMap}{w:World}{ts:List Value}(hr:Rel B w0 ρ h w)(ht:TRs ρ t ts){fn:Func}{v:Value}(hv:aresults P fn t h=some v):
  ∃v',VR ρ v v'/\(results fn ⟨ts⟩).run P w= .ok v' w:=by
 unfold aresults at hv;have go: ∀{vs:List Value},aresultL P t h fn.results.toList=some vs-> ∃us,VRs ρ vs us/\(results fn ⟨ts⟩).run P w= .ok (if hh:us.length=1 then us[0]else .tuple ⟨us⟩) w:=by
  intro vs hvs;obtain⟨us,h1,h2⟩:=aresultL_ok hr ht hvs;refine⟨us,h1,?_⟩;simp only[results_resF,Array.mapM_eq_mapM_toList,Sem.run_bind,Sem.run_map];rw[h2];simp only[Result.andThen_ok,Sem.run_pure]
  rfl
 split at hv
 ·rename_i v0 hvs;simp at hv;subst hv;obtain⟨us,h1,h2⟩:=go hvs;cases h1 with
  |cons h3 h4=>cases h4;exact⟨_,h3,by rw[h2];rfl⟩
 ·rename_i vs hne hvs;simp at hv;subst hv;obtain⟨us,h1,h2⟩:=go hvs;refine⟨.tuple ⟨us⟩,.tuple h1,?_⟩;rw[h2,dif_neg];intro hh;rw[<-h1.length]at hh
  match vs,hh with
  | [a],_=>exact hne a rfl
 ·cases hv
theorem ACall.of{f:FuncId}{fn:Func}{c:Code}{args:List Value}{R:Value->Heap->Prop}(hf:P.funcs[f]?=some fn)(hb:fn.body=some c)
  (hw:AWp P c (ABody P fn R) (args.map some++List.replicate (fn.ntmps-args.length) none) h):ACall P f args h R:=by
 intro B w0 ρ rargs w hr ha;refine calls_of_wp hf hb ?_;have ht:TRs ρ (args.map some++List.replicate (fn.ntmps-args.length) none) (rargs++List.replicate (fn.ntmps-rargs.length) undef):=by
  rw[ha.length];exact TRs.of ha _ _ (by simp)
 have htm:(Array.mk rargs)++Array.replicate (fn.ntmps-(Array.mk rargs).size) undef=⟨rargs++List.replicate (fn.ntmps-rargs.length) undef⟩:=by
  apply Array.ext';simp
 rw[htm];refine wp_mono (hw B w0 ρ _ w hr ht) ?_;rintro e a w' ⟨t',h',ρ',ts',hq,hl,hr',rfl,ht'⟩;have fin:(∃v,aresults P fn t' h'=some v/\R v h')->(Act.mk ⟨ts'⟩ []).defers=[]/\ ∃v,(results fn (Act.mk ⟨ts'⟩ []).tmps).run P w'= .ok v w'/\ ∃v1 v2 h2 ρ2,(Ending.returned v)= .returned v2/\R v1 h2/\ρ.le ρ2/\Rel B w0 ρ2 h2 w'/\VR ρ2 v1 v2:=by
  rintro⟨v,h1,h2⟩;obtain⟨v',h3,h4⟩:=aresults_ok hr' ht' h1;exact⟨rfl,v',h4,v,v',h',ρ',rfl,h2,hl,hr',h3⟩
 cases e with
 |normal=>exact fin hq
 |ret=>exact fin hq
 |_=>exact hq.elim
theorem AWp.weak{c:Code}{t':Tm}(hl:t'.length=t.length)(hs: ∀(i:Nat) v,t'[i]?=some (some v)->t[i]?=some (some v))(hc:AWp P c Q t' h):AWp P c Q t h:=
 fun B w0 ρ ts w hr ht=>hc B w0 ρ ts w hr (ht.weak hl hs)
end
def intT(P:Program)(T:TypeId):Bool:=
 match P.underlying T with
 |some (.int _)=>true
 |_=>false
def cls(P:Program):Op->Nat
 | .move _| .assign _| .pick .. | .build .. | .nilCheck _| .binOp .. | .unOp .. | .makeFunc .. | .slice .. | .fieldAddr .. | .field .. | .indexAddr .. | .index .. | .extract .. =>0
 | .call ⟨.builtin .cap,_,_⟩| .call ⟨.builtin .min,_,_⟩| .call ⟨.builtin .max,_,_⟩=>0
 | .load .. | .lookup .. | .call ⟨.builtin .len,_,_⟩=>1
 | .box .. | .alloc _| .buildSlice .. | .makeSlice .. | .makeMap .. =>2
 | .convert s _ _=>if intT P s then 0 else 3
 | .store .. | .mapUpdate .. | .insert .. | .call ⟨.builtin _,_,_⟩=>3
 |_=>4
def agree(t t':Tm)(xs:List Operand):Prop:= ∀i:Nat,Operand.tmp i∈xs->t[i]?=t'[i]?
section
variable {P:Program}{t t':Tm}{h:Heap}
theorem ev_congr{x:Operand}(ha:agree t t' [x]):ev t x=ev t' x:=by
 cases x with
 |tmp i=>simp only[ev,tget];rw[ha i (by simp)]
 |_=>rfl
theorem evs_congr{xs:List Operand}(ha:agree t t' xs):evs t xs=evs t' xs:=by
 induction xs with
 |nil=>rfl
 |cons x xs ih=>
  simp only[evs];rw[ev_congr (t:=t) (t':=t') (fun i hi=>ha i (by simp at hi;simp[hi])),ih fun i hi=>ha i (by simp[hi])]
theorem evp_congr{xs:List (Nat×Operand)}(ha:agree t t' (xs.map (·.2))):evp t xs=evp t' xs:=by
 induction xs with
 |nil=>rfl
 |cons x xs ih=>
  obtain⟨n,x⟩:=x;simp only[evp];rw[ev_congr (t:=t) (t':=t') (fun i hi=>ha i (by simp at hi;simp[hi])),ih fun i hi=>ha i (by simp at hi ⊢;exact .inr hi)]
theorem evo_congr{x:Option Operand}(ha:agree t t' x.toList):evo t x=evo t' x:=by
 cases x with
 |none=>rfl
 |some x=>simp only[evo];rw[ev_congr (t:=t) (t':=t') (fun i hi=>ha i (by simpa using hi))]
theorem agree.sub{xs ys:List Operand}(ha:agree t t' ys)(hs: ∀x∈xs,x∈ys):agree t t' xs:=fun i hi=>ha i (hs _ hi)
theorem apure_congr{o:Oper}(ha:agree t t' o.op.operands.toList):apure P o t=apure P o t':=by
 obtain⟨dst,op,ty,pos,aft,grd⟩:=o;dsimp only at ha;have e1: ∀{x:Operand},x∈op.operands.toList->ev t x=ev t' x:=fun hx=>ev_congr (ha.sub (by simpa using hx));unfold apure;dsimp only;cases op with
 |move x=>exact e1 (by simp[Op.operands])
 |assign x=>exact e1 (by simp[Op.operands])
 |pick c a b=>dsimp only;rw[e1 (x:=c) (by simp[Op.operands]),e1 (x:=a) (by simp[Op.operands]),e1 (x:=b) (by simp[Op.operands])]
 |build T ps=>dsimp only;rw[evp_congr (ha.sub (by simp[Op.operands]))]
 |nilCheck x=>dsimp only;rw[e1 (x:=x) (by simp[Op.operands])]
 |binOp op T x y yt=>dsimp only;rw[e1 (x:=x) (by simp[Op.operands]),e1 (x:=y) (by simp[Op.operands])]
 |unOp op T x=>dsimp only;rw[e1 (x:=x) (by simp[Op.operands])]
 |convert s d x=>dsimp only;rw[e1 (x:=x) (by simp[Op.operands])]
 |makeFunc fn f c=>dsimp only;rw[evs_congr (xs:=f.toList) (ha.sub (by simp[Op.operands];intro x hx;exact .inl hx)),evs_congr (xs:=c.toList) (ha.sub (by simp[Op.operands];intro x hx;exact .inr hx))]
 |slice T x l hh m=>
  dsimp only;rw[e1 (x:=x) (by simp[Op.operands]),evo_congr (x:=l) (ha.sub (by simp[Op.operands];intro z hz;simp[hz])),evo_congr (x:=hh) (ha.sub (by simp[Op.operands];intro z hz;simp[hz])),evo_congr (x:=m) (ha.sub (by simp[Op.operands];intro z hz;simp[hz]))]
 |fieldAddr S x f=>dsimp only;rw[e1 (x:=x) (by simp[Op.operands])]
 |field S x f=>dsimp only;rw[e1 (x:=x) (by simp[Op.operands])]
 |indexAddr T x i=>dsimp only;rw[e1 (x:=x) (by simp[Op.operands]),e1 (x:=i) (by simp[Op.operands])]
 |index T x i=>dsimp only;rw[e1 (x:=x) (by simp[Op.operands]),e1 (x:=i) (by simp[Op.operands])]
 |extract x i=>dsimp only;rw[e1 (x:=x) (by simp[Op.operands])]
 |call c=>
  obtain⟨callee,args,ats⟩:=c;have ea:evs t args.toList=evs t' args.toList:=evs_congr (ha.sub (by intro x hx;simp only[Op.operands,Call.operands,Array.toList_append,List.mem_append];exact .inr hx));cases callee with
  |builtin b=>cases b<;>first|rfl|(dsimp only;rw[ea])
  |_=>rfl
 |_=>rfl
theorem aread_congr{o:Oper}(ha:agree t t' o.op.operands.toList):aread P o t h=aread P o t' h:=by
 obtain⟨dst,op,ty,pos,aft,grd⟩:=o;dsimp only at ha;have e1: ∀{x:Operand},x∈op.operands.toList->ev t x=ev t' x:=fun hx=>ev_congr (ha.sub (by simpa using hx));unfold aread;dsimp only;cases op with
 |load T x=>dsimp only;rw[e1 (x:=x) (by simp[Op.operands])]
 |lookup T x k ok=>dsimp only;rw[e1 (x:=x) (by simp[Op.operands]),e1 (x:=k) (by simp[Op.operands])]
 |convert s d x=>dsimp only;rw[e1 (x:=x) (by simp[Op.operands])]
 |call c=>
  obtain⟨callee,args,ats⟩:=c;have ea:evs t args.toList=evs t' args.toList:=evs_congr (ha.sub (by intro x hx;simp only[Op.operands,Call.operands,Array.toList_append,List.mem_append];exact .inr hx));cases callee with
  |builtin b=>cases b<;>first|rfl|(dsimp only;rw[ea])
  |_=>rfl
 |_=>rfl
theorem aeff_congr{o:Oper}(ha:agree t t' o.op.operands.toList):aeff P o t h=aeff P o t' h:=by
 obtain⟨dst,op,ty,pos,aft,grd⟩:=o;dsimp only at ha;have e1: ∀{x:Operand},x∈op.operands.toList->ev t x=ev t' x:=fun hx=>ev_congr (ha.sub (by simpa using hx));unfold aeff;dsimp only;cases op with
 |box T x=>dsimp only;rw[e1 (x:=x) (by simp[Op.operands])]
 |buildSlice T n ps=>dsimp only;rw[evp_congr (ha.sub (by simp[Op.operands]))]
 |makeSlice T l c=>dsimp only;rw[e1 (x:=l) (by simp[Op.operands]),e1 (x:=c) (by simp[Op.operands])]
 |makeMap T r=>dsimp only;rw[evo_congr (ha.sub (by simp[Op.operands]))]
 |store T a x=>dsimp only;rw[e1 (x:=a) (by simp[Op.operands]),e1 (x:=x) (by simp[Op.operands])]
 |mapUpdate T m k x=>dsimp only;rw[e1 (x:=m) (by simp[Op.operands]),e1 (x:=k) (by simp[Op.operands]),e1 (x:=x) (by simp[Op.operands])]
 |insert T m k x=>dsimp only;rw[e1 (x:=m) (by simp[Op.operands]),e1 (x:=k) (by simp[Op.operands]),e1 (x:=x) (by simp[Op.operands])]
 |convert s d x=>dsimp only;rw[e1 (x:=x) (by simp[Op.operands])]
 |call c=>
  obtain⟨callee,args,ats⟩:=c;have ea:evs t args.toList=evs t' args.toList:=evs_congr (ha.sub (by intro x hx;simp only[Op.operands,Call.operands,Array.toList_append,List.mem_append];exact .inr hx));cases callee with
  |builtin b=>cases b<;>first|rfl|(dsimp only;rw[ea])
  |value f=>dsimp only;rw[ea,ev_congr (ha.sub (by simp[Op.operands,Call.operands]))]
  |_=>rfl
 |_=>rfl
theorem acallee_congr{o:Oper}(ha:agree t t' o.op.operands.toList):acallee P o t=acallee P o t':=by
 obtain⟨dst,op,ty,pos,aft,grd⟩:=o;dsimp only at ha;unfold acallee;dsimp only;cases op with
 |call c=>
  obtain⟨callee,args,ats⟩:=c;have ea:evs t args.toList=evs t' args.toList:=evs_congr (ha.sub (by intro x hx;simp only[Op.operands,Call.operands,Array.toList_append,List.mem_append];exact .inr hx));cases callee with
  |value f=>dsimp only;rw[ea,ev_congr (ha.sub (by simp[Op.operands,Call.operands]))]
  |_=>rfl
 |_=>rfl
theorem only_pure{o:Oper}(hc:cls P o.op=0):aread P o t h=none/\aeff P o t h=none/\acallee P o t=none:=by
 obtain⟨dst,op,ty,pos,aft,grd⟩:=o;dsimp only at hc;unfold aread aeff acallee;dsimp only;cases op with
 |convert s d x=>
  have hi:intT P s=true:=by
   simp only[cls]at hc
   split at hc
   ·assumption
   ·cases hc
  unfold intT at hi
  split at hi
  ·rename_i k hu;refine⟨?_,?_,rfl⟩
   ·dsimp only
    split
    ·unfold abytesStr;rw[hu]
    ·rfl
   ·dsimp only
    split
    ·unfold astrBytes;rw[hu]
    ·rfl
  ·cases hi
 |call c=>
  obtain⟨callee,args,ats⟩:=c;cases callee with
  |builtin b=>cases b<;>first|(exact⟨rfl,rfl,rfl⟩)|((simp[cls]at hc))
  |_=>(simp[cls]at hc)
 |_=>first|(exact⟨rfl,rfl,rfl⟩)|((simp[cls]at hc))
theorem only_read{o:Oper}(hc:cls P o.op=1):aeff P o t h=none/\acallee P o t=none:=by
 obtain⟨dst,op,ty,pos,aft,grd⟩:=o;dsimp only at hc;unfold aeff acallee;dsimp only;cases op with
 |call c=>
  obtain⟨callee,args,ats⟩:=c;cases callee with
  |builtin b=>cases b<;>first|(exact⟨rfl,rfl⟩)|((simp[cls]at hc))
  |_=>(simp[cls]at hc)
 |convert s d x=>simp only[cls]at hc;split at hc<;>cases hc
 |_=>first|(exact⟨rfl,rfl⟩)|((simp[cls]at hc))
theorem only_new{o:Oper}(hc:cls P o.op=2):apure P o t=none/\aread P o t h=none/\acallee P o t=none/\ ∀v h',aeff P o t h=some (v,h')-> ∃l,h'=h++l:=by
 obtain⟨dst,op,ty,pos,aft,grd⟩:=o;dsimp only at hc;have hbox: ∀{v u:Value}{h':Heap},abox v h=some (u,h')-> ∃l,h'=h++l:=by
  intro v u h' hb;simp[abox]at hb;exact⟨_,hb.2.symm⟩
 have key: ∀v h',aeff P ⟨dst,op,ty,pos,aft,grd⟩ t h=some (v,h')-> ∃l,h'=h++l:=by
  intro v h' hb;unfold aeff at hb;dsimp only at hb;cases op with
  |box T x=>dsimp only at hb;split at hb;exact hbox hb;cases hb
  |alloc T=>
   dsimp only[aalloc]at hb
   split at hb
   ·split at hb
    ·split at hb
     ·exact hbox hb
     ·cases hb
    ·cases hb
   ·cases hb
  |buildSlice T n ps=>
   dsimp only[abuildSlice]at hb
   repeat' (first|(cases hb;done)|(split at hb))
   all_goals first|(cases hb;done)|(simp at hb;exact⟨_,hb.2.symm⟩)
  |makeSlice T l c=>
   dsimp only[amakeSlice]at hb
   repeat' (first|(cases hb;done)|(split at hb))
   all_goals first|(cases hb;done)|(simp at hb;exact⟨_,hb.2.symm⟩)
  |makeMap T r=>
   dsimp only[amakeMap]at hb
   repeat' (first|(cases hb;done)|(split at hb))
   all_goals first|(cases hb;done)|(simp at hb;exact⟨_,hb.2.symm⟩)
  |call c=>
   obtain⟨callee,args,ats⟩:=c;cases callee with
   |builtin b=>cases b<;>(simp[cls]at hc)
   |_=>(simp[cls]at hc)
  |convert s d x=>simp only[cls]at hc;split at hc<;>cases hc
  |_=>(simp[cls]at hc)
 refine⟨?_,?_,?_,key⟩<;>
 ·first|unfold apure|unfold aread|unfold acallee
  dsimp only;cases op with
  |call c=>
   obtain⟨callee,args,ats⟩:=c;cases callee with
   |builtin b=>cases b<;>first|rfl|((simp[cls]at hc))
   |_=>(simp[cls]at hc)
  |convert s d x=>simp only[cls]at hc;split at hc<;>cases hc
  |_=>first|rfl|((simp[cls]at hc))
theorem alookup_push{T:TypeId}{x k v:Value}{ok:Bool}{l:Heap}(hv:alookup P T x k ok h=some v):alookup P T x k ok (h++l)=some v:=by
 unfold alookup at hv ⊢
 split at hv
 rotate_left
 ·cases hv
 rename_i kt et hu;simp only[hu];dsimp only at hv ⊢;cases x with
 |map r=>
  cases r with
  |none=>exact hv
  |some b=>
   dsimp only at hv ⊢;cases hb:h[b]? with
   |none=>rw[hb]at hv;simp at hv
   |some o=>
    have hlt:=(List.getElem?_eq_some_iff.1 hb).1;rw[List.getElem?_append_left hlt];exact hv
 |_=>simp at hv
theorem no_call{o:Oper}(hc:cls P o.op≠4):acallee P o t=none:=by
 obtain⟨dst,op,ty,pos,aft,grd⟩:=o;dsimp only at hc;unfold acallee;dsimp only;cases op with
 |call c=>
  obtain⟨callee,args,ats⟩:=c;cases callee with
  |builtin b=>cases b<;>first|rfl|((simp[cls]at hc))
  |_=>(simp[cls]at hc)
 |_=>first|rfl|((simp[cls]at hc))
theorem aread_push{o:Oper}{v:Value}{l:Heap}(hc:cls P o.op=1)(hv:aread P o t h=some v):aread P o t (h++l)=some v:=by
 obtain⟨dst,op,ty,pos,aft,grd⟩:=o;dsimp only at hc;unfold aread at hv ⊢;dsimp only at hv ⊢;cases op with
 |load T x=>
  dsimp only at hv ⊢;cases hx:ev t x with
  |none=>rw[hx]at hv;cases hv
  |some u=>
   rw[hx]at hv;dsimp only at hv ⊢;unfold aload at hv ⊢
   split at hv
   ·rename_i b o
    try dsimp only
    cases hb:h[b]? with
    |none=>rw[hb]at hv;simp at hv
    |some o=>
     have hlt:=(List.getElem?_eq_some_iff.1 hb).1;rw[List.getElem?_append_left hlt];exact hv
   ·cases hv
 |lookup T x k ok=>
  dsimp only at hv ⊢;cases hx:ev t x with
  |none=>rw[hx]at hv;cases hv
  |some u=>
   cases hk:ev t k with
   |none=>rw[hx,hk]at hv;cases hv
   |some q=>rw[hx,hk]at hv;exact alookup_push hv
 |call c=>
  obtain⟨callee,args,ats⟩:=c;cases callee with
  |builtin b=>
   cases b<;>first|((simp[cls]at hc);done)|skip
   dsimp only at hv ⊢;cases hx:evs t args.toList with
   |none=>rw[hx]at hv;cases hv
   |some vs=>
    rw[hx]at hv;dsimp only at hv ⊢;unfold amapLen at hv ⊢;generalize ats[0]?=T0 at hv ⊢;cases T0 with
    |none=>simp at hv
    |some T=>
     cases vs with
     |nil=>simp at hv
     |cons x xs=>
      cases xs with
      |cons y ys=>simp at hv
      |nil=>
       cases x with
       |map r=>
        cases r with
        |none=>simp at hv
        |some b=>
         dsimp only at hv ⊢;cases hb:h[b]? with
         |none=>rw[hb]at hv;split at hv<;>simp_all
         |some o=>
          have hlt:=(List.getElem?_eq_some_iff.1 hb).1;rw[List.getElem?_append_left hlt];rw[hb]at hv ⊢;exact hv
       |_=>simp at hv
  |_=>(simp[cls]at hc)
 |convert s d x=>simp only[cls]at hc;split at hc<;>cases hc
 |_=>(simp[cls]at hc)
end
def compat(a b:Nat):Bool:=a==0||(b==0&&a !=4)||(a==1&&b==1)||(a==1&&b==2)
abbrev FOp:=Oper×Bool
def indep(P:Program)(ops:Array Oper)(x y:FOp):Bool:=
 x.1.apart ops y.1&&(compat (cls P x.1.op) (cls P y.1.op)||(cls P x.1.op==1&&x.2&&(cls P y.1.op==3||cls P y.1.op==4)&&y.2))
def AOpF(P:Program)(ops:Array Oper)(S:Heap->Prop)(o:FOp)(K:Tm->Heap->Prop)(t:Tm)(h:Heap):Prop:=
 gok ops o.1 t=true/\if Region.wanted o.1 (ayielded ops t)then
  (∃v,apure P o.1 t=some v/\K (aput t o.1.dst v) h)\/
  (∃v,aread P o.1 t h=some v/\(o.2=true-> ∀h',S h'->aread P o.1 t h'=some v)/\K (aput t o.1.dst v) h)\/
  (∃v h',aeff P o.1 t h=some (v,h')/\(o.2=true->S h')/\K (aput t o.1.dst v) h')\/
  (∃f args R,acallee P o.1 t=some (f,args)/\ACall P f args h R/\ ∀v h',R v h'->(o.2=true->S h')/\K (aput t o.1.dst v) h')
 else K (aput t o.1.dst undef) h
def AOpsF(P:Program)(ops:Array Oper)(S:Heap->Prop)(K:Tm->Heap->Prop):List FOp->Tm->Heap->Prop
 | []=>K
 |o::rest=>AOpF P ops S o (AOpsF P ops S K rest)
section
variable {P:Program}{t t':Tm}{h:Heap}{ops:Array Oper}{S:Heap->Prop}
theorem AOp.mono{o:Oper}{K K':Tm->Heap->Prop}(hK: ∀t h,K t h->K' t h)(ho:AOp P ops o K t h):AOp P ops o K' t h:=by
 unfold AOp at ho ⊢;refine⟨ho.1,?_⟩
 replace ho:=ho.2
 split
 ·rename_i hw;rw[if_pos hw]at ho;rcases ho with⟨v,h1,h2⟩|⟨v,h1,h2⟩|⟨v,h',h1,h2⟩|⟨f,args,R,h1,h2,h3⟩
  ·exact .inl ⟨v,h1,hK _ _ h2⟩
  ·exact .inr (.inl ⟨v,h1,hK _ _ h2⟩)
  ·exact .inr (.inr (.inl ⟨v,h',h1,hK _ _ h2⟩))
  ·exact .inr (.inr (.inr ⟨f,args,R,h1,h2,fun v h' hr=>hK _ _ (h3 v h' hr)⟩))
 ·rename_i hw;rw[if_neg hw]at ho;exact hK _ _ ho
theorem AOpF.mono{o:FOp}{K K':Tm->Heap->Prop}(hK: ∀t h,K t h->K' t h)(ho:AOpF P ops S o K t h):AOpF P ops S o K' t h:=by
 unfold AOpF at ho ⊢;refine⟨ho.1,?_⟩
 replace ho:=ho.2
 split
 ·rename_i hw;rw[if_pos hw]at ho;rcases ho with⟨v,h1,h2⟩|⟨v,h1,hs,h2⟩|⟨v,h',h1,hs,h2⟩|⟨f,args,R,h1,h2,h3⟩
  ·exact .inl ⟨v,h1,hK _ _ h2⟩
  ·exact .inr (.inl ⟨v,h1,hs,hK _ _ h2⟩)
  ·exact .inr (.inr (.inl ⟨v,h',h1,hs,hK _ _ h2⟩))
  ·exact .inr (.inr (.inr ⟨f,args,R,h1,h2,fun v h' hr=>⟨(h3 v h' hr).1,hK _ _ (h3 v h' hr).2⟩⟩))
 ·rename_i hw;rw[if_neg hw]at ho;exact hK _ _ ho
theorem AOpF.plain{o:FOp}{K K':Tm->Heap->Prop}(hK: ∀t h,K t h->K' t h)(ho:AOpF P ops S o K t h):AOp P ops o.1 K' t h:=by
 unfold AOpF at ho;unfold AOp;refine⟨ho.1,?_⟩
 replace ho:=ho.2
 split
 ·rename_i hw;rw[if_pos hw]at ho;rcases ho with⟨v,h1,h2⟩|⟨v,h1,hs,h2⟩|⟨v,h',h1,hs,h2⟩|⟨f,args,R,h1,h2,h3⟩
  ·exact .inl ⟨v,h1,hK _ _ h2⟩
  ·exact .inr (.inl ⟨v,h1,hK _ _ h2⟩)
  ·exact .inr (.inr (.inl ⟨v,h',h1,hK _ _ h2⟩))
  ·exact .inr (.inr (.inr ⟨f,args,R,h1,h2,fun v h' hr=>hK _ _ (h3 v h' hr).2⟩))
 ·rename_i hw;rw[if_neg hw]at ho;exact hK _ _ ho
theorem AOpsF.plain{K:Tm->Heap->Prop}(l:List FOp): ∀{t:Tm}{h:Heap},AOpsF P ops S K l t h->AOps P ops K (l.map (·.1)) t h:=by
 induction l with
 |nil=>intro t h hk;exact hk
 |cons o l ih=>intro t h hk;exact AOpF.plain (fun t h=>ih) hk
theorem aput_tget{dst:Option Tmp}{v:Value}{i:Nat}(hi: ∀d,dst=some d->d≠i):tget (aput t dst v) i=tget t i:=by
 cases dst with
 |none=>rfl
 |some d=>
  simp only[aput,tget];rw[List.getElem?_set_ne (hi d rfl)]
theorem aput_get{dst:Option Tmp}{v:Value}{i:Nat}(hi: ∀d,dst=some d->d≠i):(aput t dst v)[i]?=t[i]?:=by
 cases dst with
 |none=>rfl
 |some d=>simp only[aput];rw[List.getElem?_set_ne (hi d rfl)]
theorem aput_comm{x y:Option Tmp}(v u:Value)(hxy: ∀d,x=some d->y≠some d):aput (aput t x v) y u=aput (aput t y u) x v:=by
 cases x with
 |none=>rfl
 |some d=>
  cases y with
  |none=>rfl
  |some e=>simp only[aput];exact List.set_comm _ _ (fun hde=>hxy d rfl (by rw[hde]))
theorem mem_looks{o:Oper}{i:Nat}(hi:Operand.tmp i∈o.op.operands.toList):i∈o.looksAt ops:=by
 unfold Oper.looksAt;exact List.mem_append_left _ (List.mem_filterMap.2 ⟨_,hi,rfl⟩)
theorem agree_put{o:Oper}{dst:Option Tmp}{v:Value}(hd: ∀d,dst=some d->d∉o.looksAt ops):agree (aput t dst v) t o.op.operands.toList:=
 fun i hi=>aput_get fun d hdd he=>hd d hdd (he▸mem_looks hi)
theorem wanted_put{o:Oper}{dst:Option Tmp}{v:Value}(hd: ∀d,dst=some d->d∉o.looksAt ops):Region.wanted o (ayielded ops (aput t dst v))=Region.wanted o (ayielded ops t):=by
 unfold Region.wanted;cases hg:o.guard with
 |none=>rfl
 |some g=>
  obtain⟨j,want⟩:=g;have:ayielded ops (aput t dst v) j=ayielded ops t j:=by
   unfold ayielded;cases hj:ops[j]? with
   |none=>rfl
   |some o'=>
    cases hod:o'.dst with
    |none=>simp only[hod]
    |some d=>
     simp only[hod];rw[aput_tget];intro d' hd' he
     apply hd d' hd'
     unfold Oper.looksAt
     apply List.mem_append_right
     simp[hg,hj,hod,he]
  simp only[this]
theorem gok_put{o:Oper}{dst:Option Tmp}{v:Value}(hd: ∀d,dst=some d->d∉o.looksAt ops):gok ops o (aput t dst v)=gok ops o t:=by
 unfold gok;cases hg:o.guard with
 |none=>rfl
 |some g=>
  obtain⟨j,want⟩:=g;dsimp only;cases hj:ops[j]? with
  |none=>rfl
  |some o'=>
   dsimp only;cases hod:o'.dst with
   |none=>rfl
   |some d=>
    dsimp only;rw[aput_tget];intro d' hd' he
    apply hd d' hd'
    unfold Oper.looksAt
    apply List.mem_append_right
    simp[hg,hj,hod,he]
theorem AOpF.swap{x y:FOp}(hi:indep P ops x y=true){K:Tm->Heap->Prop}(ho:AOpF P ops S x (AOpF P ops S y K) t h):AOpF P ops S y (AOpF P ops S x K) t h:=by
 obtain⟨x,fx⟩:=x;obtain⟨y,fy⟩:=y;simp only[indep,Bool.and_eq_true]at hi;obtain⟨hap,hcm⟩:=hi;obtain⟨a1,a2,a3⟩:=Oper.apart_spec hap;have ax: ∀{v:Value},agree (aput t y.dst v) t x.op.operands.toList:=agree_put a3;have ay: ∀{v:Value},agree (aput t x.dst v) t y.op.operands.toList:=agree_put a1;have cm: ∀(v u:Value),aput (aput t x.dst v) y.dst u=aput (aput t y.dst u) x.dst v:=fun v u=>aput_comm v u a2;unfold AOpF at ho ⊢;dsimp only at ho ⊢;simp only[wanted_put a1,gok_put a1]at ho;simp only[wanted_put a3,gok_put a3];obtain⟨gx,ho⟩:=ho;have gy:gok ops y t=true:=by
  split at ho
  ·rcases ho with⟨v,h1,h2⟩|⟨v,h1,hs,h2⟩|⟨v,h',h1,hs,h2⟩|⟨f,args,R,h1,h2,h3⟩
   ·exact h2.1
   ·exact h2.1
   ·exact h2.1
   ·have hx4:cls P x.op=4:=Classical.byContradiction fun h0=>by rw[no_call (P:=P) (t:=t) h0]at h1;cases h1
    simp[compat,hx4]at hcm
  ·exact ho.1
 simp only[gx,gy,true_and]at ho ⊢
 by_cases hy:Region.wanted y (ayielded ops t)
 rotate_left
 ·rw[if_neg hy];simp only[if_neg hy,cm]at ho;simp only[apure_congr ax,aread_congr ax,aeff_congr ax,acallee_congr ax];exact ho
 rw[if_pos hy];simp only[if_pos hy]at ho
 by_cases hx:Region.wanted x (ayielded ops t)
 rotate_left
 ·simp only[if_neg hx]at ho ⊢;rcases ho with⟨v,h1,h2⟩|⟨v,h1,hs,h2⟩|⟨v,h',h1,hs,h2⟩|⟨f,args,R,h1,h2,h3⟩
  ·exact .inl ⟨v,by rw[<-apure_congr ay];exact h1,by rw[<-cm];exact h2⟩
  ·exact .inr (.inl ⟨v,by rw[<-aread_congr ay];exact h1,fun hf h' hs'=>by rw[<-aread_congr ay];exact hs hf h' hs',by rw[<-cm];exact h2⟩)
  ·exact .inr (.inr (.inl ⟨v,h',by rw[<-aeff_congr ay];exact h1,hs,by rw[<-cm];exact h2⟩))
  ·exact .inr (.inr (.inr ⟨f,args,R,by rw[<-acallee_congr ay];exact h1,h2,fun v h' hr=>⟨(h3 v h' hr).1,by rw[<-cm];exact(h3 v h' hr).2⟩⟩))
 simp only[if_pos hx]at ho ⊢;rcases ho with⟨v,h1,h2⟩|⟨v,h1,hsx,h2⟩|⟨v,h',h1,hsx,h2⟩|⟨f,args,R,h1,h2,h3⟩
 ·
  rcases h2 with⟨u,h3,h4⟩|⟨u,h3,hs,h4⟩|⟨u,h'',h3,hs,h4⟩|⟨f,args,R,h3,h4,h5⟩
  ·exact .inl ⟨u,by rw[<-apure_congr ay];exact h3,.inl ⟨v,by rw[apure_congr ax];exact h1,by rw[<-cm];exact h4⟩⟩
  ·exact .inr (.inl ⟨u,by rw[<-aread_congr ay];exact h3,fun hf h' hs'=>by rw[<-aread_congr ay];exact hs hf h' hs',.inl ⟨v,by rw[apure_congr ax];exact h1,by rw[<-cm];exact h4⟩⟩)
  ·exact .inr (.inr (.inl ⟨u,h'',by rw[<-aeff_congr ay];exact h3,hs,.inl ⟨v,by rw[apure_congr ax];exact h1,by rw[<-cm];exact h4⟩⟩))
  ·exact .inr (.inr (.inr ⟨f,args,R,by rw[<-acallee_congr ay];exact h3,h4,fun u h' hr=>⟨(h5 u h' hr).1,.inl ⟨v,by rw[apure_congr ax];exact h1,by rw[<-cm];exact(h5 u h' hr).2⟩⟩⟩))
 ·
  have hcx:cls P x.op≠0:=fun h0=>by rw[(only_pure (P:=P) (t:=t) (h:=h) h0).1]at h1;cases h1
  have hcx2:cls P x.op≠2:=fun h0=>by rw[(only_new (P:=P) (t:=t) (h:=h) h0).2.1]at h1;cases h1
  rcases h2 with⟨u,h3,h4⟩|⟨u,h3,hs,h4⟩|⟨u,h'',h3,hs,h4⟩|⟨f,args,R,h3,h4,h5⟩
  ·exact .inl ⟨u,by rw[<-apure_congr ay];exact h3,.inr (.inl ⟨v,by rw[aread_congr ax];exact h1,fun hf h' hs'=>by rw[aread_congr ax];exact hsx hf h' hs',by rw[<-cm];exact h4⟩)⟩
  ·exact .inr (.inl ⟨u,by rw[<-aread_congr ay];exact h3,fun hf h' hs'=>by rw[<-aread_congr ay];exact hs hf h' hs',.inr (.inl ⟨v,by rw[aread_congr ax];exact h1,fun hf h' hs'=>by rw[aread_congr ax];exact hsx hf h' hs',by rw[<-cm];exact h4⟩)⟩)
  ·rw[aeff_congr ay]at h3;have hy0:cls P y.op≠0:=fun h0=>by rw[(only_pure (P:=P) (t:=t) (h:=h) h0).2.1]at h3;cases h3
   have hy1:cls P y.op≠1:=fun h0=>by rw[(only_read (P:=P) (t:=t) (h:=h) h0).1]at h3;cases h3
   simp only[Bool.or_eq_true,Bool.and_eq_true,beq_iff_eq]at hcm;rcases hcm with hcm|⟨⟨⟨hcm1,hcm2⟩,_⟩,hcm3⟩
   ·have hc:cls P x.op=1/\cls P y.op=2:=by
     simp only[compat,Bool.or_eq_true,Bool.and_eq_true,beq_iff_eq]at hcm;omega
    obtain⟨l,rfl⟩:=(only_new (P:=P) (t:=t) (h:=h) hc.2).2.2.2 _ _ h3;have pushed: ∀h2,S h2->fx=true->aread P x t h2=some v:=fun h2 hs2 hf=>hsx hf h2 hs2;exact .inr (.inr (.inl ⟨u,_,h3,hs,.inr (.inl ⟨v,by rw[aread_congr ax];exact aread_push hc.1 h1,fun hf h2 hs2=>by rw[aread_congr ax];exact pushed h2 hs2 hf,by rw[<-cm];exact h4⟩)⟩))
   ·have hsame:=hs hcm3;have:=hsx hcm2 _ hsame;exact .inr (.inr (.inl ⟨u,_,h3,hs,.inr (.inl ⟨v,by rw[aread_congr ax];exact this,fun hf h2 hs2=>by rw[aread_congr ax];exact hsx hf h2 hs2,by rw[<-cm];exact h4⟩)⟩))
  ·rw[acallee_congr ay]at h3;have hy4:cls P y.op=4:=Classical.byContradiction fun h0=>by rw[no_call (P:=P) (t:=t) h0]at h3;cases h3
   simp only[Bool.or_eq_true,Bool.and_eq_true,beq_iff_eq]at hcm;rcases hcm with hcm|⟨⟨⟨hcm1,hcm2⟩,_⟩,hcm3⟩
   ·simp only[compat,Bool.or_eq_true,Bool.and_eq_true,beq_iff_eq]at hcm;omega
   ·refine .inr (.inr (.inr ⟨f,args,R,h3,h4,fun u h' hr=>?_⟩));obtain⟨hs,h6⟩:=h5 u h' hr;have hsame:=hs hcm3;exact⟨hs,.inr (.inl ⟨v,by rw[aread_congr ax];exact hsx hcm2 _ hsame,fun hf h2 hs2=>by rw[aread_congr ax];exact hsx hf h2 hs2,by rw[<-cm];exact h6⟩)⟩
 ·
  have hx0:cls P x.op≠0:=fun h0=>by rw[(only_pure (P:=P) (t:=t) (h:=h) h0).2.1]at h1;cases h1
  have hx1:cls P x.op≠1:=fun h0=>by rw[(only_read (P:=P) (t:=t) (h:=h) h0).1]at h1;cases h1
  have hy0:cls P y.op=0:=by
   simp only[compat,Bool.or_eq_true,Bool.and_eq_true,beq_iff_eq]at hcm;omega
  rcases h2 with⟨u,h3,h4⟩|⟨u,h3,hs,h4⟩|⟨u,h'',h3,hs,h4⟩|⟨f,args,R,h3,h4,h5⟩
  ·exact .inl ⟨u,by rw[<-apure_congr ay];exact h3,.inr (.inr (.inl ⟨v,h',by rw[aeff_congr ax];exact h1,hsx,by rw[<-cm];exact h4⟩))⟩
  ·rw[(only_pure (P:=P) hy0).1]at h3;cases h3
  ·rw[(only_pure (P:=P) hy0).2.1]at h3;cases h3
  ·rw[(only_pure (P:=P) (h:=h) hy0).2.2]at h3;cases h3
 ·
  have hx4:cls P x.op=4:=Classical.byContradiction fun h0=>by rw[no_call (P:=P) (t:=t) h0]at h1;cases h1
  simp[compat,hx4]at hcm
end
def masksGo(acc:List Nat):List Oper->List Nat
 | []=>acc
 |o::rest=>masksGo (acc++[o.after.toList.foldl (fun s e=>if Region.binds .any e then s|||(2 ^ e.on|||acc.getD e.on 0)else s) 0]) rest
inductive Tr(ops:Array Oper):Nat->Nat->Prop
 |base {j:Nat} {o:Oper} {e:Edge}:ops[j]?=some o->e∈o.after.toList->Region.binds .any e=true->Tr ops j e.on
 |step {j i:Nat} {o:Oper} {e:Edge}:ops[j]?=some o->e∈o.after.toList->Region.binds .any e=true->Tr ops e.on i->Tr ops j i
theorem foldl_mask(acc:List Nat)(es:List Edge)(s i:Nat)(h:(es.foldl (fun s e=>if Region.binds .any e then s|||(2 ^ e.on|||acc.getD e.on 0)else s) s).testBit i=true):
  s.testBit i=true\/ ∃e∈es,Region.binds .any e=true/\(e.on=i\/(acc.getD e.on 0).testBit i=true):=by
 induction es generalizing s with
 |nil=>exact .inl h
 |cons e es ih=>
  simp only[List.foldl_cons]at h;rcases ih _ h with h1|⟨e',h1,h2⟩
  ·split at h1
   ·rename_i hb;simp only[Nat.testBit_or,Bool.or_eq_true,Nat.testBit_two_pow,decide_eq_true_eq]at h1;rcases h1 with h1|h1|h1
    ·exact .inl h1
    ·exact .inr ⟨e,by simp,hb,.inl h1⟩
    ·exact .inr ⟨e,by simp,hb,.inr h1⟩
   ·exact .inl h1
  ·exact .inr ⟨e',by simp[h1],h2⟩
theorem masks_ok(ops:Array Oper): ∀(rest pre:List Oper)(acc:List Nat),ops.toList=pre++rest->pre.length=acc.length->(∀(j m:Nat),acc[j]?=some m-> ∀i,m.testBit i=true->Tr ops j i)->
  ∀(j m:Nat),(masksGo acc rest)[j]?=some m-> ∀i,m.testBit i=true->Tr ops j i:=by
 intro rest
 induction rest with
 |nil=>intro pre acc _ _ h;exact h
 |cons o rest ih=>
  intro pre acc hops hlen h;simp only[masksGo];refine ih (pre++[o]) _ (by simpa using hops) (by simp[hlen]) ?_;intro j m hj i hi
  by_cases hjl:j<acc.length
  ·rw[List.getElem?_append_left hjl]at hj;exact h j m hj i hi
  ·have hj':j=acc.length:=by
    have:=(List.getElem?_eq_some_iff.1 hj).1;simp at this;omega
   subst hj';rw[List.getElem?_append_right (Nat.le_refl _)]at hj;simp only[Nat.sub_self,List.getElem?_cons_zero,Option.some.injEq]at hj;subst hj;have ho:ops[acc.length]?=some o:=by
    rw[<-Array.getElem?_toList,hops,List.getElem?_append_right (by omega)];simp[hlen]
   rcases foldl_mask acc o.after.toList 0 i hi with h1|⟨e,h1,h2,h3⟩
   ·simp at h1
   ·rcases h3 with rfl|h3
    ·exact .base ho h1 h2
    ·refine .step ho h1 h2 ?_;rw[List.getD_eq_getElem?_getD]at h3;cases hq:acc[e.on]? with
     |none=>rw[hq]at h3;simp at h3
     |some m=>rw[hq]at h3;exact h e.on m hq i h3
def fop(ops:Array Oper)(fl:List Nat)(i:Nat):Option FOp:=
 match ops[i]? with
 |some o=>some (o,fl.contains i)
 |none=>none
def fops(ops:Array Oper)(fl:List Nat)(l:List Nat):List FOp:=l.filterMap (fop ops fl)
def pairOk(P:Program)(ops:Array Oper)(fl:List Nat)(M:List Nat)(p q:Nat):Bool:=
 (M.getD q 0).testBit p||(match fop ops fl p,fop ops fl q with
  |some x,some y=>indep P ops x y
  |_,_=>false)
def pairsOk(P:Program)(ops:Array Oper)(fl:List Nat)(M:List Nat):List Nat->Bool
 | []=>true
 |p::rest=>rest.all (pairOk P ops fl M p)&&pairsOk P ops fl M rest
def nodupB:List Nat->Bool
 | []=>true
 |p::rest=>!rest.contains p&&nodupB rest
def chkD(P:Program)(ops:Array Oper)(fl ord:List Nat):Bool:=
 decide (ord.length<=ops.size)&&ord.all (· <ops.size)&&nodupB ord&&(List.range ops.size).all (ord.contains ·)&&
 (ops.toList.zipIdx.all fun(o,i)=>o.after.toList.all fun e=>!Region.binds .any e||decide (e.on<i))&&
 pairsOk P ops fl (masksGo [] ops.toList) ord
section
variable {P:Program}{ops:Array Oper}{S:Heap->Prop}{K:Tm->Heap->Prop}
theorem nodupB_ok{l:List Nat}(h:nodupB l=true):l.Nodup:=by
 induction l with
 |nil=>exact List.nodup_nil
 |cons p l ih=>
  simp[nodupB]at h;exact List.nodup_cons.2 ⟨by simpa using h.1,ih h.2⟩
theorem pairsOk_ok{fl M l:List Nat}(h:pairsOk P ops fl M l=true):l.Pairwise fun p q=>pairOk P ops fl M p q=true:=by
 induction l with
 |nil=>exact .nil
 |cons p l ih=>
  simp only[pairsOk,Bool.and_eq_true,List.all_eq_true]at h;exact .cons h.1 (ih h.2)
theorem bubble{x:FOp}: ∀(l1 l2:List FOp),(∀p∈l1,indep P ops p x=true)-> ∀{t:Tm}{h:Heap},AOpsF P ops S K (l1++x::l2) t h->AOpsF P ops S K (x::(l1++l2)) t h:=by
 intro l1
 induction l1 with
 |nil=>intro l2 _ t h hk;exact hk
 |cons p l1 ih=>
  intro l2 hp t h hk;have h1:AOpF P ops S p (AOpsF P ops S K (x::(l1++l2))) t h:=AOpF.mono (fun t h=>ih l2 fun q hq=>hp q (by simp[hq])) hk;exact AOpF.swap (hp p (by simp)) h1
theorem Tr_listed{listed:Nat->Prop}(hcl: ∀(j:Nat)(o:Oper),listed j->ops[j]?=some o-> ∀e∈o.after.toList,Region.binds .any e=true->listed e.on){j i:Nat}(ht:Tr ops j i)
  (hj: ∀(o:Oper),ops[j]?=some o-> ∀e∈o.after.toList,Region.binds .any e=true->listed e.on):listed i:=by
 induction ht with
 |base h1 h2 h3=>exact hj _ h1 _ h2 h3
 |step h1 h2 h3 h4 ih=>exact ih fun o ho e he hb=>hcl _ o (hj _ h1 _ h2 h3) ho e he hb
theorem orders{fl ord:List Nat}(hchk:chkD P ops fl ord=true): ∀(fuel tt:Nat)(listed:Array Bool)(C:List Nat),listed.size=ops.size->(∀i,i<ops.size->(listed.getD i false=false↔i∈C))->
  C.Sublist ord->(∀(j:Nat)(o:Oper),listed.getD j false=true->ops[j]?=some o-> ∀e∈o.after.toList,Region.binds .any e=true->listed.getD e.on false=true)->C.length<=fuel->
  ∀{t:Tm}{h:Heap},AOpsF P ops S K (fops ops fl C) t h->AOpsF P ops S K (fops ops fl (Region.linearise.go .any ops fuel tt listed [])) t h:=by
 simp only[chkD,Bool.and_eq_true,List.all_eq_true,decide_eq_true_eq]at hchk;obtain⟨⟨⟨⟨⟨hle,hlt⟩,hnd⟩,hall⟩,hedge⟩,hpairs⟩:=hchk;have hnd:=nodupB_ok hnd;have hpw:=pairsOk_ok hpairs;have hmask:=masks_ok ops ops.toList [] [] (by simp) rfl (by simp);have hedge': ∀(i:Nat)(o:Oper),ops[i]?=some o-> ∀e∈o.after.toList,Region.binds .any e=true->e.on<i:=by
  intro i o ho e he hb;have h1:=hedge (o,i) (by rw[List.mem_zipIdx_iff_getElem?];rw[Array.getElem?_toList];exact ho);have h2:=h1 e he;simpa[hb]using h2
 intro fuel
 induction fuel with
 |zero=>
  intro tt listed C _ _ _ _ hlen t h hk;have:C=[]:=List.eq_nil_of_length_eq_zero (by omega);subst this;exact hk
 |succ fuel ih=>
  intro tt listed C hsz hC hsub hcl hlen t h hk;simp only[Region.linearise.go]
  split
  ·rename_i i hi;have himem:=List.mem_of_getElem? hi;simp only[List.mem_filter,List.mem_range,Bool.and_eq_true,Bool.not_eq_true']at himem;obtain⟨hin,hnl0,haft⟩:=himem;have hnl:listed.getD i false=false:=by
    have hil:i<listed.size:=by omega
    simpa[Array.getD_eq_getD_getElem?,hil]using hnl0
   have hiC:i∈C:=(hC i hin).1 hnl;obtain⟨o,ho⟩: ∃o,ops[i]?=some o:=⟨ops[i],by simp[hin]⟩;have hdir: ∀(o:Oper),ops[i]?=some o-> ∀e∈o.after.toList,Region.binds .any e=true->listed.getD e.on false=true:=by
    intro o' ho' e he hb;rw[ho']at haft;simp only[Option.map_some,Option.getD_some,Array.all_eq_true_iff_forall_mem]at haft;have:=haft e (by simpa using he);simpa[hb]using this
   obtain⟨C1,C2,rfl⟩:=List.append_of_mem hiC;have hCnd:(C1++i::C2).Nodup:=hsub.nodup hnd;have hCpw:=List.Pairwise.sublist hsub hpw;have hind: ∀p∈fops ops fl C1,indep P ops p (o,fl.contains i)=true:=by
    intro p hp;obtain⟨k,hk1,hk2⟩:=List.mem_filterMap.1 hp;have hki:pairOk P ops fl (masksGo [] ops.toList) k i=true:=(List.pairwise_append.1 hCpw).2.2 k hk1 i (by simp);simp only[pairOk,Bool.or_eq_true]at hki;rcases hki with hki|hki
    ·exfalso;rw[List.getD_eq_getElem?_getD]at hki;cases hq:(masksGo [] ops.toList)[i]? with
     |none=>rw[hq]at hki;simp at hki
     |some m=>
      rw[hq]at hki;have htr:=hmask i m hq k hki;have hkl:=Tr_listed (listed:=fun j=>listed.getD j false=true) hcl htr hdir;have hklt:k<ops.size:=by
       have:=hlt k (hsub.subset (by simp[hk1]));simpa using this
      have:=(hC k hklt).2 (by simp[hk1]);rw[this]at hkl;cases hkl
    ·have hfi:fop ops fl i=some (o,fl.contains i):=by simp[fop,ho]
     rw[hk2,hfi]at hki;exact hki
   have hb:AOpsF P ops S K ((o,fl.contains i)::(fops ops fl C1++fops ops fl C2)) t h:=by
    refine bubble _ _ hind ?_;have:fops ops fl (C1++i::C2)=fops ops fl C1++(o,fl.contains i)::fops ops fl C2:=by
     simp[fops,List.filterMap_append,List.filterMap_cons,fop,ho]
    rw[<-this];exact hk
   rw[linearise_go_acc];have hgo:fops ops fl ([i].reverse++Region.linearise.go .any ops fuel (tt / (List.filter (fun i=>!listed.getD i true&&(Option.map (fun x=>x.after.all fun e=>!Region.binds Region.Mode.any e||listed.getD e.on false) ops[i]?).getD false) (List.range ops.size)).length) (listed.setIfInBounds i true) [])=
     (o,fl.contains i)::fops ops fl (Region.linearise.go .any ops fuel (tt / (List.filter (fun i=>!listed.getD i true&&(Option.map (fun x=>x.after.all fun e=>!Region.binds Region.Mode.any e||listed.getD e.on false) ops[i]?).getD false) (List.range ops.size)).length) (listed.setIfInBounds i true) []):=by
    simp[fops,List.filterMap_cons,fop,ho]
   rw[hgo];refine AOpF.mono (fun t h hk2=>?_) hb;have hgetset: ∀j,(listed.setIfInBounds i true).getD j false=if i=j then true else listed.getD j false:=by
    intro j;simp only[Array.getD_eq_getD_getElem?,Array.getElem?_setIfInBounds]
    split
    ·subst_vars;rw[if_pos (by omega)];rfl
    ·rfl
   refine ih _ _ (C1++C2) (by simpa using hsz) ?_ ?_ ?_ (by simp at hlen ⊢;omega) (by simpa[fops,List.filterMap_append]using hk2)
   ·intro j hj;rw[hgetset];have hij:i∉C1++C2:=by
     obtain⟨_,h2,h3⟩:=List.nodup_append.1 hCnd;intro hm;rcases List.mem_append.1 hm with hm|hm
     ·exact h3 i hm i (by simp) rfl
     ·exact(List.nodup_cons.1 h2).1 hm
    split
    ·subst_vars;simpa using hij
    ·rename_i hne;rw[hC j hj];simp only[List.mem_append,List.mem_cons];constructor
     ·rintro(h|h|h)
      ·exact .inl h
      ·exact absurd h.symm hne
      ·exact .inr h
     ·rintro(h|h)
      ·exact .inl h
      ·exact .inr (.inr h)
   ·exact List.Sublist.trans (List.Sublist.append (List.Sublist.refl C1) (List.sublist_cons_self i C2)) hsub
   ·intro j o' hj ho' e he hb';rw[hgetset]at hj ⊢
    split
    ·rfl
    ·split at hj
     ·subst_vars;exact hdir o' ho' e he hb'
     ·exact hcl j o' hj ho' e he hb'
  ·rename_i hnone;have hempty:C=[]:=by
    cases C with
    |nil=>rfl
    |cons c C=>
     exfalso;obtain⟨m,hm1,hm2⟩:=least_ex (p:=fun k=>k∈c::C) c (by simp);have hmlt:m<ops.size:=by
      have:=hlt m (hsub.subset hm1);simpa using this
     have hready:m∈(List.range ops.size).filter fun i=>!listed.getD i true&&((ops[i]?).map (·.after.all fun e=>!Region.binds .any e||listed.getD e.on false)).getD false:=by
      simp only[List.mem_filter,List.mem_range,Bool.and_eq_true,Bool.not_eq_true'];refine⟨hmlt,?_,?_⟩
      ·have h0:=(hC m hmlt).2 hm1;have hml:m<listed.size:=by omega
       simpa[Array.getD_eq_getD_getElem?,hml]using h0
      obtain⟨o,ho⟩: ∃o,ops[m]?=some o:=⟨ops[m],by simp[hmlt]⟩;rw[ho];simp only[Option.map_some,Option.getD_some,Array.all_eq_true_iff_forall_mem];intro e he
      by_cases hb:Region.binds .any e=true
      ·have hlt':=hedge' m o ho e (by simpa using he) hb;have hnC:=hm2 e.on hlt';cases hq:listed.getD e.on false with
       |true=>simp
       |false=>exact absurd ((hC e.on (by omega)).1 hq) hnC
      ·simp[hb]
     have hlen2:=List.length_pos_of_mem hready;rw[List.getElem?_eq_none_iff]at hnone;have:=Nat.mod_lt tt hlen2;omega
   subst hempty;exact hk
theorem wpOps_filter{Q:Exit->Act->World->Prop}(l:List Nat): ∀(a:Act)(w:World),wpOps P ops Q l a w=wpList P ops Q (l.filterMap fun i=>ops[i]?) a w:=by
 induction l with
 |nil=>intro a w;rfl
 |cons i l ih=>
  intro a w;simp only[wpOps,List.filterMap_cons];cases hi:ops[i]? with
  |none=>exact ih a w
  |some o=>
   have hf:wpOps P ops Q l=wpList P ops Q (l.filterMap fun i=>ops[i]?):=by funext a w;exact ih a w
   simp only[wpList,hf]
theorem fops_fst(fl:List Nat)(l:List Nat):(fops ops fl l).map (·.1)=l.filterMap fun i=>ops[i]?:=by
 induction l with
 |nil=>rfl
 |cons i l ih=>
  simp only[fops,List.filterMap_cons,fop]at ih ⊢;cases hi:ops[i]? with
  |none=>exact ih
  |some o=>simp[ih]
theorem AWp.drawn{Q:Exit->Tm->Heap->Prop}{t:Tm}{h:Heap}{id:Nat}(fl ord:List Nat)(S:Heap->Prop)(hm:P.follows .mixedOrders=true)(hchk:chkD P ops fl ord=true)
  (hl:AOpsF P ops S (Q .normal) (fops ops fl ord) t h):AWp P (.region id ops true) Q t h:=by
 intro B w0 ρ ts w hr ht;refine wp_mono (Q:=fun e a w=>e= .normal/\Sim B w0 ρ (Q .normal) a w) (wp_region_draw fun tt=>?_) (by rintro e a w ⟨rfl,hs⟩;exact hs);simp only[Region.schedule,hm,Bool.true_or,if_true];rw[wpOps_filter, <-fops_fst fl];have hchk':=hchk;simp only[chkD,Bool.and_eq_true,List.all_eq_true,decide_eq_true_eq]at hchk';obtain⟨⟨⟨⟨⟨hle,hlt⟩,hnd⟩,hall⟩,hedge⟩,hpairs⟩:=hchk';have hord:AOpsF P ops S (Q .normal) (fops ops fl (Region.linearise .any ops tt)) t h:=by
  unfold Region.linearise;refine orders hchk ops.size tt _ ord (by simp) (fun i hi=>?_) (List.Sublist.refl _) (fun j o hj=>?_) hle hl
  ·have:=hall i (by simpa using hi);simp[Array.getD_eq_getD_getElem?,Array.getElem?_replicate,hi];simpa using this
  ·simp only[Array.getD_eq_getD_getElem?,Array.getElem?_replicate]at hj
   split at hj<;>simp at hj
 exact AOps.sound ops _ (AOpsF.plain _ hord) (hr.draw (n:=w.drawn+1)) ht
end
def freeze:AObj->AObj
 | .row _ esz cs=>.row .ro esz cs
 | .hole=>.hole
 |_=>.dead
theorem freeze_freeze(o:AObj):freeze (freeze o)=freeze o:=by cases o<;>rfl
section
variable {B:Nat}{w0:World}{ρ:RMap}{h:Heap}{w:World}
theorem Rel.freeze(hr:Rel B w0 ρ h w):Rel w.heap.size w ρ (h.map Go.Am.freeze) w:=by
 have back: ∀(b:Nat) o,(h.map Go.Am.freeze)[b]?=some o-> ∃o',h[b]?=some o'/\o=Go.Am.freeze o':=by
  intro b o ho;simp only[List.getElem?_map,Option.map_eq_some_iff]at ho;obtain⟨o',h1,h2⟩:=ho;exact⟨o',h1,h2.symm⟩
 refine⟨Below.refl _ _,Nat.le_refl _,fun b L hb=>by simpa using hr.fin b L hb,?_,?_,?_,?_,hr.gl.next hr.below hr.base⟩
 ·intro b L o hb ho hd;obtain⟨o',h1,rfl⟩:=back b o ho;exact hr.lt b L o' hb h1 (by rintro rfl;exact hd rfl)
 ·intro b o ho hnn hdd;obtain⟨o',h1,rfl⟩:=back b o ho;cases o' with
  |dead=>exact absurd rfl hdd
  |hole=>exact absurd rfl hnn
  |map es c=>exact absurd rfl hdd
  |row m esz cs=>
   obtain⟨L,hL,_⟩:=hr.obj b _ h1;exact⟨L,hL,hr.lt b L _ hL h1 (by simp),fun i v hv=>hr.cell h1 hL hv⟩
 ·intro b hb;obtain⟨o',h1,h2⟩:=back b _ hb;cases o'<;>cases h2
  exact hr.void b h1
 ·intro b b' o o' L L' _ h1 _ hw _ _ _;obtain⟨o1,_,rfl⟩:=back b o h1;cases o1<;>simp[Go.Am.freeze,AObj.owned]at hw
theorem Rel.thaw{ρ':RMap}{h':Heap}{w':World}(hr:Rel B w0 ρ h w)(hr':Rel w.heap.size w ρ' h' w'):Rel B w0 ρ h w':=by
 have hb:=hr'.below;refine⟨hr.below.trans ⟨hb.os,hb.tape,hb.output,hb.size,fun k hk=>hb.block k (by have:=hr.base;omega)⟩,by have:=hr.base;have:=hb.size;omega,hr.fin,?_,?_,hr.void,hr.sep,hr.gl⟩
 ·intro b L o h1 h2 h3;have:=hr.lt b L o h1 h2 h3;have:=hb.size;omega
 ·intro b o ho hnn hdd;obtain⟨L,hL,hO⟩:=hr.obj' b o ho hnn hdd;exact⟨L,hL,hO.frame (hb.block _ (hr.lt b L o hL ho hdd))⟩
end
def notroA:AObj->Prop
 | .row .ro _ _=>False
 |_=>True
theorem Rel.thawNew{B:Nat}{w0:World}{ρ ρ':RMap}{h news:Heap}{w w':World}(hr:Rel B w0 ρ h w)(hl:ρ.le ρ'){hf:Heap}(hfl:hf.length=h.length)(hfv: ∀b:Nat,h[b]?=some .hole->ρ' b=none)(hr':Rel w.heap.size w ρ' (hf++news) w')(hn: ∀o∈news,notroA o):Rel B w0 ρ' (h++news) w':=by
 have hb:=hr'.below;have hB:=hr.base;have old: ∀(b:Nat) o,b<h.length->(h++news)[b]?=some o->h[b]?=some o:=by
  intro b o hlt ho;rwa [List.getElem?_append_left hlt]at ho
 have new: ∀(b:Nat) o, ¬ b<h.length->(h++news)[b]?=some o->(hf++news)[b]?=some o/\o∈news:=by
  intro b o hge ho;rw[List.getElem?_append_right (by omega)]at ho;refine⟨?_,List.mem_of_getElem? ho⟩;rw[List.getElem?_append_right (by omega),hfl];exact ho
 have loc: ∀(b:Nat) o,h[b]?=some o->o≠ .hole->o≠ .dead-> ∃L,ρ b=some L/\ρ' b=some L:=by
  intro b o ho hn hd;obtain⟨L,hL,_⟩:=hr.obj' b o ho hn hd;exact⟨L,hL,hl _ _ hL⟩
 refine⟨hr.below.trans ⟨hb.os,hb.tape,hb.output,hb.size,fun k hk=>hb.block k (by omega)⟩,by have:=hb.size;omega,fun b L hbL=>by have:=hr'.fin b L hbL;rw[List.length_append,hfl]at this;rw[List.length_append];exact this,?_,?_,?_,?_,hr.gl⟩
 ·intro b L o h1 h2 h3
  by_cases hlt:b<h.length
  ·have ho:=old b o hlt h2;have hnn:o≠ .hole:=by
    rintro rfl;rw[hfv b ho]at h1;cases h1
   obtain⟨L2,hL,hL'⟩:=loc b o ho hnn h3;rw[hL']at h1;cases h1;have:=hr.lt b _ o hL ho h3;have:=hb.size;omega
  ·exact hr'.lt b L o h1 (new b o hlt h2).1 h3
 ·intro b o h2 hnn hdd
  by_cases hlt:b<h.length
  ·have ho:=old b o hlt h2;obtain⟨L,hL,hO⟩:=hr.obj' b o ho hnn hdd;exact⟨L,hl _ _ hL,(hO.mono hl).frame (hb.block _ (hr.lt b L o hL ho hdd))⟩
  ·obtain⟨hk,hm⟩:=new b o hlt h2;obtain⟨L,hL,hO⟩:=hr'.obj' b o hk hnn hdd;refine⟨L,hL,?_⟩;have hnr:=hn o hm;cases o with
   |dead=>trivial
   |hole=>trivial
   |map es c=>exact⟨by have:=hO.1;omega,hO.2⟩
   |row m esz cs=>cases m with
    |ro=>exact hnr.elim
    |own=>exact⟨by have:=hO.1;omega,hO.2⟩
    |opn=>exact⟨by have:=hO.1;omega,hO.2⟩
 ·intro b h2
  by_cases hlt:b<h.length
  ·exact hfv b (old b _ hlt h2)
  ·exact hr'.void b (new b _ hlt h2).1
 ·intro b b' o o' L L' hne h1 h2 hw1 hw2 hL hL';have nh: ∀{o:AObj},o.owned=true->o≠ .hole:=by rintro o ho rfl;simp[AObj.owned]at ho
  have nd: ∀{o:AObj},o.owned=true->o≠ .dead:=by rintro o ho rfl;simp[AObj.owned]at ho
  have oldlt: ∀(b:Nat) o L,b<h.length->(h++news)[b]?=some o->o.owned=true->ρ' b=some L->L.blk<w.heap.size:=by
   intro b o L hlt ho hw hL;have ho:=old b o hlt ho;obtain⟨L2,hL2,hL3⟩:=loc b o ho (nh hw) (nd hw);rw[hL3]at hL;cases hL;exact hr.lt b _ o hL2 ho (nd hw)
  have newge: ∀(b:Nat) o L, ¬ b<h.length->(h++news)[b]?=some o->o.owned=true->ρ' b=some L->w.heap.size<=L.blk:=by
   intro b o L hlt ho hw hL;obtain⟨hk,hm⟩:=new b o hlt ho;obtain⟨L2,hL2,hO⟩:=hr'.obj' b o hk (nh hw) (nd hw);rw[hL2]at hL;cases hL;cases o with
   |dead=>exact(nd hw rfl).elim
   |hole=>exact(nh hw rfl).elim
   |map es c=>exact hO.1
   |row m esz cs=>cases m with
    |ro=>simp[AObj.owned]at hw
    |own=>exact hO.1
    |opn=>exact hO.1
  by_cases hlt:b<h.length
  ·by_cases hlt':b'<h.length
   ·have ho:=old b o hlt h1;have ho':=old b' o' hlt' h2;obtain⟨L2,hL2,hL3⟩:=loc b o ho (nh hw1) (nd hw1);obtain⟨L4,hL4,hL5⟩:=loc b' o' ho' (nh hw2) (nd hw2);rw[hL3]at hL;cases hL;rw[hL5]at hL';cases hL';exact hr.sep b b' o o' _ _ hne ho ho' hw1 hw2 hL2 hL4
   ·have:=oldlt b o L hlt h1 hw1 hL;have:=newge b' o' L' hlt' h2 hw2 hL';omega
  ·by_cases hlt':b'<h.length
   ·have:=oldlt b' o' L' hlt' h2 hw2 hL';have:=newge b o L hlt h1 hw1 hL;omega
   ·exact hr'.sep b b' o o' L L' hne (new b o hlt h1).1 (new b' o' hlt' h2).1 hw1 hw2 hL hL'
theorem ACall.frozenNew{P:Program}{f:FuncId}{args:List Value}{h news:Heap}{c:Value}(hc:ACall P f args (h.map freeze) (fun u k=>u=c/\k=h.map freeze++news))(hn: ∀o∈news,notroA o):ACall P f args h (fun u k=>u=c/\k=h++news):=by
 intro B w0 ρ rargs w hr hv;refine(hc w.heap.size w ρ rargs w hr.freeze hv).mono ?_;rintro e w' ⟨v,v',h',ρ',he,⟨rfl,rfl⟩,hl,hr',hvr⟩;refine⟨v,v',h++news,ρ',he,⟨rfl,rfl⟩,hl,hr.thawNew hl (by simp) (fun b hb=>hr'.void b ?_) hr' hn,hvr⟩;have hlt:=(List.getElem?_eq_some_iff.1 hb).1;rw[List.getElem?_append_left (by simpa using hlt),List.getElem?_map,hb];rfl
theorem ACall.frozen{P:Program}{f:FuncId}{args:List Value}{h:Heap}{c:Value}(hc:ACall P f args (h.map freeze) (fun u _=>u=c))(hp:plainV c=true):ACall P f args h (fun u k=>u=c/\k=h):=by
 intro B w0 ρ rargs w hr hv;refine(hc w.heap.size w ρ rargs w hr.freeze hv).mono ?_;rintro e w' ⟨v,v',h',ρ',he,rfl,hl,hr',hvr⟩;refine⟨v,v',h,ρ,he,⟨rfl,rfl⟩,ρ.le_refl,hr.thaw hr',?_⟩;rw[hvr.plain_eq hp];exact VR.plain hp
end Go.Am
