import Derived.Test.YtjomodhbneicmaaZY
import Derived.Test.YtjomodhbneicmaaProg
set_option linter.unusedVariables false
set_option maxRecDepth 100000
namespace Go.Am
open Go Go.RowKit Go.Proofs
noncomputable section
theorem hmx:Try.prog.follows .mixedOrders=true:=by kernel_rfl
section
variable (n:Nat){cl:CL}(hcl:OkCL Try.prog cl)
include hcl
def F38(n:Nat)(cl:CL)(a:Value)(h:PH):R:=
 vb (xNil a) fun b=>
 vb (xFld 0 b) fun c=>
 vb (xLd c h) fun d=>
 vb (xQuo d (vN 64)) fun e=>
 vb (xAri Int.add e (vN 1)) fun f=>
 hb (xMk (zinfo Try.prog 82) f f h) fun g h=>
 some (g,h)
theorem S38:OkF Try.prog 38 (A1 (F38 n cl)):=exA1 n ⟨[],[],[],[],[],[],[],[]⟩ hcl hmx Try.func38 (by kernel_rfl) fun _ _=>by kernel_rfl
def F93(n:Nat)(cl:CL)(a b:Value)(h:PH):R:=
 vb (xQuo b (vN 64)) fun c=>
 vb (xIdxS 1 a c) fun d=>
 vb (xRem b (vN 64)) fun e=>
 vb (xShl (Value.int .u64 (.ofNat 1)) e) fun f=>
 vb (xLd d h) fun g=>
 vb (xBit Nat.lor g f) fun i=>
 vb (xIdxS 1 a c) fun j=>
 hb (xSt1 j i h) fun _ h=>
 some (Value.tuple ⟨[]⟩,h)
theorem S93:OkF Try.prog 93 (A2 (F93 n cl)):=exA2 n ⟨[],[],[],[(0,[0,1,2,3,5,6,7,4,8,9,10])],[],[],[],[]⟩ hcl hmx Try.func93 (by kernel_rfl) fun _ _ _=>by kernel_rfl
def F92_0(n:Nat)(cl:CL)(a:Value)(b:Kt)(c d e f g:Value)(h:PH):R:=
 vb (xAri Int.add a (vN 1)) fun i=>
 b [c,d,e,f,g,i] h
def F92_1(n:Nat)(cl:CL)(a b c:Value)(d:Kt)(e f g i:Value)(h:PH):R:=
 vb (xAri Int.add a b) fun j=>
 hb (F93 n cl c j h) fun k h=>
 d [a,e,c,f,g,i] h
def F92_2(n:Nat)(cl:CL)(a:Kt)(b:List Value)(h:PH):R:=
 u6 b fun c d e f g i=>F92_0 n cl i a c d e f g h
def F92_3(n:Nat)(cl:CL)(a b c d e f:Value)(h:PH)(g:Kt):R:=
 vb (xIdxS 1 a b) fun i=>
 vb (xLd i h) fun j=>
 vb (xCmp (fun x y=>ile y x) j (vN 0)) fun k=>
 vb (gd (isB true k) (some j)) fun l=>
 vb (gd (isB true k) (some c)) fun m=>
 vb (gd (isB true k) (xCmp ilt l m)) fun o=>
 vb (xPick k o ff) fun p=>
 bite p (F92_1 n cl d j e g c a f b h) (g [d,c,e,a,f,b] h)
def F92_4(n:Nat)(cl:CL)(a b:Value)(c:Kt)(d e f g:Value)(h:PH):R:=
 vb (xCmp ilt a b) fun i=>
 bite i (jn (F92_2 n cl c) (F92_3 n cl d a e f g b h)) (some (g,h))
def F92_5(n:Nat)(cl:CL)(a:Kt)(b:List Value)(h:PH):R:=
 u6 b fun c d e f g i=>F92_4 n cl i g a f d c e h
def F92(n:Nat)(cl:CL)(a b c d:Value)(h:PH):R:=
 hb (fcall h (F38 n cl a (h.fzn))) fun e h=>
 vb (xLenS b) fun f=>
 lp n (F92_5 n cl) [c,d,e,b,f,(vN 0)] h
theorem S92:OkF Try.prog 92 (A4 (F92 n cl)):=exA4 n ⟨[],[38],[(3,[2,3,9,14,15,16]),(7,[2,3,9,14,15,16])],[],[],[],[],[]⟩ (svc_ok (S38 n hcl) (svc_ok (S93 n hcl) hcl)) hmx Try.func92 (by kernel_rfl) fun _ _ _ _ _=>by kernel_rfl
def F91_0(n:Nat)(cl:CL)(a b c:Value)(d:Kt)(e:Value)(h:PH):R:=
 vb (xIdxS 1 a b) fun f=>
 vb (xIdxS 1 c b) fun g=>
 vb (xLd f h) fun i=>
 vb (xLd g h) fun j=>
 vb (xBit Nat.lor i j) fun k=>
 vb (xIdxS 1 a b) fun l=>
 hb (xSt1 l k h) fun _ h=>
 vb (xAri Int.add b (vN 1)) fun m=>
 d [a,c,e,m] h
def F91_1(n:Nat)(cl:CL)(a b c d:Value)(e:Kt)(h:PH):R:=
 vb (xCmp ilt a b) fun f=>
 bite f (F91_0 n cl c a d e b h) (some (Value.tuple ⟨[]⟩,h))
def F91_2(n:Nat)(cl:CL)(a:Kt)(b:List Value)(h:PH):R:=
 u4 b fun c d e f=>F91_1 n cl f e c d a h
def F91(n:Nat)(cl:CL)(a b:Value)(h:PH):R:=
 vb (xLenS a) fun c=>
 lp n (F91_2 n cl) [a,b,c,(vN 0)] h
theorem S91:OkF Try.prog 91 (A2 (F91 n cl)):=exA2 n ⟨[],[],[(1,[0,1,6,7])],[(3,[0,1,2,4,5,6,3,7,8,9,10])],[],[],[],[]⟩ hcl hmx Try.func91 (by kernel_rfl) fun _ _ _=>by kernel_rfl
def F103(n:Nat)(cl:CL)(a b:Value)(h:PH):R:=
 hb (xBox a h) fun c h=>
 vb (xQuo b (vN 64)) fun d=>
 vb (xIdxA 4 1 c d) fun e=>
 vb (xLd e h) fun f=>
 vb (xRem b (vN 64)) fun g=>
 vb (xShr f g) fun i=>
 vb (xBit Nat.land i (Value.int .u64 (.ofNat 1))) fun j=>
 vb (xCmp ieq j (Value.int .u64 (.ofNat 1))) fun k=>
 some (k,h)
theorem S103:OkF Try.prog 103 (A2 (F103 n cl)):=exA2 n ⟨[],[],[],[],[],[],[],[]⟩ hcl hmx Try.func103 (by kernel_rfl) fun _ _ _=>by kernel_rfl
def F84(n:Nat)(cl:CL)(a b:Value)(h:PH):R:=
 hb (xBox a h) fun c h=>
 vb (xLdA 4 c h) fun d=>
 vb (xConvI .i64 b) fun e=>
 vb (pcall (F103 n cl d e (h.fzn))) fun f=>
 some (f,h)
theorem S84:OkF Try.prog 84 (A2 (F84 n cl)):=exA2 n ⟨[103],[],[],[],[],[],[],[]⟩ (svc_ok (S103 n hcl) hcl) hmx Try.func84 (by kernel_rfl) fun _ _ _=>by kernel_rfl
def F69_0(n:Nat)(cl:CL)(a:Value)(b:Kt)(c d e f g i j k l:Value)(h:PH):R:=
 vb (xAri Int.add a (vN 1)) fun m=>
 b [c,d,e,f,g,i,j,k,l,m] h
def F69_1(n:Nat)(cl:CL)(a b c d:Value)(e:Kt)(f g i j k l:Value)(h:PH):R:=
 vb (xNil a) fun m=>
 vb (xFld 5 m) fun o=>
 vb (xIdxA 256 1 o b) fun p=>
 vb (xLd p h) fun q=>
 vb (xAri Int.add c d) fun r=>
 hb (F93 n cl q r h) fun s h=>
 e [a,c,f,g,d,i,j,k,l,b] h
def F69_2(n:Nat)(cl:CL)(a:Kt)(b:List Value)(h:PH):R:=
 u10 b fun c d e f g i j k l m=>F69_0 n cl m a c d e f g i j k l h
def F69_3(n:Nat)(cl:CL)(a b c d e f g i j k:Value)(h:PH)(l:Kt):R:=
 vb (xLdA 4 a h) fun m=>
 vb (xConvI .u8 b) fun o=>
 vb (pcall (F84 n cl m o (h.fzn))) fun p=>
 bite p (F69_1 n cl c b d e l f g a i j k h) (l [c,d,f,g,e,a,i,j,k,b] h)
def F69_4(n:Nat)(cl:CL)(a:Value)(b:Kt)(c d e f g i:Value)(h:PH):R:=
 vb (xAri Int.add a (vN 1)) fun j=>
 b [c,d,e,f,g,i,j] h
def F69_5(n:Nat)(cl:CL)(a:Value)(b:Kt)(c d e f g i j k l:Value)(m:Kt)(h:PH):R:=
 vb (xCmp ilt a (vN 256)) fun o=>
 bite o (jn (F69_2 n cl b) (F69_3 n cl c a d e f g i j k l h)) (F69_4 n cl l m d e g i j k h)
def F69_6(n:Nat)(cl:CL)(a b:Kt)(c:List Value)(h:PH):R:=
 u10 c fun d e f g i j k l m o=>F69_5 n cl o b j d e i f g k l m a h
def F69_7(n:Nat)(cl:CL)(a b:Value)(c:Kt)(d e f g i j k l:Value)(h:PH):R:=
 vb (xNil a) fun m=>
 vb (xFld 2 m) fun o=>
 vb (xLd o h) fun p=>
 hb (xBS 1 (bsRow Try.prog 84 1 [(0,b)]) h) fun q h=>
 hb (xApp (appInfo Try.prog #[84,84]) p q h) fun r h=>
 vb (xNil a) fun s=>
 vb (xFld 2 s) fun t=>
 hb (xSt1 t r h) fun _ h=>
 lp n (F69_6 n cl c) [a,d,e,f,g,i,j,k,l,(vN 0)] h
def F69_8(n:Nat)(cl:CL)(a b c d e:Value)(f:Kt)(g i j:Value)(h:PH):R:=
 vb (xFld 4 a) fun k=>
 vb (xLd k h) fun l=>
 vb (xIdxS 1 l b) fun m=>
 vb (xLd m h) fun o=>
 hb (fcall h (F92 n cl c o d e (h.fzn))) fun p h=>
 f [c,d,a,e,b,g,p,i,j,b] h
def F69_9(n:Nat)(cl:CL)(a:Kt)(b:List Value)(h:PH):R:=
 u10 b fun c d e f g i j k l m=>F69_7 n cl c j a d e f g i k l m h
def F69_10(n:Nat)(cl:CL)(a b c d e f g i j:Value)(h:PH)(k:Kt):R:=
 vb (xFld 4 a) fun l=>
 vb (xLd l h) fun m=>
 vb (xLenS m) fun o=>
 vb (xCmp ilt b o) fun p=>
 bite p (F69_8 n cl a b c d e k f g i h) (k [c,d,a,e,b,f,j,g,i,b] h)
def F69_11(n:Nat)(cl:CL)(a b c:Value)(d:Kt)(e f g i:Value)(h:PH):R:=
 vb (xIdxS 4 a b) fun j=>
 vb (xLdA 4 j h) fun k=>
 hb (xAlloc (zcells Try.prog 54) h) fun l h=>
 hb (xStA 4 l k h) fun _ h=>
 hb (fcall h (F38 n cl c (h.fzn))) fun m h=>
 jn (F69_9 n cl d) (F69_10 n cl e b c f g l a i m h)
def F69_12(n:Nat)(cl:CL)(a b c d:Value)(e:Kt)(f g i:Value)(h:PH):R:=
 vb (xCmp ilt a b) fun j=>
 bite j (F69_11 n cl c a d e f g i b h) (some (Value.tuple ⟨[]⟩,h))
def F69_13(n:Nat)(cl:CL)(a:Kt)(b:List Value)(h:PH):R:=
 u7 b fun c d e f g i j=>F69_12 n cl j i g c a e d f h
def F69(n:Nat)(cl:CL)(a b c:Value)(h:PH):R:=
 hb (xBox b h) fun d h=>
 vb (xFld 0 d) fun e=>
 vb (xLd e h) fun f=>
 vb (xLenS f) fun g=>
 vb (xNil a) fun i=>
 vb (xFld 1 i) fun j=>
 vb (xFld 2 d) fun k=>
 vb (xLd j h) fun l=>
 vb (xLd k h) fun m=>
 hb (fcall h (F92 n cl a m c g (h.fzn))) fun o h=>
 lchk (xLd j h) l<|
 hb (F91 n cl l o h) fun p h=>
 vb (xNil a) fun q=>
 vb (xFld 3 q) fun r=>
 vb (xFld 3 d) fun s=>
 vb (xLd r h) fun t=>
 vb (xLd s h) fun v=>
 hb (fcall h (F92 n cl a v c g (h.fzn))) fun w h=>
 lchk (xLd r h) t<|
 hb (xBS 1 (bsRow Try.prog 84 1 [(0,w)]) h) fun z h=>
 hb (xApp (appInfo Try.prog #[84,84]) t z h) fun a1 h=>
 vb (xNil a) fun b1=>
 vb (xFld 3 b1) fun c1=>
 hb (xSt1 c1 a1 h) fun _ h=>
 vb (xNil a) fun d1=>
 vb (xFld 4 d1) fun e1=>
 vb (xFld 1 d) fun f1=>
 vb (xLd e1 h) fun g1=>
 vb (xLd f1 h) fun i1=>
 hb (xBS 1 (bsRow Try.prog 49 1 [(0,i1)]) h) fun j1 h=>
 hb (xApp (appInfo Try.prog #[49,49]) g1 j1 h) fun k1 h=>
 vb (xNil a) fun l1=>
 vb (xFld 4 l1) fun m1=>
 hb (xSt1 m1 k1 h) fun _ h=>
 vb (xFld 0 d) fun o1=>
 vb (xLd o1 h) fun p1=>
 vb (xLenS p1) fun q1=>
 lp n (F69_13 n cl) [a,c,d,g,p1,q1,(vN 0)] h
theorem S69:OkF Try.prog 69 (A3 (F69 n cl)):=exA3 n ⟨[84],[38,92],[(6,[0,2,4,6,52,53,54]),(11,[0,2,4,6,7,8,9,52,53,54]),(13,[0,2,4,6,7,8,52,53,54,85]),(17,[0,2,4,6,7,8,52,53,54,85])],[(2,[0,1,2,4,5,7,8,3,6,9,10]),(3,[0,1,2,3,5,6,8,9,4,7,10,11,12,13,14,15]),(4,[0,1,2,3,5,4,6,7,8,9,10,11])],[(2,[3,9]),(3,[4,10])],[],[],[]⟩ (svc_ok (S92 n hcl) (svc_ok (S91 n hcl) (svc_ok (S38 n hcl) (svc_ok (S84 n hcl) (svc_ok (S93 n hcl) hcl))))) hmx Try.func69 (by kernel_rfl) fun _ _ _ _=>by kernel_rfl
def F37_0(n:Nat)(cl:CL)(a b c:Value)(d:Kt)(e f:Value)(h:PH):R:=
 vb (xIdxS 5 a b) fun g=>
 vb (xLdA 5 g h) fun i=>
 hb (xAlloc (zcells Try.prog 43) h) fun j h=>
 hb (xStA 5 j i h) fun _ h=>
 vb (xNil c) fun k=>
 vb (xFld 0 k) fun l=>
 vb (xFld 0 j) fun m=>
 vb (xLd l h) fun o=>
 vb (xLd m h) fun p=>
 vb (xLenS p) fun q=>
 vb (xAri Int.add o q) fun r=>
 vb (xNil c) fun s=>
 vb (xFld 0 s) fun t=>
 hb (xSt1 t r h) fun _ h=>
 vb (xAri Int.add b (vN 1)) fun v=>
 d [e,c,a,f,v] h
def F37_1(n:Nat)(cl:CL)(a b:Value)(c:Kt)(d:Value)(h:PH):R:=
 vb (xNil a) fun e=>
 vb (xFld 5 e) fun f=>
 hb (fcall h (F38 n cl a (h.fzn))) fun g h=>
 vb (xIdxA 256 1 f b) fun i=>
 hb (xSt1 i g h) fun _ h=>
 vb (xAri Int.add b (vN 1)) fun j=>
 c [d,a,j] h
def F37_2(n:Nat)(cl:CL)(a b c d:Value)(e:Kt)(f:Value)(h:PH):R:=
 vb (xIdxS 5 a b) fun g=>
 vb (xLdA 5 g h) fun i=>
 hb (xAlloc (zcells Try.prog 43) h) fun j h=>
 hb (xStA 5 j i h) fun _ h=>
 vb (xLdA 5 j h) fun k=>
 hb (F69 n cl c k d h) fun l h=>
 vb (xFld 0 j) fun m=>
 vb (xLd m h) fun o=>
 vb (xLenS o) fun p=>
 vb (xAri Int.add d p) fun q=>
 vb (xAri Int.add b (vN 1)) fun r=>
 e [c,q,a,f,r] h
def F37_3(n:Nat)(cl:CL)(a b c d e:Value)(f:Kt)(h:PH):R:=
 vb (xCmp ilt a b) fun g=>
 bite g (F37_2 n cl c a d e f b h) (some (d,h))
def F37_4(n:Nat)(cl:CL)(a:Kt)(b:List Value)(h:PH):R:=
 u5 b fun c d e f g=>F37_3 n cl g f e c d a h
def F37_5(n:Nat)(cl:CL)(a b:Value)(h:PH):R:=
 vb (xLenS a) fun c=>
 lp n (F37_4 n cl) [b,(vN 0),a,c,(vN 0)] h
def F37_6(n:Nat)(cl:CL)(a b:Value)(c:Kt)(d:Value)(h:PH):R:=
 vb (xCmp ilt a (vN 256)) fun e=>
 bite e (F37_1 n cl b a c d h) (F37_5 n cl d b h)
def F37_7(n:Nat)(cl:CL)(a:Kt)(b:List Value)(h:PH):R:=
 u3 b fun c d e=>F37_6 n cl e d a c h
def F37_8(n:Nat)(cl:CL)(a b:Value)(h:PH):R:=
 hb (fcall h (F38 n cl a (h.fzn))) fun c h=>
 vb (xNil a) fun d=>
 vb (xFld 1 d) fun e=>
 hb (xSt1 e c h) fun _ h=>
 lp n (F37_7 n cl) [b,a,(vN 0)] h
def F37_9(n:Nat)(cl:CL)(a b c d:Value)(e:Kt)(f:Value)(h:PH):R:=
 vb (xCmp ilt a b) fun g=>
 bite g (F37_0 n cl c a d e f b h) (F37_8 n cl d f h)
def F37_10(n:Nat)(cl:CL)(a:Kt)(b:List Value)(h:PH):R:=
 u5 b fun c d e f g=>F37_9 n cl g f e d a c h
def F37(n:Nat)(cl:CL)(a:Value)(h:PH):R:=
 vb (abuild Try.prog 88 []) fun b=>
 hb (xBox b h) fun c h=>
 vb (xLenS a) fun d=>
 lp n (F37_10 n cl) [a,c,a,d,(vN 0)] h
theorem S37:OkF Try.prog 37 (A1 (F37 n cl)):=exA1 n ⟨[],[38],[(3,[0,3,12,13,14]),(9,[0,3,34]),(15,[3,7,45,46,47])],[(5,[0,1,2,4,3,5,6,7,8,9,10]),(11,[0,1,2,4,5,3,6,7])],[],[],[],[]⟩ (svc_ok (S38 n hcl) (svc_ok (S69 n hcl) hcl)) hmx Try.func37 (by kernel_rfl) fun _ _=>by kernel_rfl
def F39_0(n:Nat)(cl:CL)(a:Value)(b:Kt)(c d e:Value)(h:PH):R:=
 vb (xAri Int.add a (vN 1)) fun f=>
 b [c,d,e,f] h
def F39_1(n:Nat)(cl:CL)(a b c:Value)(d:Kt)(e:Value)(h:PH):R:=
 vb (xIdxS 1 a b) fun f=>
 vb (xLd f h) fun g=>
 vb (abin Try.prog .eql 4 (Operand.tmp 11) (Operand.tmp 15) c g) fun i=>
 bite i (some (b,h)) (F39_0 n cl b d a c e h)
def F39_2(n:Nat)(cl:CL)(a b c d:Value)(e:Kt)(h:PH):R:=
 vb (xCmp ilt a b) fun f=>
 bite f (F39_1 n cl c a d e b h) (some ((vM 0),h))
def F39_3(n:Nat)(cl:CL)(a:Kt)(b:List Value)(h:PH):R:=
 u4 b fun c d e f=>F39_2 n cl f e c d a h
def F39(n:Nat)(cl:CL)(a b:Value)(h:PH):R:=
 vb (xLenS a) fun c=>
 lp n (F39_3 n cl) [a,b,c,(vN 0)] h
theorem S39:OkF Try.prog 39 (A2 (F39 n cl)):=exA2 n ⟨[],[],[(2,[0,1,7,8])],[],[],[],[],[]⟩ hcl hmx Try.func39 (by kernel_rfl) fun _ _ _=>by kernel_rfl
def F94(n:Nat)(cl:CL)(a b:Value)(h:PH):R:=
 vb (xQuo b (vN 64)) fun c=>
 vb (xIdxS 1 a c) fun d=>
 vb (xLd d h) fun e=>
 vb (xRem b (vN 64)) fun f=>
 vb (xShr e f) fun g=>
 vb (xBit Nat.land g (Value.int .u64 (.ofNat 1))) fun i=>
 vb (xCmp ieq i (Value.int .u64 (.ofNat 1))) fun j=>
 some (j,h)
theorem S94:OkF Try.prog 94 (A2 (F94 n cl)):=exA2 n ⟨[],[],[],[],[],[],[],[]⟩ hcl hmx Try.func94 (by kernel_rfl) fun _ _ _=>by kernel_rfl
def F70_0(n:Nat)(cl:CL)(a:Value)(b:Kt)(c d e f:Value)(h:PH):R:=
 vb (xAri Int.add a (vN 1)) fun g=>
 b [c,d,e,f,g] h
def F70_1(n:Nat)(cl:CL)(a b c:Value)(d:Kt)(e f:Value)(h:PH):R:=
 vb (xNil a) fun g=>
 vb (xFld 2 g) fun i=>
 vb (xLd i h) fun j=>
 vb (xIdxS 1 j b) fun k=>
 vb (xLd k h) fun l=>
 hb (F91 n cl c l h) fun m h=>
 d [a,e,c,f,b] h
def F70_2(n:Nat)(cl:CL)(a:Kt)(b:List Value)(h:PH):R:=
 u5 b fun c d e f g=>F70_0 n cl g a c d e f h
def F70_3(n:Nat)(cl:CL)(a b c d e:Value)(h:PH)(f:Kt):R:=
 vb (pcall (F94 n cl a b (h.fzn))) fun g=>
 bite g (F70_1 n cl c b d f a e h) (f [c,a,d,e,b] h)
def F70_4(n:Nat)(cl:CL)(a b:Value)(c:Kt)(d e f:Value)(h:PH):R:=
 vb (xCmp ilt a b) fun g=>
 bite g (jn (F70_2 n cl c) (F70_3 n cl d a e f b h)) (some (f,h))
def F70_5(n:Nat)(cl:CL)(a:Kt)(b:List Value)(h:PH):R:=
 u5 b fun c d e f g=>F70_4 n cl g f a d c e h
def F70(n:Nat)(cl:CL)(a b:Value)(h:PH):R:=
 hb (fcall h (F38 n cl a (h.fzn))) fun c h=>
 vb (xNil a) fun d=>
 vb (xFld 0 d) fun e=>
 vb (xLd e h) fun f=>
 lp n (F70_5 n cl) [a,b,c,f,(vN 0)] h
theorem S70:OkF Try.prog 70 (A2 (F70 n cl)):=exA2 n ⟨[94],[38],[(3,[0,1,5,12,13]),(7,[0,1,5,12,13])],[],[],[],[],[]⟩ (svc_ok (S38 n hcl) (svc_ok (S94 n hcl) (svc_ok (S91 n hcl) hcl))) hmx Try.func70 (by kernel_rfl) fun _ _ _=>by kernel_rfl
def F98_0(n:Nat)(cl:CL)(a:Value)(h:PH):R:=
 hb (xBS 0 (bsRow Try.prog 82 0 []) h) fun b h=>
 hb (xApp (appInfo Try.prog #[82,82]) b a h) fun c h=>
 some (c,h)
def F98(n:Nat)(cl:CL)(a:Value)(h:PH):R:=
 vb (abin Try.prog .eql 82 (Operand.tmp 3) (Operand.const (Value.slice none 0 0)) a nils) fun b=>
 bite b (some (nils,h)) (F98_0 n cl a h)
theorem S98:OkF Try.prog 98 (A1 (F98 n cl)):=exA1 n ⟨[],[],[],[],[],[],[],[]⟩ hcl hmx Try.func98 (by kernel_rfl) fun _ _=>by kernel_rfl
def F72_0(n:Nat)(cl:CL)(a b c:Value)(d:Kt)(e:Value)(h:PH):R:=
 vb (xIdxS 1 a b) fun f=>
 vb (xIdxS 1 c b) fun g=>
 vb (xLd f h) fun i=>
 vb (xLd g h) fun j=>
 vb (xBit Nat.land i j) fun k=>
 vb (xIdxS 1 a b) fun l=>
 hb (xSt1 l k h) fun _ h=>
 vb (xAri Int.add b (vN 1)) fun m=>
 d [c,a,e,m] h
def F72_1(n:Nat)(cl:CL)(a b c d:Value)(e:Kt)(h:PH):R:=
 vb (xCmp ilt a b) fun f=>
 bite f (F72_0 n cl c a d e b h) (some (c,h))
def F72_2(n:Nat)(cl:CL)(a:Kt)(b:List Value)(h:PH):R:=
 u4 b fun c d e f=>F72_1 n cl f e d c a h
def F72(n:Nat)(cl:CL)(a b:Value)(h:PH):R:=
 hb (fcall h (F98 n cl a (h.fzn))) fun c h=>
 vb (xLenS c) fun d=>
 lp n (F72_2 n cl) [b,c,d,(vN 0)] h
theorem S72:OkF Try.prog 72 (A2 (F72 n cl)):=exA2 n ⟨[],[98],[(3,[1,5,10,11])],[(5,[0,1,2,4,5,6,3,7,8,9,10])],[],[],[],[]⟩ (svc_ok (S98 n hcl) hcl) hmx Try.func72 (by kernel_rfl) fun _ _ _=>by kernel_rfl
def F122_0(n:Nat)(cl:CL)(a:Value)(b:Kt)(c d e:Value)(h:PH):R:=
 vb (xAri Int.add a (vN 1)) fun f=>
 b [c,d,e,f] h
def F122_1(n:Nat)(cl:CL)(a b c:Value)(d:Kt)(e:Value)(h:PH):R:=
 vb (xIdxS 1 a b) fun f=>
 vb (xLd f h) fun g=>
 hb (xCall cl c [g] h) fun i h=>
 bite i (some (b,h)) (F122_0 n cl b d a c e h)
def F122_2(n:Nat)(cl:CL)(a b c d:Value)(e:Kt)(h:PH):R:=
 vb (xCmp ilt a b) fun f=>
 bite f (F122_1 n cl c a d e b h) (some ((vM 0),h))
def F122_3(n:Nat)(cl:CL)(a:Kt)(b:List Value)(h:PH):R:=
 u4 b fun c d e f=>F122_2 n cl f e c d a h
def F122(n:Nat)(cl:CL)(a b:Value)(h:PH):R:=
 vb (xLenS a) fun c=>
 lp n (F122_3 n cl) [a,b,c,(vN 0)] h
theorem S122:OkF Try.prog 122 (A2 (F122 n cl)):=exA2 n ⟨[],[],[(2,[0,1,7,8])],[],[],[],[],[]⟩ hcl hmx Try.func122 (by kernel_rfl) fun _ _ _=>by kernel_rfl
def F106(n:Nat)(cl:CL)(a b:Value)(h:PH):R:=
 vb (pcall (F122 n cl a b (h.fzn))) fun c=>
 vb (xCmp (fun x y=>ile y x) c (vN 0)) fun d=>
 some (d,h)
theorem S106:OkF Try.prog 106 (A2 (F106 n cl)):=exA2 n ⟨[122],[],[],[],[],[],[],[]⟩ (svc_ok (S122 n hcl) hcl) hmx Try.func106 (by kernel_rfl) fun _ _ _=>by kernel_rfl
def F107(n:Nat)(cl:CL)(a:Value)(h:PH):R:=
 vb (xCmp ine a (Value.int .u64 (.ofNat 0))) fun b=>
 some (b,h)
theorem S107:OkF Try.prog 107 (A1 (F107 n cl)):=exA1 n ⟨[],[],[],[],[],[],[],[]⟩ hcl hmx Try.func107 (by kernel_rfl) fun _ _=>by kernel_rfl
def F95(n:Nat)(cl:CL)(a:Value)(h:PH):R:=
 vb (pcall (F106 n cl a (fnV 107 [] []) (h.fzn))) fun b=>
 vb (xNot b) fun c=>
 some (c,h)
theorem S95:OkF Try.prog 95 (A1 (F95 n cl)):=exA1 n ⟨[106],[],[],[],[],[],[],[]⟩ (svc_ok (S106 n hcl) hcl) hmx Try.func95 (by kernel_rfl) fun _ _=>by kernel_rfl
def F96_0(n:Nat)(cl:CL)(a b c:Value)(d:Kt)(e f g:Value)(h:PH):R:=
 vb (xShr a b) fun i=>
 vb (xConvI .u8 i) fun j=>
 hb (xBS 1 (bsRow Try.prog 39 1 [(0,j)]) h) fun k h=>
 hb (xApp (appInfo Try.prog #[39,39]) c k h) fun l h=>
 vb (xAri Int.add b (vN 8)) fun m=>
 d [l,a,m,e,f,g] h
def F96_1(n:Nat)(cl:CL)(a:Value)(b:Kt)(c d e:Value)(h:PH):R:=
 vb (xAri Int.add a (vN 1)) fun f=>
 b [c,d,e,f] h
def F96_2(n:Nat)(cl:CL)(a b c:Value)(d:Kt)(e f g:Value)(i:Kt)(h:PH):R:=
 vb (xCmp ilt a (vN 64)) fun j=>
 bite j (F96_0 n cl b a c d e f g h) (F96_1 n cl g i c e f h)
def F96_3(n:Nat)(cl:CL)(a b:Kt)(c:List Value)(h:PH):R:=
 u6 c fun d e f g i j=>F96_2 n cl f e d b g i j a h
def F96_4(n:Nat)(cl:CL)(a b:Value)(c:Kt)(d e:Value)(h:PH):R:=
 vb (xIdxS 1 a b) fun f=>
 vb (xLd f h) fun g=>
 lp n (F96_3 n cl c) [d,g,(vN 0),a,e,b] h
def F96_5(n:Nat)(cl:CL)(a:Value)(h:PH):R:=
 vb (xB2S a h) fun b=>
 some (b,h)
def F96_6(n:Nat)(cl:CL)(a b c:Value)(d:Kt)(e:Value)(h:PH):R:=
 vb (xCmp ilt a b) fun f=>
 bite f (F96_4 n cl c a d e b h) (F96_5 n cl e h)
def F96_7(n:Nat)(cl:CL)(a:Kt)(b:List Value)(h:PH):R:=
 u4 b fun c d e f=>F96_6 n cl f e d a c h
def F96(n:Nat)(cl:CL)(a:Value)(h:PH):R:=
 vb (xLenS a) fun b=>
 lp n (F96_7 n cl) [nils,a,b,(vN 0)] h
theorem S96:OkF Try.prog 96 (A1 (F96 n cl)):=exA1 n ⟨[],[],[(3,[3,7,8,9]),(6,[3,5,6,7,8,9])],[],[],[],[],[]⟩ hcl hmx Try.func96 (by kernel_rfl) fun _ _=>by kernel_rfl
def F109(n:Nat)(cl:CL)(a b:Value)(h:PH):R:=
 vb (xLd b h) fun c=>
 hb (fcall h (F72 n cl a c (h.fzn))) fun d h=>
 vb (pcall (F95 n cl d (h.fzn))) fun e=>
 vb (xNot e) fun f=>
 some (f,h)
theorem S109:OkF Try.prog 109 (A2 (F109 n cl)):=exA2 n ⟨[95],[72],[],[],[],[],[],[]⟩ (svc_ok (S72 n hcl) (svc_ok (S95 n hcl) hcl)) hmx Try.func109 (by kernel_rfl) fun _ _ _=>by kernel_rfl
def F108_0(n:Nat)(cl:CL)(a:Value)(b:Kt)(c d e:Value)(h:PH):R:=
 vb (xAri Int.add a (vN 1)) fun f=>
 b [c,d,e,f] h
def F108_1(n:Nat)(cl:CL)(a b c:Value)(d:Kt)(e:Value)(h:PH):R:=
 vb (xIdxS 1 a b) fun f=>
 vb (xLd f h) fun g=>
 hb (xCall cl c [g] h) fun i h=>
 bite i (some (b,h)) (F108_0 n cl b d a c e h)
def F108_2(n:Nat)(cl:CL)(a b c d:Value)(e:Kt)(h:PH):R:=
 vb (xCmp ilt a b) fun f=>
 bite f (F108_1 n cl c a d e b h) (some ((vM 0),h))
def F108_3(n:Nat)(cl:CL)(a:Kt)(b:List Value)(h:PH):R:=
 u4 b fun c d e f=>F108_2 n cl f e c d a h
def F108(n:Nat)(cl:CL)(a b:Value)(h:PH):R:=
 vb (xLenS a) fun c=>
 lp n (F108_3 n cl) [a,b,c,(vN 0)] h
theorem S108:OkF Try.prog 108 (A2 (F108 n cl)):=exA2 n ⟨[],[],[(2,[0,1,7,8])],[],[],[],[],[]⟩ hcl hmx Try.func108 (by kernel_rfl) fun _ _ _=>by kernel_rfl
def F97(n:Nat)(cl:CL)(a b:Value)(h:PH):R:=
 hb (xBox b h) fun c h=>
 vb (xNil a) fun d=>
 vb (xFld 3 d) fun e=>
 vb (xLd e h) fun f=>
 vb (some (Value.func (Fn.func 109) ⟨[]⟩ ⟨[c]⟩)) fun g=>
 vb (pcall (F108 n cl f g (h.fzn))) fun i=>
 some (i,h)
theorem S97:OkF Try.prog 97 (A2 (F97 n cl)):=exA2 n ⟨[108],[],[],[],[],[],[],[]⟩ (svc_ok (S108 n hcl) hcl) hmx Try.func97 (by kernel_rfl) fun _ _ _=>by kernel_rfl
def F71_0(n:Nat)(cl:CL)(a b c:Value)(d:Kt)(h:PH):R:=
 vb (xNil a) fun e=>
 vb (xFld 2 e) fun f=>
 vb (xLd f h) fun g=>
 vb (xLenS g) fun i=>
 vb (xNil a) fun j=>
 vb (xFld 1 j) fun k=>
 vb (xLd k h) fun l=>
 hb (xMUpd Try.prog 9 l b i h) fun _ h=>
 vb (xNil a) fun m=>
 vb (xFld 2 m) fun o=>
 vb (xLd o h) fun p=>
 hb (xBS 1 (bsRow Try.prog 84 1 [(0,c)]) h) fun q h=>
 hb (xApp (appInfo Try.prog #[84,84]) p q h) fun r h=>
 vb (xNil a) fun s=>
 vb (xFld 2 s) fun t=>
 hb (xSt1 t r h) fun _ h=>
 vb (xNil a) fun v=>
 vb (xFld 4 v) fun w=>
 vb (xNil a) fun z=>
 vb (xFld 0 z) fun a1=>
 vb (xLd w h) fun b1=>
 vb (xLd a1 h) fun c1=>
 vb (pcall (F97 n cl c1 c (h.fzn))) fun d1=>
 lchk (xLd w h) b1<|
 hb (xBS 1 (bsRow Try.prog 28 1 [(0,d1)]) h) fun e1 h=>
 hb (xApp (appInfo Try.prog #[28,28]) b1 e1 h) fun f1 h=>
 vb (xNil a) fun g1=>
 vb (xFld 4 g1) fun i1=>
 hb (xSt1 i1 f1 h) fun _ h=>
 d [i] h
def F71_1(n:Nat)(cl:CL)(a b c d e:Value)(h:PH)(f:Kt):R:=
 vb (xNot a) fun g=>
 bite g (F71_0 n cl b c d f h) (f [e] h)
def F71_2(n:Nat)(cl:CL)(a b:Value)(h:PH):R:=
 vb (pcall (F96 n cl a (h.fzn))) fun c=>
 vb (xNil b) fun d=>
 vb (xFld 1 d) fun e=>
 vb (xLd e h) fun f=>
 vb (xLkp Try.prog 9 3 true f c h) fun g=>
 vb (xExt 0 g) fun i=>
 vb (xExt 1 g) fun j=>
 jn (fun k h=>ucons k fun l m=>some (l,h)) (F71_1 n cl j b c a i h)
def F71(n:Nat)(cl:CL)(a b:Value)(h:PH):R:=
 vb (pcall (F95 n cl b (h.fzn))) fun c=>
 bite c (some ((vM 0),h)) (F71_2 n cl b a h)
theorem S71:OkF Try.prog 71 (A2 (F71 n cl)):=exA2 n ⟨[95,96,97],[],[(10,[6])],[(9,[0,1,2,3,5,6,7,9,4,8,10,11,12,13,14,15])],[(9,[4,10])],[],[],[]⟩ (svc_ok (S95 n hcl) (svc_ok (S96 n hcl) (svc_ok (S97 n hcl) hcl))) hmx Try.func71 (by kernel_rfl) fun _ _ _=>by kernel_rfl
def F40_0(n:Nat)(cl:CL)(a b c d:Value)(e:Kt)(f g:Value)(h:PH):R:=
 vb (xNil a) fun i=>
 vb (xFld 0 i) fun j=>
 vb (xLd j h) fun k=>
 vb (xNil k) fun l=>
 vb (xFld 5 l) fun m=>
 vb (xIdxA 256 1 m b) fun o=>
 vb (xLd o h) fun p=>
 hb (fcall h (F72 n cl c p (h.fzn))) fun q h=>
 hb (F71 n cl a q h) fun r h=>
 vb (xIdxS 1 d b) fun s=>
 hb (xSt1 s r h) fun _ h=>
 vb (xAri Int.add b (vN 1)) fun t=>
 e [a,f,c,d,g,t] h
def F40_1(n:Nat)(cl:CL)(a:Value)(b:Kt)(c:Value)(h:PH):R:=
 vb (xAri Int.add a (vN 1)) fun d=>
 b [c,d] h
def F40_2(n:Nat)(cl:CL)(a b c:Value)(d:Kt)(h:PH):R:=
 vb (xNil a) fun e=>
 vb (xFld 3 e) fun f=>
 vb (xLd f h) fun g=>
 hb (xBS 1 (bsRow Try.prog 27 1 [(0,b)]) h) fun i h=>
 hb (xApp (appInfo Try.prog #[27,27]) g i h) fun j h=>
 vb (xNil a) fun k=>
 vb (xFld 3 k) fun l=>
 hb (xSt1 l j h) fun _ h=>
 vb (xNil a) fun m=>
 vb (xFld 2 m) fun o=>
 vb (xLd o h) fun p=>
 vb (xLenS p) fun q=>
 vb (xCmp (fun x y=>ilt y x) q (vN 2000)) fun r=>
 bite r (some (ff,h)) (F40_1 n cl c d a h)
def F40_3(n:Nat)(cl:CL)(a b c d e:Value)(f:Kt)(g:Value)(i:Kt)(h:PH):R:=
 vb (xCmp ilt a b) fun j=>
 bite j (F40_0 n cl c a d e f g b h) (F40_2 n cl c e g i h)
def F40_4(n:Nat)(cl:CL)(a b:Kt)(c:List Value)(h:PH):R:=
 u6 c fun d e f g i j=>F40_3 n cl j i d f g b e a h
def F40_5(n:Nat)(cl:CL)(a:Kt)(b c d:Value)(h:PH):R:=
 hb (xMk (zinfo Try.prog 28) (vN 256) (vN 256) h) fun e h=>
 vb (xLenS e) fun f=>
 lp n (F40_4 n cl a) [b,c,d,e,f,(vN 0)] h
def F40_6(n:Nat)(cl:CL)(a b:Value)(c:Kt)(h:PH):R:=
 vb (xNil a) fun d=>
 vb (xFld 0 d) fun e=>
 vb (xNil a) fun f=>
 vb (xFld 2 f) fun g=>
 vb (xLd e h) fun i=>
 vb (xLd g h) fun j=>
 vb (xIdxS 1 j b) fun k=>
 vb (xLd k h) fun l=>
 hb (F70 n cl i l h) fun m h=>
 c [a,b,m] h
def F40_7(n:Nat)(cl:CL)(a:Kt)(b:List Value)(h:PH):R:=
 u3 b fun c d e=>F40_5 n cl a c d e h
def F40_8(n:Nat)(cl:CL)(a b c:Value)(h:PH)(d:Kt):R:=
 vb (xCmp (fun x y=>ilt y x) a (vN 0)) fun e=>
 bite e (F40_6 n cl b a d h) (d [b,a,c] h)
def F40_9(n:Nat)(cl:CL)(a:Value)(b:Kt)(c:Value)(h:PH):R:=
 vb (xNil a) fun d=>
 vb (xFld 0 d) fun e=>
 vb (xLd e h) fun f=>
 vb (xNil f) fun g=>
 vb (xFld 1 g) fun i=>
 vb (xLd i h) fun j=>
 jn (F40_7 n cl b) (F40_8 n cl c a j h)
def F40_10(n:Nat)(cl:CL)(a b:Value)(c:Kt)(h:PH):R:=
 vb (xNil a) fun d=>
 vb (xFld 2 d) fun e=>
 vb (xLd e h) fun f=>
 vb (xLenS f) fun g=>
 vb (xCmp ilt b g) fun i=>
 bite i (F40_9 n cl a c b h) (some (tt,h))
def F40(n:Nat)(cl:CL)(a:Value)(h:PH):R:=
 lp n (fun b c h=>ucons c fun d e=>ucons e fun f g=>F40_10 n cl d f b h) [a,(vN 0)] h
theorem S40:OkF Try.prog 40 (A1 (F40 n cl)):=exA1 n ⟨[],[72],[(2,[0,3]),(7,[0,3,4]),(9,[0,3,4,5,39,40])],[(6,[0,1,2,4,5,6,8,3,7,9,10,11,12])],[],[],[],[]⟩ (svc_ok (S72 n hcl) (svc_ok (S71 n hcl) (svc_ok (S70 n hcl) hcl))) hmx Try.func40 (by kernel_rfl) fun _ _=>by kernel_rfl
def F73_0(n:Nat)(cl:CL)(a:Value)(h:PH):R:=
 hb (xBS 0 (bsRow Try.prog 28 0 []) h) fun b h=>
 hb (xApp (appInfo Try.prog #[28,28]) b a h) fun c h=>
 some (c,h)
def F73(n:Nat)(cl:CL)(a:Value)(h:PH):R:=
 vb (abin Try.prog .eql 28 (Operand.tmp 3) (Operand.const (Value.slice none 0 0)) a nils) fun b=>
 bite b (some (nils,h)) (F73_0 n cl a h)
theorem S73:OkF Try.prog 73 (A1 (F73 n cl)):=exA1 n ⟨[],[],[],[],[],[],[],[]⟩ hcl hmx Try.func73 (by kernel_rfl) fun _ _=>by kernel_rfl
def F99(n:Nat)(cl:CL)(a b:Value)(h:PH):R:=
 vb (xLd b h) fun c=>
 vb (xConvI .u8 a) fun d=>
 vb (xShr a (Value.int .u64 (.ofNat 8))) fun e=>
 vb (xConvI .u8 e) fun f=>
 vb (xShr a (Value.int .u64 (.ofNat 16))) fun g=>
 vb (xConvI .u8 g) fun i=>
 hb (xBS 3 (bsRow Try.prog 39 3 [(0,d),(1,f),(2,i)]) h) fun j h=>
 hb (xApp (appInfo Try.prog #[39,39]) c j h) fun k h=>
 hb (xSt1 b k h) fun _ h=>
 some (Value.tuple ⟨[]⟩,h)
theorem S99:OkF Try.prog 99 (A2 (F99 n cl)):=exA2 n ⟨[],[],[],[],[],[],[],[]⟩ hcl hmx Try.func99 (by kernel_rfl) fun _ _ _=>by kernel_rfl
def F74_0(n:Nat)(cl:CL)(a b c d:Value)(e:Kt)(f g i j:Value)(h:PH):R:=
 vb (xIdxS 1 a b) fun k=>
 vb (xLd k h) fun l=>
 hb (xCall cl c [l] h) fun m h=>
 vb (xAri Int.add d (vN 1)) fun o=>
 e [f,a,g,i,j,c,o] h
def F74_1(n:Nat)(cl:CL)(a:Kt)(b:List Value)(h:PH):R:=
 u8 b fun c d e f g i j k=>F74_0 n cl d j i k a c e f g h
def F74_2(n:Nat)(cl:CL)(a b c d e f g i:Value)(h:PH)(j:Kt):R:=
 vb (xCmp ieq a (vM 0)) fun k=>
 bite k (j [b,c,d,e,f,g,e,i] h) (j [b,c,d,e,f,g,a,i] h)
def F74_3(n:Nat)(cl:CL)(a b c:Value)(d:Kt)(e f g i:Value)(h:PH):R:=
 vb (xNil a) fun j=>
 vb (xFld 3 j) fun k=>
 vb (xLd k h) fun l=>
 vb (xIdxS 1 l b) fun m=>
 vb (xLd m h) fun o=>
 vb (xIdxS 1 o c) fun p=>
 vb (xLd p h) fun q=>
 d [a,e,b,f,g,i,q,c] h
def F74_4(n:Nat)(cl:CL)(a:Kt)(b:List Value)(h:PH):R:=
 u8 b fun c d e f g i j k=>jn (F74_1 n cl a) (F74_2 n cl j c d e f g i k h)
def F74_5(n:Nat)(cl:CL)(a b c d e f g:Value)(h:PH)(i:Kt):R:=
 vb (xCmp ilt a b) fun j=>
 bite j (F74_3 n cl c a d i e b f g h) (i [c,e,a,b,f,g,(vM 0),d] h)
def F74_6(n:Nat)(cl:CL)(a:Value)(h:PH):R:=
 vb (xLd a h) fun b=>
 vb (xB2S b h) fun c=>
 some (c,h)
def F74_7(n:Nat)(cl:CL)(a:Value)(b:Kt)(c d e f g i:Value)(h:PH):R:=
 vb (xCmp ilt a (vN 256)) fun j=>
 bite j (jn (F74_4 n cl b) (F74_5 n cl c d e a f g i h)) (F74_6 n cl g h)
def F74_8(n:Nat)(cl:CL)(a:Kt)(b:List Value)(h:PH):R:=
 u7 b fun c d e f g i j=>F74_7 n cl j a e f c d g i h
def F74(n:Nat)(cl:CL)(a b c:Value)(h:PH):R:=
 vb (xNil a) fun d=>
 vb (xFld 2 d) fun e=>
 vb (xLd e h) fun f=>
 vb (xLenS f) fun g=>
 hb (xBS 0 (bsRow Try.prog 39 0 []) h) fun i h=>
 hb (xAlloc (zcells Try.prog 39) h) fun j h=>
 hb (xSt1 j i h) fun _ h=>
 vb (some (Value.func (Fn.func 99) ⟨[]⟩ ⟨[j]⟩)) fun k=>
 vb (xIdxS 1 b c) fun l=>
 vb (xLd l h) fun m=>
 hb (xCall cl k [m] h) fun o h=>
 lp n (F74_8 n cl) [a,b,c,g,j,k,(vN 0)] h
theorem S74:OkF Try.prog 74 (A3 (F74 n cl)):=exA3 n ⟨[],[],[(6,[0,1,2,7,8,9,25]),(11,[0,1,2,7,8,9,11,25]),(13,[0,1,2,7,8,9,11,25])],[],[],[],[],[]⟩ hcl hmx Try.func74 (by kernel_rfl) fun _ _ _ _=>by kernel_rfl
def F41_0(n:Nat)(cl:CL)(a b c d e:Value)(f:Kt)(g i j k l:Value)(h:PH):R:=
 vb (xLkp Try.prog 9 3 false a b h) fun m=>
 vb (xIdxS 1 c d) fun o=>
 hb (xSt1 o m h) fun _ h=>
 vb (xAri Int.add e (vN 1)) fun p=>
 f [g,i,j,k,a,c,l,p] h
def F41_1(n:Nat)(cl:CL)(a b:Value)(c:Kt)(d e f g i j k:Value)(h:PH):R:=
 vb (xMLen a h) fun l=>
 hb (xMUpd Try.prog 9 a b l h) fun _ h=>
 c [d,e,f,g,a,i,j,b,k,j] h
def F41_2(n:Nat)(cl:CL)(a:Kt)(b:List Value)(h:PH):R:=
 u10 b fun c d e f g i j k l m=>F41_0 n cl g k i j m a c d e f l h
def F41_3(n:Nat)(cl:CL)(a b c d e f g i j:Value)(h:PH)(k:Kt):R:=
 vb (xLkp Try.prog 9 3 true a b h) fun l=>
 vb (xExt 0 l) fun m=>
 vb (xExt 1 l) fun o=>
 vb (xNot o) fun p=>
 bite p (F41_1 n cl a b k c d e f g i j h) (k [c,d,e,f,a,g,i,b,j,i] h)
def F41_4(n:Nat)(cl:CL)(a b c:Value)(d:Kt)(e f g i j:Value)(h:PH):R:=
 vb (pcall (F74 n cl a b c (h.fzn))) fun k=>
 jn (F41_2 n cl d) (F41_3 n cl e k a f b g i c j h)
def F41_5(n:Nat)(cl:CL)(a b:Value)(h:PH):R:=
 vb (acut Try.prog 28 a none (some b) none) fun c=>
 vb (xIdxS 1 a b) fun d=>
 vb (xLd d h) fun e=>
 some (Value.tuple ⟨[c,e]⟩,h)
def F41_6(n:Nat)(cl:CL)(a:Value)(b:Kt)(c d e:Value)(h:PH):R:=
 vb (xMLen a h) fun f=>
 b [c,d,e,f] h
def F41_7(n:Nat)(cl:CL)(a b c d:Value)(e:Kt)(f:Value)(h:PH):R:=
 vb (xMLen a h) fun g=>
 vb (xCmp ieq g b) fun i=>
 bite i (F41_5 n cl c d h) (F41_6 n cl a e f d c h)
def F41_8(n:Nat)(cl:CL)(a b c d:Value)(e:Kt)(f g i j:Value)(k:Kt)(h:PH):R:=
 vb (xCmp ilt a b) fun l=>
 bite l (F41_4 n cl c d a e f g i j b h) (F41_7 n cl f i j g k c h)
def F41_9(n:Nat)(cl:CL)(a b:Kt)(c:List Value)(h:PH):R:=
 u8 c fun d e f g i j k l=>F41_8 n cl l k d f b i e g j a h
def F41_10(n:Nat)(cl:CL)(a:Value)(b:Kt)(c d e:Value)(h:PH):R:=
 hb (xMMk h) fun f h=>
 vb (xAri Int.add a (vN 1)) fun g=>
 hb (xMk (zinfo Try.prog 28) g g h) fun i h=>
 vb (xAri Int.add a (vN 1)) fun j=>
 lp n (F41_9 n cl b) [c,a,d,e,f,i,j,(vN 0)] h
def F41_11(n:Nat)(cl:CL)(a:Kt)(b:List Value)(h:PH):R:=
 u4 b fun c d e f=>F41_10 n cl d a c e f h
def F41(n:Nat)(cl:CL)(a:Value)(h:PH):R:=
 vb (xNil a) fun b=>
 vb (xFld 2 b) fun c=>
 vb (xLd c h) fun d=>
 vb (xLenS d) fun e=>
 vb (xNil a) fun f=>
 vb (xFld 4 f) fun g=>
 vb (xLd g h) fun i=>
 hb (fcall h (F73 n cl i (h.fzn))) fun j h=>
 hb (xBS 1 (bsRow Try.prog 28 1 [(0,(vM 0))]) h) fun k h=>
 hb (xApp (appInfo Try.prog #[28,28]) j k h) fun l h=>
 lp n (F41_11 n cl) [a,e,l,(vN 0)] h
theorem S41:OkF Try.prog 41 (A1 (F41 n cl)):=exA1 n ⟨[74],[73],[(4,[0,4,5,6]),(7,[0,4,5,6,7,8,30,31]),(13,[0,4,5,6,7,8,9,10,30,31])],[(17,[0,1,2,3,4,5,7,6,8])],[],[],[],[]⟩ (svc_ok (S73 n hcl) (svc_ok (S74 n hcl) hcl)) hmx Try.func41 (by kernel_rfl) fun _ _=>by kernel_rfl
def F42_0(n:Nat)(cl:CL)(a:Value)(b:Kt)(c d e f g i j k l m:Value)(h:PH):R:=
 vb (xAri Int.add a (vN 1)) fun o=>
 b [c,d,e,f,g,i,j,k,l,m,o] h
def F42_1(n:Nat)(cl:CL)(a b c d e:Value)(f:Kt)(g i j k l m o p:Value)(h:PH):R:=
 vb (xIdxS 1 a b) fun q=>
 vb (xLd q h) fun r=>
 vb (xLkp Try.prog 3 3 false c r h) fun s=>
 vb (xIdxS 1 d e) fun t=>
 hb (xSt1 t s h) fun _ h=>
 f [g,a,i,j,k,c,l,m,d,o,p] h
def F42_2(n:Nat)(cl:CL)(a b c d:Value)(e:Kt)(f g i j k l m o:Value)(h:PH):R:=
 vb (xIdxS 1 a b) fun p=>
 vb (xLd p h) fun q=>
 vb (xLenS c) fun r=>
 hb (xMUpd Try.prog 3 d q r h) fun _ h=>
 hb (xBS 1 (bsRow Try.prog 28 1 [(0,b)]) h) fun s h=>
 hb (xApp (appInfo Try.prog #[28,28]) c s h) fun t h=>
 e [f,a,g,i,j,d,t,k,l,m,b,o,m] h
def F42_3(n:Nat)(cl:CL)(a:Kt)(b:List Value)(h:PH):R:=
 u13 b fun c d e f g i j k l m o p q=>F42_1 n cl d o i l m a c e f g j k p q h
def F42_4(n:Nat)(cl:CL)(a b c d e f g i j k l m:Value)(h:PH)(o:Kt):R:=
 vb (xIdxS 1 a b) fun p=>
 vb (xLd p h) fun q=>
 vb (xLkp Try.prog 3 3 true c q h) fun r=>
 vb (xExt 0 r) fun s=>
 vb (xExt 1 r) fun t=>
 vb (xNot t) fun v=>
 bite v (F42_2 n cl a b d c o e f g i j k l m h) (o [e,a,f,g,i,c,d,j,k,l,b,m,l] h)
def F42_5(n:Nat)(cl:CL)(a:Kt)(b:List Value)(h:PH):R:=
 u11 b fun c d e f g i j k l m o=>F42_0 n cl o a c d e f g i j k l m h
def F42_6(n:Nat)(cl:CL)(a b c d e f g i j k l:Value)(h:PH)(m:Kt):R:=
 vb (xIdxS 1 a b) fun o=>
 hb (xSt1 o (vM 0) h) fun _ h=>
 vb (xNil c) fun p=>
 vb (xFld 3 p) fun q=>
 vb (xIdxS 1 d e) fun r=>
 vb (xLd q h) fun s=>
 vb (xLd r h) fun t=>
 vb (xIdxS 1 s t) fun v=>
 vb (xLd v h) fun w=>
 vb (xIdxS 1 w b) fun z=>
 vb (xLd z h) fun a1=>
 vb (xCmp ieq a1 (vM 0)) fun b1=>
 vb (gd (isB false b1) (some f)) fun c1=>
 vb (gd (isB false b1) (some a1)) fun d1=>
 vb (gd (isB false b1) (xIdxS 1 c1 d1)) fun e1=>
 vb (gd (isB false b1) (xLd e1 h)) fun f1=>
 vb (gd (isB false b1) (some g)) fun g1=>
 vb (gd (isB false b1) (xCmp ieq f1 g1)) fun i1=>
 vb (xPick b1 tt i1) fun j1=>
 bite j1 (m [c,f,g,i,j,k,d,e,a,l,b] h) (jn (F42_3 n cl m) (F42_4 n cl f a1 k d c g i j e a b l h))
def F42_7(n:Nat)(cl:CL)(a b c d e:Value)(f:Kt)(g i j k:Value)(h:PH):R:=
 vb (xFld 0 a) fun l=>
 vb (xLd l h) fun m=>
 hb (xBS 1 (bsRow Try.prog 27 1 [(0,b)]) h) fun o h=>
 hb (xApp (appInfo Try.prog #[27,27]) m o h) fun p h=>
 vb (xFld 0 a) fun q=>
 hb (xSt1 q p h) fun _ h=>
 vb (xFld 1 a) fun r=>
 vb (xNil c) fun s=>
 vb (xFld 4 s) fun t=>
 vb (xIdxS 1 d e) fun v=>
 vb (xLd r h) fun w=>
 vb (xLd t h) fun z=>
 vb (xLd v h) fun a1=>
 vb (xIdxS 1 z a1) fun b1=>
 vb (xLd b1 h) fun c1=>
 hb (xBS 1 (bsRow Try.prog 28 1 [(0,c1)]) h) fun d1 h=>
 hb (xApp (appInfo Try.prog #[28,28]) w d1 h) fun e1 h=>
 vb (xFld 1 a) fun f1=>
 hb (xSt1 f1 e1 h) fun _ h=>
 vb (xAri Int.add e (vN 1)) fun g1=>
 f [c,g,i,j,a,k,d,g1] h
def F42_8(n:Nat)(cl:CL)(a b:Value)(c:Kt)(d e f g i j k l m:Value)(o:Kt)(h:PH):R:=
 vb (xCmp ilt a b) fun p=>
 bite p (jn (F42_5 n cl c) (F42_6 n cl d a e f g i j k l m b h)) (F42_7 n cl l d e f g o i j k m h)
def F42_9(n:Nat)(cl:CL)(a b:Kt)(c:List Value)(h:PH):R:=
 u11 c fun d e f g i j k l m o p=>F42_8 n cl p o b m d k l e f g i j a h
def F42_10(n:Nat)(cl:CL)(a:Kt)(b c d e f g i j:Value)(h:PH):R:=
 hb (xMk (zinfo Try.prog 28) (vN 256) (vN 256) h) fun k h=>
 vb (xLenS k) fun l=>
 lp n (F42_9 n cl a) [b,c,d,e,f,g,i,j,k,l,(vN 0)] h
def F42_11(n:Nat)(cl:CL)(a b:Value)(h:PH):R:=
 vb (xLdA 2 a h) fun c=>
 hb (xStA 2 b c h) fun _ h=>
 vb (xLdA 2 b h) fun d=>some (d,h)
def F42_12(n:Nat)(cl:CL)(a b:Value)(c:Kt)(d e f g i j:Value)(h:PH):R:=
 vb (xLenS a) fun k=>
 vb (xCmp ilt b k) fun l=>
 bite l (F42_10 n cl c d e f g i j a b h) (F42_11 n cl i g h)
def F42_13(n:Nat)(cl:CL)(a:Kt)(b:List Value)(h:PH):R:=
 u8 b fun c d e f g i j k=>F42_12 n cl j k a c d e f g i h
def F42(n:Nat)(cl:CL)(a b c:Value)(h:PH):R:=
 hb (xAlloc (zcells Try.prog 30) h) fun d h=>
 hb (xAlloc (zcells Try.prog 30) h) fun e h=>
 hb (xMMk h) fun f h=>
 vb (xIdxS 1 b (vN 0)) fun g=>
 vb (xLd g h) fun i=>
 hb (xMUpd Try.prog 3 f i (vN 0) h) fun _ h=>
 hb (xBS 1 (bsRow Try.prog 28 1 [(0,(vN 0))]) h) fun j h=>
 lp n (F42_13 n cl) [a,b,c,d,e,f,j,(vN 0)] h
theorem S42:OkF Try.prog 42 (A3 (F42 n cl)):=exA3 n ⟨[],[],[(5,[0,1,2,6,7,8,9,10]),(9,[0,1,2,6,7,8,9,10,11,30,31]),(18,[0,1,2,6,7,8,9,10,11,12,13,30,31]),(19,[0,1,2,6,7,8,9,10,11,30,31])],[(12,[0,1,2,4,5,6,10,3,7,8,9,11,12,13]),(21,[0,2,3,4,6,7,8,1,5,9,10,11,12,13,14,15])],[],[],[],[]⟩ hcl hmx Try.func42 (by kernel_rfl) fun _ _ _ _=>by kernel_rfl
def F16_0(n:Nat)(cl:CL)(a:Value)(h:PH):R:=
 vb (abuild Try.prog 30 []) fun b=>
 hb (xStA 2 a b h) fun _ h=>
 vb (xLdA 2 a h) fun c=>some (Value.tuple ⟨[c,(vN 3)]⟩,h)
def F16_1(n:Nat)(cl:CL)(a:Value)(h:PH):R:=
 vb (abuild Try.prog 30 []) fun b=>
 hb (xStA 2 a b h) fun _ h=>
 vb (xLdA 2 a h) fun c=>some (Value.tuple ⟨[c,(vN 3)]⟩,h)
def F16_2(n:Nat)(cl:CL)(a b:Value)(h:PH):R:=
 hb (fcall h (F41 n cl a (h.fzn))) fun c h=>
 vb (xExt 0 c) fun d=>
 vb (xExt 1 c) fun e=>
 hb (fcall h (F42 n cl a d e (h.fzn))) fun f h=>
 hb (xStA 2 b f h) fun _ h=>
 vb (xLdA 2 b h) fun g=>some (Value.tuple ⟨[g,(vN 0)]⟩,h)
def F16_3(n:Nat)(cl:CL)(a b:Value)(h:PH):R:=
 hb (F37 n cl a h) fun c h=>
 kp 4 h fun d h=>
 vb (xNil c) fun e=>
 vb (xFld 4 e) fun f=>
 vb (xLd f h) fun g=>
 avk d 4 [c]<|
 hb (fcall h (F38 n cl c (h.fzn))) fun i h=>
 avk d 4 [g,tt]<|
 vb (pcall (F39 n cl g tt (h.fzn))) fun j=>
 hb (xfill (Nat.add d 0) h (xMMk hE)) fun k h=>
 hb (xfill (Nat.add d 1) h (xBS 1 (bsRow Try.prog 84 1 [(0,i)]) hE)) fun l h=>
 hb (xfill (Nat.add d 2) h (xBS 1 (bsRow Try.prog 28 1 [(0,j)]) hE)) fun m h=>
 vb (abuild Try.prog 90 [(0,c),(1,k),(2,l),(4,m)]) fun o=>
 hb (xfill (Nat.add d 3) h (xBox o hE)) fun p h=>
 hb (F40 n cl p h) fun q h=>
 vb (xNot q) fun r=>
 bite r (F16_1 n cl b h) (F16_2 n cl p b h)
def F16(n:Nat)(cl:CL)(a:Value)(h:PH):R:=
 hb (xAlloc (zcells Try.prog 30) h) fun b h=>
 vb (xLenS a) fun c=>
 vb (xCmp (fun x y=>ilt y x) c (vN 40)) fun d=>
 bite d (F16_0 n cl b h) (F16_3 n cl a b h)
theorem S16:OkF Try.prog 16 (A1 (F16 n cl)):=exA1 n ⟨[39],[38,41,42],[],[(4,[0,2,5,6,7,8,3,9,1,4,10,11,12,13])],[],[],[(4,[1,4,10,12])],[]⟩ (svc_ok (S37 n hcl) (svc_ok (S38 n hcl) (svc_ok (S39 n hcl) (svc_ok (S40 n hcl) (svc_ok (S41 n hcl) (svc_ok (S42 n hcl) hcl)))))) hmx Try.func16 (by kernel_rfl) fun _ _=>by kernel_rfl
def F56(n:Nat)(cl:CL)(a:Value)(h:PH):R:=
 vb (xNil a) fun b=>
 vb (xFld 1 b) fun c=>
 vb (xNil a) fun d=>
 vb (xFld 0 d) fun e=>
 vb (xLd c h) fun f=>
 vb (xLd e h) fun g=>
 vb (xLenT g) fun i=>
 vb (xCmp (fun x y=>ile y x) f i) fun j=>
 some (j,h)
theorem S56:OkF Try.prog 56 (A1 (F56 n cl)):=exA1 n ⟨[],[],[],[(1,[0,1,2,4,5,6,3,7,8,9,10])],[],[],[],[]⟩ hcl hmx Try.func56 (by kernel_rfl) fun _ _=>by kernel_rfl
def F83(n:Nat)(cl:CL)(a b:Value)(h:PH):R:=
 vb (pcall (F56 n cl a (h.fzn))) fun c=>
 vb (xNot c) fun d=>
 vb (gd (isB true d) (some a)) fun e=>
 vb (gd (isB true d) (xNil e)) fun f=>
 vb (gd (isB true d) (xFld 0 f)) fun g=>
 vb (gd (isB true d) (some a)) fun i=>
 vb (gd (isB true d) (xNil i)) fun j=>
 vb (gd (isB true d) (xFld 1 j)) fun k=>
 vb (gd (isB true d) (some b)) fun l=>
 vb (gd (isB true d) (xLd g h)) fun m=>
 vb (gd (isB true d) (xLd k h)) fun o=>
 vb (gd (isB true d) (aindex Try.prog 9 m o)) fun p=>
 vb (gd (isB true d) (xCmp ieq p l)) fun q=>
 vb (xPick d q ff) fun r=>
 some (r,h)
theorem S83:OkF Try.prog 83 (A2 (F83 n cl)):=exA2 n ⟨[56],[],[],[(1,[0,1,2,3,4,5,6,8,9,10,13,7,11,12,14,15,16])],[],[],[],[]⟩ (svc_ok (S56 n hcl) hcl) hmx Try.func83 (by kernel_rfl) fun _ _ _=>by kernel_rfl
def F57_0(n:Nat)(cl:CL)(a b c:Value)(h:PH):R:=
 vb (xNil a) fun d=>
 vb (xFld 2 d) fun e=>
 hb (xSt1 e b h) fun _ h=>
 vb (xNil a) fun f=>
 vb (xFld 3 f) fun g=>
 hb (xSt1 g c h) fun _ h=>
 some (Value.tuple ⟨[]⟩,h)
def F57(n:Nat)(cl:CL)(a b c:Value)(h:PH):R:=
 vb (xNil a) fun d=>
 vb (xFld 2 d) fun e=>
 vb (xLd e h) fun f=>
 vb (xCmp ieq f (vN 0)) fun g=>
 bite g (F57_0 n cl a b c h) (some (Value.tuple ⟨[]⟩,h))
theorem S57:OkF Try.prog 57 (A3 (F57 n cl)):=exA3 n ⟨[],[],[],[],[],[],[],[]⟩ hcl hmx Try.func57 (by kernel_rfl) fun _ _ _ _=>by kernel_rfl
def F133(n:Nat)(cl:CL)(a b:Value)(h:PH):R:=
 hb (xBox a h) fun c h=>
 hb (xAlloc (zcells Try.prog 54) h) fun d h=>
 vb (xShr b (Value.int .u64 (.ofNat 6))) fun e=>
 vb (xShr b (Value.int .u64 (.ofNat 6))) fun f=>
 vb (xIdxA 4 1 c f) fun g=>
 vb (xLd g h) fun i=>
 vb (xBit Nat.land b (Value.int .u8 (.ofNat 63))) fun j=>
 vb (xConvI .u64 j) fun k=>
 vb (xShl (Value.int .u64 (.ofNat 1)) k) fun l=>
 vb (xBit Nat.lor i l) fun m=>
 vb (xIdxA 4 1 c e) fun o=>
 hb (xSt1 o m h) fun _ h=>
 vb (xLdA 4 c h) fun p=>
 hb (xStA 4 d p h) fun _ h=>
 vb (xLdA 4 d h) fun q=>some (q,h)
theorem S133:OkF Try.prog 133 (A2 (F133 n cl)):=exA2 n ⟨[],[],[],[],[],[],[],[]⟩ hcl hmx Try.func133 (by kernel_rfl) fun _ _ _=>by kernel_rfl
def F123_0(n:Nat)(cl:CL)(a:Value)(b:Kt)(c d:Value)(h:PH):R:=
 vb (xAri Int.add a (vN 1)) fun e=>
 b [c,d,e] h
def F123_1(n:Nat)(cl:CL)(a b:Value)(c:Kt)(d:Value)(h:PH):R:=
 vb (xLdA 4 a h) fun e=>
 vb (xConvI .u8 b) fun f=>
 vb (pcall (F133 n cl e f (h.fzn))) fun g=>
 hb (xStA 4 a g h) fun _ h=>
 c [d,a,b] h
def F123_2(n:Nat)(cl:CL)(a:Kt)(b:List Value)(h:PH):R:=
 u3 b fun c d e=>F123_0 n cl e a c d h
def F123_3(n:Nat)(cl:CL)(a b c:Value)(h:PH)(d:Kt):R:=
 vb (xCmp ine a (vN 10)) fun e=>
 bite e (F123_1 n cl b a d c h) (d [c,b,a] h)
def F123_4(n:Nat)(cl:CL)(a b:Value)(h:PH):R:=
 vb (xLdA 4 a h) fun c=>
 hb (xStA 4 b c h) fun _ h=>
 vb (xLdA 4 b h) fun d=>some (d,h)
def F123_5(n:Nat)(cl:CL)(a:Value)(b:Kt)(c d:Value)(h:PH):R:=
 vb (xCmp ilt a (vN 256)) fun e=>
 bite e (jn (F123_2 n cl b) (F123_3 n cl a c d h)) (F123_4 n cl c d h)
def F123_6(n:Nat)(cl:CL)(a:Kt)(b:List Value)(h:PH):R:=
 u3 b fun c d e=>F123_5 n cl e a d c h
def F123(n:Nat)(cl:CL)(h:PH):R:=
 hb (xAlloc (zcells Try.prog 54) h) fun a h=>
 hb (xAlloc (zcells Try.prog 54) h) fun b h=>
 lp n (F123_6 n cl) [a,b,(vN 0)] h
theorem S123:OkF Try.prog 123 (A0 (F123 n cl)):=exA0 n ⟨[133],[],[(3,[0,1,2]),(4,[0,1,2])],[],[],[],[],[]⟩ (svc_ok (S133 n hcl) hcl) hmx Try.func123 (by kernel_rfl) fun _=>by kernel_rfl
def F124(n:Nat)(cl:CL)(a:Value)(h:PH):R:=
 hb (xAlloc (zcells Try.prog 57) h) fun b h=>
 hb (xAlloc (zcells Try.prog 54) h) fun c h=>
 vb (xLdA 4 c h) fun d=>
 vb (pcall (F133 n cl d a (h.fzn))) fun e=>
 vb (abuild Try.prog 57 [(0,(vN 1)),(1,e)]) fun f=>
 hb (xStA 6 b f h) fun _ h=>
 vb (xLdA 6 b h) fun g=>some (g,h)
theorem S124:OkF Try.prog 124 (A1 (F124 n cl)):=exA1 n ⟨[133],[],[],[],[],[],[],[]⟩ (svc_ok (S133 n hcl) hcl) hmx Try.func124 (by kernel_rfl) fun _ _=>by kernel_rfl
def F134_0(n:Nat)(cl:CL)(a:Value)(h:PH):R:=
 vb (xNil a) fun b=>
 vb (xFld 1 b) fun c=>
 vb (xLd c h) fun d=>
 hb (F57 n cl a (vN 2) d h) fun e h=>
 some ((Value.int .u8 (.ofNat 0)),h)
def F134_1(n:Nat)(cl:CL)(a:Value)(h:PH):R:=
 vb (xNil a) fun b=>
 vb (xFld 1 b) fun c=>
 vb (xLd c h) fun d=>
 vb (xAri Int.add d (vN 1)) fun e=>
 vb (xNil a) fun f=>
 vb (xFld 1 f) fun g=>
 hb (xSt1 g e h) fun _ h=>
 vb (xNil a) fun i=>
 vb (xFld 0 i) fun j=>
 vb (xNil a) fun k=>
 vb (xFld 1 k) fun l=>
 vb (xLd j h) fun m=>
 vb (xLd l h) fun o=>
 vb (xAri Int.sub o (vN 1)) fun p=>
 vb (aindex Try.prog 9 m p) fun q=>
 some (q,h)
def F134_2(n:Nat)(cl:CL)(a:Value)(h:PH):R:=
 vb (pcall (F56 n cl a (h.fzn))) fun b=>
 bite b (F134_0 n cl a h) (F134_1 n cl a h)
def F134_3(n:Nat)(cl:CL)(a:Value)(b:Kt)(h:PH):R:=
 vb (xNil a) fun c=>
 vb (xFld 1 c) fun d=>
 vb (xLd d h) fun e=>
 vb (xAri Int.add e (vN 1)) fun f=>
 vb (xNil a) fun g=>
 vb (xFld 1 g) fun i=>
 hb (xSt1 i f h) fun _ h=>
 b [a] h
def F134_4(n:Nat)(cl:CL)(a:Value)(h:PH)(b:Kt):R:=
 vb (pcall (F83 n cl a (Value.int .u8 (.ofNat 92)) (h.fzn))) fun c=>
 bite c (F134_3 n cl a b h) (b [a] h)
def F134(n:Nat)(cl:CL)(a:Value)(h:PH):R:=
 jn (fun b h=>ucons b fun c d=>F134_2 n cl c h) (F134_4 n cl a h)
theorem S134:OkF Try.prog 134 (A1 (F134 n cl)):=exA1 n ⟨[56,83],[],[(3,[0])],[(7,[0,1,2,4,5,6,3,7,8,9,10])],[],[],[],[]⟩ (svc_ok (S56 n hcl) (svc_ok (S57 n hcl) (svc_ok (S83 n hcl) hcl))) hmx Try.func134 (by kernel_rfl) fun _ _=>by kernel_rfl
def F125_0(n:Nat)(cl:CL)(a b:Value)(h:PH):R:=
 vb (xLdA 4 a h) fun c=>
 vb (abuild Try.prog 57 [(0,(vN 1)),(1,c)]) fun d=>
 hb (xStA 6 b d h) fun _ h=>
 vb (xLdA 6 b h) fun e=>some (e,h)
def F125_1(n:Nat)(cl:CL)(a b:Value)(c:Kt)(d:Value)(h:PH):R:=
 vb (xIdxA 4 1 a b) fun e=>
 vb (xLd e h) fun f=>
 vb (xUn Try.prog .xor f) fun g=>
 vb (xIdxA 4 1 a b) fun i=>
 hb (xSt1 i g h) fun _ h=>
 vb (xAri Int.add b (vN 1)) fun j=>
 c [d,a,j] h
def F125_2(n:Nat)(cl:CL)(a b:Value)(c:Kt)(d:Value)(e:Kt)(h:PH):R:=
 vb (xCmp ilt a (vN 4)) fun f=>
 bite f (F125_1 n cl b a c d h) (e [d,b] h)
def F125_3(n:Nat)(cl:CL)(a b:Kt)(c:List Value)(h:PH):R:=
 u3 c fun d e f=>F125_2 n cl f e b d a h
def F125_4(n:Nat)(cl:CL)(a b c d:Value)(h:PH):R:=
 vb (xNil a) fun e=>
 vb (xFld 1 e) fun f=>
 vb (xLd f h) fun g=>
 vb (xAri Int.add g (vN 1)) fun i=>
 vb (xNil a) fun j=>
 vb (xFld 1 j) fun k=>
 hb (xSt1 k i h) fun _ h=>
 jn (fun l h=>ucons l fun m o=>ucons o fun p q=>F125_0 n cl p m h) (fun r=>bite b (lp n (F125_3 n cl r) [c,d,(vN 0)] h) (r [c,d] h))
def F125_5(n:Nat)(cl:CL)(a:Value)(b:Kt)(c d e:Value)(h:PH):R:=
 vb (xNil a) fun f=>
 vb (xFld 1 f) fun g=>
 vb (xLd g h) fun i=>
 hb (F57 n cl a (vN 2) i h) fun j h=>
 b [a,c,d,e] h
def F125_6(n:Nat)(cl:CL)(a b:Value)(c:Kt)(d e f g i:Value)(h:PH):R:=
 vb (xLdA 4 a h) fun j=>
 vb (xConvI .u8 b) fun k=>
 vb (pcall (F133 n cl j k (h.fzn))) fun l=>
 hb (xStA 4 a l h) fun _ h=>
 vb (xAri Int.add b (vN 1)) fun m=>
 c [d,e,a,f,g,i,m] h
def F125_7(n:Nat)(cl:CL)(a:Value)(b:Kt)(c d e f:Value)(h:PH):R:=
 vb (xAri Int.add a (vN 1)) fun g=>
 b [c,d,e,f,g] h
def F125_8(n:Nat)(cl:CL)(a b c:Value)(d:Kt)(e f g i:Value)(j:Kt)(h:PH):R:=
 vb (xConvI .i64 a) fun k=>
 vb (xCmp ile b k) fun l=>
 bite l (F125_6 n cl c b d e f g i a h) (F125_7 n cl i j e f c g h)
def F125_9(n:Nat)(cl:CL)(a b:Kt)(c:List Value)(h:PH):R:=
 u7 c fun d e f g i j k=>F125_8 n cl j k f b d e g i a h
def F125_10(n:Nat)(cl:CL)(a:Value)(b:Kt)(c d e f g i:Value)(h:PH):R:=
 vb (xConvI .i64 a) fun j=>
 lp n (F125_9 n cl b) [c,d,e,f,g,i,j] h
def F125_11(n:Nat)(cl:CL)(a b:Value)(c:Kt)(d e f g i j:Value)(h:PH):R:=
 hb (F57 n cl a (vN 2) b h) fun k h=>
 c [a,d,e,f,g,i,j] h
def F125_12(n:Nat)(cl:CL)(a b:Value)(c:Kt)(d e f g:Value)(h:PH):R:=
 vb (xNil a) fun i=>
 vb (xFld 1 i) fun j=>
 vb (xLd j h) fun k=>
 vb (xAri Int.add k (vN 1)) fun l=>
 vb (xNil a) fun m=>
 vb (xFld 1 m) fun o=>
 hb (xSt1 o l h) fun _ h=>
 vb (xNil a) fun p=>
 vb (xFld 1 p) fun q=>
 vb (xLd q h) fun r=>
 hb (F134 n cl a h) fun s h=>
 vb (xNil a) fun t=>
 vb (xFld 2 t) fun v=>
 vb (xLd v h) fun w=>
 vb (xCmp ieq w (vN 0)) fun z=>
 vb (gd (isB true z) (some s)) fun a1=>
 vb (gd (isB true z) (some b)) fun b1=>
 vb (gd (isB true z) (xCmp ilt a1 b1)) fun c1=>
 vb (xPick z c1 ff) fun d1=>
 bite d1 (F125_11 n cl a r c d e f g b s h) (c [a,d,e,f,g,b,s] h)
def F125_13(n:Nat)(cl:CL)(a:Kt)(b:List Value)(h:PH):R:=
 u7 b fun c d e f g i j=>F125_10 n cl i a c d e f g j h
def F125_14(n:Nat)(cl:CL)(a b c d e f:Value)(h:PH)(g:Kt):R:=
 vb (xNil a) fun i=>
 vb (xFld 2 i) fun j=>
 vb (xLd j h) fun k=>
 vb (xCmp ieq k (vN 0)) fun l=>
 vb (gd (isB true l) (some a)) fun m=>
 vb (gd (isB true l) (pcall (F83 n cl m (Value.int .u8 (.ofNat 45)) (h.fzn)))) fun o=>
 vb (xPick l o ff) fun p=>
 vb (gd (isB true p) (some a)) fun q=>
 vb (gd (isB true p) (xNil q)) fun r=>
 vb (gd (isB true p) (xFld 1 r)) fun s=>
 vb (gd (isB true p) (some a)) fun t=>
 vb (gd (isB true p) (xNil t)) fun v=>
 vb (gd (isB true p) (xFld 0 v)) fun w=>
 vb (gd (isB true p) (xLd s h)) fun z=>
 vb (gd (isB true p) (xAri Int.add z (vN 1))) fun a1=>
 vb (gd (isB true p) (xLd w h)) fun b1=>
 vb (gd (isB true p) (xLenT b1)) fun c1=>
 vb (gd (isB true p) (xCmp ilt a1 c1)) fun d1=>
 vb (xPick p d1 ff) fun e1=>
 vb (gd (isB true e1) (some a)) fun f1=>
 vb (gd (isB true e1) (xNil f1)) fun g1=>
 vb (gd (isB true e1) (xFld 0 g1)) fun i1=>
 vb (gd (isB true e1) (some a)) fun j1=>
 vb (gd (isB true e1) (xNil j1)) fun k1=>
 vb (gd (isB true e1) (xFld 1 k1)) fun l1=>
 vb (gd (isB true e1) (xLd i1 h)) fun m1=>
 vb (gd (isB true e1) (xLd l1 h)) fun o1=>
 vb (gd (isB true e1) (xAri Int.add o1 (vN 1))) fun p1=>
 vb (gd (isB true e1) (aindex Try.prog 9 m1 p1)) fun q1=>
 vb (gd (isB true e1) (xCmp ine q1 (Value.int .u8 (.ofNat 93)))) fun r1=>
 vb (xPick e1 r1 ff) fun s1=>
 bite s1 (F125_12 n cl a b g c d e f h) (g [a,c,d,e,f,b,b] h)
def F125_15(n:Nat)(cl:CL)(a:Value)(b:Kt)(c d e f:Value)(h:PH):R:=
 hb (F134 n cl a h) fun g h=>
 jn (F125_13 n cl b) (F125_14 n cl a g c d e f h)
def F125_16(n:Nat)(cl:CL)(a:Value)(b:Kt)(c d e:Value)(f:Kt)(g:Value)(h:PH):R:=
 vb (pcall (F83 n cl a (Value.int .u8 (.ofNat 93)) (h.fzn))) fun i=>
 vb (gd (isB false i) (some a)) fun j=>
 vb (gd (isB false i) (pcall (F56 n cl j (h.fzn)))) fun k=>
 vb (xPick i tt k) fun l=>
 bite l (F125_5 n cl a b c d e h) (F125_15 n cl a f c d e g h)
def F125_17(n:Nat)(cl:CL)(a b:Value)(c:Kt)(d e f:Value)(g:Kt)(h:PH):R:=
 vb (xNil a) fun i=>
 vb (xFld 2 i) fun j=>
 vb (xLd j h) fun k=>
 vb (xCmp ieq k (vN 0)) fun l=>
 vb (gd (isB true l) (some a)) fun m=>
 vb (gd (isB true l) (pcall (F83 n cl m (Value.int .u8 (.ofNat 93)) (h.fzn)))) fun o=>
 vb (gd (isB true l) (some o)) fun p=>
 vb (gd (isB true p) (some b)) fun q=>
 vb (gd (isB true p) (xCmp (fun x y=>ilt y x) q (vN 0))) fun r=>
 vb (gd (isB true l) (xPick p r ff)) fun s=>
 vb (gd (isB true l) (xNot s)) fun t=>
 vb (xPick l t ff) fun v=>
 bite v (F125_16 n cl a c d e f g b h) (c [a,d,e,f] h)
def F125_18(n:Nat)(cl:CL)(a b:Kt)(c:List Value)(h:PH):R:=
 u5 c fun d e f g i=>F125_17 n cl d i a e f g b h
def F125_19(n:Nat)(cl:CL)(a:List Value)(h:PH):R:=
 u4 a fun b c d e=>F125_4 n cl b e c d h
def F125_20(n:Nat)(cl:CL)(a:Value)(b:Kt)(c d e:Value)(h:PH):R:=
 vb (xNil a) fun f=>
 vb (xFld 1 f) fun g=>
 vb (xLd g h) fun i=>
 vb (xAri Int.add i (vN 1)) fun j=>
 vb (xNil a) fun k=>
 vb (xFld 1 k) fun l=>
 hb (xSt1 l j h) fun _ h=>
 b [a,c,d,e] h
def F125_21(n:Nat)(cl:CL)(a:List Value)(h:PH):R:=
 u4 a fun b c d e=>jn (F125_19 n cl) (fun f=>lp n (F125_18 n cl f) [b,c,d,e,(vN 0)] h)
def F125(n:Nat)(cl:CL)(a:Value)(h:PH):R:=
 hb (xAlloc (zcells Try.prog 57) h) fun b h=>
 hb (xAlloc (zcells Try.prog 54) h) fun c h=>
 vb (pcall (F83 n cl a (Value.int .u8 (.ofNat 94)) (h.fzn))) fun d=>
 jn (F125_21 n cl) (fun e=>bite d (F125_20 n cl a e b c d h) (e [a,b,c,d] h))
theorem S125:OkF Try.prog 125 (A1 (F125 n cl)):=exA1 n ⟨[56,83,133],[],[(5,[0,2,3,4]),(6,[0,2,3,4,5]),(17,[0,2,3,4,5,6,7]),(18,[0,2,3,4,5,7,9]),(22,[0,2,3,4]),(25,[2,3,10]),(28,[2,3])],[(11,[0,1,2,3,4,5,6,7,8,9,10,11,12,15,16,17,13,14,18,19,20,21,22,23,24,25,27,28,29,26,30,31,32,33,34])],[],[],[],[]⟩ (svc_ok (S83 n hcl) (svc_ok (S56 n hcl) (svc_ok (S57 n hcl) (svc_ok (S134 n hcl) (svc_ok (S133 n hcl) hcl))))) hmx Try.func125 (by kernel_rfl) fun _ _=>by kernel_rfl
def F126(n:Nat)(cl:CL)(a:Value)(h:PH):R:=
 vb (xCmp ieq a (Value.int .u8 (.ofNat 124))) fun b=>
 vb (gd (isB false b) (some a)) fun c=>
 vb (gd (isB false b) (xCmp ieq c (Value.int .u8 (.ofNat 42)))) fun d=>
 vb (xPick b tt d) fun e=>
 vb (gd (isB false e) (some a)) fun f=>
 vb (gd (isB false e) (xCmp ieq f (Value.int .u8 (.ofNat 43)))) fun g=>
 vb (xPick e tt g) fun i=>
 vb (gd (isB false i) (some a)) fun j=>
 vb (gd (isB false i) (xCmp ieq j (Value.int .u8 (.ofNat 63)))) fun k=>
 vb (xPick i tt k) fun l=>
 vb (gd (isB false l) (some a)) fun m=>
 vb (gd (isB false l) (xCmp ieq m (Value.int .u8 (.ofNat 40)))) fun o=>
 vb (xPick l tt o) fun p=>
 vb (gd (isB false p) (some a)) fun q=>
 vb (gd (isB false p) (xCmp ieq q (Value.int .u8 (.ofNat 41)))) fun r=>
 vb (xPick p tt r) fun s=>
 vb (gd (isB false s) (some a)) fun t=>
 vb (gd (isB false s) (xCmp ieq t (Value.int .u8 (.ofNat 91)))) fun v=>
 vb (xPick s tt v) fun w=>
 vb (gd (isB false w) (some a)) fun z=>
 vb (gd (isB false w) (xCmp ieq z (Value.int .u8 (.ofNat 93)))) fun a1=>
 vb (xPick w tt a1) fun b1=>
 some (b1,h)
theorem S126:OkF Try.prog 126 (A1 (F126 n cl)):=exA1 n ⟨[],[],[],[],[],[],[],[]⟩ hcl hmx Try.func126 (by kernel_rfl) fun _ _=>by kernel_rfl
def F110_0(n:Nat)(cl:CL)(a b c:Value)(h:PH):R:=
 hb (F57 n cl a (vN 4) b h) fun d h=>
 vb (abuild Try.prog 57 []) fun e=>
 hb (xStA 6 c e h) fun _ h=>
 vb (xLdA 6 c h) fun f=>some (f,h)
def F110_1(n:Nat)(cl:CL)(a b c:Value)(h:PH):R:=
 vb (xNil a) fun d=>
 vb (xFld 1 d) fun e=>
 vb (xLd e h) fun f=>
 vb (xAri Int.add f (vN 1)) fun g=>
 vb (xNil a) fun i=>
 vb (xFld 1 i) fun j=>
 hb (xSt1 j g h) fun _ h=>
 vb (xLdA 6 b h) fun k=>
 hb (xStA 6 c k h) fun _ h=>
 vb (xLdA 6 c h) fun l=>some (l,h)
def F110_2(n:Nat)(cl:CL)(a:Value)(b:Kt)(c d:Value)(h:PH):R:=
 vb (xNil a) fun e=>
 vb (xFld 1 e) fun f=>
 vb (xLd f h) fun g=>
 hb (F57 n cl a (vN 2) g h) fun i h=>
 b [a,c,d] h
def F110_3(n:Nat)(cl:CL)(a:List Value)(h:PH):R:=
 u3 a fun b c d=>F110_1 n cl b d c h
def F110_4(n:Nat)(cl:CL)(a b c:Value)(h:PH)(d:Kt):R:=
 vb (xNil a) fun e=>
 vb (xFld 2 e) fun f=>
 vb (xLd f h) fun g=>
 vb (xCmp ieq g (vN 0)) fun i=>
 vb (gd (isB true i) (some a)) fun j=>
 vb (gd (isB true i) (pcall (F83 n cl j (Value.int .u8 (.ofNat 41)) (h.fzn)))) fun k=>
 vb (gd (isB true i) (xNot k)) fun l=>
 vb (xPick i l ff) fun m=>
 bite m (F110_2 n cl a d b c h) (d [a,b,c] h)
def F110_5(n:Nat)(cl:CL)(a b c:Value)(h:PH):R:=
 vb (xNil a) fun d=>
 vb (xFld 1 d) fun e=>
 vb (xLd e h) fun f=>
 vb (xAri Int.add f (vN 1)) fun g=>
 vb (xNil a) fun i=>
 vb (xFld 1 i) fun j=>
 hb (xSt1 j g h) fun _ h=>
 vb (xAri Int.add b (vN 1)) fun k=>
 hb (cl 55 [a,k] h) fun l h=>
 hb (xAlloc (zcells Try.prog 57) h) fun m h=>
 hb (xStA 6 m l h) fun _ h=>
 jn (F110_3 n cl) (F110_4 n cl a c m h)
def F110_6(n:Nat)(cl:CL)(a b c d:Value)(h:PH):R:=
 vb (xCmp (fun x y=>ile y x) a (vN 20)) fun e=>
 bite e (F110_0 n cl b c d h) (F110_5 n cl b a d h)
def F110_7(n:Nat)(cl:CL)(a b:Value)(h:PH):R:=
 vb (xNil a) fun c=>
 vb (xFld 1 c) fun d=>
 vb (xLd d h) fun e=>
 vb (xAri Int.add e (vN 1)) fun f=>
 vb (xNil a) fun g=>
 vb (xFld 1 g) fun i=>
 hb (xSt1 i f h) fun _ h=>
 vb (pcall (F123 n cl (h.fzn))) fun j=>
 vb (abuild Try.prog 57 [(0,(vN 1)),(1,j)]) fun k=>
 hb (xStA 6 b k h) fun _ h=>
 vb (xLdA 6 b h) fun l=>some (l,h)
def F110_8(n:Nat)(cl:CL)(a b:Value)(h:PH):R:=
 vb (xNil a) fun c=>
 vb (xFld 1 c) fun d=>
 vb (xLd d h) fun e=>
 hb (F57 n cl a (vN 2) e h) fun f h=>
 vb (abuild Try.prog 57 []) fun g=>
 hb (xStA 6 b g h) fun _ h=>
 vb (xLdA 6 b h) fun i=>some (i,h)
def F110_9(n:Nat)(cl:CL)(a b:Value)(h:PH):R:=
 vb (xNil a) fun c=>
 vb (xFld 1 c) fun d=>
 vb (xLd d h) fun e=>
 vb (xAri Int.add e (vN 1)) fun f=>
 vb (xNil a) fun g=>
 vb (xFld 1 g) fun i=>
 hb (xSt1 i f h) fun _ h=>
 vb (xNil a) fun j=>
 vb (xFld 0 j) fun k=>
 vb (xNil a) fun l=>
 vb (xFld 1 l) fun m=>
 vb (xLd k h) fun o=>
 vb (xLd m h) fun p=>
 vb (xAri Int.sub p (vN 1)) fun q=>
 vb (aindex Try.prog 9 o q) fun r=>
 hb (fcall h (F124 n cl r (h.fzn))) fun s h=>
 hb (xStA 6 b s h) fun _ h=>
 vb (xLdA 6 b h) fun t=>some (t,h)
def F110_10(n:Nat)(cl:CL)(a b:Value)(h:PH):R:=
 vb (xNil a) fun c=>
 vb (xFld 1 c) fun d=>
 vb (xLd d h) fun e=>
 vb (xAri Int.add e (vN 1)) fun f=>
 vb (xNil a) fun g=>
 vb (xFld 1 g) fun i=>
 hb (xSt1 i f h) fun _ h=>
 vb (pcall (F56 n cl a (h.fzn))) fun j=>
 bite j (F110_8 n cl a b h) (F110_9 n cl a b h)
def F110_11(n:Nat)(cl:CL)(a b:Value)(h:PH):R:=
 vb (xNil a) fun c=>
 vb (xFld 1 c) fun d=>
 vb (xLd d h) fun e=>
 vb (xAri Int.add e (vN 1)) fun f=>
 vb (xNil a) fun g=>
 vb (xFld 1 g) fun i=>
 hb (xSt1 i f h) fun _ h=>
 hb (F125 n cl a h) fun j h=>
 hb (xStA 6 b j h) fun _ h=>
 vb (xLdA 6 b h) fun k=>some (k,h)
def F110_12(n:Nat)(cl:CL)(a b c:Value)(h:PH):R:=
 hb (F57 n cl a (vN 2) b h) fun d h=>
 vb (abuild Try.prog 57 []) fun e=>
 hb (xStA 6 c e h) fun _ h=>
 vb (xLdA 6 c h) fun f=>some (f,h)
def F110_13(n:Nat)(cl:CL)(a b c:Value)(h:PH):R:=
 vb (xNil a) fun d=>
 vb (xFld 1 d) fun e=>
 vb (xLd e h) fun f=>
 vb (xAri Int.add f (vN 1)) fun g=>
 vb (xNil a) fun i=>
 vb (xFld 1 i) fun j=>
 hb (xSt1 j g h) fun _ h=>
 hb (fcall h (F124 n cl b (h.fzn))) fun k h=>
 hb (xStA 6 c k h) fun _ h=>
 vb (xLdA 6 c h) fun l=>some (l,h)
def F110_14(n:Nat)(cl:CL)(a b c d:Value)(h:PH):R:=
 vb (pcall (F126 n cl a (h.fzn))) fun e=>
 bite e (F110_12 n cl b c d h) (F110_13 n cl b a d h)
def F110_15(n:Nat)(cl:CL)(a b c d:Value)(h:PH):R:=
 vb (xCmp ieq a (Value.int .u8 (.ofNat 91))) fun e=>
 bite e (F110_11 n cl b c h) (F110_14 n cl a b d c h)
def F110_16(n:Nat)(cl:CL)(a b c d:Value)(h:PH):R:=
 vb (xCmp ieq a (Value.int .u8 (.ofNat 92))) fun e=>
 bite e (F110_10 n cl b c h) (F110_15 n cl a b c d h)
def F110_17(n:Nat)(cl:CL)(a b c d:Value)(h:PH):R:=
 vb (xCmp ieq a (Value.int .u8 (.ofNat 46))) fun e=>
 bite e (F110_7 n cl b c h) (F110_16 n cl a b c d h)
def F110(n:Nat)(cl:CL)(a b:Value)(h:PH):R:=
 hb (xAlloc (zcells Try.prog 57) h) fun c h=>
 vb (xNil a) fun d=>
 vb (xFld 1 d) fun e=>
 vb (xLd e h) fun f=>
 vb (xNil a) fun g=>
 vb (xFld 0 g) fun i=>
 vb (xLd i h) fun j=>
 vb (aindex Try.prog 9 j f) fun k=>
 vb (xCmp ieq k (Value.int .u8 (.ofNat 40))) fun l=>
 bite l (F110_6 n cl b a f c h) (F110_17 n cl k a c f h)
theorem S110:OkF Try.prog 110 (A2 (F110 n cl)):=exA2 n ⟨[56,83,123,126],[124],[(11,[0,4,7])],[(22,[0,1,2,4,5,6,3,7,8,9,10,11])],[],[],[],[]⟩ (svc_ok (S57 n hcl) (svc_ok (S83 n hcl) (svc_ok (S123 n hcl) (svc_ok (S56 n hcl) (svc_ok (S124 n hcl) (svc_ok (S125 n hcl) (svc_ok (S126 n hcl) hcl))))))) hmx Try.func110 (by kernel_rfl) fun _ _ _=>by kernel_rfl
def F102_0(n:Nat)(cl:CL)(a b c:Value)(d:Kt)(e:Value)(h:PH):R:=
 vb (xNil a) fun f=>
 vb (xFld 1 f) fun g=>
 vb (xLd g h) fun i=>
 vb (xAri Int.add i (vN 1)) fun j=>
 vb (xNil a) fun k=>
 vb (xFld 1 k) fun l=>
 hb (xSt1 l j h) fun _ h=>
 vb (xLdA 6 b h) fun m=>
 hb (xBS 1 (bsRow Try.prog 55 1 [(0,m)]) h) fun o h=>
 vb (abuild Try.prog 57 [(0,c),(2,o)]) fun p=>
 hb (xStA 6 b p h) fun _ h=>
 d [a,e,b] h
def F102_1(n:Nat)(cl:CL)(a:Kt)(b:List Value)(h:PH):R:=
 u4 b fun c d e f=>F102_0 n cl c e f a d h
def F102_2(n:Nat)(cl:CL)(a b c d:Value)(h:PH)(e:Kt):R:=
 vb (pcall (F83 n cl a (Value.int .u8 (.ofNat 63)) (h.fzn))) fun f=>
 bite f (e [a,b,c,(vN 6)] h) (e [a,b,c,d] h)
def F102_3(n:Nat)(cl:CL)(a:Kt)(b:List Value)(h:PH):R:=
 u4 b fun c d e f=>jn (F102_1 n cl a) (F102_2 n cl c d e f h)
def F102_4(n:Nat)(cl:CL)(a b c:Value)(h:PH)(d:Kt):R:=
 vb (pcall (F83 n cl a (Value.int .u8 (.ofNat 43)) (h.fzn))) fun e=>
 bite e (d [a,b,c,(vN 5)] h) (d [a,b,c,(vN 4)] h)
def F102_5(n:Nat)(cl:CL)(a b:Value)(h:PH):R:=
 vb (xLdA 6 a h) fun c=>
 hb (xStA 6 b c h) fun _ h=>
 vb (xLdA 6 b h) fun d=>some (d,h)
def F102_6(n:Nat)(cl:CL)(a:Value)(b:Kt)(c d:Value)(h:PH):R:=
 vb (xNil a) fun e=>
 vb (xFld 2 e) fun f=>
 vb (xLd f h) fun g=>
 vb (xCmp ieq g (vN 0)) fun i=>
 vb (gd (isB true i) (some a)) fun j=>
 vb (gd (isB true i) (pcall (F83 n cl j (Value.int .u8 (.ofNat 42)) (h.fzn)))) fun k=>
 vb (gd (isB true i) (some k)) fun l=>
 vb (gd (isB false l) (some a)) fun m=>
 vb (gd (isB false l) (pcall (F83 n cl m (Value.int .u8 (.ofNat 43)) (h.fzn)))) fun o=>
 vb (gd (isB true i) (xPick l tt o)) fun p=>
 vb (gd (isB true i) (some p)) fun q=>
 vb (gd (isB false q) (some a)) fun r=>
 vb (gd (isB false q) (pcall (F83 n cl r (Value.int .u8 (.ofNat 63)) (h.fzn)))) fun s=>
 vb (gd (isB true i) (xPick q tt s)) fun t=>
 vb (xPick i t ff) fun v=>
 bite v (jn (F102_3 n cl b) (F102_4 n cl a c d h)) (F102_5 n cl d c h)
def F102_7(n:Nat)(cl:CL)(a:Kt)(b:List Value)(h:PH):R:=
 u3 b fun c d e=>F102_6 n cl c a d e h
def F102(n:Nat)(cl:CL)(a b:Value)(h:PH):R:=
 hb (xAlloc (zcells Try.prog 57) h) fun c h=>
 hb (F110 n cl a b h) fun d h=>
 hb (xAlloc (zcells Try.prog 57) h) fun e h=>
 hb (xStA 6 e d h) fun _ h=>
 lp n (F102_7 n cl) [a,c,e] h
theorem S102:OkF Try.prog 102 (A2 (F102 n cl)):=exA2 n ⟨[83],[],[(2,[0,4,5]),(6,[0,4,5,6]),(8,[0,4,5,6])],[],[],[],[],[]⟩ (svc_ok (S110 n hcl) (svc_ok (S83 n hcl) hcl)) hmx Try.func102 (by kernel_rfl) fun _ _ _=>by kernel_rfl
def F82_0(n:Nat)(cl:CL)(a b c:Value)(d:Kt)(e:Value)(h:PH):R:=
 hb (F102 n cl a b h) fun f h=>
 hb (xBS 1 (bsRow Try.prog 55 1 [(0,f)]) h) fun g h=>
 hb (xApp (appInfo Try.prog #[55,55]) c g h) fun i h=>
 d [a,b,e,i] h
def F82_1(n:Nat)(cl:CL)(a:Value)(h:PH):R:=
 vb (abuild Try.prog 57 []) fun b=>
 hb (xStA 6 a b h) fun _ h=>
 vb (xLdA 6 a h) fun c=>some (c,h)
def F82_2(n:Nat)(cl:CL)(a b:Value)(h:PH):R:=
 vb (xIdxS 6 a (vN 0)) fun c=>
 vb (xLdA 6 c h) fun d=>
 hb (xStA 6 b d h) fun _ h=>
 vb (xLdA 6 b h) fun e=>some (e,h)
def F82_3(n:Nat)(cl:CL)(a b:Value)(h:PH):R:=
 vb (abuild Try.prog 57 [(0,(vN 2)),(2,a)]) fun c=>
 hb (xStA 6 b c h) fun _ h=>
 vb (xLdA 6 b h) fun d=>some (d,h)
def F82_4(n:Nat)(cl:CL)(a b c:Value)(h:PH):R:=
 vb (xCmp ieq a (vN 1)) fun d=>
 bite d (F82_2 n cl b c h) (F82_3 n cl b c h)
def F82_5(n:Nat)(cl:CL)(a b:Value)(h:PH):R:=
 vb (xLenS a) fun c=>
 vb (xCmp ieq c (vN 0)) fun d=>
 bite d (F82_1 n cl b h) (F82_4 n cl c a b h)
def F82_6(n:Nat)(cl:CL)(a b c:Value)(d:Kt)(e:Value)(h:PH):R:=
 vb (xNil a) fun f=>
 vb (xFld 2 f) fun g=>
 vb (xLd g h) fun i=>
 vb (xCmp ieq i (vN 0)) fun j=>
 vb (gd (isB true j) (some a)) fun k=>
 vb (gd (isB true j) (pcall (F56 n cl k (h.fzn)))) fun l=>
 vb (gd (isB true j) (xNot l)) fun m=>
 vb (xPick j m ff) fun o=>
 vb (gd (isB true o) (some a)) fun p=>
 vb (gd (isB true o) (pcall (F83 n cl p (Value.int .u8 (.ofNat 124)) (h.fzn)))) fun q=>
 vb (gd (isB true o) (xNot q)) fun r=>
 vb (xPick o r ff) fun s=>
 vb (gd (isB true s) (some a)) fun t=>
 vb (gd (isB true s) (pcall (F83 n cl t (Value.int .u8 (.ofNat 41)) (h.fzn)))) fun v=>
 vb (gd (isB true s) (xNot v)) fun w=>
 vb (xPick s w ff) fun z=>
 bite z (F82_0 n cl a b c d e h) (F82_5 n cl c e h)
def F82_7(n:Nat)(cl:CL)(a:Kt)(b:List Value)(h:PH):R:=
 u4 b fun c d e f=>F82_6 n cl c d f a e h
def F82(n:Nat)(cl:CL)(a b:Value)(h:PH):R:=
 hb (xAlloc (zcells Try.prog 57) h) fun c h=>
 lp n (F82_7 n cl) [a,b,c,nils] h
theorem S82:OkF Try.prog 82 (A2 (F82 n cl)):=exA2 n ⟨[56,83],[],[(2,[0,1,4,5])],[],[],[],[],[]⟩ (svc_ok (S56 n hcl) (svc_ok (S83 n hcl) (svc_ok (S102 n hcl) hcl))) hmx Try.func82 (by kernel_rfl) fun _ _ _=>by kernel_rfl
def F55_0(n:Nat)(cl:CL)(a b c:Value)(d:Kt)(e:Value)(h:PH):R:=
 vb (xNil a) fun f=>
 vb (xFld 1 f) fun g=>
 vb (xLd g h) fun i=>
 vb (xAri Int.add i (vN 1)) fun j=>
 vb (xNil a) fun k=>
 vb (xFld 1 k) fun l=>
 hb (xSt1 l j h) fun _ h=>
 hb (F82 n cl a b h) fun m h=>
 hb (xBS 1 (bsRow Try.prog 55 1 [(0,m)]) h) fun o h=>
 hb (xApp (appInfo Try.prog #[55,55]) c o h) fun p h=>
 d [a,b,e,p] h
def F55_1(n:Nat)(cl:CL)(a b:Value)(h:PH):R:=
 vb (xIdxS 6 a (vN 0)) fun c=>
 vb (xLdA 6 c h) fun d=>
 hb (xStA 6 b d h) fun _ h=>
 vb (xLdA 6 b h) fun e=>some (e,h)
def F55_2(n:Nat)(cl:CL)(a b:Value)(h:PH):R:=
 vb (abuild Try.prog 57 [(0,(vN 3)),(2,a)]) fun c=>
 hb (xStA 6 b c h) fun _ h=>
 vb (xLdA 6 b h) fun d=>some (d,h)
def F55_3(n:Nat)(cl:CL)(a b:Value)(h:PH):R:=
 vb (xLenS a) fun c=>
 vb (xCmp ieq c (vN 1)) fun d=>
 bite d (F55_1 n cl a b h) (F55_2 n cl a b h)
def F55_4(n:Nat)(cl:CL)(a b c:Value)(d:Kt)(e:Value)(h:PH):R:=
 vb (xNil a) fun f=>
 vb (xFld 2 f) fun g=>
 vb (xLd g h) fun i=>
 vb (xCmp ieq i (vN 0)) fun j=>
 vb (gd (isB true j) (some a)) fun k=>
 vb (gd (isB true j) (pcall (F83 n cl k (Value.int .u8 (.ofNat 124)) (h.fzn)))) fun l=>
 vb (xPick j l ff) fun m=>
 bite m (F55_0 n cl a b c d e h) (F55_3 n cl c e h)
def F55_5(n:Nat)(cl:CL)(a:Kt)(b:List Value)(h:PH):R:=
 u4 b fun c d e f=>F55_4 n cl c d f a e h
def F55(n:Nat)(cl:CL)(a b:Value)(h:PH):R:=
 hb (xAlloc (zcells Try.prog 57) h) fun c h=>
 hb (F82 n cl a b h) fun d h=>
 hb (xBS 1 (bsRow Try.prog 55 1 [(0,d)]) h) fun e h=>
 lp n (F55_5 n cl) [a,b,c,e] h
theorem S55:OkF Try.prog 55 (A2 (F55 n cl)):=exA2 n ⟨[83],[],[(2,[0,1,4,5])],[],[],[],[],[]⟩ (svc_ok (S82 n hcl) (svc_ok (S83 n hcl) hcl)) hmx Try.func55 (by kernel_rfl) fun _ _ _=>by kernel_rfl
def F30_0(n:Nat)(cl:CL)(a:Value)(h:PH):R:=
 vb (abuild Try.prog 57 []) fun b=>
 hb (xStA 6 a b h) fun _ h=>
 vb (xLdA 6 a h) fun c=>some (Value.tuple ⟨[c,(vN 0),(vN 3)]⟩,h)
def F30_1(n:Nat)(cl:CL)(a b:Value)(h:PH):R:=
 vb (abuild Try.prog 57 []) fun c=>
 vb (xNil a) fun d=>
 vb (xFld 3 d) fun e=>
 vb (xNil a) fun f=>
 vb (xFld 2 f) fun g=>
 vb (xLd e h) fun i=>
 vb (xLd g h) fun j=>
 hb (xStA 6 b c h) fun _ h=>
 lchk (xLd e h) i<|
 lchk (xLd g h) j<|
 vb (xLdA 6 b h) fun k=>some (Value.tuple ⟨[k,i,j]⟩,h)
def F30_2(n:Nat)(cl:CL)(a b c:Value)(h:PH):R:=
 vb (xLdA 6 a h) fun d=>
 vb (xLenT b) fun e=>
 hb (xStA 6 c d h) fun _ h=>
 vb (xLdA 6 c h) fun f=>some (Value.tuple ⟨[f,e,(vN 0)]⟩,h)
def F30_3(n:Nat)(cl:CL)(a b c d:Value)(h:PH):R:=
 vb (xNil a) fun e=>
 vb (xFld 2 e) fun f=>
 vb (xLd f h) fun g=>
 vb (xCmp ine g (vN 0)) fun i=>
 bite i (F30_1 n cl a b h) (F30_2 n cl c d b h)
def F30_4(n:Nat)(cl:CL)(a:Value)(b:Kt)(c d e:Value)(h:PH):R:=
 vb (xNil a) fun f=>
 vb (xFld 1 f) fun g=>
 vb (xLd g h) fun i=>
 hb (F57 n cl a (vN 2) i h) fun j h=>
 b [c,d,a,e] h
def F30_5(n:Nat)(cl:CL)(a:List Value)(h:PH):R:=
 u4 a fun b c d e=>F30_3 n cl d c e b h
def F30_6(n:Nat)(cl:CL)(a b c d:Value)(h:PH)(e:Kt):R:=
 vb (xNil a) fun f=>
 vb (xFld 2 f) fun g=>
 vb (xLd g h) fun i=>
 vb (xCmp ieq i (vN 0)) fun j=>
 vb (gd (isB true j) (some a)) fun k=>
 vb (gd (isB true j) (pcall (F56 n cl k (h.fzn)))) fun l=>
 vb (gd (isB true j) (xNot l)) fun m=>
 vb (xPick j m ff) fun o=>
 bite o (F30_4 n cl a e b c d h) (e [b,c,a,d] h)
def F30_7(n:Nat)(cl:CL)(a b:Value)(h:PH):R:=
 vb (abuild Try.prog 116 [(0,a)]) fun c=>
 hb (xBox c h) fun d h=>
 hb (cl 55 [d,(vN 0)] h) fun e h=>
 hb (xAlloc (zcells Try.prog 57) h) fun f h=>
 hb (xStA 6 f e h) fun _ h=>
 jn (F30_5 n cl) (F30_6 n cl d a b f h)
def F30(n:Nat)(cl:CL)(a:Value)(h:PH):R:=
 hb (xAlloc (zcells Try.prog 57) h) fun b h=>
 vb (xLenT a) fun c=>
 vb (xCmp (fun x y=>ilt y x) c (vN 200)) fun d=>
 bite d (F30_0 n cl b h) (F30_7 n cl a b h)
theorem S30:OkF Try.prog 30 (A1 (F30 n cl)):=exA1 n ⟨[56],[],[(7,[0,2,5,6])],[(8,[0,1,2,3,5,6,7,4,8,9,10,11])],[(8,[4,8,9])],[],[],[]⟩ (svc_ok (S56 n hcl) (svc_ok (S57 n hcl) hcl)) hmx Try.func30 (by kernel_rfl) fun _ _=>by kernel_rfl
def F53_0(n:Nat)(cl:CL)(a b c:Value)(d:Kt)(h:PH):R:=
 vb (xFld 5 a) fun e=>
 vb (xLd e h) fun f=>
 vb (xIdxS 6 f b) fun g=>
 vb (xLdA 6 g h) fun i=>
 vb (pcall (cl 53 [i] (h.fzn))) fun j=>
 vb (xAri Int.add c j) fun k=>
 vb (xAri Int.add b (vN 1)) fun l=>
 d [a,k,l] h
def F53_1(n:Nat)(cl:CL)(a b c:Value)(d:Kt)(h:PH):R:=
 vb (xFld 5 a) fun e=>
 vb (xLd e h) fun f=>
 vb (xLenS f) fun g=>
 vb (xCmp ilt b g) fun i=>
 vb (gd (isB true i) (some b)) fun j=>
 vb (gd (isB true i) (xCmp ieq j (vN 0))) fun k=>
 vb (gd (isB true i) (some k)) fun l=>
 vb (gd (isB false l) (xFld 0 a)) fun m=>
 vb (gd (isB false l) (xLd m h)) fun o=>
 vb (gd (isB false l) (xCmp ile o (vN 3))) fun p=>
 vb (gd (isB true i) (xPick l tt p)) fun q=>
 vb (xPick i q ff) fun r=>
 vb (gd (isB true r) (some c)) fun s=>
 vb (gd (isB true r) (xCmp ile s (vN 150))) fun t=>
 vb (xPick r t ff) fun v=>
 bite v (F53_0 n cl a b c d h) (some (c,h))
def F53_2(n:Nat)(cl:CL)(a:Kt)(b:List Value)(h:PH):R:=
 u3 b fun c d e=>F53_1 n cl c e d a h
def F53_3(n:Nat)(cl:CL)(a:Value)(h:PH):R:=
 vb (xFld 0 a) fun b=>
 vb (xLd b h) fun c=>
 vb (xCmp ilt c (vN 2)) fun d=>
 vb (gd (isB false d) (xFld 0 a)) fun e=>
 vb (gd (isB false d) (xLd e h)) fun f=>
 vb (gd (isB false d) (xCmp (fun x y=>ilt y x) f (vN 6))) fun g=>
 vb (xPick d tt g) fun i=>
 bite i (some ((vN 0),h)) (lp n (F53_2 n cl) [a,(vN 0),(vN 0)] h)
def F53(n:Nat)(cl:CL)(a:Value)(h:PH):R:=
 hb (xBox a h) fun b h=>
 vb (xFld 0 b) fun c=>
 vb (xLd c h) fun d=>
 vb (xCmp ieq d (vN 1)) fun e=>
 bite e (some ((vN 1),h)) (F53_3 n cl b h)
theorem S53:OkF Try.prog 53 (A1 (F53 n cl)):=exA1 n ⟨[53],[],[(7,[1,3,4])],[],[],[],[],[]⟩ hcl hmx Try.func53 (by kernel_rfl) fun _ _=>by kernel_rfl
def F25_0(n:Nat)(cl:CL)(a:Value)(b:Kt)(c d:Value)(h:PH):R:=
 vb (xAri Int.add a (vN 1)) fun e=>
 b [c,d,e] h
def F25_1(n:Nat)(cl:CL)(a:Kt)(b:List Value)(h:PH):R:=
 u3 b fun c d e=>F25_0 n cl e a c d h
def F25_2(n:Nat)(cl:CL)(a b c:Value)(h:PH)(d:Kt):R:=
 vb (xFld 5 a) fun e=>
 vb (xLd e h) fun f=>
 vb (xIdxS 6 f b) fun g=>
 vb (xLdA 6 g h) fun i=>
 vb (pcall (cl 25 [i] (h.fzn))) fun j=>
 vb (xCmp (fun x y=>ilt y x) j c) fun k=>
 bite k (d [a,j,b] h) (d [a,c,b] h)
def F25_3(n:Nat)(cl:CL)(a:Value)(h:PH):R:=
 vb (xAri Int.add a (vN 1)) fun b=>
 some (b,h)
def F25_4(n:Nat)(cl:CL)(a b:Value)(c:Kt)(d:Value)(h:PH):R:=
 vb (xFld 5 a) fun e=>
 vb (xLd e h) fun f=>
 vb (xLenS f) fun g=>
 vb (xCmp ilt b g) fun i=>
 vb (gd (isB true i) (xFld 0 a)) fun j=>
 vb (gd (isB true i) (xLd j h)) fun k=>
 vb (gd (isB true i) (xCmp (fun x y=>ile y x) k (vN 2))) fun l=>
 vb (xPick i l ff) fun m=>
 vb (gd (isB true m) (xFld 0 a)) fun o=>
 vb (gd (isB true m) (xLd o h)) fun p=>
 vb (gd (isB true m) (xCmp ile p (vN 6))) fun q=>
 vb (xPick m q ff) fun r=>
 vb (gd (isB true r) (some b)) fun s=>
 vb (gd (isB true r) (xCmp ieq s (vN 0))) fun t=>
 vb (gd (isB true r) (some t)) fun v=>
 vb (gd (isB false v) (xFld 0 a)) fun w=>
 vb (gd (isB false v) (xLd w h)) fun z=>
 vb (gd (isB false v) (xCmp ile z (vN 3))) fun a1=>
 vb (gd (isB true r) (xPick v tt a1)) fun b1=>
 vb (xPick r b1 ff) fun c1=>
 bite c1 (jn (F25_1 n cl c) (F25_2 n cl a b d h)) (F25_3 n cl d h)
def F25_5(n:Nat)(cl:CL)(a:Kt)(b:List Value)(h:PH):R:=
 u3 b fun c d e=>F25_4 n cl c e a d h
def F25(n:Nat)(cl:CL)(a:Value)(h:PH):R:=
 hb (xBox a h) fun b h=>
 lp n (F25_5 n cl) [b,(vN 0),(vN 0)] h
theorem S25:OkF Try.prog 25 (A1 (F25 n cl)):=exA1 n ⟨[25],[],[(3,[1,3,4]),(4,[1,3,4])],[],[],[],[],[]⟩ hcl hmx Try.func25 (by kernel_rfl) fun _ _=>by kernel_rfl
def F45_0(n:Nat)(cl:CL)(a b c:Value)(d:Kt)(e f:Value)(h:PH):R:=
 vb (xIdxS 1 a b) fun g=>
 vb (xLd g h) fun i=>
 hb (xBS 1 (bsRow Try.prog 28 1 [(0,i)]) h) fun j h=>
 hb (xApp (appInfo Try.prog #[28,28]) c j h) fun k h=>
 vb (xAri Int.add b (vN 1)) fun l=>
 d [a,e,k,l,f] h
def F45_1(n:Nat)(cl:CL)(a b c:Value)(d:Kt)(e f:Value)(h:PH):R:=
 vb (xIdxS 1 a b) fun g=>
 vb (xLd g h) fun i=>
 hb (xBS 1 (bsRow Try.prog 28 1 [(0,i)]) h) fun j h=>
 hb (xApp (appInfo Try.prog #[28,28]) c j h) fun k h=>
 vb (xAri Int.add b (vN 1)) fun l=>
 d [e,a,k,f,l] h
def F45_2(n:Nat)(cl:CL)(a b c d:Value)(e:Kt)(f:Value)(h:PH):R:=
 vb (xIdxS 1 a b) fun g=>
 vb (xLd g h) fun i=>
 hb (xBS 1 (bsRow Try.prog 28 1 [(0,i)]) h) fun j h=>
 hb (xApp (appInfo Try.prog #[28,28]) c j h) fun k h=>
 vb (xAri Int.add b (vN 1)) fun l=>
 vb (xAri Int.add d (vN 1)) fun m=>
 e [a,f,k,l,m] h
def F45_3(n:Nat)(cl:CL)(a b c d e:Value)(f:Kt)(h:PH):R:=
 vb (xLenS a) fun g=>
 vb (xCmp (fun x y=>ile y x) b g) fun i=>
 vb (gd (isB false i) (some c)) fun j=>
 vb (gd (isB false i) (some d)) fun k=>
 vb (gd (isB false i) (xIdxS 1 j k)) fun l=>
 vb (gd (isB false i) (some a)) fun m=>
 vb (gd (isB false i) (some b)) fun o=>
 vb (gd (isB false i) (xIdxS 1 m o)) fun p=>
 vb (gd (isB false i) (xLd l h)) fun q=>
 vb (gd (isB false i) (xLd p h)) fun r=>
 vb (gd (isB false i) (xCmp ilt q r)) fun s=>
 vb (xPick i tt s) fun t=>
 bite t (F45_1 n cl c d e f a b h) (F45_2 n cl a b e d f c h)
def F45_4(n:Nat)(cl:CL)(a b c d e:Value)(f:Kt)(h:PH):R:=
 vb (xLenS a) fun g=>
 vb (xCmp (fun x y=>ile y x) b g) fun i=>
 vb (gd (isB false i) (some c)) fun j=>
 vb (gd (isB false i) (some d)) fun k=>
 vb (gd (isB false i) (xLenS k)) fun l=>
 vb (gd (isB false i) (xCmp ilt j l)) fun m=>
 vb (gd (isB false i) (some m)) fun o=>
 vb (gd (isB true o) (some d)) fun p=>
 vb (gd (isB true o) (some c)) fun q=>
 vb (gd (isB true o) (xIdxS 1 p q)) fun r=>
 vb (gd (isB true o) (some a)) fun s=>
 vb (gd (isB true o) (some b)) fun t=>
 vb (gd (isB true o) (xIdxS 1 s t)) fun v=>
 vb (gd (isB true o) (xLd r h)) fun w=>
 vb (gd (isB true o) (xLd v h)) fun z=>
 vb (gd (isB true o) (xCmp ilt w z)) fun a1=>
 vb (gd (isB false i) (xPick o a1 ff)) fun b1=>
 vb (xPick i tt b1) fun c1=>
 bite c1 (F45_0 n cl d c e f a b h) (F45_3 n cl d c a b e f h)
def F45_5(n:Nat)(cl:CL)(a b c d e:Value)(f:Kt)(h:PH):R:=
 vb (xLenS a) fun g=>
 vb (xCmp ilt b g) fun i=>
 vb (gd (isB false i) (some c)) fun j=>
 vb (gd (isB false i) (some d)) fun k=>
 vb (gd (isB false i) (xLenS k)) fun l=>
 vb (gd (isB false i) (xCmp ilt j l)) fun m=>
 vb (xPick i tt m) fun o=>
 bite o (F45_4 n cl d c b a e f h) (some (e,h))
def F45_6(n:Nat)(cl:CL)(a:Kt)(b:List Value)(h:PH):R:=
 u5 b fun c d e f g=>F45_5 n cl c f g d e a h
def F45(n:Nat)(cl:CL)(a b:Value)(h:PH):R:=
 lp n (F45_6 n cl) [a,b,nils,(vN 0),(vN 0)] h
theorem S45:OkF Try.prog 45 (A2 (F45 n cl)):=exA2 n ⟨[],[],[(4,[0,1,5,6,7])],[(8,[0,1,2,3,4,5,6,7,8,9,10,11,12,14,15,16,13,17,18,19,20,21]),(11,[0,1,2,3,4,5,6,7,9,10,11,8,12,13,14,15])],[],[],[],[]⟩ hcl hmx Try.func45 (by kernel_rfl) fun _ _ _=>by kernel_rfl
def F81_0(n:Nat)(cl:CL)(a b c d:Value)(e:Kt)(h:PH):R:=
 vb (xNil a) fun f=>
 vb (xFld 0 f) fun g=>
 vb (xFld 4 g) fun i=>
 vb (xIdxS 1 b c) fun j=>
 vb (xNil a) fun k=>
 vb (xFld 0 k) fun l=>
 vb (xFld 4 l) fun m=>
 vb (xIdxS 1 b c) fun o=>
 vb (xLd i h) fun p=>
 vb (xLd j h) fun q=>
 vb (xLd m h) fun r=>
 vb (xLd o h) fun s=>
 vb (xIdxS 1 r s) fun t=>
 vb (xLd t h) fun v=>
 hb (fcall h (F45 n cl v d (h.fzn))) fun w h=>
 lchk (xLd i h) p<|
 lchk (xLd j h) q<|
 vb (xIdxS 1 p q) fun z=>
 hb (xSt1 z w h) fun _ h=>
 vb (xAri Int.add c (vN 1)) fun a1=>
 e [a,b,d,a1] h
def F81_1(n:Nat)(cl:CL)(a b c d:Value)(e:Kt)(h:PH):R:=
 vb (xLenS a) fun f=>
 vb (xCmp ilt b f) fun g=>
 bite g (F81_0 n cl c a b d e h) (some (Value.tuple ⟨[]⟩,h))
def F81_2(n:Nat)(cl:CL)(a:Kt)(b:List Value)(h:PH):R:=
 u4 b fun c d e f=>F81_1 n cl d f c e a h
def F81(n:Nat)(cl:CL)(a b c:Value)(h:PH):R:=
 lp n (F81_2 n cl) [a,b,c,(vN 0)] h
theorem S81:OkF Try.prog 81 (A3 (F81 n cl)):=exA3 n ⟨[],[45],[(1,[0,1,2,6])],[(3,[0,1,2,3,5,6,7,9,10,11,12,14,15,16,20,4,8,13,17,18,19,21,22,23])],[(3,[4,8,21])],[],[],[]⟩ (svc_ok (S45 n hcl) hcl) hmx Try.func81 (by kernel_rfl) fun _ _ _ _=>by kernel_rfl
def F54_0(n:Nat)(cl:CL)(a b c:Value)(d:Kt)(e f g:Value)(h:PH):R:=
 vb (xFld 0 a) fun i=>
 vb (xLd i h) fun j=>
 vb (gd (isB true j) (xFld 0 b)) fun k=>
 vb (gd (isB true j) (xLd k h)) fun l=>
 vb (xPick j l ff) fun m=>
 vb (xFld 0 a) fun o=>
 hb (xSt1 o m h) fun _ h=>
 vb (xAri Int.add c (vN 1)) fun p=>
 d [e,f,g,a,p] h
def F54_1(n:Nat)(cl:CL)(a b:Value)(c:Kt)(d e f g:Value)(h:PH):R:=
 vb (xFld 2 a) fun i=>
 vb (xLd i h) fun j=>
 vb (xFld 2 b) fun k=>
 vb (xLd k h) fun l=>
 hb (fcall h (F45 n cl j l (h.fzn))) fun m h=>
 vb (xFld 2 a) fun o=>
 hb (xSt1 o m h) fun _ h=>
 c [d,e,f,a,g,b] h
def F54_2(n:Nat)(cl:CL)(a b:Value)(c:Kt)(d e f g:Value)(h:PH):R:=
 vb (xFld 2 a) fun i=>
 vb (xLd i h) fun j=>
 vb (xFld 2 b) fun k=>
 hb (xSt1 k j h) fun _ h=>
 c [d,e,f,b,g,a] h
def F54_3(n:Nat)(cl:CL)(a:Kt)(b:List Value)(h:PH):R:=
 u6 b fun c d e f g i=>F54_0 n cl f i g a c d e h
def F54_4(n:Nat)(cl:CL)(a b c d e f:Value)(h:PH)(g:Kt):R:=
 vb (xFld 0 a) fun i=>
 vb (xLd i h) fun j=>
 bite j (F54_1 n cl b a g c d e f h) (F54_2 n cl a b g c d e f h)
def F54_5(n:Nat)(cl:CL)(a b:Value)(c:Kt)(d e f g:Value)(h:PH):R:=
 vb (xFld 1 a) fun i=>
 vb (xLd i h) fun j=>
 vb (xFld 1 b) fun k=>
 vb (xLd k h) fun l=>
 hb (fcall h (F45 n cl j l (h.fzn))) fun m h=>
 vb (xFld 1 a) fun o=>
 hb (xSt1 o m h) fun _ h=>
 c [d,e,f,a,g,b] h
def F54_6(n:Nat)(cl:CL)(a:Kt)(b:List Value)(h:PH):R:=
 u6 b fun c d e f g i=>jn (F54_3 n cl a) (F54_4 n cl i f c d e g h)
def F54_7(n:Nat)(cl:CL)(a b c d e f:Value)(h:PH)(g:Kt):R:=
 vb (xFld 0 a) fun i=>
 vb (xLd i h) fun j=>
 bite j (F54_5 n cl a b g c d e f h) (g [c,d,e,a,f,b] h)
def F54_8(n:Nat)(cl:CL)(a b c d:Value)(e:Kt)(f:Value)(h:PH):R:=
 vb (xFld 5 a) fun g=>
 vb (xLd g h) fun i=>
 vb (xIdxS 6 i b) fun j=>
 vb (xLdA 6 j h) fun k=>
 hb (cl 54 [c,k] h) fun l h=>
 hb (xAlloc (zcells Try.prog 112) h) fun m h=>
 hb (xStA 3 m l h) fun _ h=>
 vb (xFld 2 d) fun o=>
 vb (xLd o h) fun p=>
 vb (xFld 1 m) fun q=>
 vb (xLd q h) fun r=>
 hb (F81 n cl c p r h) fun s h=>
 jn (F54_6 n cl e) (F54_7 n cl d m c a f b h)
def F54_9(n:Nat)(cl:CL)(a b:Value)(h:PH):R:=
 vb (xLdA 3 a h) fun c=>
 hb (xStA 3 b c h) fun _ h=>
 vb (xLdA 3 b h) fun d=>some (d,h)
def F54_10(n:Nat)(cl:CL)(a b c d:Value)(e:Kt)(f:Value)(h:PH):R:=
 vb (xFld 5 a) fun g=>
 vb (xLd g h) fun i=>
 vb (xLenS i) fun j=>
 vb (xCmp ilt b j) fun k=>
 bite k (F54_8 n cl a b c d e f h) (F54_9 n cl d f h)
def F54_11(n:Nat)(cl:CL)(a:Kt)(b:List Value)(h:PH):R:=
 u5 b fun c d e f g=>F54_10 n cl d g c f a e h
def F54_12(n:Nat)(cl:CL)(a b c:Value)(h:PH):R:=
 vb (abuild Try.prog 112 [(0,tt)]) fun d=>
 hb (xAlloc (zcells Try.prog 112) h) fun e h=>
 hb (xStA 3 e d h) fun _ h=>
 lp n (F54_11 n cl) [a,b,c,e,(vN 0)] h
def F54_13(n:Nat)(cl:CL)(a b c d:Value)(e:Kt)(f:Value)(h:PH):R:=
 vb (xFld 5 a) fun g=>
 vb (xLd g h) fun i=>
 vb (xIdxS 6 i b) fun j=>
 vb (xLdA 6 j h) fun k=>
 hb (cl 54 [c,k] h) fun l h=>
 hb (xAlloc (zcells Try.prog 112) h) fun m h=>
 hb (xStA 3 m l h) fun _ h=>
 vb (xFld 1 d) fun o=>
 vb (xLd o h) fun p=>
 vb (xFld 1 m) fun q=>
 vb (xLd q h) fun r=>
 hb (fcall h (F45 n cl p r (h.fzn))) fun s h=>
 vb (xFld 1 d) fun t=>
 hb (xSt1 t s h) fun _ h=>
 vb (xFld 2 d) fun v=>
 vb (xLd v h) fun w=>
 vb (xFld 2 m) fun z=>
 vb (xLd z h) fun a1=>
 hb (fcall h (F45 n cl w a1 (h.fzn))) fun b1 h=>
 vb (xFld 2 d) fun c1=>
 hb (xSt1 c1 b1 h) fun _ h=>
 vb (xFld 0 d) fun d1=>
 vb (xLd d1 h) fun e1=>
 vb (gd (isB false e1) (xFld 0 m)) fun f1=>
 vb (gd (isB false e1) (xLd f1 h)) fun g1=>
 vb (xPick e1 tt g1) fun i1=>
 vb (xFld 0 d) fun j1=>
 hb (xSt1 j1 i1 h) fun _ h=>
 vb (xAri Int.add b (vN 1)) fun k1=>
 e [c,a,f,d,k1] h
def F54_14(n:Nat)(cl:CL)(a b:Value)(h:PH):R:=
 vb (xLdA 3 a h) fun c=>
 hb (xStA 3 b c h) fun _ h=>
 vb (xLdA 3 b h) fun d=>some (d,h)
def F54_15(n:Nat)(cl:CL)(a b c d:Value)(e:Kt)(f:Value)(h:PH):R:=
 vb (xFld 5 a) fun g=>
 vb (xLd g h) fun i=>
 vb (xLenS i) fun j=>
 vb (xCmp ilt b j) fun k=>
 bite k (F54_13 n cl a b c d e f h) (F54_14 n cl d f h)
def F54_16(n:Nat)(cl:CL)(a:Kt)(b:List Value)(h:PH):R:=
 u5 b fun c d e f g=>F54_15 n cl d g c f a e h
def F54_17(n:Nat)(cl:CL)(a b c:Value)(h:PH):R:=
 hb (xAlloc (zcells Try.prog 112) h) fun d h=>
 lp n (F54_16 n cl) [a,b,c,d,(vN 0)] h
def F54_18(n:Nat)(cl:CL)(a:Value)(h:PH):R:=
 vb (abuild Try.prog 112 [(0,tt)]) fun b=>
 hb (xStA 3 a b h) fun _ h=>
 vb (xLdA 3 a h) fun c=>some (c,h)
def F54_19(n:Nat)(cl:CL)(a b:Value)(h:PH):R:=
 vb (xLdA 3 a h) fun c=>
 hb (xStA 3 b c h) fun _ h=>
 vb (xLdA 3 b h) fun d=>some (d,h)
def F54_20(n:Nat)(cl:CL)(a:Value)(b:Kt)(c:Value)(h:PH):R:=
 vb (xFld 0 a) fun d=>
 hb (xSt1 d tt h) fun _ h=>
 b [c,a] h
def F54_21(n:Nat)(cl:CL)(a b c:Value)(h:PH)(d:Kt):R:=
 vb (xFld 0 a) fun e=>
 vb (xLd e h) fun f=>
 vb (xCmp ine f (vN 5)) fun g=>
 bite g (F54_20 n cl b d c h) (d [c,b] h)
def F54_22(n:Nat)(cl:CL)(a b c:Value)(h:PH):R:=
 jn (fun d h=>ucons d fun e f=>ucons f fun g i=>F54_19 n cl g e h) (F54_21 n cl a b c h)
def F54_23(n:Nat)(cl:CL)(a b:Value)(c:Kt)(d e:Value)(h:PH):R:=
 vb (xFld 2 a) fun f=>
 vb (xLd f h) fun g=>
 vb (xFld 1 a) fun i=>
 vb (xLd i h) fun j=>
 hb (F81 n cl b g j h) fun k h=>
 c [d,e,a] h
def F54_24(n:Nat)(cl:CL)(a:List Value)(h:PH):R:=
 u3 a fun b c d=>F54_22 n cl b d c h
def F54_25(n:Nat)(cl:CL)(a b c d:Value)(h:PH)(e:Kt):R:=
 vb (xFld 0 a) fun f=>
 vb (xLd f h) fun g=>
 vb (xCmp ine g (vN 6)) fun i=>
 bite i (F54_23 n cl b c e a d h) (e [a,d,b] h)
def F54_26(n:Nat)(cl:CL)(a b c:Value)(h:PH):R:=
 vb (xFld 5 a) fun d=>
 vb (xLd d h) fun e=>
 vb (xIdxS 6 e (vN 0)) fun f=>
 vb (xLdA 6 f h) fun g=>
 hb (cl 54 [b,g] h) fun i h=>
 hb (xAlloc (zcells Try.prog 112) h) fun j h=>
 hb (xStA 3 j i h) fun _ h=>
 jn (F54_24 n cl) (F54_25 n cl a j b c h)
def F54_27(n:Nat)(cl:CL)(a b c:Value)(h:PH):R:=
 vb (xFld 5 a) fun d=>
 vb (xLd d h) fun e=>
 vb (xLenS e) fun f=>
 vb (xCmp ieq f (vN 0)) fun g=>
 bite g (F54_18 n cl b h) (F54_26 n cl a c b h)
def F54_28(n:Nat)(cl:CL)(a:Value)(h:PH):R:=
 vb (abuild Try.prog 112 [(0,tt)]) fun b=>
 hb (xStA 3 a b h) fun _ h=>
 vb (xLdA 3 a h) fun c=>some (c,h)
def F54_29(n:Nat)(cl:CL)(a:Value)(b:Kt)(c d e:Value)(h:PH):R:=
 vb (xCmp ieq a (vN 6)) fun f=>
 b [c,d,e,f] h
def F54_30(n:Nat)(cl:CL)(a:Value)(b:Kt)(c d e:Value)(h:PH):R:=
 vb (xCmp ieq a (vN 5)) fun f=>
 bite f (b [c,d,e,f] h) (F54_29 n cl a b c d e h)
def F54_31(n:Nat)(cl:CL)(a:List Value)(h:PH):R:=
 u4 a fun b c d e=>bite e (F54_27 n cl c d b h) (F54_28 n cl d h)
def F54_32(n:Nat)(cl:CL)(a b c d:Value)(h:PH)(e:Kt):R:=
 vb (xCmp ieq a (vN 4)) fun f=>
 bite f (e [b,c,d,f] h) (F54_30 n cl a e b c d h)
def F54_33(n:Nat)(cl:CL)(a b c d:Value)(h:PH):R:=
 vb (xCmp ieq a (vN 3)) fun e=>
 bite e (F54_17 n cl b c d h) (jn (F54_31 n cl) (F54_32 n cl a b c d h))
def F54_34(n:Nat)(cl:CL)(a b c:Value)(h:PH):R:=
 vb (xFld 0 a) fun d=>
 vb (xLd d h) fun e=>
 vb (xCmp ieq e (vN 2)) fun f=>
 bite f (F54_12 n cl b a c h) (F54_33 n cl e b a c h)
def F54_35(n:Nat)(cl:CL)(a b c:Value)(h:PH):R:=
 vb (xNil a) fun d=>
 vb (xFld 0 d) fun e=>
 vb (xFld 0 e) fun f=>
 vb (xLd f h) fun g=>
 vb (xLenS g) fun i=>
 vb (xNil a) fun j=>
 vb (xFld 0 j) fun k=>
 vb (xFld 0 k) fun l=>
 vb (xFld 1 b) fun m=>
 vb (xLd l h) fun o=>
 vb (xLdA 4 m h) fun p=>
 hb (xBS 1 (bsRow Try.prog 41 1 [(0,p)]) h) fun q h=>
 hb (xApp (appInfo Try.prog #[41,41]) o q h) fun r h=>
 vb (xNil a) fun s=>
 vb (xFld 0 s) fun t=>
 vb (xFld 0 t) fun v=>
 hb (xSt1 v r h) fun _ h=>
 vb (xNil a) fun w=>
 vb (xFld 0 w) fun z=>
 vb (xFld 4 z) fun a1=>
 vb (xLd a1 h) fun b1=>
 hb (xBS 1 (bsRow Try.prog 27 1 [(0,nils)]) h) fun c1 h=>
 hb (xApp (appInfo Try.prog #[27,27]) b1 c1 h) fun d1 h=>
 vb (xNil a) fun e1=>
 vb (xFld 0 e1) fun f1=>
 vb (xFld 4 f1) fun g1=>
 hb (xSt1 g1 d1 h) fun _ h=>
 hb (xBS 1 (bsRow Try.prog 28 1 [(0,i)]) h) fun i1 h=>
 hb (xBS 1 (bsRow Try.prog 28 1 [(0,i)]) h) fun j1 h=>
 vb (abuild Try.prog 112 [(1,i1),(2,j1)]) fun k1=>
 hb (xStA 3 c k1 h) fun _ h=>
 vb (xLdA 3 c h) fun l1=>some (l1,h)
def F54_36(n:Nat)(cl:CL)(a:Value)(h:PH):R:=
 vb (abuild Try.prog 112 [(0,tt)]) fun b=>
 hb (xStA 3 a b h) fun _ h=>
 vb (xLdA 3 a h) fun c=>some (c,h)
def F54_37(n:Nat)(cl:CL)(a b:Value)(c:Kt)(d:Value)(h:PH):R:=
 vb (xFld 5 a) fun e=>
 vb (xLd e h) fun f=>
 vb (xLenS f) fun g=>
 vb (xCmp ieq g (vN 0)) fun i=>
 bite i (F54_36 n cl b h) (c [d,a,b] h)
def F54_38(n:Nat)(cl:CL)(a:Value)(b:Kt)(c d e:Value)(h:PH):R:=
 vb (xCmp ieq a (vN 3)) fun f=>
 b [c,d,e,f] h
def F54_39(n:Nat)(cl:CL)(a:Kt)(b:List Value)(h:PH):R:=
 u4 b fun c d e f=>bite f (F54_37 n cl d e a c h) (a [c,d,e] h)
def F54_40(n:Nat)(cl:CL)(a b c d:Value)(h:PH)(e:Kt):R:=
 vb (xCmp ieq a (vN 2)) fun f=>
 bite f (e [b,c,d,f] h) (F54_38 n cl a e b c d h)
def F54_41(n:Nat)(cl:CL)(a b c:Value)(h:PH)(d:Kt):R:=
 vb (xFld 0 a) fun e=>
 vb (xLd e h) fun f=>
 vb (xCmp ieq f (vN 1)) fun g=>
 bite g (F54_35 n cl b a c h) (jn (F54_39 n cl d) (F54_40 n cl f b a c h))
def F54(n:Nat)(cl:CL)(a b:Value)(h:PH):R:=
 hb (xBox b h) fun c h=>
 hb (xAlloc (zcells Try.prog 112) h) fun d h=>
 jn (fun e h=>u3 e fun f g i=>F54_34 n cl g f i h) (F54_41 n cl c a d h)
theorem S54:OkF Try.prog 54 (A2 (F54 n cl)):=exA2 n ⟨[],[45],[(9,[0,3,4,52]),(11,[0,3,4]),(15,[0,3,4,6,7]),(21,[0,3,4,6,7,8]),(24,[0,3,4,6,7,8]),(29,[0,3,4,9,10]),(39,[0,3,4,148]),(44,[3,4,12]),(46,[4,12])],[(4,[0,1,2,3,4,6,5,7,8,9,10,11,12,13])],[],[],[],[]⟩ (svc_ok (S81 n hcl) (svc_ok (S45 n hcl) hcl)) hmx Try.func54 (by kernel_rfl) fun _ _ _=>by kernel_rfl
def F27_0(n:Nat)(cl:CL)(a:Value)(h:PH):R:=
 vb (abuild Try.prog 43 []) fun b=>
 hb (xStA 5 a b h) fun _ h=>
 vb (xLdA 5 a h) fun c=>some (Value.tuple ⟨[c,(vN 3)]⟩,h)
def F27_1(n:Nat)(cl:CL)(a:Value)(h:PH):R:=
 vb (abuild Try.prog 43 []) fun b=>
 hb (xStA 5 a b h) fun _ h=>
 vb (xLdA 5 a h) fun c=>some (Value.tuple ⟨[c,(vN 4)]⟩,h)
def F27_2(n:Nat)(cl:CL)(a b:Value)(h:PH):R:=
 vb (abuild Try.prog 110 []) fun c=>
 hb (xBox c h) fun d h=>
 vb (xLdA 6 a h) fun e=>
 hb (cl 54 [d,e] h) fun f h=>
 hb (xAlloc (zcells Try.prog 112) h) fun g h=>
 hb (xStA 3 g f h) fun _ h=>
 vb (xFld 0 g) fun i=>
 vb (xLd i h) fun j=>
 vb (xNil d) fun k=>
 vb (xFld 0 k) fun l=>
 vb (xFld 1 l) fun m=>
 hb (xSt1 m j h) fun _ h=>
 vb (xFld 1 g) fun o=>
 vb (xLd o h) fun p=>
 vb (xNil d) fun q=>
 vb (xFld 0 q) fun r=>
 vb (xFld 2 r) fun s=>
 hb (xSt1 s p h) fun _ h=>
 vb (xFld 2 g) fun t=>
 vb (xLd t h) fun v=>
 vb (xNil d) fun w=>
 vb (xFld 0 w) fun z=>
 vb (xFld 3 z) fun a1=>
 hb (xSt1 a1 v h) fun _ h=>
 vb (xNil d) fun b1=>
 vb (xFld 0 b1) fun c1=>
 vb (xLdA 5 c1 h) fun d1=>
 hb (xStA 5 b d1 h) fun _ h=>
 vb (xLdA 5 b h) fun e1=>some (Value.tuple ⟨[e1,(vN 0)]⟩,h)
def F27_3(n:Nat)(cl:CL)(a b:Value)(h:PH):R:=
 vb (xLdA 6 a h) fun c=>
 vb (pcall (cl 25 [c] (h.fzn))) fun d=>
 vb (xCmp (fun x y=>ilt y x) d (vN 200)) fun e=>
 bite e (F27_1 n cl b h) (F27_2 n cl a b h)
def F27(n:Nat)(cl:CL)(a:Value)(h:PH):R:=
 hb (xBox a h) fun b h=>
 hb (xAlloc (zcells Try.prog 43) h) fun c h=>
 vb (xLdA 6 b h) fun d=>
 vb (pcall (cl 53 [d] (h.fzn))) fun e=>
 vb (xCmp (fun x y=>ilt y x) e (vN 150)) fun f=>
 bite f (F27_0 n cl c h) (F27_3 n cl b c h)
theorem S27:OkF Try.prog 27 (A1 (F27 n cl)):=exA1 n ⟨[25,53],[],[],[],[],[],[],[]⟩ hcl hmx Try.func27 (by kernel_rfl) fun _ _=>by kernel_rfl
def F46(n:Nat)(cl:CL)(a b:Value)(h:PH):R:=
 hb (xBox a h) fun c h=>
 vb (xCmp (fun x y=>ile y x) b (vN 0)) fun d=>
 vb (gd (isB true d) (some b)) fun e=>
 vb (gd (isB true d) (xFld 0 c)) fun f=>
 vb (gd (isB true d) (xLd f h)) fun g=>
 vb (gd (isB true d) (xLenS g)) fun i=>
 vb (gd (isB true d) (xCmp ilt e i)) fun j=>
 vb (xPick d j ff) fun k=>
 vb (gd (isB true k) (some b)) fun l=>
 vb (gd (isB true k) (xFld 1 c)) fun m=>
 vb (gd (isB true k) (xLd m h)) fun o=>
 vb (gd (isB true k) (xLenS o)) fun p=>
 vb (gd (isB true k) (xCmp ilt l p)) fun q=>
 vb (xPick k q ff) fun r=>
 some (r,h)
theorem S46:OkF Try.prog 46 (A2 (F46 n cl)):=exA2 n ⟨[],[],[],[],[],[],[],[]⟩ hcl hmx Try.func46 (by kernel_rfl) fun _ _ _=>by kernel_rfl
def F47_0(n:Nat)(cl:CL)(a b c:Value)(h:PH):R:=
 vb (xFld 0 a) fun d=>
 vb (xLd d h) fun e=>
 vb (xIdxS 1 e b) fun f=>
 vb (xLd f h) fun g=>
 vb (xIdxS 1 g c) fun i=>
 vb (xLd i h) fun j=>
 some (j,h)
def F47(n:Nat)(cl:CL)(a b c:Value)(h:PH):R:=
 hb (xBox a h) fun d h=>
 vb (xLdA 2 d h) fun e=>
 vb (pcall (F46 n cl e b (h.fzn))) fun f=>
 vb (xNot f) fun g=>
 vb (gd (isB false g) (some c)) fun i=>
 vb (gd (isB false g) (xConvI .i64 i)) fun j=>
 vb (gd (isB false g) (xFld 0 d)) fun k=>
 vb (gd (isB false g) (some b)) fun l=>
 vb (gd (isB false g) (xLd k h)) fun m=>
 vb (gd (isB false g) (xIdxS 1 m l)) fun o=>
 vb (gd (isB false g) (xLd o h)) fun p=>
 vb (gd (isB false g) (xLenS p)) fun q=>
 vb (gd (isB false g) (xCmp (fun x y=>ile y x) j q)) fun r=>
 vb (xPick g tt r) fun s=>
 vb (gd (isB false s) (xFld 0 d)) fun t=>
 vb (gd (isB false s) (some b)) fun v=>
 vb (gd (isB false s) (some c)) fun w=>
 vb (gd (isB false s) (xLdA 2 d h)) fun z=>
 vb (gd (isB false s) (xLd t h)) fun a1=>
 vb (gd (isB false s) (xIdxS 1 a1 v)) fun b1=>
 vb (gd (isB false s) (xLd b1 h)) fun c1=>
 vb (gd (isB false s) (xIdxS 1 c1 w)) fun d1=>
 vb (gd (isB false s) (xLd d1 h)) fun e1=>
 vb (gd (isB false s) (pcall (F46 n cl z e1 (h.fzn)))) fun f1=>
 vb (gd (isB false s) (xNot f1)) fun g1=>
 vb (xPick s tt g1) fun i1=>
 bite i1 (some ((vM 0),h)) (F47_0 n cl d b c h)
theorem S47:OkF Try.prog 47 (A3 (F47 n cl)):=exA3 n ⟨[46],[],[],[(1,[1,0,2,3,4,5,6,7,9,8,10,11,12,13,14,15,17,19,22,16,18,20,21,23,24,25,26,27])],[],[],[],[]⟩ (svc_ok (S46 n hcl) hcl) hmx Try.func47 (by kernel_rfl) fun _ _ _ _=>by kernel_rfl
def F48_0(n:Nat)(cl:CL)(a b:Value)(h:PH):R:=
 vb (xFld 1 a) fun c=>
 vb (xLd c h) fun d=>
 vb (xIdxS 1 d b) fun e=>
 vb (xLd e h) fun f=>
 vb ((if plainV.plainVs [(vM 0),f]then prun Try.prog (Builtin.max_ #[3,3] 3 ⟨[(vM 0),f]⟩)else none)) fun g=>
 some (g,h)
def F48(n:Nat)(cl:CL)(a b:Value)(h:PH):R:=
 hb (xBox a h) fun c h=>
 vb (xLdA 2 c h) fun d=>
 vb (pcall (F46 n cl d b (h.fzn))) fun e=>
 vb (xNot e) fun f=>
 bite f (some ((vM 0),h)) (F48_0 n cl c b h)
theorem S48:OkF Try.prog 48 (A2 (F48 n cl)):=exA2 n ⟨[46],[],[],[],[],[],[],[]⟩ (svc_ok (S46 n hcl) hcl) hmx Try.func48 (by kernel_rfl) fun _ _ _=>by kernel_rfl
def F20_0(n:Nat)(cl:CL)(a:Value)(b:Kt)(c d e f:Value)(h:PH):R:=
 vb (xAri Int.add a (vN 1)) fun g=>
 b [c,d,e,f,g] h
def F20_1(n:Nat)(cl:CL)(a b c d:Value)(e:Kt)(f:Value)(h:PH):R:=
 vb (xIdxS 1 a b) fun g=>
 vb (xLd g h) fun i=>
 vb (xLdA 2 c h) fun j=>
 vb (pcall (F47 n cl j d i (h.fzn))) fun k=>
 vb (xCmp ieq k (vM 0)) fun l=>
 bite l (some (Value.tuple ⟨[(vM 0),ff]⟩,h)) (F20_0 n cl b e c k a f h)
def F20_2(n:Nat)(cl:CL)(a b:Value)(h:PH):R:=
 vb (xLdA 2 a h) fun c=>
 vb (pcall (F48 n cl c b (h.fzn))) fun d=>
 some (Value.tuple ⟨[d,tt]⟩,h)
def F20_3(n:Nat)(cl:CL)(a b c d e:Value)(f:Kt)(h:PH):R:=
 vb (xCmp ilt a b) fun g=>
 bite g (F20_1 n cl c a d e f b h) (F20_2 n cl d e h)
def F20_4(n:Nat)(cl:CL)(a:Kt)(b:List Value)(h:PH):R:=
 u5 b fun c d e f g=>F20_3 n cl g f e c d a h
def F20_5(n:Nat)(cl:CL)(a b:Value)(h:PH):R:=
 vb (xLenS a) fun c=>
 lp n (F20_4 n cl) [b,(vN 0),a,c,(vN 0)] h
def F20(n:Nat)(cl:CL)(a b:Value)(h:PH):R:=
 hb (xBox a h) fun c h=>
 vb (xLdA 2 c h) fun d=>
 vb (pcall (F46 n cl d (vN 0) (h.fzn))) fun e=>
 vb (xNot e) fun f=>
 bite f (some (Value.tuple ⟨[(vM 0),ff]⟩,h)) (F20_5 n cl b c h)
theorem S20:OkF Try.prog 20 (A2 (F20 n cl)):=exA2 n ⟨[46,47,48],[],[(5,[2,6,12,13,14])],[],[],[],[],[]⟩ (svc_ok (S46 n hcl) (svc_ok (S47 n hcl) (svc_ok (S48 n hcl) hcl))) hmx Try.func20 (by kernel_rfl) fun _ _ _=>by kernel_rfl
def F18(n:Nat)(cl:CL)(a:Value)(h:PH):R:=
 some (a,h)
theorem S18:OkF Try.prog 18 (A1 (F18 n cl)):=exA1 n ⟨[],[],[],[],[],[],[],[]⟩ hcl hmx Try.func18 (by kernel_rfl) fun _ _=>by kernel_rfl
def F13(n:Nat)(cl:CL)(h:PH):R:=
 hb (F16 n cl nils h) fun a h=>
 vb (xExt 0 a) fun b=>
 vb (xExt 1 a) fun c=>
 hb (xAlloc (zcells Try.prog 30) h) fun d h=>
 hb (xStA 2 d b h) fun _ h=>
 hb (fcall h (F30 n cl (Value.string {data:= #[97]}) (h.fzn))) fun e h=>
 vb (xExt 0 e) fun f=>
 vb (xExt 1 e) fun g=>
 vb (xExt 2 e) fun i=>
 hb (xAlloc (zcells Try.prog 57) h) fun j h=>
 hb (xStA 6 j f h) fun _ h=>
 vb (xLdA 6 j h) fun k=>
 hb (F27 n cl k h) fun l h=>
 vb (xExt 0 l) fun m=>
 vb (xExt 1 l) fun o=>
 hb (xAlloc (zcells Try.prog 43) h) fun p h=>
 hb (xStA 5 p m h) fun _ h=>
 vb (xLdA 5 p h) fun q=>
 hb (xBS 1 (bsRow Try.prog 24 1 [(0,q)]) h) fun r h=>
 hb (F16 n cl r h) fun s h=>
 vb (xExt 0 s) fun t=>
 vb (xExt 1 s) fun v=>
 hb (xAlloc (zcells Try.prog 30) h) fun w h=>
 hb (xStA 2 w t h) fun _ h=>
 vb (xLdA 2 w h) fun z=>
 hb (xBS 1 (bsRow Try.prog 39 1 [(0,(Value.int .u8 (.ofNat 97)))]) h) fun a1 h=>
 hb (xMark a1 h) fun b1 h=>
 vb (pcall (F20 n cl z b1 (h.fzn))) fun c1=>
 vb (xExt 0 c1) fun d1=>
 vb (xExt 1 c1) fun e1=>
 vb (pcall (F18 n cl c (h.fzn))) fun f1=>
 vb (xCmp ieq f1 (vN 0)) fun g1=>
 vb (gd (isB true g1) (xFld 0 d)) fun i1=>
 vb (gd (isB true g1) (xLd i1 h)) fun j1=>
 vb (gd (isB true g1) (xLenS j1)) fun k1=>
 vb (gd (isB true g1) (xCmp ieq k1 (vN 1))) fun l1=>
 vb (xPick g1 l1 ff) fun m1=>
 vb (gd (isB true m1) (some v)) fun o1=>
 vb (gd (isB true m1) (pcall (F18 n cl o1 (h.fzn)))) fun p1=>
 vb (gd (isB true m1) (xCmp ieq p1 (vN 0))) fun q1=>
 vb (xPick m1 q1 ff) fun r1=>
 vb (gd (isB true r1) (xFld 0 w)) fun s1=>
 vb (gd (isB true r1) (xLd s1 h)) fun t1=>
 vb (gd (isB true r1) (xLenS t1)) fun v1=>
 vb (gd (isB true r1) (xCmp ieq v1 (vN 2))) fun w1=>
 vb (xPick r1 w1 ff) fun z1=>
 vb (gd (isB true z1) (some d1)) fun a2=>
 vb (gd (isB true z1) (xCmp ieq a2 (vN 0))) fun b2=>
 vb (xPick z1 b2 ff) fun c2=>
 vb (gd (isB true c2) (some e1)) fun d2=>
 vb (xPick c2 d2 ff) fun e2=>
 some (e2,h)
theorem S13:OkF Try.prog 13 (A0 (F13 n cl)):=exA0 n ⟨[18,20],[30],[],[],[],[],[],[]⟩ (svc_ok (S16 n hcl) (svc_ok (S30 n hcl) (svc_ok (S27 n hcl) (svc_ok (S20 n hcl) (svc_ok (S18 n hcl) hcl))))) hmx Try.func13 (by kernel_rfl) fun _=>by kernel_rfl
def F14_0(n:Nat)(cl:CL)(a b c:Value)(d:Kt)(e:Value)(h:PH):R:=
 vb (xLdA 5 a h) fun f=>
 hb (xBS 1 (bsRow Try.prog 24 1 [(0,f)]) h) fun g h=>
 hb (xApp (appInfo Try.prog #[24,24]) b g h) fun i h=>
 vb (xAri Int.add c (vN 1)) fun j=>
 d [e,i,j] h
def F14_1(n:Nat)(cl:CL)(a b c:Value)(d:Kt)(e:Value)(h:PH):R:=
 vb (xLdA 6 a h) fun f=>
 hb (F27 n cl f h) fun g h=>
 vb (xExt 0 g) fun i=>
 vb (xExt 1 g) fun j=>
 hb (xAlloc (zcells Try.prog 43) h) fun k h=>
 hb (xStA 5 k i h) fun _ h=>
 vb (xCmp ine j (vN 0)) fun l=>
 bite l (some (Value.tuple ⟨[nils,ff]⟩,h)) (F14_0 n cl k b c d e h)
def F14_2(n:Nat)(cl:CL)(a b c:Value)(d:Kt)(h:PH):R:=
 vb (xIdxS 1 a b) fun e=>
 vb (xLd e h) fun f=>
 hb (fcall h (F30 n cl f (h.fzn))) fun g h=>
 vb (xExt 0 g) fun i=>
 vb (xExt 1 g) fun j=>
 vb (xExt 2 g) fun k=>
 hb (xAlloc (zcells Try.prog 57) h) fun l h=>
 hb (xStA 6 l i h) fun _ h=>
 vb (xCmp ine k (vN 0)) fun m=>
 bite m (some (Value.tuple ⟨[nils,ff]⟩,h)) (F14_1 n cl l c b d a h)
def F14_3(n:Nat)(cl:CL)(a b c:Value)(d:Kt)(h:PH):R:=
 vb (xIdxS 1 a b) fun e=>
 vb (xLd e h) fun f=>
 vb (xLenT f) fun g=>
 vb (xCmp (fun x y=>ilt y x) g (vN 60)) fun i=>
 bite i (some (Value.tuple ⟨[nils,ff]⟩,h)) (F14_2 n cl a b c d h)
def F14_4(n:Nat)(cl:CL)(a b c:Value)(d:Kt)(h:PH):R:=
 vb (xLenS a) fun e=>
 vb (xCmp ilt b e) fun f=>
 bite f (F14_3 n cl a b c d h) (some (Value.tuple ⟨[c,tt]⟩,h))
def F14_5(n:Nat)(cl:CL)(a:Kt)(b:List Value)(h:PH):R:=
 u3 b fun c d e=>F14_4 n cl c e d a h
def F14(n:Nat)(cl:CL)(a:Value)(h:PH):R:=
 lp n (F14_5 n cl) [a,nils,(vN 0)] h
theorem S14:OkF Try.prog 14 (A1 (F14 n cl)):=exA1 n ⟨[],[30],[(3,[0,4,5])],[],[],[],[],[]⟩ (svc_ok (S30 n hcl) (svc_ok (S27 n hcl) hcl)) hmx Try.func14 (by kernel_rfl) fun _ _=>by kernel_rfl
def F44(n:Nat)(cl:CL)(a b:Value)(h:PH):R:=
 hb (xBox a h) fun c h=>
 vb (xShr b (Value.int .u64 (.ofNat 6))) fun d=>
 vb (xIdxA 4 1 c d) fun e=>
 vb (xLd e h) fun f=>
 vb (xBit Nat.land b (Value.int .u8 (.ofNat 63))) fun g=>
 vb (xConvI .u64 g) fun i=>
 vb (xShr f i) fun j=>
 vb (xBit Nat.land j (Value.int .u64 (.ofNat 1))) fun k=>
 vb (xCmp ieq k (Value.int .u64 (.ofNat 1))) fun l=>
 some (l,h)
theorem S44:OkF Try.prog 44 (A2 (F44 n cl)):=exA2 n ⟨[],[],[],[],[],[],[],[]⟩ hcl hmx Try.func44 (by kernel_rfl) fun _ _ _=>by kernel_rfl
def F7_0(n:Nat)(cl:CL)(a b c d:Value)(e:Kt)(f:Value)(h:PH):R:=
 vb (xIdxS 1 a b) fun g=>
 vb (xLd g h) fun i=>
 vb (xBit Nat.land i (vN 7)) fun j=>
 vb (xIdxS 1 c j) fun k=>
 vb (xLd k h) fun l=>
 hb (xBS 1 (bsRow Try.prog 22 1 [(0,l)]) h) fun m h=>
 hb (xApp (appInfo Try.prog #[22,22]) d m h) fun o h=>
 vb (xAri Int.add b (vN 1)) fun p=>
 e [a,f,c,o,p] h
def F7_1(n:Nat)(cl:CL)(a:Value)(b:Kt)(c d e f g i:Value)(h:PH):R:=
 vb (xAri Int.sub a (vN 1)) fun j=>
 b [c,d,e,f,g,i,j] h
def F7_2(n:Nat)(cl:CL)(a:Kt)(b:List Value)(h:PH):R:=
 u7 b fun c d e f g i j=>F7_1 n cl j a c d e f g i h
def F7_3(n:Nat)(cl:CL)(a b c d e f g:Value)(h:PH)(i:Kt):R:=
 vb (xIdxS 1 a b) fun j=>
 vb (xLd j h) fun k=>
 vb (abin Try.prog .eql 9 (Operand.tmp 97) (Operand.tmp 98) k c) fun l=>
 bite l (i [d,a,e,f,c,b,b] h) (i [d,a,e,f,c,g,b] h)
def F7_4(n:Nat)(cl:CL)(a:Value)(b:Kt)(c d e:Value)(h:PH):R:=
 vb (xAri Int.add a (vN 1)) fun f=>
 b [c,d,e,f] h
def F7_5(n:Nat)(cl:CL)(a b c d:Value)(e:Kt)(f g:Value)(h:PH):R:=
 vb (xLdA 2 a h) fun i=>
 hb (xS2B b h) fun j h=>
 vb (pcall (F20 n cl i j (h.fzn))) fun k=>
 vb (xExt 0 k) fun l=>
 vb (xExt 1 k) fun m=>
 vb (xCmp ine l c) fun o=>
 bite o (some (ff,h)) (F7_4 n cl d e f g a h)
def F7_6(n:Nat)(cl:CL)(a:Value)(b:Kt)(c d e f g i:Value)(j:Kt)(h:PH):R:=
 vb (xCmp (fun x y=>ile y x) a (vN 0)) fun k=>
 bite k (jn (F7_2 n cl b) (F7_3 n cl c a d e f g i h)) (F7_5 n cl f d i g j e c h)
def F7_7(n:Nat)(cl:CL)(a b:Kt)(c:List Value)(h:PH):R:=
 u7 c fun d e f g i j k=>F7_6 n cl k b e i d f g j a h
def F7_8(n:Nat)(cl:CL)(a:Value)(b:Kt)(c d e f:Value)(h:PH):R:=
 vb (xLenS a) fun g=>
 vb (xAri Int.sub g (vN 1)) fun i=>
 lp n (F7_7 n cl b) [c,a,d,e,f,(vM 0),i] h
def F7_9(n:Nat)(cl:CL)(a b:Value)(c:Kt)(d e:Value)(h:PH):R:=
 vb (xIdxS 1 a b) fun f=>
 vb (xLd f h) fun g=>
 c [d,a,e,b,g] h
def F7_10(n:Nat)(cl:CL)(a:Kt)(b:List Value)(h:PH):R:=
 u5 b fun c d e f g=>F7_8 n cl d a c e f g h
def F7_11(n:Nat)(cl:CL)(a b c d e:Value)(h:PH)(f:Kt):R:=
 vb (xCmp (fun x y=>ile y x) a (vN 0)) fun g=>
 bite g (F7_9 n cl b a f c d h) (f [c,b,d,a,e] h)
def F7_12(n:Nat)(cl:CL)(a:Value)(b:Kt)(c d e:Value)(h:PH):R:=
 vb (xB2S a h) fun f=>
 jn (F7_10 n cl b) (F7_11 n cl c d a e f h)
def F7_13(n:Nat)(cl:CL)(a b c:Value)(d:Kt)(e:Value)(h:PH):R:=
 vb (xLenS a) fun f=>
 vb (xCmp ilt b f) fun g=>
 bite g (F7_12 n cl c d b a e h) (some (tt,h))
def F7_14(n:Nat)(cl:CL)(a:Kt)(b:List Value)(h:PH):R:=
 u4 b fun c d e f=>F7_13 n cl d f c a e h
def F7_15(n:Nat)(cl:CL)(a b:Value)(h:PH):R:=
 hb (fcall h (F14 n cl a (h.fzn))) fun c h=>
 vb (xExt 0 c) fun d=>
 vb (xExt 1 c) fun e=>
 hb (F16 n cl d h) fun f h=>
 vb (xExt 0 f) fun g=>
 vb (xExt 1 f) fun i=>
 hb (xAlloc (zcells Try.prog 30) h) fun j h=>
 hb (xStA 2 j g h) fun _ h=>
 vb (xNot e) fun k=>
 vb (gd (isB false k) (some i)) fun l=>
 vb (gd (isB false k) (pcall (F18 n cl l (h.fzn)))) fun m=>
 vb (gd (isB false k) (xCmp ine m (vN 0))) fun o=>
 vb (xPick k tt o) fun p=>
 bite p (some (ff,h)) (lp n (F7_14 n cl) [b,a,j,(vM 0)] h)
def F7_16(n:Nat)(cl:CL)(a b c d:Value)(e:Kt)(f:Value)(h:PH):R:=
 vb (xLenS a) fun g=>
 vb (xCmp ilt b g) fun i=>
 bite i (F7_0 n cl a b c d e f h) (F7_15 n cl d f h)
def F7_17(n:Nat)(cl:CL)(a:Kt)(b:List Value)(h:PH):R:=
 u5 b fun c d e f g=>F7_16 n cl c g e f a d h
def F7(n:Nat)(cl:CL)(a b:Value)(h:PH):R:=
 vb (pcall (cl 13 [] (h.fzn))) fun c=>
 hb (xBS 8 (bsRow Try.prog 22 8 [(0,(Value.string {data:= #[105,102]})),(1,(Value.string {data:= #[105,110]})),(2,(Value.string {data:= #[105,110,116]})),(3,(Value.string {data:= #[102,111,114]})),(4,(Value.string {data:= #[102,111,114,109]})),(5,(Value.string {data:= #[105]})),(6,(Value.string {data:= #[102,111]})),(7,(Value.string {data:= #[97]}))]) h) fun d h=>
 vb (xNot c) fun e=>
 vb (gd (isB false e) (some a)) fun f=>
 vb (gd (isB false e) (xLenS f)) fun g=>
 vb (gd (isB false e) (xCmp ilt g (vN 1))) fun i=>
 vb (xPick e tt i) fun j=>
 vb (gd (isB false j) (some a)) fun k=>
 vb (gd (isB false j) (xLenS k)) fun l=>
 vb (gd (isB false j) (xCmp (fun x y=>ilt y x) l (vN 8))) fun m=>
 vb (xPick j tt m) fun o=>
 vb (gd (isB false o) (some b)) fun p=>
 vb (gd (isB false o) (xLenS p)) fun q=>
 vb (gd (isB false o) (xCmp (fun x y=>ilt y x) q (vN 10))) fun r=>
 vb (xPick o tt r) fun s=>
 bite s (some (c,h)) (lp n (F7_17 n cl) [a,b,d,nils,(vN 0)] h)
theorem S7:OkF Try.prog 7 (A2 (F7 n cl)):=exA2 n ⟨[13,18,20],[14],[(7,[0,1,6,7,8]),(15,[1,7,11,13]),(20,[1,7,11,13,14]),(22,[1,7,11,13,14,15,16]),(23,[1,7,11,13,14,15,16])],[],[],[],[],[]⟩ (svc_ok (S14 n hcl) (svc_ok (S16 n hcl) (svc_ok (S18 n hcl) (svc_ok (S20 n hcl) hcl)))) hmx Try.func7 (by kernel_rfl) fun _ _ _=>by kernel_rfl
def F75_0(n:Nat)(cl:CL)(a:Value)(h:PH):R:=
 vb (xFld 5 a) fun b=>
 vb (xLd b h) fun c=>
 some (c,h)
def F75_1(n:Nat)(cl:CL)(a:Value)(h:PH):R:=
 vb (xFld 5 a) fun b=>
 vb (xLd b h) fun c=>
 vb (xFld 5 a) fun d=>
 vb (xLd d h) fun e=>
 vb (xLenS e) fun f=>
 vb ((if plainV.plainVs [(vN 1),f]then prun Try.prog (Builtin.min_ #[3,3] 3 ⟨[(vN 1),f]⟩)else none)) fun g=>
 vb (acut Try.prog 55 c none (some g) none) fun i=>
 some (i,h)
def F75_2(n:Nat)(cl:CL)(a:Value)(b:Kt)(c:Value)(h:PH):R:=
 vb (xCmp ieq a (vN 6)) fun d=>
 b [c,d] h
def F75_3(n:Nat)(cl:CL)(a:Value)(b:Kt)(c:Value)(h:PH):R:=
 vb (xCmp ieq a (vN 5)) fun d=>
 bite d (b [c,d] h) (F75_2 n cl a b c h)
def F75_4(n:Nat)(cl:CL)(a:List Value)(h:PH):R:=
 ucons a fun b c=>ucons c fun d e=>bite d (F75_1 n cl b h) (some (nils,h))
def F75_5(n:Nat)(cl:CL)(a b:Value)(h:PH)(c:Kt):R:=
 vb (xCmp ieq a (vN 4)) fun d=>
 bite d (c [b,d] h) (F75_3 n cl a c b h)
def F75_6(n:Nat)(cl:CL)(a:Value)(b:Kt)(c:Value)(h:PH):R:=
 vb (xCmp ieq a (vN 3)) fun d=>
 b [c,a,d] h
def F75_7(n:Nat)(cl:CL)(a:List Value)(h:PH):R:=
 u3 a fun b c d=>bite d (F75_0 n cl b h) (jn (F75_4 n cl) (F75_5 n cl c b h))
def F75_8(n:Nat)(cl:CL)(a b:Value)(h:PH)(c:Kt):R:=
 vb (xCmp ieq a (vN 2)) fun d=>
 bite d (c [b,a,d] h) (F75_6 n cl a c b h)
def F75(n:Nat)(cl:CL)(a:Value)(h:PH):R:=
 hb (xBox a h) fun b h=>
 vb (xFld 0 b) fun c=>
 vb (xLd c h) fun d=>
 jn (F75_7 n cl) (F75_8 n cl d b h)
theorem S75:OkF Try.prog 75 (A1 (F75 n cl)):=exA1 n ⟨[],[],[(4,[1,4,5]),(8,[1,10])],[],[],[],[],[]⟩ hcl hmx Try.func75 (by kernel_rfl) fun _ _=>by kernel_rfl
def F50_0(n:Nat)(cl:CL)(a b c d:Value)(e:Kt)(f:Value)(h:PH):R:=
 vb (xIdxS 6 a b) fun g=>
 vb (xLdA 6 g h) fun i=>
 hb (xAlloc (zcells Try.prog 57) h) fun j h=>
 hb (xStA 6 j i h) fun _ h=>
 vb (xLdA 6 j h) fun k=>
 vb (pcall (cl 50 [k] (h.fzn))) fun l=>
 vb (xExt 0 l) fun m=>
 vb (xExt 1 l) fun o=>
 vb (xAri Int.add c m) fun p=>
 vb ((if plainV.plainVs [d,o]then prun Try.prog (Builtin.max_ #[3,3] 3 ⟨[d,o]⟩)else none)) fun q=>
 vb (xAri Int.add b (vN 1)) fun r=>
 e [p,q,a,f,r] h
def F50_1(n:Nat)(cl:CL)(a b:Value)(h:PH):R:=
 vb (xAri Int.add a (vN 1)) fun c=>
 some (Value.tuple ⟨[b,c]⟩,h)
def F50_2(n:Nat)(cl:CL)(a b c d e:Value)(f:Kt)(h:PH):R:=
 vb (xCmp ilt a b) fun g=>
 bite g (F50_0 n cl c a d e f b h) (F50_1 n cl e d h)
def F50_3(n:Nat)(cl:CL)(a:Kt)(b:List Value)(h:PH):R:=
 u5 b fun c d e f g=>F50_2 n cl g f e c d a h
def F50_4(n:Nat)(cl:CL)(a b c:Value)(h:PH):R:=
 vb (xLdA 6 a h) fun d=>
 hb (fcall h (F75 n cl d (h.fzn))) fun e h=>
 vb (xLenS e) fun f=>
 lp n (F50_3 n cl) [b,c,e,f,(vN 0)] h
def F50_5(n:Nat)(cl:CL)(a:Value)(h:PH)(b:Kt):R:=
 vb (xFld 0 a) fun c=>
 vb (xLd c h) fun d=>
 vb (xCmp ieq d (vN 1)) fun e=>
 bite e (b [a,(vN 1),(vN 0)] h) (b [a,(vN 0),(vN 0)] h)
def F50(n:Nat)(cl:CL)(a:Value)(h:PH):R:=
 hb (xBox a h) fun b h=>
 jn (fun c h=>u3 c fun d e f=>F50_4 n cl d e f h) (F50_5 n cl b h)
theorem S50:OkF Try.prog 50 (A1 (F50 n cl)):=exA1 n ⟨[50],[75],[(4,[1,4,5]),(5,[4,5,14,15,16])],[],[],[],[],[]⟩ (svc_ok (S75 n hcl) hcl) hmx Try.func50 (by kernel_rfl) fun _ _=>by kernel_rfl
def F77(n:Nat)(cl:CL)(a:Value)(h:PH):R:=
 hb (xAlloc (zcells Try.prog 105) h) fun b h=>
 kp 2 h fun c h=>
 vb (xNil a) fun d=>
 vb (xFld 2 d) fun e=>
 vb (xNil a) fun f=>
 vb (xFld 2 f) fun g=>
 vb (xLd e h) fun i=>
 vb (xLd g h) fun j=>
 hb (xfill (Nat.add c 0) h (xMk (zinfo Try.prog 49) i i hE)) fun k h=>
 hb (xfill (Nat.add c 1) h (xMk (zinfo Try.prog 49) j j hE)) fun l h=>
 vb (abuild Try.prog 105 [(0,tt),(1,k),(2,l)]) fun m=>
 hb (xStA 3 b m h) fun _ h=>
 vb (xLdA 3 b h) fun o=>some (o,h)
theorem S77:OkF Try.prog 77 (A1 (F77 n cl)):=exA1 n ⟨[],[],[],[(1,[0,1,2,5,6,7,3,8,4,9,10,11])],[],[],[(1,[4,9])],[]⟩ hcl hmx Try.func77 (by kernel_rfl) fun _ _=>by kernel_rfl
def F76(n:Nat)(cl:CL)(a b:Value)(h:PH):R:=
 hb (xBox b h) fun c h=>
 hb (xAlloc (zcells Try.prog 105) h) fun d h=>
 vb (xNil a) fun e=>
 vb (xFld 0 e) fun f=>
 vb (xLd f h) fun g=>
 vb (xLenS g) fun i=>
 vb (xNil a) fun j=>
 vb (xFld 0 j) fun k=>
 vb (xFld 1 c) fun l=>
 vb (xLd k h) fun m=>
 vb (xLdA 4 l h) fun o=>
 hb (xBS 1 (bsRow Try.prog 41 1 [(0,o)]) h) fun p h=>
 hb (xApp (appInfo Try.prog #[41,41]) m p h) fun q h=>
 vb (xNil a) fun r=>
 vb (xFld 0 r) fun s=>
 hb (xSt1 s q h) fun _ h=>
 hb (fcall h (F77 n cl a (h.fzn))) fun t h=>
 hb (xAlloc (zcells Try.prog 105) h) fun v h=>
 hb (xStA 3 v t h) fun _ h=>
 vb (xFld 1 v) fun w=>
 vb (xLd w h) fun z=>
 vb (xFld 2 v) fun a1=>
 vb (xLd a1 h) fun b1=>
 vb (xFld 0 v) fun c1=>
 hb (xSt1 c1 ff h) fun _ h=>
 vb (xIdxS 1 z i) fun d1=>
 hb (xSt1 d1 tt h) fun _ h=>
 vb (xIdxS 1 b1 i) fun e1=>
 hb (xSt1 e1 tt h) fun _ h=>
 vb (xLdA 3 v h) fun f1=>
 hb (xStA 3 d f1 h) fun _ h=>
 vb (xLdA 3 d h) fun g1=>some (g1,h)
theorem S76:OkF Try.prog 76 (A2 (F76 n cl)):=exA2 n ⟨[],[77],[],[(2,[0,1,2,3,5,4,6,7,8,9,10,11])],[],[],[],[]⟩ (svc_ok (S77 n hcl) hcl) hmx Try.func76 (by kernel_rfl) fun _ _ _=>by kernel_rfl
def F101_0(n:Nat)(cl:CL)(a b c:Value)(d:Kt)(e:Value)(h:PH):R:=
 vb (xIdxS 1 a b) fun f=>
 vb (xLd f h) fun g=>
 vb (xIdxS 1 c b) fun i=>
 vb (xLd i h) fun j=>
 vb (gd (isB false j) (some g)) fun k=>
 vb (xPick j tt k) fun l=>
 vb (xIdxS 1 c b) fun m=>
 hb (xSt1 m l h) fun _ h=>
 vb (xAri Int.add b (vN 1)) fun o=>
 d [c,a,e,o] h
def F101_1(n:Nat)(cl:CL)(a b c d:Value)(e:Kt)(h:PH):R:=
 vb (xCmp ilt a b) fun f=>
 bite f (F101_0 n cl c a d e b h) (some (Value.tuple ⟨[]⟩,h))
def F101_2(n:Nat)(cl:CL)(a:Kt)(b:List Value)(h:PH):R:=
 u4 b fun c d e f=>F101_1 n cl f e d c a h
def F101(n:Nat)(cl:CL)(a b:Value)(h:PH):R:=
 vb (xLenS b) fun c=>
 lp n (F101_2 n cl) [a,b,c,(vN 0)] h
theorem S101:OkF Try.prog 101 (A2 (F101 n cl)):=exA2 n ⟨[],[],[(1,[0,6,7,8])],[],[],[],[],[]⟩ hcl hmx Try.func101 (by kernel_rfl) fun _ _ _=>by kernel_rfl
def F80_0(n:Nat)(cl:CL)(a:Value)(b:Kt)(c d e f:Value)(h:PH):R:=
 vb (xAri Int.add a (vN 1)) fun g=>
 b [c,d,e,f,g] h
def F80_1(n:Nat)(cl:CL)(a b c:Value)(d:Kt)(e f:Value)(h:PH):R:=
 vb (xNil a) fun g=>
 vb (xFld 1 g) fun i=>
 vb (xLd i h) fun j=>
 vb (xIdxS 1 j b) fun k=>
 vb (xLd k h) fun l=>
 hb (F101 n cl l c h) fun m h=>
 d [a,c,e,f,b] h
def F80_2(n:Nat)(cl:CL)(a:Kt)(b:List Value)(h:PH):R:=
 u5 b fun c d e f g=>F80_0 n cl g a c d e f h
def F80_3(n:Nat)(cl:CL)(a b c d e:Value)(h:PH)(f:Kt):R:=
 vb (xIdxS 1 a b) fun g=>
 vb (xLd g h) fun i=>
 bite i (F80_1 n cl c b d f a e h) (f [c,d,a,e,b] h)
def F80_4(n:Nat)(cl:CL)(a b:Value)(c:Kt)(d e f:Value)(h:PH):R:=
 vb (xCmp ilt a b) fun g=>
 bite g (jn (F80_2 n cl c) (F80_3 n cl d a e f b h)) (some (Value.tuple ⟨[]⟩,h))
def F80_5(n:Nat)(cl:CL)(a:Kt)(b:List Value)(h:PH):R:=
 u5 b fun c d e f g=>F80_4 n cl g f a e c d h
def F80(n:Nat)(cl:CL)(a b c:Value)(h:PH):R:=
 vb (xLenS b) fun d=>
 lp n (F80_5 n cl) [a,c,b,d,(vN 0)] h
theorem S80:OkF Try.prog 80 (A3 (F80 n cl)):=exA3 n ⟨[],[],[(1,[0,2,8,9,10]),(5,[0,2,8,9,10])],[],[],[],[],[]⟩ (svc_ok (S101 n hcl) hcl) hmx Try.func80 (by kernel_rfl) fun _ _ _ _=>by kernel_rfl
def F100_0(n:Nat)(cl:CL)(a:Value)(h:PH):R:=
 hb (xBS 0 (bsRow Try.prog 49 0 []) h) fun b h=>
 hb (xApp (appInfo Try.prog #[49,49]) b a h) fun c h=>
 some (c,h)
def F100(n:Nat)(cl:CL)(a:Value)(h:PH):R:=
 vb (abin Try.prog .eql 49 (Operand.tmp 3) (Operand.const (Value.slice none 0 0)) a nils) fun b=>
 bite b (some (nils,h)) (F100_0 n cl a h)
theorem S100:OkF Try.prog 100 (A1 (F100 n cl)):=exA1 n ⟨[],[],[],[],[],[],[],[]⟩ hcl hmx Try.func100 (by kernel_rfl) fun _ _=>by kernel_rfl
def F78_0(n:Nat)(cl:CL)(a b:Value)(h:PH):R:=
 vb (xLdA 3 a h) fun c=>
 hb (xStA 3 b c h) fun _ h=>
 vb (xLdA 3 b h) fun d=>some (d,h)
def F78_1(n:Nat)(cl:CL)(a b:Value)(c:Kt)(d:Value)(h:PH):R:=
 vb (xFld 2 a) fun e=>
 vb (xLd e h) fun f=>
 vb (xFld 2 b) fun g=>
 vb (xLd g h) fun i=>
 hb (F101 n cl f i h) fun j h=>
 c [d,a] h
def F78_2(n:Nat)(cl:CL)(a b c d:Value)(h:PH)(e:Kt):R:=
 vb (xFld 0 a) fun f=>
 vb (xLd f h) fun g=>
 bite g (F78_1 n cl b c e d h) (e [d,b] h)
def F78_3(n:Nat)(cl:CL)(a b c d:Value)(h:PH):R:=
 jn (fun e h=>ucons e fun f g=>ucons g fun i j=>F78_0 n cl i f h) (F78_2 n cl a b c d h)
def F78_4(n:Nat)(cl:CL)(a b:Value)(c:Kt)(d e:Value)(h:PH):R:=
 vb (xFld 1 a) fun f=>
 vb (xLd f h) fun g=>
 vb (xFld 1 b) fun i=>
 vb (xLd i h) fun j=>
 hb (F101 n cl g j h) fun k h=>
 c [d,b,e,a] h
def F78_5(n:Nat)(cl:CL)(a:List Value)(h:PH):R:=
 u4 a fun b c d e=>F78_3 n cl c e b d h
def F78_6(n:Nat)(cl:CL)(a b c d:Value)(h:PH)(e:Kt):R:=
 vb (xFld 0 a) fun f=>
 vb (xLd f h) fun g=>
 bite g (F78_4 n cl b c e a d h) (e [a,c,d,b] h)
def F78(n:Nat)(cl:CL)(a b c:Value)(h:PH):R:=
 hb (xBox b h) fun d h=>
 hb (xBox c h) fun e h=>
 hb (xAlloc (zcells Try.prog 105) h) fun f h=>
 vb (xFld 2 d) fun g=>
 vb (xLd g h) fun i=>
 vb (xFld 1 e) fun j=>
 vb (xLd j h) fun k=>
 hb (F80 n cl a i k h) fun l h=>
 kp 1 h fun m h=>
 vb (xFld 0 d) fun o=>
 vb (xFld 1 d) fun p=>
 vb (xFld 2 e) fun q=>
 vb (xLd o h) fun r=>
 vb (gd (isB true r) (xFld 0 e)) fun s=>
 vb (gd (isB true r) (xLd s h)) fun t=>
 vb (xPick r t ff) fun v=>
 vb (xLd p h) fun w=>
 vb (xLd q h) fun z=>
 avk m 1 [w]<|
 hb (fcall h (F100 n cl w (h.fzn))) fun a1 h=>
 avk m 1 [z]<|
 hb (fcall h (F100 n cl z (h.fzn))) fun b1 h=>
 vb (abuild Try.prog 105 [(0,v),(1,a1),(2,b1)]) fun c1=>
 hb (xfill (Nat.add m 0) h (xAlloc (zcells Try.prog 105) hE)) fun d1 h=>
 hb (xStA 3 d1 c1 h) fun _ h=>
 jn (F78_5 n cl) (F78_6 n cl d d1 e f h)
theorem S78:OkF Try.prog 78 (A3 (F78 n cl)):=exA3 n ⟨[],[100],[(5,[4,5,6,7]),(7,[6,7])],[(2,[0,6,9,1,2,3,4,5,7,10,8,11,12,13,14])],[],[],[(2,[13])],[]⟩ (svc_ok (S80 n hcl) (svc_ok (S100 n hcl) (svc_ok (S101 n hcl) hcl))) hmx Try.func78 (by kernel_rfl) fun _ _ _ _=>by kernel_rfl
def F79(n:Nat)(cl:CL)(a b:Value)(h:PH):R:=
 hb (xBox a h) fun c h=>
 hb (xBox b h) fun d h=>
 hb (xAlloc (zcells Try.prog 105) h) fun e h=>
 kp 1 h fun f h=>
 vb (xFld 0 c) fun g=>
 vb (xFld 1 c) fun i=>
 vb (xFld 2 c) fun j=>
 vb (xLd g h) fun k=>
 vb (gd (isB false k) (xFld 0 d)) fun l=>
 vb (gd (isB false k) (xLd l h)) fun m=>
 vb (xPick k tt m) fun o=>
 vb (xLd i h) fun p=>
 vb (xLd j h) fun q=>
 avk f 1 [p]<|
 hb (fcall h (F100 n cl p (h.fzn))) fun r h=>
 avk f 1 [q]<|
 hb (fcall h (F100 n cl q (h.fzn))) fun s h=>
 vb (abuild Try.prog 105 [(0,o),(1,r),(2,s)]) fun t=>
 hb (xfill (Nat.add f 0) h (xAlloc (zcells Try.prog 105) hE)) fun v h=>
 hb (xStA 3 v t h) fun _ h=>
 vb (xFld 1 v) fun w=>
 vb (xLd w h) fun z=>
 vb (xFld 1 d) fun a1=>
 vb (xLd a1 h) fun b1=>
 hb (F101 n cl z b1 h) fun c1 h=>
 vb (xFld 2 v) fun d1=>
 vb (xLd d1 h) fun e1=>
 vb (xFld 2 d) fun f1=>
 vb (xLd f1 h) fun g1=>
 hb (F101 n cl e1 g1 h) fun i1 h=>
 vb (xLdA 3 v h) fun j1=>
 hb (xStA 3 e j1 h) fun _ h=>
 vb (xLdA 3 e h) fun k1=>some (k1,h)
theorem S79:OkF Try.prog 79 (A2 (F79 n cl)):=exA2 n ⟨[],[100],[],[(1,[0,6,9,1,2,3,4,5,7,10,8,11,12,13,14])],[],[],[(1,[13])],[]⟩ (svc_ok (S100 n hcl) (svc_ok (S101 n hcl) hcl)) hmx Try.func79 (by kernel_rfl) fun _ _ _=>by kernel_rfl
def F51_0(n:Nat)(cl:CL)(a b c:Value)(h:PH):R:=
 vb (xLdA 6 a h) fun d=>
 hb (F76 n cl b d h) fun e h=>
 hb (xStA 3 c e h) fun _ h=>
 vb (xLdA 3 c h) fun f=>some (f,h)
def F51_1(n:Nat)(cl:CL)(a b:Value)(h:PH):R:=
 hb (fcall h (F77 n cl a (h.fzn))) fun c h=>
 hb (xStA 3 b c h) fun _ h=>
 vb (xLdA 3 b h) fun d=>some (d,h)
def F51_2(n:Nat)(cl:CL)(a:Value)(b:Kt)(c d e f g i:Value)(h:PH):R:=
 vb (xAri Int.add a (vN 1)) fun j=>
 b [c,d,e,f,g,i,j] h
def F51_3(n:Nat)(cl:CL)(a b c:Value)(d:Kt)(e f g i j:Value)(h:PH):R:=
 vb (xLdA 3 a h) fun k=>
 vb (xLdA 3 b h) fun l=>
 hb (F78 n cl c k l h) fun m h=>
 hb (xStA 3 a m h) fun _ h=>
 d [c,e,f,a,g,i,j] h
def F51_4(n:Nat)(cl:CL)(a b:Value)(c:Kt)(d e f g i j:Value)(h:PH):R:=
 vb (xLdA 3 a h) fun k=>
 vb (xLdA 3 b h) fun l=>
 hb (F79 n cl k l h) fun m h=>
 hb (xStA 3 a m h) fun _ h=>
 c [d,e,f,a,g,i,j] h
def F51_5(n:Nat)(cl:CL)(a:Kt)(b:List Value)(h:PH):R:=
 u7 b fun c d e f g i j=>F51_2 n cl j a c d e f g i h
def F51_6(n:Nat)(cl:CL)(a b c d e f g:Value)(h:PH)(i:Kt):R:=
 vb (xIdxS 6 a b) fun j=>
 vb (xLdA 6 j h) fun k=>
 hb (xAlloc (zcells Try.prog 57) h) fun l h=>
 hb (xStA 6 l k h) fun _ h=>
 vb (xLdA 6 l h) fun m=>
 hb (cl 51 [c,m] h) fun o h=>
 hb (xAlloc (zcells Try.prog 105) h) fun p h=>
 hb (xStA 3 p o h) fun _ h=>
 vb (xFld 0 d) fun q=>
 vb (xLd q h) fun r=>
 vb (xCmp ieq r (vN 2)) fun s=>
 bite s (F51_3 n cl e p c i d f a g b h) (F51_4 n cl e p i c d f a g b h)
def F51_7(n:Nat)(cl:CL)(a b c:Value)(h:PH):R:=
 vb (xFld 0 a) fun d=>
 vb (xLd d h) fun e=>
 vb (gd (isB false e) (xFld 0 b)) fun f=>
 vb (gd (isB false e) (xLd f h)) fun g=>
 vb (gd (isB false e) (xCmp ieq g (vN 4))) fun i=>
 vb (xPick e tt i) fun j=>
 vb (gd (isB false j) (xFld 0 b)) fun k=>
 vb (gd (isB false j) (xLd k h)) fun l=>
 vb (gd (isB false j) (xCmp ieq l (vN 6))) fun m=>
 vb (xPick j tt m) fun o=>
 vb (xFld 0 a) fun p=>
 hb (xSt1 p o h) fun _ h=>
 vb (xLdA 3 a h) fun q=>
 hb (xStA 3 c q h) fun _ h=>
 vb (xLdA 3 c h) fun r=>some (r,h)
def F51_8(n:Nat)(cl:CL)(a b:Value)(c:Kt)(d e:Value)(h:PH):R:=
 vb (xFld 2 a) fun f=>
 vb (xLd f h) fun g=>
 vb (xFld 1 a) fun i=>
 vb (xLd i h) fun j=>
 hb (F80 n cl b g j h) fun k h=>
 c [d,e,a] h
def F51_9(n:Nat)(cl:CL)(a:List Value)(h:PH):R:=
 u3 a fun b c d=>F51_7 n cl d b c h
def F51_10(n:Nat)(cl:CL)(a b c d:Value)(h:PH)(e:Kt):R:=
 vb (xFld 0 a) fun f=>
 vb (xLd f h) fun g=>
 vb (xCmp ieq g (vN 4)) fun i=>
 vb (gd (isB false i) (xFld 0 a)) fun j=>
 vb (gd (isB false i) (xLd j h)) fun k=>
 vb (gd (isB false i) (xCmp ieq k (vN 5))) fun l=>
 vb (xPick i tt l) fun m=>
 bite m (F51_8 n cl b c e a d h) (e [a,d,b] h)
def F51_11(n:Nat)(cl:CL)(a b:Value)(c:Kt)(d e f g i:Value)(h:PH):R:=
 vb (xCmp ilt a b) fun j=>
 bite j (jn (F51_5 n cl c) (F51_6 n cl d a e f g i b h)) (jn (F51_9 n cl) (F51_10 n cl f g e i h))
def F51_12(n:Nat)(cl:CL)(a:Kt)(b:List Value)(h:PH):R:=
 u7 b fun c d e f g i j=>F51_11 n cl j i a g c d f e h
def F51_13(n:Nat)(cl:CL)(a b c d:Value)(h:PH):R:=
 vb (xIdxS 6 a (vN 0)) fun e=>
 vb (xLdA 6 e h) fun f=>
 hb (cl 51 [b,f] h) fun g h=>
 hb (xAlloc (zcells Try.prog 105) h) fun i h=>
 hb (xStA 3 i g h) fun _ h=>
 vb (acut Try.prog 55 a (some (vN 1)) none none) fun j=>
 vb (xLenS j) fun k=>
 lp n (F51_12 n cl) [b,c,d,i,j,k,(vN 0)] h
def F51_14(n:Nat)(cl:CL)(a b c d:Value)(h:PH):R:=
 vb (xLenS a) fun e=>
 vb (xCmp ieq e (vN 0)) fun f=>
 bite f (F51_1 n cl b c h) (F51_13 n cl a b d c h)
def F51(n:Nat)(cl:CL)(a b:Value)(h:PH):R:=
 hb (xBox b h) fun c h=>
 hb (xAlloc (zcells Try.prog 105) h) fun d h=>
 vb (xLdA 6 c h) fun e=>
 hb (fcall h (F75 n cl e (h.fzn))) fun f h=>
 vb (xFld 0 c) fun g=>
 vb (xLd g h) fun i=>
 vb (xCmp ieq i (vN 1)) fun j=>
 bite j (F51_0 n cl c a d h) (F51_14 n cl f a d c h)
theorem S51:OkF Try.prog 51 (A2 (F51 n cl)):=exA2 n ⟨[],[75,77],[(8,[0,3,4,6,31,32,33]),(14,[0,3,4,6,31,32,33]),(17,[3,4,6])],[],[],[],[],[]⟩ (svc_ok (S75 n hcl) (svc_ok (S76 n hcl) (svc_ok (S77 n hcl) (svc_ok (S78 n hcl) (svc_ok (S79 n hcl) (svc_ok (S80 n hcl) hcl)))))) hmx Try.func51 (by kernel_rfl) fun _ _ _=>by kernel_rfl
def F120_0(n:Nat)(cl:CL)(a b:Value)(h:PH):R:=
 vb (xConvI .u8 a) fun c=>
 vb (aindex Try.prog 9 (Value.string {data:= #[0,1,2,2,3,3,3,3,4,4,4,4,4,4,4,4,5,5,5,5,5,5,5,5,5,5,5,5,5,5,5,5,6,6,6,6,6,6,6,6,6,6,6,6,6,6,6,6,6,6,6,6,6,6,6,6,6,6,6,6,6,6,6,6,7,7,7,7,7,7,7,7,7,7,7,7,7,7,7,7,7,7,7,7,7,7,7,7,7,7,7,7,7,7,7,7,7,7,7,7,7,7,7,7,7,7,7,7,7,7,7,7,7,7,7,7,7,7,7,7,7,7,7,7,7,7,7,7,8,8,8,8,8,8,8,8,8,8,8,8,8,8,8,8,8,8,8,8,8,8,8,8,8,8,8,8,8,8,8,8,8,8,8,8,8,8,8,8,8,8,8,8,8,8,8,8,8,8,8,8,8,8,8,8,8,8,8,8,8,8,8,8,8,8,8,8,8,8,8,8,8,8,8,8,8,8,8,8,8,8,8,8,8,8,8,8,8,8,8,8,8,8,8,8,8,8,8,8,8,8,8,8,8,8,8,8,8,8,8,8,8,8,8,8,8,8,8,8,8,8,8,8,8,8,8,8]}) c) fun d=>
 vb (xConvI .i64 d) fun e=>
 vb (xAri Int.add b e) fun f=>
 some (f,h)
def F120_1(n:Nat)(cl:CL)(a b:Value)(c:Kt)(h:PH):R:=
 vb (xShr a (Value.int .u64 (.ofNat 8))) fun d=>
 vb (xAri Int.add b (vN 8)) fun e=>
 c [d,e] h
def F120_2(n:Nat)(cl:CL)(a b:Value)(h:PH)(c:Kt):R:=
 vb (xCmp (fun x y=>ile y x) a (Value.int .u32 (.ofNat 256))) fun d=>
 bite d (F120_1 n cl a b c h) (c [a,b] h)
def F120_3(n:Nat)(cl:CL)(a b:Value)(h:PH):R:=
 jn (fun c h=>ucons c fun d e=>ucons e fun f g=>F120_0 n cl d f h) (F120_2 n cl a b h)
def F120_4(n:Nat)(cl:CL)(a:Value)(b:Kt)(h:PH):R:=
 vb (xShr a (Value.int .u64 (.ofNat 16))) fun c=>
 b [c,(vN 16)] h
def F120_5(n:Nat)(cl:CL)(a:Value)(h:PH)(b:Kt):R:=
 vb (xCmp (fun x y=>ile y x) a (Value.int .u32 (.ofNat 65536))) fun c=>
 bite c (F120_4 n cl a b h) (b [a,(vN 0)] h)
def F120(n:Nat)(cl:CL)(a:Value)(h:PH):R:=
 jn (fun b h=>ucons b fun c d=>ucons d fun e f=>F120_3 n cl c e h) (F120_5 n cl a h)
theorem S120:OkF Try.prog 120 (A1 (F120 n cl)):=exA1 n ⟨[],[],[(4,[0,2]),(7,[0,2])],[],[],[],[],[]⟩ hcl hmx Try.func120 (by kernel_rfl) fun _ _=>by kernel_rfl
def F121_0(n:Nat)(cl:CL)(a b:Value)(h:PH):R:=
 vb (xConvI .u8 a) fun c=>
 vb (aindex Try.prog 9 (Value.string {data:= #[0,1,2,2,3,3,3,3,4,4,4,4,4,4,4,4,5,5,5,5,5,5,5,5,5,5,5,5,5,5,5,5,6,6,6,6,6,6,6,6,6,6,6,6,6,6,6,6,6,6,6,6,6,6,6,6,6,6,6,6,6,6,6,6,7,7,7,7,7,7,7,7,7,7,7,7,7,7,7,7,7,7,7,7,7,7,7,7,7,7,7,7,7,7,7,7,7,7,7,7,7,7,7,7,7,7,7,7,7,7,7,7,7,7,7,7,7,7,7,7,7,7,7,7,7,7,7,7,8,8,8,8,8,8,8,8,8,8,8,8,8,8,8,8,8,8,8,8,8,8,8,8,8,8,8,8,8,8,8,8,8,8,8,8,8,8,8,8,8,8,8,8,8,8,8,8,8,8,8,8,8,8,8,8,8,8,8,8,8,8,8,8,8,8,8,8,8,8,8,8,8,8,8,8,8,8,8,8,8,8,8,8,8,8,8,8,8,8,8,8,8,8,8,8,8,8,8,8,8,8,8,8,8,8,8,8,8,8,8,8,8,8,8,8,8,8,8,8,8,8,8,8,8,8,8,8]}) c) fun d=>
 vb (xConvI .i64 d) fun e=>
 vb (xAri Int.add b e) fun f=>
 some (f,h)
def F121_1(n:Nat)(cl:CL)(a b:Value)(c:Kt)(h:PH):R:=
 vb (xShr a (Value.int .u64 (.ofNat 8))) fun d=>
 vb (xAri Int.add b (vN 8)) fun e=>
 c [d,e] h
def F121_2(n:Nat)(cl:CL)(a b:Value)(h:PH)(c:Kt):R:=
 vb (xCmp (fun x y=>ile y x) a (Value.int .u64 (.ofNat 256))) fun d=>
 bite d (F121_1 n cl a b c h) (c [a,b] h)
def F121_3(n:Nat)(cl:CL)(a b:Value)(h:PH):R:=
 jn (fun c h=>ucons c fun d e=>ucons e fun f g=>F121_0 n cl d f h) (F121_2 n cl a b h)
def F121_4(n:Nat)(cl:CL)(a b:Value)(c:Kt)(h:PH):R:=
 vb (xShr a (Value.int .u64 (.ofNat 16))) fun d=>
 vb (xAri Int.add b (vN 16)) fun e=>
 c [d,e] h
def F121_5(n:Nat)(cl:CL)(a b:Value)(h:PH)(c:Kt):R:=
 vb (xCmp (fun x y=>ile y x) a (Value.int .u64 (.ofNat 65536))) fun d=>
 bite d (F121_4 n cl a b c h) (c [a,b] h)
def F121_6(n:Nat)(cl:CL)(a b:Value)(h:PH):R:=
 jn (fun c h=>ucons c fun d e=>ucons e fun f g=>F121_3 n cl d f h) (F121_5 n cl a b h)
def F121_7(n:Nat)(cl:CL)(a:Value)(b:Kt)(h:PH):R:=
 vb (xShr a (Value.int .u64 (.ofNat 32))) fun c=>
 b [c,(vN 32)] h
def F121_8(n:Nat)(cl:CL)(a:Value)(h:PH)(b:Kt):R:=
 vb (xCmp (fun x y=>ile y x) a (Value.int .u64 (.ofNat 4294967296))) fun c=>
 bite c (F121_7 n cl a b h) (b [a,(vN 0)] h)
def F121(n:Nat)(cl:CL)(a:Value)(h:PH):R:=
 jn (fun b h=>ucons b fun c d=>ucons d fun e f=>F121_6 n cl c e h) (F121_8 n cl a h)
theorem S121:OkF Try.prog 121 (A1 (F121 n cl)):=exA1 n ⟨[],[],[(4,[0,2]),(7,[0,2]),(10,[0,2])],[],[],[],[],[]⟩ hcl hmx Try.func121 (by kernel_rfl) fun _ _=>by kernel_rfl
def F105_0(n:Nat)(cl:CL)(a:Value)(h:PH):R:=
 vb (xConvI .u32 a) fun b=>
 vb (pcall (F120 n cl b (h.fzn))) fun c=>
 some (c,h)
def F105_1(n:Nat)(cl:CL)(a:Value)(h:PH):R:=
 vb (pcall (F121 n cl a (h.fzn))) fun b=>
 some (b,h)
def F105(n:Nat)(cl:CL)(a:Value)(h:PH):R:=
 bite ff (F105_0 n cl a h) (F105_1 n cl a h)
theorem S105:OkF Try.prog 105 (A1 (F105 n cl)):=exA1 n ⟨[120,121],[],[],[],[],[],[],[]⟩ (svc_ok (S120 n hcl) (svc_ok (S121 n hcl) hcl)) hmx Try.func105 (by kernel_rfl) fun _ _=>by kernel_rfl
def F132(n:Nat)(cl:CL)(a:Value)(h:PH):R:=
 vb (xCmp ine a a) fun b=>
 some (b,h)
theorem S132:OkF Try.prog 132 (A1 (F132 n cl)):=exA1 n ⟨[],[],[],[],[],[],[],[]⟩ hcl hmx Try.func132 (by kernel_rfl) fun _ _=>by kernel_rfl
def F117(n:Nat)(cl:CL)(a b:Value)(h:PH):R:=
 vb (pcall (F132 n cl a (h.fzn))) fun c=>
 vb (gd (isB true c) (some b)) fun d=>
 vb (gd (isB true c) (pcall (F132 n cl d (h.fzn)))) fun e=>
 vb (gd (isB true c) (xNot e)) fun f=>
 vb (xPick c f ff) fun g=>
 vb (gd (isB false g) (some a)) fun i=>
 vb (gd (isB false g) (some b)) fun j=>
 vb (gd (isB false g) (xCmp ilt i j)) fun k=>
 vb (xPick g tt k) fun l=>
 some (l,h)
theorem S117:OkF Try.prog 117 (A2 (F117 n cl)):=exA2 n ⟨[132],[],[],[],[],[],[],[]⟩ (svc_ok (S132 n hcl) hcl) hmx Try.func117 (by kernel_rfl) fun _ _ _=>by kernel_rfl
def F111_0(n:Nat)(cl:CL)(a b:Value)(c:Kt)(d e f:Value)(h:PH):R:=
 vb (xAri Int.sub a (vN 1)) fun g=>
 vb (xAri Int.sub a (vN 1)) fun i=>
 vb (xIdxS 1 b i) fun j=>
 vb (xIdxS 1 b a) fun k=>
 vb (xLd j h) fun l=>
 vb (xLd k h) fun m=>
 vb (xIdxS 1 b a) fun o=>
 hb (xSt1 o l h) fun _ h=>
 vb (xIdxS 1 b g) fun p=>
 hb (xSt1 p m h) fun _ h=>
 vb (xAri Int.sub a (vN 1)) fun q=>
 c [b,d,e,f,q] h
def F111_1(n:Nat)(cl:CL)(a:Value)(b:Kt)(c d e:Value)(h:PH):R:=
 vb (xAri Int.add a (vN 1)) fun f=>
 b [c,d,e,f] h
def F111_2(n:Nat)(cl:CL)(a b c:Value)(d:Kt)(e f:Value)(g:Kt)(h:PH):R:=
 vb (xCmp (fun x y=>ilt y x) a b) fun i=>
 vb (gd (isB true i) (some c)) fun j=>
 vb (gd (isB true i) (some a)) fun k=>
 vb (gd (isB true i) (xIdxS 1 j k)) fun l=>
 vb (gd (isB true i) (some c)) fun m=>
 vb (gd (isB true i) (some a)) fun o=>
 vb (gd (isB true i) (xAri Int.sub o (vN 1))) fun p=>
 vb (gd (isB true i) (xIdxS 1 m p)) fun q=>
 vb (gd (isB true i) (xLd l h)) fun r=>
 vb (gd (isB true i) (xLd q h)) fun s=>
 vb (gd (isB true i) (pcall (F117 n cl r s (h.fzn)))) fun t=>
 vb (xPick i t ff) fun v=>
 bite v (F111_0 n cl a c d b e f h) (F111_1 n cl f g c b e h)
def F111_3(n:Nat)(cl:CL)(a b:Kt)(c:List Value)(h:PH):R:=
 u5 c fun d e f g i=>F111_2 n cl i e d b f g a h
def F111_4(n:Nat)(cl:CL)(a b:Value)(c:Kt)(d e:Value)(h:PH):R:=
 vb (xCmp ilt a b) fun f=>
 bite f (lp n (F111_3 n cl c) [d,e,b,a,a] h) (some (Value.tuple ⟨[]⟩,h))
def F111_5(n:Nat)(cl:CL)(a:Kt)(b:List Value)(h:PH):R:=
 u4 b fun c d e f=>F111_4 n cl f e a c d h
def F111(n:Nat)(cl:CL)(a b c:Value)(h:PH):R:=
 vb (xAri Int.add b (vN 1)) fun d=>
 lp n (F111_5 n cl) [a,b,c,d] h
theorem S111:OkF Try.prog 111 (A3 (F111 n cl)):=exA3 n ⟨[117],[],[(1,[0,1,2,6]),(4,[0,1,2,6,7])],[(4,[0,1,2,3,4,5,6,8,9,10,11,7,12,13,14]),(6,[0,1,2,3,4,5,6,7,8,10,11,12,9,13,14,15,16,17])],[],[],[],[]⟩ (svc_ok (S117 n hcl) hcl) hmx Try.func111 (by kernel_rfl) fun _ _ _ _=>by kernel_rfl
def F127_0(n:Nat)(cl:CL)(a b c d:Value)(e:Kt)(f:Value)(h:PH):R:=
 vb (xAri Int.add a b) fun g=>
 vb (xAri Int.add a c) fun i=>
 vb (xAri Int.add a c) fun j=>
 vb (xIdxS 1 d j) fun k=>
 vb (xAri Int.add a b) fun l=>
 vb (xIdxS 1 d l) fun m=>
 vb (xLd k h) fun o=>
 vb (xLd m h) fun p=>
 vb (xIdxS 1 d g) fun q=>
 hb (xSt1 q o h) fun _ h=>
 vb (xIdxS 1 d i) fun r=>
 hb (xSt1 r p h) fun _ h=>
 e [d,f,a,c] h
def F127_1(n:Nat)(cl:CL)(a b c d:Value)(e:Kt)(f:Value)(h:PH):R:=
 vb (xAri Int.add a b) fun g=>
 vb (xIdxS 1 c g) fun i=>
 vb (xAri Int.add a d) fun j=>
 vb (xIdxS 1 c j) fun k=>
 vb (xLd i h) fun l=>
 vb (xLd k h) fun m=>
 vb (pcall (F117 n cl l m (h.fzn))) fun o=>
 vb (xNot o) fun p=>
 bite p (some (Value.tuple ⟨[]⟩,h)) (F127_0 n cl a b d c e f h)
def F127_2(n:Nat)(cl:CL)(a:Value)(b:Kt)(c d e f:Value)(h:PH):R:=
 vb (xAri Int.add a (vN 1)) fun g=>
 b [c,d,e,f,g] h
def F127_3(n:Nat)(cl:CL)(a:Kt)(b:List Value)(h:PH):R:=
 u5 b fun c d e f g=>F127_1 n cl e f c g a d h
def F127_4(n:Nat)(cl:CL)(a b c d e:Value)(h:PH)(f:Kt):R:=
 vb (xAri Int.add a (vN 1)) fun g=>
 vb (xCmp ilt g b) fun i=>
 vb (gd (isB true i) (some c)) fun j=>
 vb (gd (isB true i) (some d)) fun k=>
 vb (gd (isB true i) (some a)) fun l=>
 vb (gd (isB true i) (xAri Int.add k l)) fun m=>
 vb (gd (isB true i) (xIdxS 1 j m)) fun o=>
 vb (gd (isB true i) (some c)) fun p=>
 vb (gd (isB true i) (some d)) fun q=>
 vb (gd (isB true i) (some a)) fun r=>
 vb (gd (isB true i) (xAri Int.add q r)) fun s=>
 vb (gd (isB true i) (xAri Int.add s (vN 1))) fun t=>
 vb (gd (isB true i) (xIdxS 1 p t)) fun v=>
 vb (gd (isB true i) (xLd o h)) fun w=>
 vb (gd (isB true i) (xLd v h)) fun z=>
 vb (gd (isB true i) (pcall (F117 n cl w z (h.fzn)))) fun a1=>
 vb (xPick i a1 ff) fun b1=>
 bite b1 (F127_2 n cl a f c b d e h) (f [c,b,d,e,a] h)
def F127_5(n:Nat)(cl:CL)(a b:Value)(c:Kt)(d e:Value)(h:PH):R:=
 vb (xAri Int.mul (vN 2) a) fun f=>
 vb (xAri Int.add f (vN 1)) fun g=>
 vb (xCmp (fun x y=>ile y x) g b) fun i=>
 bite i (some (Value.tuple ⟨[]⟩,h)) (jn (F127_3 n cl c) (F127_4 n cl g b d e a h))
def F127_6(n:Nat)(cl:CL)(a:Kt)(b:List Value)(h:PH):R:=
 u4 b fun c d e f=>F127_5 n cl f d a c e h
def F127(n:Nat)(cl:CL)(a b c d:Value)(h:PH):R:=
 lp n (F127_6 n cl) [a,c,d,b] h
theorem S127:OkF Try.prog 127 (A4 (F127 n cl)):=exA4 n ⟨[117],[],[(1,[0,2,3,8]),(5,[0,2,3,8,9])],[(3,[0,1,2,3,4,5,6,7,8,9,11,12,13,14,15,16,10,17,18,19]),(5,[0,1,2,3,4,6,7,8,9,10,5,11,12,13]),(6,[0,1,2,3,4,5,6,7,8,9,10,11,12,14,15,16,17,18,13,19,20,21,22,23])],[],[],[],[]⟩ (svc_ok (S117 n hcl) hcl) hmx Try.func127 (by kernel_rfl) fun _ _ _ _ _=>by kernel_rfl
def F112_0(n:Nat)(cl:CL)(a b c d:Value)(e:Kt)(f:Value)(h:PH):R:=
 hb (F127 n cl a b c d h) fun g h=>
 vb (xAri Int.sub b (vN 1)) fun i=>
 e [a,d,f,c,i] h
def F112_1(n:Nat)(cl:CL)(a b c d:Value)(e:Kt)(h:PH):R:=
 vb (xAri Int.add a b) fun f=>
 vb (xAri Int.add a b) fun g=>
 vb (xIdxS 1 c g) fun i=>
 vb (xIdxS 1 c a) fun j=>
 vb (xLd i h) fun k=>
 vb (xLd j h) fun l=>
 vb (xIdxS 1 c a) fun m=>
 hb (xSt1 m k h) fun _ h=>
 vb (xIdxS 1 c f) fun o=>
 hb (xSt1 o l h) fun _ h=>
 hb (F127 n cl c d b a h) fun p h=>
 vb (xAri Int.sub b (vN 1)) fun q=>
 e [c,a,d,q] h
def F112_2(n:Nat)(cl:CL)(a b c d:Value)(e:Kt)(h:PH):R:=
 vb (xCmp (fun x y=>ile y x) a (vN 0)) fun f=>
 bite f (F112_1 n cl b a c d e h) (some (Value.tuple ⟨[]⟩,h))
def F112_3(n:Nat)(cl:CL)(a:Kt)(b:List Value)(h:PH):R:=
 u4 b fun c d e f=>F112_2 n cl f d c e a h
def F112_4(n:Nat)(cl:CL)(a b c d:Value)(h:PH):R:=
 vb (xAri Int.sub a (vN 1)) fun e=>
 lp n (F112_3 n cl) [b,c,d,e] h
def F112_5(n:Nat)(cl:CL)(a b c d:Value)(e:Kt)(f:Value)(h:PH):R:=
 vb (xCmp (fun x y=>ile y x) a (vN 0)) fun g=>
 bite g (F112_0 n cl b a c d e f h) (F112_4 n cl c b d f h)
def F112_6(n:Nat)(cl:CL)(a:Kt)(b:List Value)(h:PH):R:=
 u5 b fun c d e f g=>F112_5 n cl g c f d a e h
def F112(n:Nat)(cl:CL)(a b c:Value)(h:PH):R:=
 vb (xAri Int.sub c b) fun d=>
 vb (xAri Int.sub d (vN 1)) fun e=>
 vb (xQuo e (vN 2)) fun f=>
 lp n (F112_6 n cl) [a,b,(vN 0),d,f] h
theorem S112:OkF Try.prog 112 (A3 (F112 n cl)):=exA3 n ⟨[],[],[(4,[0,6,7,8,9]),(8,[0,6,7,10])],[(10,[0,1,2,3,4,5,6,7,8,9,10,12,13,14,11,15,16,17,18,19])],[],[],[],[]⟩ (svc_ok (S127 n hcl) hcl) hmx Try.func112 (by kernel_rfl) fun _ _ _ _=>by kernel_rfl
def F128(n:Nat)(cl:CL)(a:Value)(h:PH):R:=
 vb (xConvI .u64 a) fun b=>
 vb (pcall (F105 n cl b (h.fzn))) fun c=>
 vb (xShl (Value.int .u64 (.ofNat 1)) c) fun d=>
 some (d,h)
theorem S128:OkF Try.prog 128 (A1 (F128 n cl)):=exA1 n ⟨[105],[],[],[],[],[],[],[]⟩ (svc_ok (S105 n hcl) hcl) hmx Try.func128 (by kernel_rfl) fun _ _=>by kernel_rfl
def F129(n:Nat)(cl:CL)(a:Value)(h:PH):R:=
 vb (xNil a) fun b=>
 vb (xNil a) fun c=>
 vb (xLd b h) fun d=>
 vb (xLd c h) fun e=>
 vb (xShl e (Value.int .u64 (.ofNat 13))) fun f=>
 vb (xBit Nat.xor d f) fun g=>
 vb (xNil a) fun i=>
 hb (xSt1 i g h) fun _ h=>
 vb (xNil a) fun j=>
 vb (xNil a) fun k=>
 vb (xLd j h) fun l=>
 vb (xLd k h) fun m=>
 vb (xShr m (Value.int .u64 (.ofNat 7))) fun o=>
 vb (xBit Nat.xor l o) fun p=>
 vb (xNil a) fun q=>
 hb (xSt1 q p h) fun _ h=>
 vb (xNil a) fun r=>
 vb (xNil a) fun s=>
 vb (xLd r h) fun t=>
 vb (xLd s h) fun v=>
 vb (xShl v (Value.int .u64 (.ofNat 17))) fun w=>
 vb (xBit Nat.xor t w) fun z=>
 vb (xNil a) fun a1=>
 hb (xSt1 a1 z h) fun _ h=>
 vb (xNil a) fun b1=>
 vb (xLd b1 h) fun c1=>
 some (c1,h)
theorem S129:OkF Try.prog 129 (A1 (F129 n cl)):=exA1 n ⟨[],[],[],[(1,[0,1,3,4,2,5,6,7,8,9]),(2,[0,1,3,4,2,5,6,7,8,9]),(3,[0,1,3,4,2,5,6,7,8,9])],[],[],[],[]⟩ hcl hmx Try.func129 (by kernel_rfl) fun _ _=>by kernel_rfl
def F113_0(n:Nat)(cl:CL)(a b c d:Value)(e:Kt)(f g i:Value)(h:PH):R:=
 vb (xAri Int.add a b) fun j=>
 vb (xAri Int.add a b) fun k=>
 vb (xIdxS 1 c k) fun l=>
 vb (xIdxS 1 c d) fun m=>
 vb (xLd l h) fun o=>
 vb (xLd m h) fun p=>
 vb (xIdxS 1 c d) fun q=>
 hb (xSt1 q o h) fun _ h=>
 vb (xIdxS 1 c j) fun r=>
 hb (xSt1 r p h) fun _ h=>
 vb (xAri Int.add d (vN 1)) fun s=>
 e [c,a,f,g,i,s] h
def F113_1(n:Nat)(cl:CL)(a b:Value)(c:Kt)(d e f g i:Value)(h:PH):R:=
 vb (xAri Int.sub a b) fun j=>
 c [d,e,b,f,g,i,j] h
def F113_2(n:Nat)(cl:CL)(a:Kt)(b:List Value)(h:PH):R:=
 u7 b fun c d e f g i j=>F113_0 n cl d j c i a e f g h
def F113_3(n:Nat)(cl:CL)(a b c d e f g:Value)(h:PH)(i:Kt):R:=
 vb (xCmp (fun x y=>ile y x) a b) fun j=>
 bite j (F113_1 n cl a b i c d e f g h) (i [c,d,b,e,f,g,a] h)
def F113_4(n:Nat)(cl:CL)(a b:Value)(c:Kt)(d e f g:Value)(h:PH):R:=
 hb (F129 n cl a h) fun i h=>
 vb (xAri Int.sub b (Value.int .u64 (.ofNat 1))) fun j=>
 vb (xBit Nat.land i j) fun k=>
 vb (xConvI .i64 k) fun l=>
 jn (F113_2 n cl c) (F113_3 n cl l d e f a b g h)
def F113_5(n:Nat)(cl:CL)(a b c d e:Value)(f:Kt)(g:Value)(h:PH):R:=
 vb (xQuo a (vN 4)) fun i=>
 vb (xAri Int.mul i (vN 2)) fun j=>
 vb (xAri Int.add b j) fun k=>
 vb (xAri Int.add k (vN 1)) fun l=>
 vb (xCmp ile c l) fun m=>
 bite m (F113_4 n cl d e f a g b c h) (some (Value.tuple ⟨[]⟩,h))
def F113_6(n:Nat)(cl:CL)(a:Kt)(b:List Value)(h:PH):R:=
 u6 b fun c d e f g i=>F113_5 n cl e d i f g a c h
def F113_7(n:Nat)(cl:CL)(a b c:Value)(h:PH):R:=
 vb (xConvI .u64 a) fun d=>
 hb (xAlloc (zcells Try.prog 178) h) fun e h=>
 hb (xSt1 e d h) fun _ h=>
 vb (pcall (F128 n cl a (h.fzn))) fun f=>
 vb (xQuo a (vN 4)) fun g=>
 vb (xAri Int.mul g (vN 2)) fun i=>
 vb (xAri Int.add b i) fun j=>
 vb (xAri Int.sub j (vN 1)) fun k=>
 lp n (F113_6 n cl) [c,b,a,e,f,k] h
def F113(n:Nat)(cl:CL)(a b c:Value)(h:PH):R:=
 vb (xAri Int.sub c b) fun d=>
 vb (xCmp (fun x y=>ile y x) d (vN 8)) fun e=>
 bite e (F113_7 n cl d b a h) (some (Value.tuple ⟨[]⟩,h))
theorem S113:OkF Try.prog 113 (A3 (F113 n cl)):=exA3 n ⟨[128],[],[(5,[0,1,6,7,8,9]),(10,[0,1,6,7,8,9,10])],[(10,[0,1,2,3,4,5,6,7,8,9,10,12,13,14,11,15,16,17,18,19])],[],[],[],[]⟩ (svc_ok (S128 n hcl) (svc_ok (S129 n hcl) hcl)) hmx Try.func113 (by kernel_rfl) fun _ _ _ _=>by kernel_rfl
def F135_0(n:Nat)(cl:CL)(a b c:Value)(h:PH):R:=
 vb (xNil a) fun d=>
 vb (xLd d h) fun e=>
 vb (xAri Int.add e (vN 1)) fun f=>
 vb (xNil a) fun g=>
 hb (xSt1 g f h) fun _ h=>
 some (Value.tuple ⟨[b,c]⟩,h)
def F135(n:Nat)(cl:CL)(a b c d:Value)(h:PH):R:=
 vb (xIdxS 1 a c) fun e=>
 vb (xIdxS 1 a b) fun f=>
 vb (xLd e h) fun g=>
 vb (xLd f h) fun i=>
 vb (pcall (F117 n cl g i (h.fzn))) fun j=>
 bite j (F135_0 n cl d c b h) (some (Value.tuple ⟨[b,c]⟩,h))
theorem S135:OkF Try.prog 135 (A4 (F135 n cl)):=exA4 n ⟨[117],[],[],[(1,[0,1,2,4,5,6,3,7,8])],[],[],[],[]⟩ (svc_ok (S117 n hcl) hcl) hmx Try.func135 (by kernel_rfl) fun _ _ _ _ _=>by kernel_rfl
def F131(n:Nat)(cl:CL)(a b c d e:Value)(h:PH):R:=
 hb (F135 n cl a b c e h) fun f h=>
 vb (xExt 0 f) fun g=>
 vb (xExt 1 f) fun i=>
 hb (F135 n cl a i d e h) fun j h=>
 vb (xExt 0 j) fun k=>
 vb (xExt 1 j) fun l=>
 hb (F135 n cl a g k e h) fun m h=>
 vb (xExt 0 m) fun o=>
 vb (xExt 1 m) fun p=>
 some (p,h)
theorem S131:OkF Try.prog 131 (A5 (F131 n cl)):=exA5 n ⟨[],[],[],[],[],[],[],[]⟩ (svc_ok (S135 n hcl) hcl) hmx Try.func131 (by kernel_rfl) fun _ _ _ _ _ _=>by kernel_rfl
def F130(n:Nat)(cl:CL)(a b c:Value)(h:PH):R:=
 vb (xAri Int.sub b (vN 1)) fun d=>
 vb (xAri Int.add b (vN 1)) fun e=>
 hb (F131 n cl a d b e c h) fun f h=>
 some (f,h)
theorem S130:OkF Try.prog 130 (A3 (F130 n cl)):=exA3 n ⟨[],[],[],[],[],[],[],[]⟩ (svc_ok (S131 n hcl) hcl) hmx Try.func130 (by kernel_rfl) fun _ _ _ _=>by kernel_rfl
def F114_0(n:Nat)(cl:CL)(a b:Value)(h:PH):R:=
 vb (xCmp ieq a (vN 12)) fun c=>
 bite c (some (Value.tuple ⟨[b,(vN 2)]⟩,h)) (some (Value.tuple ⟨[b,(vN 0)]⟩,h))
def F114_1(n:Nat)(cl:CL)(a b:Value)(h:PH):R:=
 vb (xLd a h) fun c=>
 vb (xCmp ieq c (vN 0)) fun d=>
 bite d (some (Value.tuple ⟨[b,(vN 1)]⟩,h)) (F114_0 n cl c b h)
def F114_2(n:Nat)(cl:CL)(a b c d e:Value)(f:Kt)(h:PH):R:=
 hb (F131 n cl a b c d e h) fun g h=>
 f [e,g] h
def F114_3(n:Nat)(cl:CL)(a b c d e:Value)(f:Kt)(h:PH):R:=
 hb (F130 n cl a b c h) fun g h=>
 hb (F130 n cl a d c h) fun i h=>
 hb (F130 n cl a e c h) fun j h=>
 f [a,c,g,i,j] h
def F114_4(n:Nat)(cl:CL)(a:Kt)(b:List Value)(h:PH):R:=
 u5 b fun c d e f g=>F114_2 n cl c e f g d a h
def F114_5(n:Nat)(cl:CL)(a b c d e f:Value)(h:PH)(g:Kt):R:=
 vb (xCmp (fun x y=>ile y x) a (vN 50)) fun i=>
 bite i (F114_3 n cl b c d e f g h) (g [b,d,c,e,f] h)
def F114_6(n:Nat)(cl:CL)(a b c d e f:Value)(h:PH)(g:Kt):R:=
 vb (xCmp (fun x y=>ile y x) a (vN 8)) fun i=>
 bite i (jn (F114_4 n cl g) (F114_5 n cl a b c d e f h)) (g [d,e] h)
def F114(n:Nat)(cl:CL)(a b c:Value)(h:PH):R:=
 vb (xAri Int.sub c b) fun d=>
 hb (xAlloc (zcells Try.prog 3) h) fun e h=>
 vb (xQuo d (vN 4)) fun f=>
 vb (xAri Int.mul f (vN 1)) fun g=>
 vb (xAri Int.add b g) fun i=>
 vb (xQuo d (vN 4)) fun j=>
 vb (xAri Int.mul j (vN 2)) fun k=>
 vb (xAri Int.add b k) fun l=>
 vb (xQuo d (vN 4)) fun m=>
 vb (xAri Int.mul m (vN 3)) fun o=>
 vb (xAri Int.add b o) fun p=>
 jn (fun q h=>ucons q fun r s=>ucons s fun t v=>F114_1 n cl r t h) (F114_6 n cl d a i e l p h)
theorem S114:OkF Try.prog 114 (A3 (F114 n cl)):=exA3 n ⟨[],[],[(11,[0,9,10,11,12]),(12,[9,11])],[],[],[],[],[]⟩ (svc_ok (S131 n hcl) (svc_ok (S130 n hcl) hcl)) hmx Try.func114 (by kernel_rfl) fun _ _ _ _=>by kernel_rfl
def F115_0(n:Nat)(cl:CL)(a b c:Value)(d:Kt)(h:PH):R:=
 vb (xIdxS 1 a b) fun e=>
 vb (xIdxS 1 a c) fun f=>
 vb (xLd e h) fun g=>
 vb (xLd f h) fun i=>
 vb (xIdxS 1 a c) fun j=>
 hb (xSt1 j g h) fun _ h=>
 vb (xIdxS 1 a b) fun k=>
 hb (xSt1 k i h) fun _ h=>
 vb (xAri Int.add c (vN 1)) fun l=>
 vb (xAri Int.sub b (vN 1)) fun m=>
 d [a,l,m] h
def F115_1(n:Nat)(cl:CL)(a b c:Value)(d:Kt)(h:PH):R:=
 vb (xCmp ilt a b) fun e=>
 bite e (F115_0 n cl c b a d h) (some (Value.tuple ⟨[]⟩,h))
def F115_2(n:Nat)(cl:CL)(a:Kt)(b:List Value)(h:PH):R:=
 u3 b fun c d e=>F115_1 n cl d e c a h
def F115(n:Nat)(cl:CL)(a b c:Value)(h:PH):R:=
 vb (xAri Int.sub c (vN 1)) fun d=>
 lp n (F115_2 n cl) [a,b,d] h
theorem S115:OkF Try.prog 115 (A3 (F115 n cl)):=exA3 n ⟨[],[],[(2,[0,6,7])],[(3,[0,1,2,3,4,5,6,8,9,10,7,11,12,13,14,15])],[],[],[],[]⟩ hcl hmx Try.func115 (by kernel_rfl) fun _ _ _ _=>by kernel_rfl
def F116_0(n:Nat)(cl:CL)(a:Value)(b:Kt)(c d e f:Value)(h:PH):R:=
 vb (xAri Int.add a (vN 1)) fun g=>
 b [c,d,e,f,g] h
def F116_1(n:Nat)(cl:CL)(a:Value)(b:Kt)(c d e f:Value)(h:PH):R:=
 vb (xAri Int.add a (vN 1)) fun g=>
 b [c,d,e,g,f] h
def F116_2(n:Nat)(cl:CL)(a b:Value)(c:Kt)(d e f g:Value)(h:PH):R:=
 vb (xAri Int.sub a (vN 1)) fun i=>
 vb (xAri Int.sub a (vN 1)) fun j=>
 vb (xIdxS 1 b j) fun k=>
 vb (xIdxS 1 b a) fun l=>
 vb (xLd k h) fun m=>
 vb (xLd l h) fun o=>
 vb (xIdxS 1 b a) fun p=>
 hb (xSt1 p m h) fun _ h=>
 vb (xIdxS 1 b i) fun q=>
 hb (xSt1 q o h) fun _ h=>
 vb (xAri Int.add a (vN 1)) fun r=>
 c [b,d,e,f,g,r] h
def F116_3(n:Nat)(cl:CL)(a b:Value)(c:Kt)(d e f g:Value)(i:Kt)(h:PH):R:=
 vb (xIdxS 1 a b) fun j=>
 vb (xAri Int.sub b (vN 1)) fun k=>
 vb (xIdxS 1 a k) fun l=>
 vb (xLd j h) fun m=>
 vb (xLd l h) fun o=>
 vb (pcall (F117 n cl m o (h.fzn))) fun p=>
 vb (xNot p) fun q=>
 bite q (c [a,d,e,f,g] h) (F116_2 n cl b a i d e f g h)
def F116_4(n:Nat)(cl:CL)(a b c:Value)(d:Kt)(e f g:Value)(i:Kt)(h:PH):R:=
 vb (xCmp ilt a b) fun j=>
 bite j (F116_3 n cl c a d e b f g i h) (d [c,e,b,f,g] h)
def F116_5(n:Nat)(cl:CL)(a b:Kt)(c:List Value)(h:PH):R:=
 u6 c fun d e f g i j=>F116_4 n cl j f d a e g i b h
def F116_6(n:Nat)(cl:CL)(a:Value)(b:Kt)(c d e f:Value)(h:PH):R:=
 vb (xAri Int.add a (vN 1)) fun g=>
 lp n (F116_5 n cl b) [c,d,e,a,f,g] h
def F116_7(n:Nat)(cl:CL)(a b:Value)(c:Kt)(d e f:Value)(h:PH):R:=
 vb (xAri Int.sub a b) fun g=>
 vb (xCmp (fun x y=>ile y x) g (vN 2)) fun i=>
 bite i (F116_6 n cl b c d e a f h) (c [d,e,a,b,f] h)
def F116_8(n:Nat)(cl:CL)(a b:Value)(c:Kt)(d e f g:Value)(h:PH):R:=
 vb (xAri Int.sub a (vN 1)) fun i=>
 vb (xAri Int.sub a (vN 1)) fun j=>
 vb (xIdxS 1 b j) fun k=>
 vb (xIdxS 1 b a) fun l=>
 vb (xLd k h) fun m=>
 vb (xLd l h) fun o=>
 vb (xIdxS 1 b a) fun p=>
 hb (xSt1 p m h) fun _ h=>
 vb (xIdxS 1 b i) fun q=>
 hb (xSt1 q o h) fun _ h=>
 vb (xAri Int.sub a (vN 1)) fun r=>
 c [b,d,e,f,g,r] h
def F116_9(n:Nat)(cl:CL)(a b:Value)(c:Kt)(d e f g:Value)(i:Kt)(h:PH):R:=
 vb (xIdxS 1 a b) fun j=>
 vb (xAri Int.sub b (vN 1)) fun k=>
 vb (xIdxS 1 a k) fun l=>
 vb (xLd j h) fun m=>
 vb (xLd l h) fun o=>
 vb (pcall (F117 n cl m o (h.fzn))) fun p=>
 vb (xNot p) fun q=>
 bite q (c [a,d,e,f,g] h) (F116_8 n cl b a i d e f g h)
def F116_10(n:Nat)(cl:CL)(a b:Value)(c:Kt)(d e f g:Value)(i:Kt)(h:PH):R:=
 vb (xCmp (fun x y=>ile y x) a (vN 1)) fun j=>
 bite j (F116_9 n cl b a c d e f g i h) (c [b,d,e,f,g] h)
def F116_11(n:Nat)(cl:CL)(a b:Kt)(c:List Value)(h:PH):R:=
 u6 c fun d e f g i j=>F116_10 n cl j d a e f g i b h
def F116_12(n:Nat)(cl:CL)(a:Value)(b:Kt)(c d e f:Value)(h:PH):R:=
 vb (xAri Int.sub a (vN 1)) fun g=>
 lp n (F116_11 n cl b) [c,d,e,a,f,g] h
def F116_13(n:Nat)(cl:CL)(a:Kt)(b:List Value)(h:PH):R:=
 u5 b fun c d e f g=>F116_7 n cl e f a c d g h
def F116_14(n:Nat)(cl:CL)(a b c d e:Value)(h:PH)(f:Kt):R:=
 vb (xAri Int.sub a b) fun g=>
 vb (xCmp (fun x y=>ile y x) g (vN 2)) fun i=>
 bite i (F116_12 n cl a f c b d e h) (f [c,b,d,a,e] h)
def F116_15(n:Nat)(cl:CL)(a b:Value)(c:Kt)(d e f:Value)(h:PH):R:=
 vb (xAri Int.sub a (vN 1)) fun g=>
 vb (xAri Int.sub a (vN 1)) fun i=>
 vb (xIdxS 1 b i) fun j=>
 vb (xIdxS 1 b a) fun k=>
 vb (xLd j h) fun l=>
 vb (xLd k h) fun m=>
 vb (xIdxS 1 b a) fun o=>
 hb (xSt1 o l h) fun _ h=>
 vb (xIdxS 1 b g) fun p=>
 hb (xSt1 p m h) fun _ h=>
 jn (F116_13 n cl c) (F116_14 n cl a d b e f h)
def F116_16(n:Nat)(cl:CL)(a b c d:Value)(e:Kt)(f:Value)(h:PH):R:=
 vb (xAri Int.sub a b) fun g=>
 vb (xCmp ilt g (vN 50)) fun i=>
 bite i (some (ff,h)) (F116_15 n cl c d e b a f h)
def F116_17(n:Nat)(cl:CL)(a b c d:Value)(e:Kt)(f:Value)(h:PH):R:=
 vb (xCmp ieq a b) fun g=>
 bite g (some (tt,h)) (F116_16 n cl b c a d e f h)
def F116_18(n:Nat)(cl:CL)(a b c:Value)(d:Kt)(e f:Value)(g:Kt)(h:PH):R:=
 vb (xCmp ilt a b) fun i=>
 vb (gd (isB true i) (some c)) fun j=>
 vb (gd (isB true i) (some a)) fun k=>
 vb (gd (isB true i) (xIdxS 1 j k)) fun l=>
 vb (gd (isB true i) (some c)) fun m=>
 vb (gd (isB true i) (some a)) fun o=>
 vb (gd (isB true i) (xAri Int.sub o (vN 1))) fun p=>
 vb (gd (isB true i) (xIdxS 1 m p)) fun q=>
 vb (gd (isB true i) (xLd l h)) fun r=>
 vb (gd (isB true i) (xLd q h)) fun s=>
 vb (gd (isB true i) (pcall (F117 n cl r s (h.fzn)))) fun t=>
 vb (gd (isB true i) (xNot t)) fun v=>
 vb (xPick i v ff) fun w=>
 bite w (F116_1 n cl a d c e b f h) (F116_17 n cl a b e c g f h)
def F116_19(n:Nat)(cl:CL)(a b:Kt)(c:List Value)(h:PH):R:=
 u5 c fun d e f g i=>F116_18 n cl g f d b e i a h
def F116_20(n:Nat)(cl:CL)(a:Kt)(b:List Value)(h:PH):R:=
 u5 b fun c d e f g=>F116_0 n cl g a c d e f h
def F116_21(n:Nat)(cl:CL)(a:Value)(b:Kt)(c d e f:Value)(h:PH):R:=
 vb (xCmp ilt a (vN 5)) fun g=>
 bite g (jn (F116_20 n cl b) (fun i=>lp n (F116_19 n cl i) [c,d,e,f,a] h)) (some (ff,h))
def F116_22(n:Nat)(cl:CL)(a:Kt)(b:List Value)(h:PH):R:=
 u5 b fun c d e f g=>F116_21 n cl g a c d e f h
def F116(n:Nat)(cl:CL)(a b c:Value)(h:PH):R:=
 vb (xAri Int.add b (vN 1)) fun d=>
 lp n (F116_22 n cl) [a,b,c,d,(vN 0)] h
theorem S116:OkF Try.prog 116 (A3 (F116 n cl)):=exA3 n ⟨[117],[],[(3,[0,1,2,7,8]),(4,[0,1,2,7,8]),(5,[0,1,2,7,8]),(14,[0,1,2,7,8,9]),(18,[0,1,2,7,8]),(20,[0,1,2,7,8,10])],[(5,[0,1,2,3,4,5,6,8,9,10,11,7,12,13,14,15]),(11,[0,1,2,3,4,5,6,7,8,10,11,12,9,13,14,15,16,17]),(16,[0,1,2,4,5,6,7,3,8,9,10]),(17,[0,1,2,3,4,5,6,7,8,10,11,12,9,13,14,15,16,17]),(22,[0,1,2,4,5,6,7,3,8,9,10]),(23,[0,1,2,3,4,5,6,7,8,10,11,12,9,13,14,15,16,17])],[],[],[],[]⟩ (svc_ok (S117 n hcl) hcl) hmx Try.func116 (by kernel_rfl) fun _ _ _ _=>by kernel_rfl
def F118_0(n:Nat)(cl:CL)(a:Value)(b:Kt)(c d e:Value)(h:PH):R:=
 vb (xAri Int.add a (vN 1)) fun f=>
 b [c,d,f,e] h
def F118_1(n:Nat)(cl:CL)(a:Value)(b:Kt)(c d e:Value)(h:PH):R:=
 vb (xAri Int.sub a (vN 1)) fun f=>
 b [c,d,e,f] h
def F118_2(n:Nat)(cl:CL)(a b c:Value)(d:Kt)(e:Value)(h:PH):R:=
 vb (xIdxS 1 a b) fun f=>
 vb (xIdxS 1 a c) fun g=>
 vb (xLd f h) fun i=>
 vb (xLd g h) fun j=>
 vb (xIdxS 1 a c) fun k=>
 hb (xSt1 k i h) fun _ h=>
 vb (xIdxS 1 a b) fun l=>
 hb (xSt1 l j h) fun _ h=>
 vb (xAri Int.add c (vN 1)) fun m=>
 vb (xAri Int.sub b (vN 1)) fun o=>
 d [a,e,m,o] h
def F118_3(n:Nat)(cl:CL)(a b c:Value)(d:Kt)(e:Value)(h:PH):R:=
 vb (xCmp (fun x y=>ilt y x) a b) fun f=>
 bite f (some (a,h)) (F118_2 n cl c b a d e h)
def F118_4(n:Nat)(cl:CL)(a b c d:Value)(e f:Kt)(h:PH):R:=
 vb (xCmp ile a b) fun g=>
 vb (gd (isB true g) (some c)) fun i=>
 vb (gd (isB true g) (some d)) fun j=>
 vb (gd (isB true g) (xIdxS 1 i j)) fun k=>
 vb (gd (isB true g) (some c)) fun l=>
 vb (gd (isB true g) (some b)) fun m=>
 vb (gd (isB true g) (xIdxS 1 l m)) fun o=>
 vb (gd (isB true g) (xLd k h)) fun p=>
 vb (gd (isB true g) (xLd o h)) fun q=>
 vb (gd (isB true g) (pcall (F117 n cl p q (h.fzn)))) fun r=>
 vb (xPick g r ff) fun s=>
 bite s (F118_1 n cl b e c d a h) (F118_3 n cl a b c f d h)
def F118_5(n:Nat)(cl:CL)(a b:Kt)(c:List Value)(h:PH):R:=
 u4 c fun d e f g=>F118_4 n cl f g d e b a h
def F118_6(n:Nat)(cl:CL)(a b c d:Value)(e f:Kt)(h:PH):R:=
 vb (xCmp ile a b) fun g=>
 vb (gd (isB true g) (some c)) fun i=>
 vb (gd (isB true g) (some d)) fun j=>
 vb (gd (isB true g) (xIdxS 1 i j)) fun k=>
 vb (gd (isB true g) (some c)) fun l=>
 vb (gd (isB true g) (some a)) fun m=>
 vb (gd (isB true g) (xIdxS 1 l m)) fun o=>
 vb (gd (isB true g) (xLd k h)) fun p=>
 vb (gd (isB true g) (xLd o h)) fun q=>
 vb (gd (isB true g) (pcall (F117 n cl p q (h.fzn)))) fun r=>
 vb (gd (isB true g) (xNot r)) fun s=>
 vb (xPick g s ff) fun t=>
 bite t (F118_0 n cl a e c d b h) (lp n (F118_5 n cl f) [c,d,a,b] h)
def F118_7(n:Nat)(cl:CL)(a b:Kt)(c:List Value)(h:PH):R:=
 u4 c fun d e f g=>F118_6 n cl f g d e b a h
def F118_8(n:Nat)(cl:CL)(a:Kt)(b:List Value)(h:PH):R:=
 u4 b fun c d e f=>lp n (F118_7 n cl a) [c,d,e,f] h
def F118(n:Nat)(cl:CL)(a b c d:Value)(h:PH):R:=
 vb (xIdxS 1 a d) fun e=>
 vb (xIdxS 1 a b) fun f=>
 vb (xLd e h) fun g=>
 vb (xLd f h) fun i=>
 vb (xIdxS 1 a b) fun j=>
 hb (xSt1 j g h) fun _ h=>
 vb (xIdxS 1 a d) fun k=>
 hb (xSt1 k i h) fun _ h=>
 vb (xAri Int.add b (vN 1)) fun l=>
 vb (xAri Int.sub c (vN 1)) fun m=>
 lp n (F118_8 n cl) [a,b,l,m] h
theorem S118:OkF Try.prog 118 (A4 (F118 n cl)):=exA4 n ⟨[117],[],[(3,[0,1,9,10]),(5,[0,1,9,10])],[(1,[0,1,2,3,4,5,6,8,9,10,7,11,12,13,14,15]),(3,[0,1,2,3,4,5,6,8,9,10,7,11,12,13,14]),(5,[0,1,2,3,4,5,6,8,9,10,7,11,12,13]),(8,[0,1,2,3,4,5,6,8,9,10,7,11,12,13,14,15])],[],[],[],[]⟩ (svc_ok (S117 n hcl) hcl) hmx Try.func118 (by kernel_rfl) fun _ _ _ _ _=>by kernel_rfl
def F119_0(n:Nat)(cl:CL)(a:Value)(b:Kt)(c d e:Value)(h:PH):R:=
 vb (xAri Int.add a (vN 1)) fun f=>
 b [c,d,f,e] h
def F119_1(n:Nat)(cl:CL)(a:Value)(b:Kt)(c d e:Value)(h:PH):R:=
 vb (xAri Int.sub a (vN 1)) fun f=>
 b [c,d,e,f] h
def F119_2(n:Nat)(cl:CL)(a b c:Value)(h:PH):R:=
 vb (xIdxS 1 a b) fun d=>
 vb (xIdxS 1 a c) fun e=>
 vb (xLd d h) fun f=>
 vb (xLd e h) fun g=>
 vb (xIdxS 1 a c) fun i=>
 hb (xSt1 i f h) fun _ h=>
 vb (xIdxS 1 a b) fun j=>
 hb (xSt1 j g h) fun _ h=>
 some (Value.tuple ⟨[c,tt]⟩,h)
def F119_3(n:Nat)(cl:CL)(a:Value)(b:Kt)(c d e:Value)(h:PH):R:=
 vb (xAri Int.add a (vN 1)) fun f=>
 b [c,d,f,e] h
def F119_4(n:Nat)(cl:CL)(a:Value)(b:Kt)(c d e:Value)(h:PH):R:=
 vb (xAri Int.sub a (vN 1)) fun f=>
 b [c,d,e,f] h
def F119_5(n:Nat)(cl:CL)(a b c:Value)(h:PH):R:=
 vb (xIdxS 1 a b) fun d=>
 vb (xIdxS 1 a c) fun e=>
 vb (xLd d h) fun f=>
 vb (xLd e h) fun g=>
 vb (xIdxS 1 a c) fun i=>
 hb (xSt1 i f h) fun _ h=>
 vb (xIdxS 1 a b) fun j=>
 hb (xSt1 j g h) fun _ h=>
 some (Value.tuple ⟨[c,ff]⟩,h)
def F119_6(n:Nat)(cl:CL)(a b c:Value)(d:Kt)(e:Value)(h:PH):R:=
 vb (xIdxS 1 a b) fun f=>
 vb (xIdxS 1 a c) fun g=>
 vb (xLd f h) fun i=>
 vb (xLd g h) fun j=>
 vb (xIdxS 1 a c) fun k=>
 hb (xSt1 k i h) fun _ h=>
 vb (xIdxS 1 a b) fun l=>
 hb (xSt1 l j h) fun _ h=>
 vb (xAri Int.add c (vN 1)) fun m=>
 vb (xAri Int.sub b (vN 1)) fun o=>
 d [a,e,m,o] h
def F119_7(n:Nat)(cl:CL)(a b c d:Value)(e:Kt)(h:PH):R:=
 vb (xCmp (fun x y=>ilt y x) a b) fun f=>
 bite f (F119_5 n cl c d b h) (F119_6 n cl c b a e d h)
def F119_8(n:Nat)(cl:CL)(a b c d:Value)(e f:Kt)(h:PH):R:=
 vb (xCmp ile a b) fun g=>
 vb (gd (isB true g) (some c)) fun i=>
 vb (gd (isB true g) (some b)) fun j=>
 vb (gd (isB true g) (xIdxS 1 i j)) fun k=>
 vb (gd (isB true g) (some c)) fun l=>
 vb (gd (isB true g) (some d)) fun m=>
 vb (gd (isB true g) (xIdxS 1 l m)) fun o=>
 vb (gd (isB true g) (xLd k h)) fun p=>
 vb (gd (isB true g) (xLd o h)) fun q=>
 vb (gd (isB true g) (pcall (F117 n cl p q (h.fzn)))) fun r=>
 vb (gd (isB true g) (xNot r)) fun s=>
 vb (xPick g s ff) fun t=>
 bite t (F119_4 n cl b e c d a h) (F119_7 n cl a b c d f h)
def F119_9(n:Nat)(cl:CL)(a b:Kt)(c:List Value)(h:PH):R:=
 u4 c fun d e f g=>F119_8 n cl f g d e b a h
def F119_10(n:Nat)(cl:CL)(a b c d:Value)(e f:Kt)(h:PH):R:=
 vb (xCmp ile a b) fun g=>
 vb (gd (isB true g) (some c)) fun i=>
 vb (gd (isB true g) (some a)) fun j=>
 vb (gd (isB true g) (xIdxS 1 i j)) fun k=>
 vb (gd (isB true g) (some c)) fun l=>
 vb (gd (isB true g) (some d)) fun m=>
 vb (gd (isB true g) (xIdxS 1 l m)) fun o=>
 vb (gd (isB true g) (xLd k h)) fun p=>
 vb (gd (isB true g) (xLd o h)) fun q=>
 vb (gd (isB true g) (pcall (F117 n cl p q (h.fzn)))) fun r=>
 vb (xPick g r ff) fun s=>
 bite s (F119_3 n cl a e c d b h) (lp n (F119_9 n cl f) [c,d,a,b] h)
def F119_11(n:Nat)(cl:CL)(a b:Kt)(c:List Value)(h:PH):R:=
 u4 c fun d e f g=>F119_10 n cl f g d e b a h
def F119_12(n:Nat)(cl:CL)(a:Kt)(b:List Value)(h:PH):R:=
 u4 b fun c d e f=>lp n (F119_11 n cl a) [c,d,e,f] h
def F119_13(n:Nat)(cl:CL)(a b c d:Value)(h:PH):R:=
 vb (xIdxS 1 a b) fun e=>
 vb (xIdxS 1 a c) fun f=>
 vb (xLd e h) fun g=>
 vb (xLd f h) fun i=>
 vb (xIdxS 1 a c) fun j=>
 hb (xSt1 j g h) fun _ h=>
 vb (xIdxS 1 a b) fun k=>
 hb (xSt1 k i h) fun _ h=>
 vb (xAri Int.add c (vN 1)) fun l=>
 vb (xAri Int.sub b (vN 1)) fun m=>
 lp n (F119_12 n cl) [a,d,l,m] h
def F119_14(n:Nat)(cl:CL)(a b c d:Value)(h:PH):R:=
 vb (xCmp (fun x y=>ilt y x) a b) fun e=>
 bite e (F119_2 n cl c d b h) (F119_13 n cl c b a d h)
def F119_15(n:Nat)(cl:CL)(a b c d:Value)(e:Kt)(h:PH):R:=
 vb (xCmp ile a b) fun f=>
 vb (gd (isB true f) (some c)) fun g=>
 vb (gd (isB true f) (some b)) fun i=>
 vb (gd (isB true f) (xIdxS 1 g i)) fun j=>
 vb (gd (isB true f) (some c)) fun k=>
 vb (gd (isB true f) (some d)) fun l=>
 vb (gd (isB true f) (xIdxS 1 k l)) fun m=>
 vb (gd (isB true f) (xLd j h)) fun o=>
 vb (gd (isB true f) (xLd m h)) fun p=>
 vb (gd (isB true f) (pcall (F117 n cl o p (h.fzn)))) fun q=>
 vb (gd (isB true f) (xNot q)) fun r=>
 vb (xPick f r ff) fun s=>
 bite s (F119_1 n cl b e c d a h) (F119_14 n cl a b c d h)
def F119_16(n:Nat)(cl:CL)(a:Kt)(b:List Value)(h:PH):R:=
 u4 b fun c d e f=>F119_15 n cl e f c d a h
def F119_17(n:Nat)(cl:CL)(a b c d:Value)(e:Kt)(h:PH):R:=
 vb (xCmp ile a b) fun f=>
 vb (gd (isB true f) (some c)) fun g=>
 vb (gd (isB true f) (some a)) fun i=>
 vb (gd (isB true f) (xIdxS 1 g i)) fun j=>
 vb (gd (isB true f) (some c)) fun k=>
 vb (gd (isB true f) (some d)) fun l=>
 vb (gd (isB true f) (xIdxS 1 k l)) fun m=>
 vb (gd (isB true f) (xLd j h)) fun o=>
 vb (gd (isB true f) (xLd m h)) fun p=>
 vb (gd (isB true f) (pcall (F117 n cl o p (h.fzn)))) fun q=>
 vb (xPick f q ff) fun r=>
 bite r (F119_0 n cl a e c d b h) (lp n (F119_16 n cl) [c,d,a,b] h)
def F119_18(n:Nat)(cl:CL)(a:Kt)(b:List Value)(h:PH):R:=
 u4 b fun c d e f=>F119_17 n cl e f c d a h
def F119(n:Nat)(cl:CL)(a b c d:Value)(h:PH):R:=
 vb (xIdxS 1 a d) fun e=>
 vb (xIdxS 1 a b) fun f=>
 vb (xLd e h) fun g=>
 vb (xLd f h) fun i=>
 vb (xIdxS 1 a b) fun j=>
 hb (xSt1 j g h) fun _ h=>
 vb (xIdxS 1 a d) fun k=>
 hb (xSt1 k i h) fun _ h=>
 vb (xAri Int.add b (vN 1)) fun l=>
 vb (xAri Int.sub c (vN 1)) fun m=>
 lp n (F119_18 n cl) [a,b,l,m] h
theorem S119:OkF Try.prog 119 (A4 (F119 n cl)):=exA4 n ⟨[117],[],[(3,[0,1,10,11]),(5,[0,1,10,11]),(13,[0,1,10,11]),(15,[0,1,10,11])],[(1,[0,1,2,3,4,5,6,8,9,10,7,11,12,13,14,15]),(3,[0,1,2,3,4,5,6,8,9,10,7,11,12,13]),(5,[0,1,2,3,4,5,6,8,9,10,7,11,12,13,14]),(8,[0,1,2,3,4,5,6,8,9,10,7,11,12,13,14,15]),(10,[0,1,2,3,4,5,6,8,9,10,7,11,12,13,14,15]),(13,[0,1,2,3,4,5,6,8,9,10,7,11,12,13]),(15,[0,1,2,3,4,5,6,8,9,10,7,11,12,13,14]),(18,[0,1,2,3,4,5,6,8,9,10,7,11,12,13,14,15]),(21,[0,1,2,3,4,5,6,8,9,10,7,11,12,13,14,15])],[],[],[],[]⟩ (svc_ok (S117 n hcl) hcl) hmx Try.func119 (by kernel_rfl) fun _ _ _ _ _=>by kernel_rfl
def F104_0(n:Nat)(cl:CL)(a b c:Value)(h:PH):R:=
 hb (F111 n cl a b c h) fun d h=>
 some (Value.tuple ⟨[]⟩,h)
def F104_1(n:Nat)(cl:CL)(a b c:Value)(h:PH):R:=
 hb (F112 n cl a b c h) fun d h=>
 some (Value.tuple ⟨[]⟩,h)
def F104_2(n:Nat)(cl:CL)(a b c d:Value)(e:Kt)(f g i:Value)(h:PH):R:=
 hb (F118 n cl a b c d h) fun j h=>
 e [a,j,c,f,g,i] h
def F104_3(n:Nat)(cl:CL)(a b c d e f:Value)(g:Kt)(i j:Value)(h:PH):R:=
 vb (xCmp (fun x y=>ile y x) a b) fun k=>
 hb (cl 104 [c,d,e,f] h) fun l h=>
 vb (xAri Int.add e (vN 1)) fun m=>
 g [c,m,i,f,k,j] h
def F104_4(n:Nat)(cl:CL)(a b c d e f:Value)(g:Kt)(i j:Value)(h:PH):R:=
 vb (xCmp (fun x y=>ile y x) a b) fun k=>
 vb (xAri Int.add c (vN 1)) fun l=>
 hb (cl 104 [d,l,e,f] h) fun m h=>
 g [d,i,c,f,k,j] h
def F104_5(n:Nat)(cl:CL)(a b c d e f:Value)(g:Kt)(h:PH):R:=
 hb (F119 n cl a b c d h) fun i h=>
 vb (xExt 0 i) fun j=>
 vb (xExt 1 i) fun k=>
 vb (xAri Int.sub j b) fun l=>
 vb (xAri Int.sub c j) fun m=>
 vb (xQuo e (vN 8)) fun o=>
 vb (xCmp ilt l m) fun p=>
 bite p (F104_3 n cl l o a b j f g c k h) (F104_4 n cl m o j a c f g b k h)
def F104_6(n:Nat)(cl:CL)(a b c d:Value)(e:Kt)(f g i j:Value)(h:PH):R:=
 vb (xCmp (fun x y=>ilt y x) a (vN 0)) fun k=>
 vb (gd (isB true k) (some b)) fun l=>
 vb (gd (isB true k) (some a)) fun m=>
 vb (gd (isB true k) (xAri Int.sub m (vN 1))) fun o=>
 vb (gd (isB true k) (xIdxS 1 l o)) fun p=>
 vb (gd (isB true k) (some b)) fun q=>
 vb (gd (isB true k) (some c)) fun r=>
 vb (gd (isB true k) (xIdxS 1 q r)) fun s=>
 vb (gd (isB true k) (xLd p h)) fun t=>
 vb (gd (isB true k) (xLd s h)) fun v=>
 vb (gd (isB true k) (pcall (F117 n cl t v (h.fzn)))) fun w=>
 vb (gd (isB true k) (xNot w)) fun z=>
 vb (xPick k z ff) fun a1=>
 bite a1 (F104_2 n cl b a d c e f g i h) (F104_5 n cl b a d c j f e h)
def F104_7(n:Nat)(cl:CL)(a b c:Value)(d:Kt)(e f g i j:Value)(h:PH):R:=
 hb (F116 n cl a b c h) fun k h=>
 bite k (some (Value.tuple ⟨[]⟩,h)) (d [a,b,c,e,f,g,i,j] h)
def F104_8(n:Nat)(cl:CL)(a:Kt)(b:List Value)(h:PH):R:=
 u8 b fun c d e f g i j k=>F104_6 n cl d c k e a f g i j h
def F104_9(n:Nat)(cl:CL)(a b c d e f g i j:Value)(h:PH)(k:Kt):R:=
 vb (gd (isB true a) (some b)) fun l=>
 vb (xPick a l ff) fun m=>
 vb (gd (isB true m) (some c)) fun o=>
 vb (gd (isB true m) (xCmp ieq o (vN 1))) fun p=>
 vb (xPick m p ff) fun q=>
 bite q (F104_7 n cl d e f k g a b i j h) (k [d,e,f,g,a,b,i,j] h)
def F104_10(n:Nat)(cl:CL)(a b c d:Value)(e:Kt)(f g i j:Value)(h:PH):R:=
 hb (F115 n cl a b c h) fun k h=>
 vb (xAri Int.sub c (vN 1)) fun l=>
 vb (xAri Int.sub d b) fun m=>
 vb (xAri Int.sub l m) fun o=>
 e [a,b,c,f,g,i,j,o,(vN 1)] h
def F104_11(n:Nat)(cl:CL)(a:Kt)(b:List Value)(h:PH):R:=
 u9 b fun c d e f g i j k l=>jn (F104_8 n cl a) (F104_9 n cl g i l c d e f j k h)
def F104_12(n:Nat)(cl:CL)(a b c d e f g i j:Value)(h:PH)(k:Kt):R:=
 vb (xCmp ieq a (vN 2)) fun l=>
 bite l (F104_10 n cl b c d e k f g i j h) (k [b,c,d,f,g,i,j,e,a] h)
def F104_13(n:Nat)(cl:CL)(a b c:Value)(d:Kt)(e f g i:Value)(h:PH):R:=
 hb (F114 n cl a b c h) fun j h=>
 vb (xExt 0 j) fun k=>
 vb (xExt 1 j) fun l=>
 jn (F104_11 n cl d) (F104_12 n cl l a b c k e f g i h)
def F104_14(n:Nat)(cl:CL)(a b c d:Value)(e:Kt)(f g i:Value)(h:PH):R:=
 hb (F113 n cl a b c h) fun j h=>
 vb (xAri Int.sub d (vN 1)) fun k=>
 e [a,b,c,k,f,g,i] h
def F104_15(n:Nat)(cl:CL)(a:Kt)(b:List Value)(h:PH):R:=
 u7 b fun c d e f g i j=>F104_13 n cl c d e a f g i j h
def F104_16(n:Nat)(cl:CL)(a b c d e f g:Value)(h:PH)(i:Kt):R:=
 vb (xNot a) fun j=>
 bite j (F104_14 n cl b c d e i a f g h) (i [b,c,d,e,a,f,g] h)
def F104_17(n:Nat)(cl:CL)(a b c d:Value)(e:Kt)(f g i:Value)(h:PH):R:=
 vb (xCmp ieq a (vN 0)) fun j=>
 bite j (F104_1 n cl b c d h) (jn (F104_15 n cl e) (F104_16 n cl f b c d a g i h))
def F104_18(n:Nat)(cl:CL)(a b c d:Value)(e:Kt)(f g:Value)(h:PH):R:=
 vb (xAri Int.sub a b) fun i=>
 vb (xCmp ile i (vN 12)) fun j=>
 bite j (F104_0 n cl c b a h) (F104_17 n cl d c b a e f g i h)
def F104_19(n:Nat)(cl:CL)(a:Kt)(b:List Value)(h:PH):R:=
 u6 b fun c d e f g i=>F104_18 n cl e d c f a g i h
def F104(n:Nat)(cl:CL)(a b c d:Value)(h:PH):R:=
 lp n (F104_19 n cl) [a,b,c,d,tt,tt] h
theorem S104:OkF Try.prog 104 (A4 (F104 n cl)):=exA4 n ⟨[117],[],[(2,[0,1,2,3,8,9]),(10,[0,1,2,3,8,9,10]),(15,[0,1,2,3,8,9,10,11,12]),(17,[0,1,2,3,8,9,10,11])],[(17,[0,1,2,3,4,5,6,8,9,10,7,11,12,13,14])],[],[],[],[]⟩ (svc_ok (S111 n hcl) (svc_ok (S112 n hcl) (svc_ok (S114 n hcl) (svc_ok (S117 n hcl) (svc_ok (S118 n hcl) (svc_ok (S119 n hcl) (svc_ok (S116 n hcl) (svc_ok (S115 n hcl) (svc_ok (S113 n hcl) hcl))))))))) hmx Try.func104 (by kernel_rfl) fun _ _ _ _ _=>by kernel_rfl
def F88_0(n:Nat)(cl:CL)(a:Value)(b:Kt)(c d e:Value)(h:PH):R:=
 vb (xAri Int.add a (vN 1)) fun f=>
 b [c,d,e,f] h
def F88_1(n:Nat)(cl:CL)(a b c:Value)(d:Kt)(e:Value)(h:PH):R:=
 vb (xIdxS 1 a b) fun f=>
 vb (xLd f h) fun g=>
 vb (xCmp ieq c g) fun i=>
 bite i (some (b,h)) (F88_0 n cl b d a c e h)
def F88_2(n:Nat)(cl:CL)(a b c d:Value)(e:Kt)(h:PH):R:=
 vb (xCmp ilt a b) fun f=>
 bite f (F88_1 n cl c a d e b h) (some ((vM 0),h))
def F88_3(n:Nat)(cl:CL)(a:Kt)(b:List Value)(h:PH):R:=
 u4 b fun c d e f=>F88_2 n cl f e c d a h
def F88(n:Nat)(cl:CL)(a b:Value)(h:PH):R:=
 vb (xLenS a) fun c=>
 lp n (F88_3 n cl) [a,b,c,(vN 0)] h
theorem S88:OkF Try.prog 88 (A2 (F88 n cl)):=exA2 n ⟨[],[],[(2,[0,1,7,8])],[],[],[],[],[]⟩ hcl hmx Try.func88 (by kernel_rfl) fun _ _ _=>by kernel_rfl
def F62(n:Nat)(cl:CL)(a b:Value)(h:PH):R:=
 vb (pcall (F88 n cl a b (h.fzn))) fun c=>
 vb (xCmp (fun x y=>ile y x) c (vN 0)) fun d=>
 some (d,h)
theorem S62:OkF Try.prog 62 (A2 (F62 n cl)):=exA2 n ⟨[88],[],[],[],[],[],[],[]⟩ (svc_ok (S88 n hcl) hcl) hmx Try.func62 (by kernel_rfl) fun _ _ _=>by kernel_rfl
def F61(n:Nat)(cl:CL)(a b:Value)(h:PH):R:=
 vb (xFld 3 b) fun c=>
 vb (xLd c h) fun d=>
 vb (pcall (F62 n cl d a (h.fzn))) fun e=>
 some (e,h)
theorem S61:OkF Try.prog 61 (A2 (F61 n cl)):=exA2 n ⟨[62],[],[],[],[],[],[],[]⟩ (svc_ok (S62 n hcl) hcl) hmx Try.func61 (by kernel_rfl) fun _ _ _=>by kernel_rfl
def F32_0(n:Nat)(cl:CL)(a b:Value)(h:PH):R:=
 vb (xLenS a) fun c=>
 vb (xCmp ieq c (vN 1)) fun d=>
 vb (gd (isB true d) (xFld 1 b)) fun e=>
 vb (gd (isB true d) (some a)) fun f=>
 vb (gd (isB true d) (xIdxS 1 f (vN 0))) fun g=>
 vb (gd (isB true d) (xLdA 4 e h)) fun i=>
 vb (gd (isB true d) (xLd g h)) fun j=>
 vb (gd (isB true d) (pcall (F44 n cl i j (h.fzn)))) fun k=>
 vb (xPick d k ff) fun l=>
 some (l,h)
def F32_1(n:Nat)(cl:CL)(a:Value)(b:Kt)(c d e:Value)(h:PH):R:=
 vb (xAri Int.add a (vN 1)) fun f=>
 b [c,d,e,f] h
def F32_2(n:Nat)(cl:CL)(a b c d:Value)(e:Kt)(h:PH):R:=
 vb (xFld 5 a) fun f=>
 vb (xLd f h) fun g=>
 vb (xIdxS 6 g b) fun i=>
 vb (xLdA 6 i h) fun j=>
 vb (xAri Int.sub c (vN 1)) fun k=>
 vb (pcall (cl 32 [j,d,k] (h.fzn))) fun l=>
 bite l (some (tt,h)) (F32_1 n cl b e d c a h)
def F32_3(n:Nat)(cl:CL)(a b c d:Value)(e:Kt)(h:PH):R:=
 vb (xFld 5 a) fun f=>
 vb (xLd f h) fun g=>
 vb (xLenS g) fun i=>
 vb (xCmp ilt b i) fun j=>
 bite j (F32_2 n cl a b c d e h) (some (ff,h))
def F32_4(n:Nat)(cl:CL)(a:Kt)(b:List Value)(h:PH):R:=
 u4 b fun c d e f=>F32_3 n cl e f d c a h
def F32_5(n:Nat)(cl:CL)(a b c:Value)(h:PH):R:=
 vb (xFld 5 a) fun d=>
 vb (xLd d h) fun e=>
 vb (xIdxS 6 e (vN 0)) fun f=>
 vb (xLdA 6 f h) fun g=>
 vb (xAri Int.sub b (vN 1)) fun i=>
 vb (pcall (cl 32 [g,c,i] (h.fzn))) fun j=>
 some (j,h)
def F32_6(n:Nat)(cl:CL)(a:Value)(b:Kt)(c d e:Value)(h:PH):R:=
 vb (xAri Int.add a (vN 1)) fun f=>
 b [c,d,e,f] h
def F32_7(n:Nat)(cl:CL)(a b c d:Value)(e:Kt)(h:PH):R:=
 vb (xFld 5 a) fun f=>
 vb (acut Try.prog 39 b none (some c) none) fun g=>
 vb (xAri Int.sub d (vN 1)) fun i=>
 vb (xLd f h) fun j=>
 vb (xIdxS 6 j (vN 0)) fun k=>
 vb (xLdA 6 k h) fun l=>
 vb (pcall (cl 32 [l,g,i] (h.fzn))) fun m=>
 vb (gd (isB true m) (xFld 5 a)) fun o=>
 vb (gd (isB true m) (some b)) fun p=>
 vb (gd (isB true m) (some c)) fun q=>
 vb (gd (isB true m) (acut Try.prog 39 p (some q) none none)) fun r=>
 vb (gd (isB true m) (some d)) fun s=>
 vb (gd (isB true m) (xAri Int.sub s (vN 1))) fun t=>
 vb (gd (isB true m) (xLd o h)) fun v=>
 vb (gd (isB true m) (acut Try.prog 55 v (some (vN 1)) none none)) fun w=>
 vb (gd (isB true m) (abuild Try.prog 57 [(0,(vN 2)),(2,w)])) fun z=>
 vb (gd (isB true m) (pcall (cl 32 [z,r,t] (h.fzn)))) fun a1=>
 vb (xPick m a1 ff) fun b1=>
 bite b1 (some (tt,h)) (F32_6 n cl c e b d a h)
def F32_8(n:Nat)(cl:CL)(a b c d:Value)(e:Kt)(h:PH):R:=
 vb (xLenS a) fun f=>
 vb (xCmp ile b f) fun g=>
 bite g (F32_7 n cl c a b d e h) (some (ff,h))
def F32_9(n:Nat)(cl:CL)(a:Kt)(b:List Value)(h:PH):R:=
 u4 b fun c d e f=>F32_8 n cl c f e d a h
def F32_10(n:Nat)(cl:CL)(a b c:Value)(h:PH):R:=
 vb (xFld 5 a) fun d=>
 vb (xLd d h) fun e=>
 vb (xLenS e) fun f=>
 vb (xCmp ieq f (vN 1)) fun g=>
 bite g (F32_5 n cl a b c h) (lp n (F32_9 n cl) [c,b,a,(vN 0)] h)
def F32_11(n:Nat)(cl:CL)(a b c:Value)(h:PH):R:=
 vb (xLenS a) fun d=>
 vb (xCmp ieq d (vN 0)) fun e=>
 vb (gd (isB false e) (xFld 5 b)) fun f=>
 vb (gd (isB false e) (xLd f h)) fun g=>
 vb (gd (isB false e) (xIdxS 6 g (vN 0))) fun i=>
 vb (gd (isB false e) (xLdA 6 i h)) fun j=>
 vb (gd (isB false e) (some a)) fun k=>
 vb (gd (isB false e) (some c)) fun l=>
 vb (gd (isB false e) (xAri Int.sub l (vN 1))) fun m=>
 vb (gd (isB false e) (pcall (cl 32 [j,k,m] (h.fzn)))) fun o=>
 vb (xPick e tt o) fun p=>
 some (p,h)
def F32_12(n:Nat)(cl:CL)(a b c:Value)(h:PH):R:=
 vb (xFld 0 a) fun d=>
 vb (xLd d h) fun e=>
 vb (xCmp ieq e (vN 4)) fun f=>
 vb (gd (isB false f) (xFld 5 a)) fun g=>
 vb (gd (isB false f) (xLd g h)) fun i=>
 vb (gd (isB false f) (xIdxS 6 i (vN 0))) fun j=>
 vb (gd (isB false f) (xLdA 6 j h)) fun k=>
 vb (gd (isB false f) (some b)) fun l=>
 vb (gd (isB false f) (some c)) fun m=>
 vb (gd (isB false f) (xAri Int.sub m (vN 1))) fun o=>
 vb (gd (isB false f) (pcall (cl 32 [k,l,o] (h.fzn)))) fun p=>
 vb (xPick f tt p) fun q=>
 some (q,h)
def F32_13(n:Nat)(cl:CL)(a:Value)(b:Kt)(c d e:Value)(h:PH):R:=
 vb (xAri Int.add a (vN 1)) fun f=>
 b [c,d,e,f] h
def F32_14(n:Nat)(cl:CL)(a b c d:Value)(e:Kt)(h:PH):R:=
 vb (xFld 5 a) fun f=>
 vb (acut Try.prog 39 b none (some c) none) fun g=>
 vb (xAri Int.sub d (vN 1)) fun i=>
 vb (xLd f h) fun j=>
 vb (xIdxS 6 j (vN 0)) fun k=>
 vb (xLdA 6 k h) fun l=>
 vb (pcall (cl 32 [l,g,i] (h.fzn))) fun m=>
 vb (gd (isB true m) (some c)) fun o=>
 vb (gd (isB true m) (some b)) fun p=>
 vb (gd (isB true m) (xLenS p)) fun q=>
 vb (gd (isB true m) (xCmp ieq o q)) fun r=>
 vb (gd (isB true m) (some r)) fun s=>
 vb (gd (isB false s) (xFld 5 a)) fun t=>
 vb (gd (isB false s) (some b)) fun v=>
 vb (gd (isB false s) (some c)) fun w=>
 vb (gd (isB false s) (acut Try.prog 39 v (some w) none none)) fun z=>
 vb (gd (isB false s) (some d)) fun a1=>
 vb (gd (isB false s) (xAri Int.sub a1 (vN 1))) fun b1=>
 vb (gd (isB false s) (xLd t h)) fun c1=>
 vb (gd (isB false s) (abuild Try.prog 57 [(0,(vN 4)),(2,c1)])) fun d1=>
 vb (gd (isB false s) (pcall (cl 32 [d1,z,b1] (h.fzn)))) fun e1=>
 vb (gd (isB true m) (xPick s tt e1)) fun f1=>
 vb (xPick m f1 ff) fun g1=>
 bite g1 (some (tt,h)) (F32_13 n cl c e b d a h)
def F32_15(n:Nat)(cl:CL)(a b c d:Value)(e:Kt)(h:PH):R:=
 vb (xLenS a) fun f=>
 vb (xCmp ile b f) fun g=>
 bite g (F32_14 n cl c a b d e h) (some (ff,h))
def F32_16(n:Nat)(cl:CL)(a:Kt)(b:List Value)(h:PH):R:=
 u4 b fun c d e f=>F32_15 n cl c f e d a h
def F32_17(n:Nat)(cl:CL)(a b c:Value)(h:PH):R:=
 vb (xLenS a) fun d=>
 vb (xCmp ieq d (vN 0)) fun e=>
 bite e (F32_12 n cl b a c h) (lp n (F32_16 n cl) [a,c,b,(vN 1)] h)
def F32_18(n:Nat)(cl:CL)(a:Value)(h:PH):R:=
 vb (xLenS a) fun b=>
 vb (xCmp ieq b (vN 0)) fun c=>
 some (c,h)
def F32_19(n:Nat)(cl:CL)(a:Value)(b:Kt)(c d e:Value)(h:PH):R:=
 vb (xCmp ieq a (vN 5)) fun f=>
 b [c,d,e,f] h
def F32_20(n:Nat)(cl:CL)(a:List Value)(h:PH):R:=
 u4 a fun b c d e=>bite e (F32_17 n cl b d c h) (F32_18 n cl b h)
def F32_21(n:Nat)(cl:CL)(a b c d:Value)(h:PH)(e:Kt):R:=
 vb (xCmp ieq a (vN 4)) fun f=>
 bite f (e [b,c,d,f] h) (F32_19 n cl a e b c d h)
def F32_22(n:Nat)(cl:CL)(a b c d:Value)(h:PH):R:=
 vb (xCmp ieq a (vN 6)) fun e=>
 bite e (F32_11 n cl b c d h) (jn (F32_20 n cl) (F32_21 n cl a b d c h))
def F32_23(n:Nat)(cl:CL)(a b c d:Value)(h:PH):R:=
 vb (xCmp ieq a (vN 2)) fun e=>
 bite e (F32_10 n cl b c d h) (F32_22 n cl a d b c h)
def F32_24(n:Nat)(cl:CL)(a b c d:Value)(h:PH):R:=
 vb (xCmp ieq a (vN 3)) fun e=>
 bite e (lp n (F32_4 n cl) [b,c,d,(vN 0)] h) (F32_23 n cl a d c b h)
def F32_25(n:Nat)(cl:CL)(a b c:Value)(h:PH):R:=
 vb (xFld 0 a) fun d=>
 vb (xLd d h) fun e=>
 vb (xCmp ieq e (vN 1)) fun f=>
 bite f (F32_0 n cl b a h) (F32_24 n cl e b c a h)
def F32(n:Nat)(cl:CL)(a b c:Value)(h:PH):R:=
 hb (xBox a h) fun d h=>
 vb (xCmp ilt c (vN 0)) fun e=>
 bite e (some (ff,h)) (F32_25 n cl d b c h)
theorem S32:OkF Try.prog 32 (A3 (F32 n cl)):=exA3 n ⟨[32,44],[],[(8,[1,2,3,7]),(17,[1,2,3,8]),(26,[1,2,3,102]),(29,[1,2,3,9])],[(5,[0,1,2,3,4,6,7,5,8,9,10,11]),(19,[0,4,5,6,7,8,1,2,3,9,10,11,15,16,17,18,19,12,13,14,20,21]),(31,[0,4,5,6,7,8,1,2,3,9,10,11,12,13,14,15,16,19,20,21,22,23,17,18,24,25,26])],[],[],[],[]⟩ (svc_ok (S44 n hcl) hcl) hmx Try.func32 (by kernel_rfl) fun _ _ _ _=>by kernel_rfl
end
def CLs(n:Nat)(ih:CL):CL:=(svc 107 (A1 (F107 n ih)) (svc 109 (A2 (F109 n ih)) (svc 99 (A2 (F99 n ih)) (svc 55 (A2 (F55 n ih)) (svc 53 (A1 (F53 n ih)) (svc 25 (A1 (F25 n ih)) (svc 54 (A2 (F54 n ih)) (svc 50 (A1 (F50 n ih)) (svc 51 (A2 (F51 n ih)) (svc 104 (A4 (F104 n ih)) (svc 61 (A2 (F61 n ih)) (svc 32 (A3 (F32 n ih)) CNo))))))))))))
theorem CLs_ok{n:Nat}{ih:CL}(hcl:OkCL Try.prog ih):OkCL Try.prog (CLs n ih):=(svc_ok (S107 n hcl) (svc_ok (S109 n hcl) (svc_ok (S99 n hcl) (svc_ok (S55 n hcl) (svc_ok (S53 n hcl) (svc_ok (S25 n hcl) (svc_ok (S54 n hcl) (svc_ok (S50 n hcl) (svc_ok (S51 n hcl) (svc_ok (S104 n hcl) (svc_ok (S61 n hcl) (svc_ok (S32 n hcl) (CNo_ok _)))))))))))))
def CLV(n d:Nat):CL:=Nat.rec (motive:=fun _=>CL) CNo (fun _ ih=>CLs n ih) d
theorem CLV_ok(n:Nat): ∀d,OkCL Try.prog (CLV n d)
 |0=>CNo_ok _
 | .succ d=>CLs_ok (CLV_ok n d)
end
end Go.Am
