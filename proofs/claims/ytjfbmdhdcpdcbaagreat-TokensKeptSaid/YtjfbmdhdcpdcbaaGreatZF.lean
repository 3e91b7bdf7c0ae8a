import Derived.Test.YtjfbmdhdcpdcbaaGreatZY
import Derived.Test.YtjfbmdhdcpdcbaaGreatProg
set_option linter.unusedVariables false
set_option maxRecDepth 100000
namespace Go.Am
open Go Go.RowKit Go.Proofs
noncomputable section
theorem hmx:Tryz.prog.follows .mixedOrders=true:=by kernel_rfl
section
variable (n:Nat){cl:CL}(hcl:OkCL Tryz.prog cl)
include hcl
def F49(n:Nat)(cl:CL)(a b:Value)(h:PH):R:=
 vb (xCmp (fun x y=>ile y x) a (vN 0)) fun c=>
 vb (gd (isB true c) (some a)) fun d=>
 vb (gd (isB true c) (some b)) fun e=>
 vb (gd (isB true c) (xCmp ilt d e)) fun f=>
 vb (xPick c f ff) fun g=>
 some (g,h)
theorem S49:OkF Tryz.prog 49 (A2 (F49 n cl)):=exA2 n ⟨[],[],[],[],[],[],[],[]⟩ hcl hmx Tryz.func49 (by kernel_rfl) fun _ _ _=>by kernel_rfl
def F110(n:Nat)(cl:CL)(a:Value)(h:PH):R:=
 vb (xNil a) fun b=>
 vb (xFld 2 b) fun c=>
 vb (xFld 0 c) fun d=>
 vb (xLd d h) fun e=>
 vb (xCmp ine e (vN 0)) fun f=>
 some (f,h)
theorem S110:OkF Tryz.prog 110 (A1 (F110 n cl)):=exA1 n ⟨[],[],[],[],[],[],[],[]⟩ hcl hmx Tryz.func110 (by kernel_rfl) fun _ _=>by kernel_rfl
def F152(n:Nat)(cl:CL)(a b:Value)(h:PH):R:=
 vb (pcall (F110 n cl a (h.fzn))) fun c=>
 vb (xNot c) fun d=>
 vb (gd (isB true d) (some a)) fun e=>
 vb (gd (isB true d) (xNil e)) fun f=>
 vb (gd (isB true d) (xFld 1 f)) fun g=>
 vb (gd (isB true d) (some a)) fun i=>
 vb (gd (isB true d) (xNil i)) fun j=>
 vb (gd (isB true d) (xFld 0 j)) fun k=>
 vb (gd (isB true d) (xLd g h)) fun l=>
 vb (gd (isB true d) (xLd k h)) fun m=>
 vb (gd (isB true d) (xLenT m)) fun o=>
 vb (gd (isB true d) (xCmp ilt l o)) fun p=>
 vb (xPick d p ff) fun q=>
 vb (gd (isB true q) (some a)) fun r=>
 vb (gd (isB true q) (xNil r)) fun s=>
 vb (gd (isB true q) (xFld 0 s)) fun t=>
 vb (gd (isB true q) (some a)) fun v=>
 vb (gd (isB true q) (xNil v)) fun w=>
 vb (gd (isB true q) (xFld 1 w)) fun z=>
 vb (gd (isB true q) (some b)) fun a1=>
 vb (gd (isB true q) (xLd t h)) fun b1=>
 vb (gd (isB true q) (xLd z h)) fun c1=>
 vb (gd (isB true q) (aindex Tryz.prog 9 b1 c1)) fun d1=>
 vb (gd (isB true q) (xCmp ieq d1 a1)) fun e1=>
 vb (xPick q e1 ff) fun f1=>
 some (f1,h)
theorem S152:OkF Tryz.prog 152 (A2 (F152 n cl)):=exA2 n ⟨[110],[],[],[(1,[0,1,2,3,4,5,6,8,9,10,7,11,12,13,14,15,16,17,18,20,21,22,25,19,23,24,26,27,28])],[],[],[],[]⟩ (svc_ok (S110 n hcl) hcl) hmx Tryz.func152 (by kernel_rfl) fun _ _ _=>by kernel_rfl
def F109_0(n:Nat)(cl:CL)(a b:Value)(h:PH):R:=
 vb (xNil a) fun c=>
 vb (xFld 1 c) fun d=>
 vb (xLd d h) fun e=>
 vb (abuild Tryz.prog 201 [(0,b),(1,e)]) fun f=>
 vb (xNil a) fun g=>
 vb (xFld 2 g) fun i=>
 hb (xStA 2 i f h) fun _ h=>
 some (Value.tuple ⟨[]⟩,h)
def F109(n:Nat)(cl:CL)(a b:Value)(h:PH):R:=
 vb (xNil a) fun c=>
 vb (xFld 2 c) fun d=>
 vb (xFld 0 d) fun e=>
 vb (xLd e h) fun f=>
 vb (xCmp ieq f (vN 0)) fun g=>
 bite g (F109_0 n cl a b h) (some (Value.tuple ⟨[]⟩,h))
theorem S109:OkF Tryz.prog 109 (A2 (F109 n cl)):=exA2 n ⟨[],[],[],[],[],[],[],[]⟩ hcl hmx Tryz.func109 (by kernel_rfl) fun _ _ _=>by kernel_rfl
def F129_0(n:Nat)(cl:CL)(a:Value)(b:Kt)(c:Value)(h:PH):R:=
 vb (xNil a) fun d=>
 vb (xFld 1 d) fun e=>
 vb (xLd e h) fun f=>
 vb (xAri Int.add f (vN 1)) fun g=>
 vb (xNil a) fun i=>
 vb (xFld 1 i) fun j=>
 hb (xSt1 j g h) fun _ h=>
 b [c] h
def F129(n:Nat)(cl:CL)(a b:Value)(h:PH):R:=
 vb (pcall (F152 n cl a b (h.fzn))) fun c=>
 jn (fun d h=>ucons d fun e f=>some (e,h)) (fun g=>bite c (F129_0 n cl a g c h) (g [c] h))
theorem S129:OkF Tryz.prog 129 (A2 (F129 n cl)):=exA2 n ⟨[152],[],[(4,[5])],[],[],[],[],[]⟩ (svc_ok (S152 n hcl) hcl) hmx Tryz.func129 (by kernel_rfl) fun _ _ _=>by kernel_rfl
def F189(n:Nat)(cl:CL)(a b:Value)(h:PH):R:=
 vb (xQuo b (vN 64)) fun c=>
 vb (xNil a) fun d=>
 vb (xIdxA 4 1 d c) fun e=>
 vb (xRem b (vN 64)) fun f=>
 vb (xShl (Value.int .u64 (.ofNat 1)) f) fun g=>
 vb (xNil a) fun i=>
 vb (xLd e h) fun j=>
 vb (xBit Nat.lor j g) fun k=>
 vb (xIdxA 4 1 i c) fun l=>
 hb (xSt1 l k h) fun _ h=>
 some (Value.tuple ⟨[]⟩,h)
theorem S189:OkF Tryz.prog 189 (A2 (F189 n cl)):=exA2 n ⟨[],[],[],[(0,[0,1,2,3,4,6,7,8,10,5,9,11,12])],[],[],[],[]⟩ hcl hmx Tryz.func189 (by kernel_rfl) fun _ _ _=>by kernel_rfl
def F190_0(n:Nat)(cl:CL)(a b:Value)(c:Kt)(d:Value)(h:PH):R:=
 vb (xIdxA 4 1 a b) fun e=>
 vb (xLd e h) fun f=>
 vb (xUn Tryz.prog .xor f) fun g=>
 vb (xIdxA 4 1 a b) fun i=>
 hb (xSt1 i g h) fun _ h=>
 vb (xAri Int.add b (vN 1)) fun j=>
 c [a,d,j] h
def F190_1(n:Nat)(cl:CL)(a b:Value)(h:PH):R:=
 vb (xLdA 4 a h) fun c=>
 hb (xStA 4 b c h) fun _ h=>
 vb (xLdA 4 b h) fun d=>some (d,h)
def F190_2(n:Nat)(cl:CL)(a b:Value)(c:Kt)(d:Value)(h:PH):R:=
 vb (xCmp ilt a (vN 4)) fun e=>
 bite e (F190_0 n cl b a c d h) (F190_1 n cl b d h)
def F190_3(n:Nat)(cl:CL)(a:Kt)(b:List Value)(h:PH):R:=
 u3 b fun c d e=>F190_2 n cl e c a d h
def F190(n:Nat)(cl:CL)(a:Value)(h:PH):R:=
 hb (xBox a h) fun b h=>
 hb (xAlloc (zcells Tryz.prog 242) h) fun c h=>
 lp n (F190_3 n cl) [b,c,(vN 0)] h
theorem S190:OkF Tryz.prog 190 (A1 (F190 n cl)):=exA1 n ⟨[],[],[(2,[1,2,4])],[],[],[],[],[]⟩ hcl hmx Tryz.func190 (by kernel_rfl) fun _ _=>by kernel_rfl
def F184(n:Nat)(cl:CL)(h:PH):R:=
 hb (xAlloc (zcells Tryz.prog 242) h) fun a h=>
 hb (xAlloc (zcells Tryz.prog 242) h) fun b h=>
 hb (F189 n cl b (vN 10) h) fun c h=>
 vb (xLdA 4 b h) fun d=>
 vb (pcall (F190 n cl d (h.fzn))) fun e=>
 hb (xStA 4 a e h) fun _ h=>
 vb (xLdA 4 a h) fun f=>some (f,h)
theorem S184:OkF Tryz.prog 184 (A0 (F184 n cl)):=exA0 n ⟨[190],[],[],[],[],[],[],[]⟩ (svc_ok (S189 n hcl) (svc_ok (S190 n hcl) hcl)) hmx Tryz.func184 (by kernel_rfl) fun _=>by kernel_rfl
def F186_0(n:Nat)(cl:CL)(a:Value)(h:PH):R:=
 hb (F109 n cl a (vN 2) h) fun b h=>
 some ((vN 0),h)
def F186_1(n:Nat)(cl:CL)(a:Value)(h:PH):R:=
 vb (xNil a) fun b=>
 vb (xFld 1 b) fun c=>
 vb (xLd c h) fun d=>
 vb (xAri Int.add d (vN 1)) fun e=>
 vb (xNil a) fun f=>
 vb (xFld 1 f) fun g=>
 hb (xSt1 g e h) fun _ h=>
 vb (xNil a) fun i=>
 vb (xFld 0 i) fun j=>
 vb (xNil a) fun k=>
 vb (xFld 1 k) fun l=>
 vb (xLd j h) fun m=>
 vb (xLd l h) fun o=>
 vb (xAri Int.sub o (vN 1)) fun p=>
 vb (aindex Tryz.prog 9 m p) fun q=>
 vb (xConvI .i64 q) fun r=>
 some (r,h)
def F186(n:Nat)(cl:CL)(a:Value)(h:PH):R:=
 vb (pcall (F110 n cl a (h.fzn))) fun b=>
 vb (gd (isB false b) (some a)) fun c=>
 vb (gd (isB false b) (xNil c)) fun d=>
 vb (gd (isB false b) (xFld 1 d)) fun e=>
 vb (gd (isB false b) (some a)) fun f=>
 vb (gd (isB false b) (xNil f)) fun g=>
 vb (gd (isB false b) (xFld 0 g)) fun i=>
 vb (gd (isB false b) (xLd e h)) fun j=>
 vb (gd (isB false b) (xLd i h)) fun k=>
 vb (gd (isB false b) (xLenT k)) fun l=>
 vb (gd (isB false b) (xCmp (fun x y=>ile y x) j l)) fun m=>
 vb (xPick b tt m) fun o=>
 bite o (F186_0 n cl a h) (F186_1 n cl a h)
theorem S186:OkF Tryz.prog 186 (A1 (F186 n cl)):=exA1 n ⟨[110],[],[],[(1,[0,1,2,3,4,5,7,8,9,6,10,11,12,13]),(5,[0,1,2,4,5,6,3,7,8,9,10,11])],[],[],[],[]⟩ (svc_ok (S110 n hcl) (svc_ok (S109 n hcl) hcl)) hmx Tryz.func186 (by kernel_rfl) fun _ _=>by kernel_rfl
def F185(n:Nat)(cl:CL)(a:Value)(h:PH):R:=
 hb (xAlloc (zcells Tryz.prog 85) h) fun b h=>
 hb (xAlloc (zcells Tryz.prog 242) h) fun c h=>
 hb (F189 n cl c a h) fun d h=>
 vb (xLdA 4 c h) fun e=>
 vb (abuild Tryz.prog 85 [(0,(vN 1)),(1,e)]) fun f=>
 hb (xStA 6 b f h) fun _ h=>
 vb (xLdA 6 b h) fun g=>some (g,h)
theorem S185:OkF Tryz.prog 185 (A1 (F185 n cl)):=exA1 n ⟨[],[],[],[],[],[],[],[]⟩ (svc_ok (S189 n hcl) hcl) hmx Tryz.func185 (by kernel_rfl) fun _ _=>by kernel_rfl
def F193_0(n:Nat)(cl:CL)(a:Value)(h:PH):R:=
 hb (F186 n cl a h) fun b h=>
 some (b,h)
def F193_1(n:Nat)(cl:CL)(a:Value)(h:PH):R:=
 hb (F186 n cl a h) fun b h=>
 some (b,h)
def F193_2(n:Nat)(cl:CL)(a:Value)(b:Kt)(h:PH):R:=
 hb (F109 n cl a (vN 2) h) fun c h=>
 b [a] h
def F193_3(n:Nat)(cl:CL)(a:Value)(h:PH)(b:Kt):R:=
 vb (pcall (F152 n cl a (Value.int .u8 (.ofNat 93)) (h.fzn))) fun c=>
 bite c (F193_2 n cl a b h) (b [a] h)
def F193(n:Nat)(cl:CL)(a:Value)(h:PH):R:=
 hb (F129 n cl a (Value.int .u8 (.ofNat 92)) h) fun b h=>
 bite b (F193_0 n cl a h) (jn (fun c h=>ucons c fun d e=>F193_1 n cl d h) (F193_3 n cl a h))
theorem S193:OkF Tryz.prog 193 (A1 (F193 n cl)):=exA1 n ⟨[152],[],[(5,[0])],[],[],[],[],[]⟩ (svc_ok (S129 n hcl) (svc_ok (S186 n hcl) (svc_ok (S152 n hcl) (svc_ok (S109 n hcl) hcl)))) hmx Tryz.func193 (by kernel_rfl) fun _ _=>by kernel_rfl
def F194(n:Nat)(cl:CL)(a:Value)(h:PH):R:=
 vb (pcall (F152 n cl a (Value.int .u8 (.ofNat 45)) (h.fzn))) fun b=>
 vb (gd (isB true b) (some a)) fun c=>
 vb (gd (isB true b) (xNil c)) fun d=>
 vb (gd (isB true b) (xFld 1 d)) fun e=>
 vb (gd (isB true b) (some a)) fun f=>
 vb (gd (isB true b) (xNil f)) fun g=>
 vb (gd (isB true b) (xFld 0 g)) fun i=>
 vb (gd (isB true b) (xLd e h)) fun j=>
 vb (gd (isB true b) (xAri Int.add j (vN 1))) fun k=>
 vb (gd (isB true b) (xLd i h)) fun l=>
 vb (gd (isB true b) (xLenT l)) fun m=>
 vb (gd (isB true b) (xCmp ilt k m)) fun o=>
 vb (xPick b o ff) fun p=>
 vb (gd (isB true p) (some a)) fun q=>
 vb (gd (isB true p) (xNil q)) fun r=>
 vb (gd (isB true p) (xFld 0 r)) fun s=>
 vb (gd (isB true p) (some a)) fun t=>
 vb (gd (isB true p) (xNil t)) fun v=>
 vb (gd (isB true p) (xFld 1 v)) fun w=>
 vb (gd (isB true p) (xLd s h)) fun z=>
 vb (gd (isB true p) (xLd w h)) fun a1=>
 vb (gd (isB true p) (xAri Int.add a1 (vN 1))) fun b1=>
 vb (gd (isB true p) (aindex Tryz.prog 9 z b1)) fun c1=>
 vb (gd (isB true p) (xCmp ine c1 (Value.int .u8 (.ofNat 93)))) fun d1=>
 vb (xPick p d1 ff) fun e1=>
 some (e1,h)
theorem S194:OkF Tryz.prog 194 (A1 (F194 n cl)):=exA1 n ⟨[152],[],[],[(1,[0,1,2,3,4,5,8,9,10,6,7,11,12,13,14,15,16,17,18,20,21,22,19,23,24,25,26,27,28])],[],[],[],[]⟩ (svc_ok (S152 n hcl) hcl) hmx Tryz.func194 (by kernel_rfl) fun _ _=>by kernel_rfl
def F191_0(n:Nat)(cl:CL)(a b:Value)(c:Kt)(d e:Value)(h:PH):R:=
 hb (F189 n cl a b h) fun f h=>
 vb (xAri Int.add b (vN 1)) fun g=>
 c [d,a,e,g] h
def F191_1(n:Nat)(cl:CL)(a b c d:Value)(e:Kt)(h:PH):R:=
 vb (xCmp ile a b) fun f=>
 vb (gd (isB true f) (some c)) fun g=>
 vb (gd (isB true f) (pcall (F110 n cl g (h.fzn)))) fun i=>
 vb (gd (isB true f) (xNot i)) fun j=>
 vb (xPick f j ff) fun k=>
 bite k (F191_0 n cl d a e c b h) (some (Value.tuple ⟨[]⟩,h))
def F191_2(n:Nat)(cl:CL)(a:Kt)(b:List Value)(h:PH):R:=
 u4 b fun c d e f=>F191_1 n cl f e c d a h
def F191_3(n:Nat)(cl:CL)(a b:Value)(c:Kt)(d e f:Value)(h:PH):R:=
 vb (xNil a) fun g=>
 vb (xFld 1 g) fun i=>
 hb (xSt1 i b h) fun _ h=>
 hb (F109 n cl a (vN 2) h) fun j h=>
 c [a,d,e,f] h
def F191_4(n:Nat)(cl:CL)(a b:Value)(c:Kt)(d:Value)(h:PH):R:=
 vb (xNil a) fun e=>
 vb (xFld 1 e) fun f=>
 vb (xLd f h) fun g=>
 vb (xAri Int.add g (vN 1)) fun i=>
 vb (xNil a) fun j=>
 vb (xFld 1 j) fun k=>
 hb (xSt1 k i h) fun _ h=>
 vb (xNil a) fun l=>
 vb (xFld 1 l) fun m=>
 vb (xLd m h) fun o=>
 hb (F193 n cl a h) fun p h=>
 vb (pcall (F110 n cl a (h.fzn))) fun q=>
 vb (xNot q) fun r=>
 vb (gd (isB true r) (some p)) fun s=>
 vb (gd (isB true r) (some b)) fun t=>
 vb (gd (isB true r) (xCmp ilt s t)) fun v=>
 vb (xPick r v ff) fun w=>
 bite w (F191_3 n cl a o c d b p h) (c [a,d,b,p] h)
def F191_5(n:Nat)(cl:CL)(a:List Value)(h:PH):R:=
 u4 a fun b c d e=>lp n (F191_2 n cl) [b,c,e,d] h
def F191_6(n:Nat)(cl:CL)(a b c:Value)(h:PH)(d:Kt):R:=
 vb (pcall (F194 n cl a (h.fzn))) fun e=>
 bite e (F191_4 n cl a b d c h) (d [a,c,b,b] h)
def F191(n:Nat)(cl:CL)(a b:Value)(h:PH):R:=
 hb (F193 n cl a h) fun c h=>
 jn (F191_5 n cl) (F191_6 n cl a c b h)
theorem S191:OkF Tryz.prog 191 (A2 (F191 n cl)):=exA2 n ⟨[110,194],[],[(9,[0,1,4,5]),(10,[0,1,5,7])],[],[],[],[],[]⟩ (svc_ok (S193 n hcl) (svc_ok (S110 n hcl) (svc_ok (S189 n hcl) (svc_ok (S194 n hcl) (svc_ok (S109 n hcl) hcl))))) hmx Tryz.func191 (by kernel_rfl) fun _ _ _=>by kernel_rfl
def F187_0(n:Nat)(cl:CL)(a b:Value)(c:Kt)(d e:Value)(h:PH):R:=
 hb (F191 n cl a b h) fun f h=>
 c [a,d,b,e] h
def F187_1(n:Nat)(cl:CL)(a b:Value)(h:PH):R:=
 vb (xLdA 4 a h) fun c=>
 vb (abuild Tryz.prog 85 [(0,(vN 1)),(1,c)]) fun d=>
 hb (xStA 6 b d h) fun _ h=>
 vb (xLdA 6 b h) fun e=>some (e,h)
def F187_2(n:Nat)(cl:CL)(a:Value)(b:Kt)(c:Value)(h:PH):R:=
 vb (xLdA 4 a h) fun d=>
 vb (pcall (F190 n cl d (h.fzn))) fun e=>
 hb (xStA 4 a e h) fun _ h=>
 b [c,a] h
def F187_3(n:Nat)(cl:CL)(a b c:Value)(h:PH):R:=
 jn (fun d h=>ucons d fun e f=>ucons f fun g i=>F187_1 n cl g e h) (fun j=>bite a (F187_2 n cl b j c h) (j [c,b] h))
def F187_4(n:Nat)(cl:CL)(a b:Value)(c:Kt)(d e:Value)(h:PH):R:=
 vb (pcall (F110 n cl a (h.fzn))) fun f=>
 vb (xNot f) fun g=>
 vb (gd (isB true g) (some a)) fun i=>
 hb (gh (isB true g) h (F129 n cl i (Value.int .u8 (.ofNat 93)) h)) fun j h=>
 vb (gd (isB true g) (xNot j)) fun k=>
 vb (xPick g k ff) fun l=>
 bite l (F187_0 n cl a b c d e h) (F187_3 n cl e b d h)
def F187_5(n:Nat)(cl:CL)(a:Kt)(b:List Value)(h:PH):R:=
 u4 b fun c d e f=>F187_4 n cl c e a d f h
def F187(n:Nat)(cl:CL)(a:Value)(h:PH):R:=
 hb (xAlloc (zcells Tryz.prog 85) h) fun b h=>
 hb (xAlloc (zcells Tryz.prog 242) h) fun c h=>
 hb (F129 n cl a (Value.int .u8 (.ofNat 94)) h) fun d h=>
 hb (F191 n cl a c h) fun e h=>
 lp n (F187_5 n cl) [a,b,c,d] h
theorem S187:OkF Tryz.prog 187 (A1 (F187 n cl)):=exA1 n ⟨[110,190],[],[(4,[0,2,3,4]),(8,[2,3])],[],[],[],[],[]⟩ (svc_ok (S129 n hcl) (svc_ok (S191 n hcl) (svc_ok (S110 n hcl) (svc_ok (S190 n hcl) hcl)))) hmx Tryz.func187 (by kernel_rfl) fun _ _=>by kernel_rfl
def F173_0(n:Nat)(cl:CL)(a b:Value)(h:PH):R:=
 hb (F186 n cl a h) fun c h=>
 hb (fcall h (F185 n cl c (h.fzn))) fun d h=>
 hb (xStA 6 b d h) fun _ h=>
 vb (xLdA 6 b h) fun e=>some (e,h)
def F173_1(n:Nat)(cl:CL)(a b:Value)(h:PH):R:=
 hb (F109 n cl a (vN 4) h) fun c h=>
 vb (abuild Tryz.prog 85 []) fun d=>
 hb (xStA 6 b d h) fun _ h=>
 vb (xLdA 6 b h) fun e=>some (e,h)
def F173_2(n:Nat)(cl:CL)(a b:Value)(h:PH):R:=
 vb (xLdA 6 a h) fun c=>
 hb (xStA 6 b c h) fun _ h=>
 vb (xLdA 6 b h) fun d=>some (d,h)
def F173_3(n:Nat)(cl:CL)(a:Value)(b:Kt)(c d:Value)(h:PH):R:=
 hb (F109 n cl a (vN 2) h) fun e h=>
 b [c,d] h
def F173_4(n:Nat)(cl:CL)(a b c:Value)(h:PH)(d:Kt):R:=
 hb (F129 n cl a (Value.int .u8 (.ofNat 41)) h) fun e h=>
 vb (xNot e) fun f=>
 bite f (F173_3 n cl a d b c h) (d [b,c] h)
def F173_5(n:Nat)(cl:CL)(a b c:Value)(h:PH):R:=
 vb (xNil a) fun d=>
 vb (xFld 1 d) fun e=>
 vb (xLd e h) fun f=>
 vb (xAri Int.add f (vN 1)) fun g=>
 vb (xNil a) fun i=>
 vb (xFld 1 i) fun j=>
 hb (xSt1 j g h) fun _ h=>
 vb (xAri Int.add b (vN 1)) fun k=>
 hb (cl 108 [a,k] h) fun l h=>
 hb (xAlloc (zcells Tryz.prog 85) h) fun m h=>
 hb (xStA 6 m l h) fun _ h=>
 jn (fun o h=>ucons o fun p q=>ucons q fun r s=>F173_2 n cl r p h) (F173_4 n cl a c m h)
def F173_6(n:Nat)(cl:CL)(a b c:Value)(h:PH):R:=
 vb (xCmp (fun x y=>ile y x) a (vN 20)) fun d=>
 bite d (F173_1 n cl b c h) (F173_5 n cl b a c h)
def F173_7(n:Nat)(cl:CL)(a:Value)(h:PH):R:=
 vb (pcall (F184 n cl (h.fzn))) fun b=>
 vb (abuild Tryz.prog 85 [(0,(vN 1)),(1,b)]) fun c=>
 hb (xStA 6 a c h) fun _ h=>
 vb (xLdA 6 a h) fun d=>some (d,h)
def F173_8(n:Nat)(cl:CL)(a b:Value)(h:PH):R:=
 hb (F186 n cl a h) fun c h=>
 hb (fcall h (F185 n cl c (h.fzn))) fun d h=>
 hb (xStA 6 b d h) fun _ h=>
 vb (xLdA 6 b h) fun e=>some (e,h)
def F173_9(n:Nat)(cl:CL)(a b:Value)(h:PH):R:=
 hb (F187 n cl a h) fun c h=>
 hb (xStA 6 b c h) fun _ h=>
 vb (xLdA 6 b h) fun d=>some (d,h)
def F173_10(n:Nat)(cl:CL)(a:Value)(b:Kt)(c:Value)(h:PH):R:=
 hb (F109 n cl a (vN 2) h) fun d h=>
 b [a,c] h
def F173_11(n:Nat)(cl:CL)(a:Value)(b:Kt)(c:Value)(h:PH):R:=
 vb (xNil a) fun d=>
 vb (xFld 1 d) fun e=>
 vb (xNil a) fun f=>
 vb (xFld 0 f) fun g=>
 vb (xLd e h) fun i=>
 vb (xLd g h) fun j=>
 vb (xLenT j) fun k=>
 vb (xCmp ilt i k) fun l=>
 vb (gd (isB true l) (some a)) fun m=>
 vb (gd (isB true l) (xNil m)) fun o=>
 vb (gd (isB true l) (xFld 0 o)) fun p=>
 vb (gd (isB true l) (some a)) fun q=>
 vb (gd (isB true l) (xNil q)) fun r=>
 vb (gd (isB true l) (xFld 1 r)) fun s=>
 vb (gd (isB true l) (xLd p h)) fun t=>
 vb (gd (isB true l) (xLd s h)) fun v=>
 vb (gd (isB true l) (aindex Tryz.prog 9 t v)) fun w=>
 vb (gd (isB true l) (pcall (cl 188 [(Value.string {data:= #[124,42,43,63,40,41,91,93]}),w] (h.fzn)))) fun z=>
 vb (gd (isB true l) (xCmp (fun x y=>ile y x) z (vN 0))) fun a1=>
 vb (xPick l a1 ff) fun b1=>
 bite b1 (F173_10 n cl a b c h) (b [a,c] h)
def F173_12(n:Nat)(cl:CL)(a b:Value)(c:Kt)(h:PH):R:=
 hb (F129 n cl a (Value.int .u8 (.ofNat 91)) h) fun d h=>
 bite d (F173_9 n cl a b h) (F173_11 n cl a c b h)
def F173_13(n:Nat)(cl:CL)(a b:Value)(c:Kt)(h:PH):R:=
 hb (F129 n cl a (Value.int .u8 (.ofNat 92)) h) fun d h=>
 bite d (F173_8 n cl a b h) (F173_12 n cl a b c h)
def F173_14(n:Nat)(cl:CL)(a b:Value)(c:Kt)(h:PH):R:=
 hb (F129 n cl a (Value.int .u8 (.ofNat 46)) h) fun d h=>
 bite d (F173_7 n cl b h) (F173_13 n cl a b c h)
def F173_15(n:Nat)(cl:CL)(a b c:Value)(h:PH)(d:Kt):R:=
 vb (pcall (F152 n cl a (Value.int .u8 (.ofNat 40)) (h.fzn))) fun e=>
 bite e (F173_6 n cl b a c h) (F173_14 n cl a c d h)
def F173(n:Nat)(cl:CL)(a b:Value)(h:PH):R:=
 hb (xAlloc (zcells Tryz.prog 85) h) fun c h=>
 jn (fun d h=>ucons d fun e f=>ucons f fun g i=>F173_0 n cl e g h) (F173_15 n cl a b c h)
theorem S173:OkF Tryz.prog 173 (A2 (F173 n cl)):=exA2 n ⟨[152,184,188],[185],[(9,[4,5]),(18,[0,4])],[(16,[0,1,2,4,5,6,3,7,8,9,10,11,12,13,15,16,17,14,18,19,20,21,22,23])],[],[],[],[]⟩ (svc_ok (S186 n hcl) (svc_ok (S185 n hcl) (svc_ok (S152 n hcl) (svc_ok (S109 n hcl) (svc_ok (S129 n hcl) (svc_ok (S184 n hcl) (svc_ok (S187 n hcl) hcl))))))) hmx Tryz.func173 (by kernel_rfl) fun _ _ _=>by kernel_rfl
def F153_0(n:Nat)(cl:CL)(a b:Value)(c:Kt)(d e:Value)(h:PH):R:=
 vb (xLdA 6 a h) fun f=>
 hb (xBS 1 (bsRow Tryz.prog 83 1 [(0,f)]) h) fun g h=>
 vb (abuild Tryz.prog 85 [(0,b),(2,g)]) fun i=>
 hb (xStA 6 a i h) fun _ h=>
 c [d,e,a] h
def F153_1(n:Nat)(cl:CL)(a b:Value)(h:PH):R:=
 vb (xLdA 6 a h) fun c=>
 hb (xStA 6 b c h) fun _ h=>
 vb (xLdA 6 b h) fun d=>some (d,h)
def F153_2(n:Nat)(cl:CL)(a:Value)(b:Kt)(c d:Value)(h:PH):R:=
 hb (F129 n cl a (Value.int .u8 (.ofNat 63)) h) fun e h=>
 bite e (b [a,c,d,(vN 6)] h) (F153_1 n cl d c h)
def F153_3(n:Nat)(cl:CL)(a:Value)(b:Kt)(c d:Value)(h:PH):R:=
 hb (F129 n cl a (Value.int .u8 (.ofNat 43)) h) fun e h=>
 bite e (b [a,c,d,(vN 5)] h) (F153_2 n cl a b c d h)
def F153_4(n:Nat)(cl:CL)(a:Kt)(b:List Value)(h:PH):R:=
 u4 b fun c d e f=>F153_0 n cl e f a c d h
def F153_5(n:Nat)(cl:CL)(a b c:Value)(h:PH)(d:Kt):R:=
 hb (F129 n cl a (Value.int .u8 (.ofNat 42)) h) fun e h=>
 bite e (d [a,b,c,(vN 4)] h) (F153_3 n cl a d b c h)
def F153_6(n:Nat)(cl:CL)(a:Kt)(b:List Value)(h:PH):R:=
 u3 b fun c d e=>jn (F153_4 n cl a) (F153_5 n cl c d e h)
def F153(n:Nat)(cl:CL)(a b:Value)(h:PH):R:=
 hb (xAlloc (zcells Tryz.prog 85) h) fun c h=>
 hb (F173 n cl a b h) fun d h=>
 hb (xAlloc (zcells Tryz.prog 85) h) fun e h=>
 hb (xStA 6 e d h) fun _ h=>
 lp n (F153_6 n cl) [a,c,e] h
theorem S153:OkF Tryz.prog 153 (A2 (F153 n cl)):=exA2 n ⟨[],[],[(2,[0,4,5]),(10,[0,4,5,6])],[],[],[],[],[]⟩ (svc_ok (S173 n hcl) (svc_ok (S129 n hcl) hcl)) hmx Tryz.func153 (by kernel_rfl) fun _ _ _=>by kernel_rfl
def F130_0(n:Nat)(cl:CL)(a:Value)(h:PH):R:=
 vb (abuild Tryz.prog 85 []) fun b=>
 hb (xStA 6 a b h) fun _ h=>
 vb (xLdA 6 a h) fun c=>some (c,h)
def F130_1(n:Nat)(cl:CL)(a b:Value)(h:PH):R:=
 vb (xIdxS 6 a (vN 0)) fun c=>
 vb (xLdA 6 c h) fun d=>
 hb (xStA 6 b d h) fun _ h=>
 vb (xLdA 6 b h) fun e=>some (e,h)
def F130_2(n:Nat)(cl:CL)(a b c:Value)(h:PH):R:=
 vb (abuild Tryz.prog 85 [(0,a),(2,b)]) fun d=>
 hb (xStA 6 c d h) fun _ h=>
 vb (xLdA 6 c h) fun e=>some (e,h)
def F130_3(n:Nat)(cl:CL)(a b c d:Value)(h:PH):R:=
 vb (xCmp ieq a (vN 1)) fun e=>
 bite e (F130_1 n cl b c h) (F130_2 n cl d b c h)
def F130(n:Nat)(cl:CL)(a b:Value)(h:PH):R:=
 hb (xAlloc (zcells Tryz.prog 85) h) fun c h=>
 vb (xLenS b) fun d=>
 vb (xCmp ieq d (vN 0)) fun e=>
 bite e (F130_0 n cl c h) (F130_3 n cl d b c a h)
theorem S130:OkF Tryz.prog 130 (A2 (F130 n cl)):=exA2 n ⟨[],[],[],[],[],[],[],[]⟩ hcl hmx Tryz.func130 (by kernel_rfl) fun _ _ _=>by kernel_rfl
def F128_0(n:Nat)(cl:CL)(a b c:Value)(d:Kt)(e:Value)(h:PH):R:=
 hb (F153 n cl a b h) fun f h=>
 hb (xBS 1 (bsRow Tryz.prog 83 1 [(0,f)]) h) fun g h=>
 hb (xApp (appInfo Tryz.prog #[83,83]) c g h) fun i h=>
 d [a,b,e,i] h
def F128_1(n:Nat)(cl:CL)(a b:Value)(h:PH):R:=
 hb (fcall h (F130 n cl (vN 2) a (h.fzn))) fun c h=>
 hb (xStA 6 b c h) fun _ h=>
 vb (xLdA 6 b h) fun d=>some (d,h)
def F128_2(n:Nat)(cl:CL)(a b c:Value)(d:Kt)(e:Value)(h:PH):R:=
 vb (pcall (F110 n cl a (h.fzn))) fun f=>
 vb (xNot f) fun g=>
 vb (gd (isB true g) (some a)) fun i=>
 vb (gd (isB true g) (xNil i)) fun j=>
 vb (gd (isB true g) (xFld 1 j)) fun k=>
 vb (gd (isB true g) (some a)) fun l=>
 vb (gd (isB true g) (xNil l)) fun m=>
 vb (gd (isB true g) (xFld 0 m)) fun o=>
 vb (gd (isB true g) (xLd k h)) fun p=>
 vb (gd (isB true g) (xLd o h)) fun q=>
 vb (gd (isB true g) (xLenT q)) fun r=>
 vb (gd (isB true g) (xCmp ilt p r)) fun s=>
 vb (xPick g s ff) fun t=>
 vb (gd (isB true t) (some a)) fun v=>
 vb (gd (isB true t) (pcall (F152 n cl v (Value.int .u8 (.ofNat 124)) (h.fzn)))) fun w=>
 vb (gd (isB true t) (xNot w)) fun z=>
 vb (xPick t z ff) fun a1=>
 vb (gd (isB true a1) (some a)) fun b1=>
 vb (gd (isB true a1) (pcall (F152 n cl b1 (Value.int .u8 (.ofNat 41)) (h.fzn)))) fun c1=>
 vb (gd (isB true a1) (xNot c1)) fun d1=>
 vb (xPick a1 d1 ff) fun e1=>
 bite e1 (F128_0 n cl a b c d e h) (F128_1 n cl c e h)
def F128_3(n:Nat)(cl:CL)(a:Kt)(b:List Value)(h:PH):R:=
 u4 b fun c d e f=>F128_2 n cl c d f a e h
def F128(n:Nat)(cl:CL)(a b:Value)(h:PH):R:=
 hb (xAlloc (zcells Tryz.prog 85) h) fun c h=>
 lp n (F128_3 n cl) [a,b,c,nils] h
theorem S128:OkF Tryz.prog 128 (A2 (F128 n cl)):=exA2 n ⟨[110,152],[130],[(2,[0,1,4,5])],[(2,[0,1,2,3,4,5,6,8,9,10,7,11,12,13,14,15,16,17,18,19,20,21,22,23,24])],[],[],[],[]⟩ (svc_ok (S110 n hcl) (svc_ok (S152 n hcl) (svc_ok (S153 n hcl) (svc_ok (S130 n hcl) hcl)))) hmx Tryz.func128 (by kernel_rfl) fun _ _ _=>by kernel_rfl
def F108_0(n:Nat)(cl:CL)(a b c:Value)(d:Kt)(e:Value)(h:PH):R:=
 hb (F128 n cl a b h) fun f h=>
 hb (xBS 1 (bsRow Tryz.prog 83 1 [(0,f)]) h) fun g h=>
 hb (xApp (appInfo Tryz.prog #[83,83]) c g h) fun i h=>
 d [a,b,e,i] h
def F108_1(n:Nat)(cl:CL)(a b:Value)(h:PH):R:=
 hb (fcall h (F130 n cl (vN 3) a (h.fzn))) fun c h=>
 hb (xStA 6 b c h) fun _ h=>
 vb (xLdA 6 b h) fun d=>some (d,h)
def F108_2(n:Nat)(cl:CL)(a b c:Value)(d:Kt)(e:Value)(h:PH):R:=
 hb (F129 n cl a (Value.int .u8 (.ofNat 124)) h) fun f h=>
 bite f (F108_0 n cl a b c d e h) (F108_1 n cl c e h)
def F108_3(n:Nat)(cl:CL)(a:Kt)(b:List Value)(h:PH):R:=
 u4 b fun c d e f=>F108_2 n cl c d f a e h
def F108(n:Nat)(cl:CL)(a b:Value)(h:PH):R:=
 hb (xAlloc (zcells Tryz.prog 85) h) fun c h=>
 hb (F128 n cl a b h) fun d h=>
 hb (xBS 1 (bsRow Tryz.prog 83 1 [(0,d)]) h) fun e h=>
 lp n (F108_3 n cl) [a,b,c,e] h
theorem S108:OkF Tryz.prog 108 (A2 (F108 n cl)):=exA2 n ⟨[],[130],[(2,[0,1,4,5])],[],[],[],[],[]⟩ (svc_ok (S128 n hcl) (svc_ok (S129 n hcl) (svc_ok (S130 n hcl) hcl))) hmx Tryz.func108 (by kernel_rfl) fun _ _ _=>by kernel_rfl
def F86_0(n:Nat)(cl:CL)(a:Value)(h:PH):R:=
 vb (abuild Tryz.prog 85 []) fun b=>
 hb (xStA 6 a b h) fun _ h=>
 vb (xLdA 6 a h) fun c=>some (Value.tuple ⟨[c,(vN 0),(vN 3)]⟩,h)
def F86_1(n:Nat)(cl:CL)(a b:Value)(h:PH):R:=
 vb (abuild Tryz.prog 85 []) fun c=>
 vb (xNil a) fun d=>
 vb (xFld 2 d) fun e=>
 vb (xFld 1 e) fun f=>
 vb (xNil a) fun g=>
 vb (xFld 2 g) fun i=>
 vb (xFld 0 i) fun j=>
 vb (xLd f h) fun k=>
 vb (xLd j h) fun l=>
 hb (xStA 6 b c h) fun _ h=>
 lchk (xLd f h) k<|
 lchk (xLd j h) l<|
 vb (xLdA 6 b h) fun m=>some (Value.tuple ⟨[m,k,l]⟩,h)
def F86_2(n:Nat)(cl:CL)(a b c:Value)(h:PH):R:=
 vb (xLdA 6 a h) fun d=>
 vb (xLenT b) fun e=>
 hb (xStA 6 c d h) fun _ h=>
 vb (xLdA 6 c h) fun f=>some (Value.tuple ⟨[f,e,(vN 0)]⟩,h)
def F86_3(n:Nat)(cl:CL)(a b c d:Value)(h:PH):R:=
 vb (pcall (F110 n cl a (h.fzn))) fun e=>
 bite e (F86_1 n cl a b h) (F86_2 n cl c d b h)
def F86_4(n:Nat)(cl:CL)(a:Value)(b:Kt)(c d e:Value)(h:PH):R:=
 hb (F109 n cl a (vN 2) h) fun f h=>
 b [c,d,a,e] h
def F86_5(n:Nat)(cl:CL)(a:List Value)(h:PH):R:=
 u4 a fun b c d e=>F86_3 n cl d c e b h
def F86_6(n:Nat)(cl:CL)(a b c d:Value)(h:PH)(e:Kt):R:=
 vb (xNil a) fun f=>
 vb (xFld 1 f) fun g=>
 vb (xLd g h) fun i=>
 vb (xLenT b) fun j=>
 vb (xCmp ilt i j) fun k=>
 bite k (F86_4 n cl a e b c d h) (e [b,c,a,d] h)
def F86_7(n:Nat)(cl:CL)(a b:Value)(h:PH):R:=
 vb (abuild Tryz.prog 203 [(0,a)]) fun c=>
 hb (xBox c h) fun d h=>
 hb (cl 108 [d,(vN 0)] h) fun e h=>
 hb (xAlloc (zcells Tryz.prog 85) h) fun f h=>
 hb (xStA 6 f e h) fun _ h=>
 jn (F86_5 n cl) (F86_6 n cl d a b f h)
def F86(n:Nat)(cl:CL)(a:Value)(h:PH):R:=
 hb (xAlloc (zcells Tryz.prog 85) h) fun b h=>
 vb (xLenT a) fun c=>
 vb (xCmp (fun x y=>ilt y x) c (vN 200)) fun d=>
 bite d (F86_0 n cl b h) (F86_7 n cl a b h)
theorem S86:OkF Tryz.prog 86 (A1 (F86 n cl)):=exA1 n ⟨[110],[],[(7,[0,2,5,6])],[(8,[0,1,2,3,4,6,7,8,9,5,10,11,12,13])],[(8,[5,10,11])],[],[],[]⟩ (svc_ok (S110 n hcl) (svc_ok (S109 n hcl) hcl)) hmx Tryz.func86 (by kernel_rfl) fun _ _=>by kernel_rfl
def F131_0(n:Nat)(cl:CL)(a:Value)(h:PH):R:=
 vb (xFld 5 a) fun b=>
 vb (xLd b h) fun c=>
 some (c,h)
def F131_1(n:Nat)(cl:CL)(a:Value)(h:PH):R:=
 vb (xFld 5 a) fun b=>
 vb (xLd b h) fun c=>
 vb (xFld 5 a) fun d=>
 vb (xLd d h) fun e=>
 vb (xLenS e) fun f=>
 vb ((if plainV.plainVs [(vN 1),f]then prun Tryz.prog (Builtin.min_ #[3,3] 3 ⟨[(vN 1),f]⟩)else none)) fun g=>
 vb (acut Tryz.prog 83 c none (some g) none) fun i=>
 some (i,h)
def F131_2(n:Nat)(cl:CL)(a:Value)(b:Kt)(c:Value)(h:PH):R:=
 vb (xCmp ieq a (vN 6)) fun d=>
 b [c,d] h
def F131_3(n:Nat)(cl:CL)(a:Value)(b:Kt)(c:Value)(h:PH):R:=
 vb (xCmp ieq a (vN 5)) fun d=>
 bite d (b [c,d] h) (F131_2 n cl a b c h)
def F131_4(n:Nat)(cl:CL)(a:List Value)(h:PH):R:=
 ucons a fun b c=>ucons c fun d e=>bite d (F131_1 n cl b h) (some (nils,h))
def F131_5(n:Nat)(cl:CL)(a b:Value)(h:PH)(c:Kt):R:=
 vb (xCmp ieq a (vN 4)) fun d=>
 bite d (c [b,d] h) (F131_3 n cl a c b h)
def F131_6(n:Nat)(cl:CL)(a:Value)(b:Kt)(c:Value)(h:PH):R:=
 vb (xCmp ieq a (vN 3)) fun d=>
 b [c,a,d] h
def F131_7(n:Nat)(cl:CL)(a:List Value)(h:PH):R:=
 u3 a fun b c d=>bite d (F131_0 n cl b h) (jn (F131_4 n cl) (F131_5 n cl c b h))
def F131_8(n:Nat)(cl:CL)(a b:Value)(h:PH)(c:Kt):R:=
 vb (xCmp ieq a (vN 2)) fun d=>
 bite d (c [b,a,d] h) (F131_6 n cl a c b h)
def F131(n:Nat)(cl:CL)(a:Value)(h:PH):R:=
 hb (xBox a h) fun b h=>
 vb (xFld 0 b) fun c=>
 vb (xLd c h) fun d=>
 jn (F131_7 n cl) (F131_8 n cl d b h)
theorem S131:OkF Tryz.prog 131 (A1 (F131 n cl)):=exA1 n ⟨[],[],[(4,[1,4,5]),(8,[1,10])],[],[],[],[],[]⟩ hcl hmx Tryz.func131 (by kernel_rfl) fun _ _=>by kernel_rfl
def F111_0(n:Nat)(cl:CL)(a b c d:Value)(e:Kt)(f:Value)(h:PH):R:=
 vb (xIdxS 6 a b) fun g=>
 vb (xLdA 6 g h) fun i=>
 hb (xAlloc (zcells Tryz.prog 85) h) fun j h=>
 hb (xStA 6 j i h) fun _ h=>
 vb (xLdA 6 j h) fun k=>
 vb (pcall (cl 111 [k] (h.fzn))) fun l=>
 vb (xExt 0 l) fun m=>
 vb (xExt 1 l) fun o=>
 vb (xAri Int.add c m) fun p=>
 vb ((if plainV.plainVs [d,o]then prun Tryz.prog (Builtin.max_ #[3,3] 3 ⟨[d,o]⟩)else none)) fun q=>
 vb (xAri Int.add b (vN 1)) fun r=>
 e [p,q,a,f,r] h
def F111_1(n:Nat)(cl:CL)(a b:Value)(h:PH):R:=
 vb (xAri Int.add a (vN 1)) fun c=>
 some (Value.tuple ⟨[b,c]⟩,h)
def F111_2(n:Nat)(cl:CL)(a b c d e:Value)(f:Kt)(h:PH):R:=
 vb (xCmp ilt a b) fun g=>
 bite g (F111_0 n cl c a d e f b h) (F111_1 n cl e d h)
def F111_3(n:Nat)(cl:CL)(a:Kt)(b:List Value)(h:PH):R:=
 u5 b fun c d e f g=>F111_2 n cl g f e c d a h
def F111_4(n:Nat)(cl:CL)(a b c:Value)(h:PH):R:=
 vb (xLdA 6 a h) fun d=>
 hb (fcall h (F131 n cl d (h.fzn))) fun e h=>
 vb (xLenS e) fun f=>
 lp n (F111_3 n cl) [b,c,e,f,(vN 0)] h
def F111_5(n:Nat)(cl:CL)(a:Value)(h:PH)(b:Kt):R:=
 vb (xFld 0 a) fun c=>
 vb (xLd c h) fun d=>
 vb (xCmp ieq d (vN 1)) fun e=>
 bite e (b [a,(vN 1),(vN 0)] h) (b [a,(vN 0),(vN 0)] h)
def F111(n:Nat)(cl:CL)(a:Value)(h:PH):R:=
 hb (xBox a h) fun b h=>
 jn (fun c h=>u3 c fun d e f=>F111_4 n cl d e f h) (F111_5 n cl b h)
theorem S111:OkF Tryz.prog 111 (A1 (F111 n cl)):=exA1 n ⟨[111],[131],[(4,[1,4,5]),(5,[4,5,14,15,16])],[],[],[],[],[]⟩ (svc_ok (S131 n hcl) hcl) hmx Tryz.func111 (by kernel_rfl) fun _ _=>by kernel_rfl
def F133(n:Nat)(cl:CL)(a:Value)(h:PH):R:=
 hb (xAlloc (zcells Tryz.prog 212) h) fun b h=>
 kp 2 h fun c h=>
 vb (xNil a) fun d=>
 vb (xFld 2 d) fun e=>
 vb (xNil a) fun f=>
 vb (xFld 2 f) fun g=>
 vb (xLd e h) fun i=>
 vb (xLd g h) fun j=>
 hb (xfill (Nat.add c 0) h (xMk (zinfo Tryz.prog 151) i i hE)) fun k h=>
 hb (xfill (Nat.add c 1) h (xMk (zinfo Tryz.prog 151) j j hE)) fun l h=>
 vb (abuild Tryz.prog 212 [(0,tt),(1,k),(2,l)]) fun m=>
 hb (xStA 3 b m h) fun _ h=>
 vb (xLdA 3 b h) fun o=>some (o,h)
theorem S133:OkF Tryz.prog 133 (A1 (F133 n cl)):=exA1 n ⟨[],[],[],[(1,[0,1,2,5,6,7,3,8,4,9,10,11])],[],[],[(1,[4,9])],[]⟩ hcl hmx Tryz.func133 (by kernel_rfl) fun _ _=>by kernel_rfl
def F132(n:Nat)(cl:CL)(a b:Value)(h:PH):R:=
 hb (xBox b h) fun c h=>
 hb (xAlloc (zcells Tryz.prog 212) h) fun d h=>
 vb (xNil a) fun e=>
 vb (xFld 0 e) fun f=>
 vb (xLd f h) fun g=>
 vb (xLenS g) fun i=>
 vb (xNil a) fun j=>
 vb (xFld 0 j) fun k=>
 vb (xFld 1 c) fun l=>
 vb (xLd k h) fun m=>
 vb (xLdA 4 l h) fun o=>
 hb (xBS 1 (bsRow Tryz.prog 88 1 [(0,o)]) h) fun p h=>
 hb (xApp (appInfo Tryz.prog #[88,88]) m p h) fun q h=>
 vb (xNil a) fun r=>
 vb (xFld 0 r) fun s=>
 hb (xSt1 s q h) fun _ h=>
 hb (fcall h (F133 n cl a (h.fzn))) fun t h=>
 hb (xAlloc (zcells Tryz.prog 212) h) fun v h=>
 hb (xStA 3 v t h) fun _ h=>
 vb (xFld 1 v) fun w=>
 vb (xLd w h) fun z=>
 vb (xFld 2 v) fun a1=>
 vb (xLd a1 h) fun b1=>
 vb (xFld 0 v) fun c1=>
 hb (xSt1 c1 ff h) fun _ h=>
 vb (xIdxS 1 z i) fun d1=>
 hb (xSt1 d1 tt h) fun _ h=>
 vb (xIdxS 1 b1 i) fun e1=>
 hb (xSt1 e1 tt h) fun _ h=>
 vb (xLdA 3 v h) fun f1=>
 hb (xStA 3 d f1 h) fun _ h=>
 vb (xLdA 3 d h) fun g1=>some (g1,h)
theorem S132:OkF Tryz.prog 132 (A2 (F132 n cl)):=exA2 n ⟨[],[133],[],[(2,[0,1,2,3,5,4,6,7,8,9,10,11])],[],[],[],[]⟩ (svc_ok (S133 n hcl) hcl) hmx Tryz.func132 (by kernel_rfl) fun _ _ _=>by kernel_rfl
def F155_0(n:Nat)(cl:CL)(a b c:Value)(d:Kt)(e:Value)(h:PH):R:=
 vb (xIdxS 1 a b) fun f=>
 vb (xLd f h) fun g=>
 vb (xIdxS 1 c b) fun i=>
 vb (xLd i h) fun j=>
 vb (gd (isB false j) (some g)) fun k=>
 vb (xPick j tt k) fun l=>
 vb (xIdxS 1 c b) fun m=>
 hb (xSt1 m l h) fun _ h=>
 vb (xAri Int.add b (vN 1)) fun o=>
 d [c,a,e,o] h
def F155_1(n:Nat)(cl:CL)(a b c d:Value)(e:Kt)(h:PH):R:=
 vb (xCmp ilt a b) fun f=>
 bite f (F155_0 n cl c a d e b h) (some (Value.tuple ⟨[]⟩,h))
def F155_2(n:Nat)(cl:CL)(a:Kt)(b:List Value)(h:PH):R:=
 u4 b fun c d e f=>F155_1 n cl f e d c a h
def F155(n:Nat)(cl:CL)(a b:Value)(h:PH):R:=
 vb (xLenS b) fun c=>
 lp n (F155_2 n cl) [a,b,c,(vN 0)] h
theorem S155:OkF Tryz.prog 155 (A2 (F155 n cl)):=exA2 n ⟨[],[],[(1,[0,6,7,8])],[],[],[],[],[]⟩ hcl hmx Tryz.func155 (by kernel_rfl) fun _ _ _=>by kernel_rfl
def F136_0(n:Nat)(cl:CL)(a:Value)(b:Kt)(c d e f:Value)(h:PH):R:=
 vb (xAri Int.add a (vN 1)) fun g=>
 b [c,d,e,f,g] h
def F136_1(n:Nat)(cl:CL)(a b c:Value)(d:Kt)(e f:Value)(h:PH):R:=
 vb (xNil a) fun g=>
 vb (xFld 1 g) fun i=>
 vb (xLd i h) fun j=>
 vb (xIdxS 1 j b) fun k=>
 vb (xLd k h) fun l=>
 hb (F155 n cl l c h) fun m h=>
 d [a,c,e,f,b] h
def F136_2(n:Nat)(cl:CL)(a:Kt)(b:List Value)(h:PH):R:=
 u5 b fun c d e f g=>F136_0 n cl g a c d e f h
def F136_3(n:Nat)(cl:CL)(a b c d e:Value)(h:PH)(f:Kt):R:=
 vb (xIdxS 1 a b) fun g=>
 vb (xLd g h) fun i=>
 bite i (F136_1 n cl c b d f a e h) (f [c,d,a,e,b] h)
def F136_4(n:Nat)(cl:CL)(a b:Value)(c:Kt)(d e f:Value)(h:PH):R:=
 vb (xCmp ilt a b) fun g=>
 bite g (jn (F136_2 n cl c) (F136_3 n cl d a e f b h)) (some (Value.tuple ⟨[]⟩,h))
def F136_5(n:Nat)(cl:CL)(a:Kt)(b:List Value)(h:PH):R:=
 u5 b fun c d e f g=>F136_4 n cl g f a e c d h
def F136(n:Nat)(cl:CL)(a b c:Value)(h:PH):R:=
 vb (xLenS b) fun d=>
 lp n (F136_5 n cl) [a,c,b,d,(vN 0)] h
theorem S136:OkF Tryz.prog 136 (A3 (F136 n cl)):=exA3 n ⟨[],[],[(1,[0,2,8,9,10]),(5,[0,2,8,9,10])],[],[],[],[],[]⟩ (svc_ok (S155 n hcl) hcl) hmx Tryz.func136 (by kernel_rfl) fun _ _ _ _=>by kernel_rfl
def F154_0(n:Nat)(cl:CL)(a:Value)(h:PH):R:=
 hb (xBS 0 (bsRow Tryz.prog 151 0 []) h) fun b h=>
 hb (xApp (appInfo Tryz.prog #[151,151]) b a h) fun c h=>
 some (c,h)
def F154(n:Nat)(cl:CL)(a:Value)(h:PH):R:=
 vb (abin Tryz.prog .eql 151 (Operand.tmp 3) (Operand.const (Value.slice none 0 0)) a nils) fun b=>
 bite b (some (nils,h)) (F154_0 n cl a h)
theorem S154:OkF Tryz.prog 154 (A1 (F154 n cl)):=exA1 n ⟨[],[],[],[],[],[],[],[]⟩ hcl hmx Tryz.func154 (by kernel_rfl) fun _ _=>by kernel_rfl
def F134_0(n:Nat)(cl:CL)(a b:Value)(h:PH):R:=
 vb (xLdA 3 a h) fun c=>
 hb (xStA 3 b c h) fun _ h=>
 vb (xLdA 3 b h) fun d=>some (d,h)
def F134_1(n:Nat)(cl:CL)(a b:Value)(c:Kt)(d:Value)(h:PH):R:=
 vb (xFld 2 a) fun e=>
 vb (xLd e h) fun f=>
 vb (xFld 2 b) fun g=>
 vb (xLd g h) fun i=>
 hb (F155 n cl f i h) fun j h=>
 c [d,a] h
def F134_2(n:Nat)(cl:CL)(a b c d:Value)(h:PH)(e:Kt):R:=
 vb (xFld 0 a) fun f=>
 vb (xLd f h) fun g=>
 bite g (F134_1 n cl b c e d h) (e [d,b] h)
def F134_3(n:Nat)(cl:CL)(a b c d:Value)(h:PH):R:=
 jn (fun e h=>ucons e fun f g=>ucons g fun i j=>F134_0 n cl i f h) (F134_2 n cl a b c d h)
def F134_4(n:Nat)(cl:CL)(a b:Value)(c:Kt)(d e:Value)(h:PH):R:=
 vb (xFld 1 a) fun f=>
 vb (xLd f h) fun g=>
 vb (xFld 1 b) fun i=>
 vb (xLd i h) fun j=>
 hb (F155 n cl g j h) fun k h=>
 c [d,b,e,a] h
def F134_5(n:Nat)(cl:CL)(a:List Value)(h:PH):R:=
 u4 a fun b c d e=>F134_3 n cl c e b d h
def F134_6(n:Nat)(cl:CL)(a b c d:Value)(h:PH)(e:Kt):R:=
 vb (xFld 0 a) fun f=>
 vb (xLd f h) fun g=>
 bite g (F134_4 n cl b c e a d h) (e [a,c,d,b] h)
def F134(n:Nat)(cl:CL)(a b c:Value)(h:PH):R:=
 hb (xBox b h) fun d h=>
 hb (xBox c h) fun e h=>
 hb (xAlloc (zcells Tryz.prog 212) h) fun f h=>
 vb (xFld 2 d) fun g=>
 vb (xLd g h) fun i=>
 vb (xFld 1 e) fun j=>
 vb (xLd j h) fun k=>
 hb (F136 n cl a i k h) fun l h=>
 kp 1 h fun m h=>
 vb (xFld 0 d) fun o=>
 vb (xFld 1 d) fun p=>
 vb (xFld 2 e) fun q=>
 vb (xLd o h) fun r=>
 vb (gd (isB true r) (xFld 0 e)) fun s=>
 vb (gd (isB true r) (xLd s h)) fun t=>
 vb (xPick r t ff) fun v=>
 vb (xLd p h) fun w=>
 vb (xLd q h) fun z=>
 avk m 1 [w]<|
 hb (fcall h (F154 n cl w (h.fzn))) fun a1 h=>
 avk m 1 [z]<|
 hb (fcall h (F154 n cl z (h.fzn))) fun b1 h=>
 vb (abuild Tryz.prog 212 [(0,v),(1,a1),(2,b1)]) fun c1=>
 hb (xfill (Nat.add m 0) h (xAlloc (zcells Tryz.prog 212) hE)) fun d1 h=>
 hb (xStA 3 d1 c1 h) fun _ h=>
 jn (F134_5 n cl) (F134_6 n cl d d1 e f h)
theorem S134:OkF Tryz.prog 134 (A3 (F134 n cl)):=exA3 n ⟨[],[154],[(5,[4,5,6,7]),(7,[6,7])],[(2,[0,6,9,1,2,3,4,5,7,10,8,11,12,13,14])],[],[],[(2,[13])],[]⟩ (svc_ok (S136 n hcl) (svc_ok (S154 n hcl) (svc_ok (S155 n hcl) hcl))) hmx Tryz.func134 (by kernel_rfl) fun _ _ _ _=>by kernel_rfl
def F135(n:Nat)(cl:CL)(a b:Value)(h:PH):R:=
 hb (xBox a h) fun c h=>
 hb (xBox b h) fun d h=>
 hb (xAlloc (zcells Tryz.prog 212) h) fun e h=>
 kp 1 h fun f h=>
 vb (xFld 0 c) fun g=>
 vb (xFld 1 c) fun i=>
 vb (xFld 2 c) fun j=>
 vb (xLd g h) fun k=>
 vb (gd (isB false k) (xFld 0 d)) fun l=>
 vb (gd (isB false k) (xLd l h)) fun m=>
 vb (xPick k tt m) fun o=>
 vb (xLd i h) fun p=>
 vb (xLd j h) fun q=>
 avk f 1 [p]<|
 hb (fcall h (F154 n cl p (h.fzn))) fun r h=>
 avk f 1 [q]<|
 hb (fcall h (F154 n cl q (h.fzn))) fun s h=>
 vb (abuild Tryz.prog 212 [(0,o),(1,r),(2,s)]) fun t=>
 hb (xfill (Nat.add f 0) h (xAlloc (zcells Tryz.prog 212) hE)) fun v h=>
 hb (xStA 3 v t h) fun _ h=>
 vb (xFld 1 v) fun w=>
 vb (xLd w h) fun z=>
 vb (xFld 1 d) fun a1=>
 vb (xLd a1 h) fun b1=>
 hb (F155 n cl z b1 h) fun c1 h=>
 vb (xFld 2 v) fun d1=>
 vb (xLd d1 h) fun e1=>
 vb (xFld 2 d) fun f1=>
 vb (xLd f1 h) fun g1=>
 hb (F155 n cl e1 g1 h) fun i1 h=>
 vb (xLdA 3 v h) fun j1=>
 hb (xStA 3 e j1 h) fun _ h=>
 vb (xLdA 3 e h) fun k1=>some (k1,h)
theorem S135:OkF Tryz.prog 135 (A2 (F135 n cl)):=exA2 n ⟨[],[154],[],[(1,[0,6,9,1,2,3,4,5,7,10,8,11,12,13,14])],[],[],[(1,[13])],[]⟩ (svc_ok (S154 n hcl) (svc_ok (S155 n hcl) hcl)) hmx Tryz.func135 (by kernel_rfl) fun _ _ _=>by kernel_rfl
def F112_0(n:Nat)(cl:CL)(a b c:Value)(h:PH):R:=
 vb (xLdA 6 a h) fun d=>
 hb (F132 n cl b d h) fun e h=>
 hb (xStA 3 c e h) fun _ h=>
 vb (xLdA 3 c h) fun f=>some (f,h)
def F112_1(n:Nat)(cl:CL)(a b:Value)(h:PH):R:=
 hb (fcall h (F133 n cl a (h.fzn))) fun c h=>
 hb (xStA 3 b c h) fun _ h=>
 vb (xLdA 3 b h) fun d=>some (d,h)
def F112_2(n:Nat)(cl:CL)(a:Value)(b:Kt)(c d e f g i:Value)(h:PH):R:=
 vb (xAri Int.add a (vN 1)) fun j=>
 b [c,d,e,f,g,i,j] h
def F112_3(n:Nat)(cl:CL)(a b c:Value)(d:Kt)(e f g i j:Value)(h:PH):R:=
 vb (xLdA 3 a h) fun k=>
 vb (xLdA 3 b h) fun l=>
 hb (F134 n cl c k l h) fun m h=>
 hb (xStA 3 a m h) fun _ h=>
 d [c,e,f,a,g,i,j] h
def F112_4(n:Nat)(cl:CL)(a b:Value)(c:Kt)(d e f g i j:Value)(h:PH):R:=
 vb (xLdA 3 a h) fun k=>
 vb (xLdA 3 b h) fun l=>
 hb (F135 n cl k l h) fun m h=>
 hb (xStA 3 a m h) fun _ h=>
 c [d,e,f,a,g,i,j] h
def F112_5(n:Nat)(cl:CL)(a:Kt)(b:List Value)(h:PH):R:=
 u7 b fun c d e f g i j=>F112_2 n cl j a c d e f g i h
def F112_6(n:Nat)(cl:CL)(a b c d e f g:Value)(h:PH)(i:Kt):R:=
 vb (xIdxS 6 a b) fun j=>
 vb (xLdA 6 j h) fun k=>
 hb (xAlloc (zcells Tryz.prog 85) h) fun l h=>
 hb (xStA 6 l k h) fun _ h=>
 vb (xLdA 6 l h) fun m=>
 hb (cl 112 [c,m] h) fun o h=>
 hb (xAlloc (zcells Tryz.prog 212) h) fun p h=>
 hb (xStA 3 p o h) fun _ h=>
 vb (xFld 0 d) fun q=>
 vb (xLd q h) fun r=>
 vb (xCmp ieq r (vN 2)) fun s=>
 bite s (F112_3 n cl e p c i d f a g b h) (F112_4 n cl e p i c d f a g b h)
def F112_7(n:Nat)(cl:CL)(a b c:Value)(h:PH):R:=
 vb (xFld 0 a) fun d=>
 vb (xLd d h) fun e=>
 vb (gd (isB false e) (xFld 0 b)) fun f=>
 vb (gd (isB false e) (xLd f h)) fun g=>
 vb (gd (isB false e) (xCmp ieq g (vN 4))) fun i=>
 vb (xPick e tt i) fun j=>
 vb (gd (isB false j) (xFld 0 b)) fun k=>
 vb (gd (isB false j) (xLd k h)) fun l=>
 vb (gd (isB false j) (xCmp ieq l (vN 6))) fun m=>
 vb (xPick j tt m) fun o=>
 vb (xFld 0 a) fun p=>
 hb (xSt1 p o h) fun _ h=>
 vb (xLdA 3 a h) fun q=>
 hb (xStA 3 c q h) fun _ h=>
 vb (xLdA 3 c h) fun r=>some (r,h)
def F112_8(n:Nat)(cl:CL)(a b:Value)(c:Kt)(d e:Value)(h:PH):R:=
 vb (xFld 2 a) fun f=>
 vb (xLd f h) fun g=>
 vb (xFld 1 a) fun i=>
 vb (xLd i h) fun j=>
 hb (F136 n cl b g j h) fun k h=>
 c [d,e,a] h
def F112_9(n:Nat)(cl:CL)(a:List Value)(h:PH):R:=
 u3 a fun b c d=>F112_7 n cl d b c h
def F112_10(n:Nat)(cl:CL)(a b c d:Value)(h:PH)(e:Kt):R:=
 vb (xFld 0 a) fun f=>
 vb (xLd f h) fun g=>
 vb (xCmp ieq g (vN 4)) fun i=>
 vb (gd (isB false i) (xFld 0 a)) fun j=>
 vb (gd (isB false i) (xLd j h)) fun k=>
 vb (gd (isB false i) (xCmp ieq k (vN 5))) fun l=>
 vb (xPick i tt l) fun m=>
 bite m (F112_8 n cl b c e a d h) (e [a,d,b] h)
def F112_11(n:Nat)(cl:CL)(a b:Value)(c:Kt)(d e f g i:Value)(h:PH):R:=
 vb (xCmp ilt a b) fun j=>
 bite j (jn (F112_5 n cl c) (F112_6 n cl d a e f g i b h)) (jn (F112_9 n cl) (F112_10 n cl f g e i h))
def F112_12(n:Nat)(cl:CL)(a:Kt)(b:List Value)(h:PH):R:=
 u7 b fun c d e f g i j=>F112_11 n cl j i a g c d f e h
def F112_13(n:Nat)(cl:CL)(a b c d:Value)(h:PH):R:=
 vb (xIdxS 6 a (vN 0)) fun e=>
 vb (xLdA 6 e h) fun f=>
 hb (cl 112 [b,f] h) fun g h=>
 hb (xAlloc (zcells Tryz.prog 212) h) fun i h=>
 hb (xStA 3 i g h) fun _ h=>
 vb (acut Tryz.prog 83 a (some (vN 1)) none none) fun j=>
 vb (xLenS j) fun k=>
 lp n (F112_12 n cl) [b,c,d,i,j,k,(vN 0)] h
def F112_14(n:Nat)(cl:CL)(a b c d:Value)(h:PH):R:=
 vb (xLenS a) fun e=>
 vb (xCmp ieq e (vN 0)) fun f=>
 bite f (F112_1 n cl b c h) (F112_13 n cl a b d c h)
def F112(n:Nat)(cl:CL)(a b:Value)(h:PH):R:=
 hb (xBox b h) fun c h=>
 hb (xAlloc (zcells Tryz.prog 212) h) fun d h=>
 vb (xLdA 6 c h) fun e=>
 hb (fcall h (F131 n cl e (h.fzn))) fun f h=>
 vb (xFld 0 c) fun g=>
 vb (xLd g h) fun i=>
 vb (xCmp ieq i (vN 1)) fun j=>
 bite j (F112_0 n cl c a d h) (F112_14 n cl f a d c h)
theorem S112:OkF Tryz.prog 112 (A2 (F112 n cl)):=exA2 n ⟨[],[131,133],[(8,[0,3,4,6,31,32,33]),(14,[0,3,4,6,31,32,33]),(17,[3,4,6])],[],[],[],[],[]⟩ (svc_ok (S131 n hcl) (svc_ok (S132 n hcl) (svc_ok (S133 n hcl) (svc_ok (S134 n hcl) (svc_ok (S135 n hcl) (svc_ok (S136 n hcl) hcl)))))) hmx Tryz.func112 (by kernel_rfl) fun _ _ _=>by kernel_rfl
def F113_0(n:Nat)(cl:CL)(a:Value)(b:Kt)(c d e:Value)(h:PH):R:=
 vb (xAri Int.add a (vN 1)) fun f=>
 b [c,d,e,f] h
def F113_1(n:Nat)(cl:CL)(a b:Value)(c:Kt)(d e:Value)(h:PH):R:=
 hb (xBS 1 (bsRow Tryz.prog 49 1 [(0,a)]) h) fun f h=>
 hb (xApp (appInfo Tryz.prog #[49,49]) b f h) fun g h=>
 c [g,d,e,a] h
def F113_2(n:Nat)(cl:CL)(a:Kt)(b:List Value)(h:PH):R:=
 u4 b fun c d e f=>F113_0 n cl f a c d e h
def F113_3(n:Nat)(cl:CL)(a b c d:Value)(h:PH)(e:Kt):R:=
 vb (xIdxS 1 a b) fun f=>
 vb (xLd f h) fun g=>
 bite g (F113_1 n cl b c e a d h) (e [c,a,d,b] h)
def F113_4(n:Nat)(cl:CL)(a b:Value)(c:Kt)(d e:Value)(h:PH):R:=
 vb (xCmp ilt a b) fun f=>
 bite f (jn (F113_2 n cl c) (F113_3 n cl d a e b h)) (some (e,h))
def F113_5(n:Nat)(cl:CL)(a:Kt)(b:List Value)(h:PH):R:=
 u4 b fun c d e f=>F113_4 n cl f e a d c h
def F113(n:Nat)(cl:CL)(a:Value)(h:PH):R:=
 vb (xLenS a) fun b=>
 lp n (F113_5 n cl) [nils,a,b,(vN 0)] h
theorem S113:OkF Tryz.prog 113 (A1 (F113 n cl)):=exA1 n ⟨[],[],[(3,[3,6,7,8]),(7,[3,6,7,8])],[],[],[],[],[]⟩ hcl hmx Tryz.func113 (by kernel_rfl) fun _ _=>by kernel_rfl
def F87_0(n:Nat)(cl:CL)(a:Value)(h:PH):R:=
 vb (abuild Tryz.prog 90 []) fun b=>
 hb (xStA 5 a b h) fun _ h=>
 vb (xLdA 5 a h) fun c=>some (Value.tuple ⟨[c,(vN 3)]⟩,h)
def F87_1(n:Nat)(cl:CL)(a:Value)(h:PH):R:=
 vb (abuild Tryz.prog 90 []) fun b=>
 hb (xStA 5 a b h) fun _ h=>
 vb (xLdA 5 a h) fun c=>some (Value.tuple ⟨[c,(vN 4)]⟩,h)
def F87_2(n:Nat)(cl:CL)(a b c:Value)(d:Kt)(e f g:Value)(h:PH):R:=
 vb (xNil a) fun i=>
 vb (xFld 1 i) fun j=>
 vb (xLd j h) fun k=>
 hb (xMk (zinfo Tryz.prog 151) b b h) fun l h=>
 hb (xBS 1 (bsRow Tryz.prog 208 1 [(0,l)]) h) fun m h=>
 hb (xApp (appInfo Tryz.prog #[208,208]) k m h) fun o h=>
 vb (xNil a) fun p=>
 vb (xFld 1 p) fun q=>
 hb (xSt1 q o h) fun _ h=>
 vb (xAri Int.add c (vN 1)) fun r=>
 d [e,f,b,a,g,r] h
def F87_3(n:Nat)(cl:CL)(a b c:Value)(d:Kt)(e f:Value)(h:PH):R:=
 vb (xIdxS 1 a b) fun g=>
 vb (xLd g h) fun i=>
 vb (xFld 4 c) fun j=>
 vb (xLd j h) fun k=>
 hb (fcall h (F113 n cl i (h.fzn))) fun l h=>
 lchk (xLd j h) k<|
 hb (xBS 1 (bsRow Tryz.prog 74 1 [(0,l)]) h) fun m h=>
 hb (xApp (appInfo Tryz.prog #[74,74]) k m h) fun o h=>
 vb (xFld 4 c) fun p=>
 hb (xSt1 p o h) fun _ h=>
 vb (xAri Int.add b (vN 1)) fun q=>
 d [e,c,a,f,q] h
def F87_4(n:Nat)(cl:CL)(a b:Value)(h:PH):R:=
 vb (xLdA 5 a h) fun c=>
 hb (xStA 5 b c h) fun _ h=>
 vb (xLdA 5 b h) fun d=>some (Value.tuple ⟨[d,(vN 0)]⟩,h)
def F87_5(n:Nat)(cl:CL)(a b c d:Value)(e:Kt)(f:Value)(h:PH):R:=
 vb (xCmp ilt a b) fun g=>
 bite g (F87_3 n cl c a d e f b h) (F87_4 n cl d f h)
def F87_6(n:Nat)(cl:CL)(a:Kt)(b:List Value)(h:PH):R:=
 u5 b fun c d e f g=>F87_5 n cl g f e d a c h
def F87_7(n:Nat)(cl:CL)(a b c:Value)(h:PH):R:=
 vb (xLdA 6 a h) fun d=>
 hb (cl 112 [b,d] h) fun e h=>
 hb (xAlloc (zcells Tryz.prog 212) h) fun f h=>
 hb (xStA 3 f e h) fun _ h=>
 kp 1 h fun g h=>
 vb (xNil b) fun i=>
 vb (xFld 0 i) fun j=>
 vb (xFld 0 f) fun k=>
 vb (xFld 1 f) fun l=>
 vb (xFld 2 f) fun m=>
 vb (xLd j h) fun o=>
 vb (xLd k h) fun p=>
 vb (xLd l h) fun q=>
 vb (xLd m h) fun r=>
 avk g 1 [q]<|
 hb (fcall h (F113 n cl q (h.fzn))) fun s h=>
 avk g 1 [r]<|
 hb (fcall h (F113 n cl r (h.fzn))) fun t h=>
 vb (abuild Tryz.prog 90 [(0,o),(1,p),(2,s),(3,t)]) fun v=>
 hb (xfill (Nat.add g 0) h (xAlloc (zcells Tryz.prog 90) hE)) fun w h=>
 hb (xStA 5 w v h) fun _ h=>
 vb (xNil b) fun z=>
 vb (xFld 1 z) fun a1=>
 vb (xLd a1 h) fun b1=>
 vb (xLenS b1) fun c1=>
 lp n (F87_6 n cl) [c,w,b1,c1,(vN 0)] h
def F87_8(n:Nat)(cl:CL)(a b c d:Value)(e:Kt)(f g:Value)(h:PH):R:=
 vb (xCmp ilt a b) fun i=>
 bite i (F87_2 n cl c d a e f g b h) (F87_7 n cl f c g h)
def F87_9(n:Nat)(cl:CL)(a:Kt)(b:List Value)(h:PH):R:=
 u6 b fun c d e f g i=>F87_8 n cl i g f e a c d h
def F87_10(n:Nat)(cl:CL)(a b c:Value)(h:PH):R:=
 vb (abuild Tryz.prog 210 [(2,a)]) fun d=>
 hb (xBox d h) fun e h=>
 lp n (F87_9 n cl) [b,c,a,e,a,(vN 0)] h
def F87_11(n:Nat)(cl:CL)(a b c d:Value)(h:PH):R:=
 vb (xCmp (fun x y=>ilt y x) a (vN 200)) fun e=>
 bite e (F87_1 n cl b h) (F87_10 n cl c d b h)
def F87(n:Nat)(cl:CL)(a:Value)(h:PH):R:=
 hb (xBox a h) fun b h=>
 hb (xAlloc (zcells Tryz.prog 90) h) fun c h=>
 vb (xLdA 6 b h) fun d=>
 vb (pcall (cl 111 [d] (h.fzn))) fun e=>
 vb (xExt 0 e) fun f=>
 vb (xExt 1 e) fun g=>
 vb (xCmp (fun x y=>ilt y x) f (vN 150)) fun i=>
 bite i (F87_0 n cl c h) (F87_11 n cl g c f b h)
theorem S87:OkF Tryz.prog 87 (A1 (F87 n cl)):=exA1 n ⟨[111],[113],[(8,[1,2,4,6,27,28]),(14,[2,8,61,62,63])],[(9,[0,1,2,3,5,4,6,7,8,9,10,11]),(12,[0,1,2,4,6,9,3,5,7,10,8,11,12,13,14]),(16,[0,2,1,3,4,5,6,7])],[(16,[1,3])],[],[(12,[13])],[]⟩ (svc_ok (S113 n hcl) hcl) hmx Tryz.func87 (by kernel_rfl) fun _ _=>by kernel_rfl
def F62_0(n:Nat)(cl:CL)(a b:Value)(h:PH):R:=
 vb (abuild Tryz.prog 90 []) fun c=>
 hb (xStA 5 a c h) fun _ h=>
 vb (xLdA 5 a h) fun d=>some (Value.tuple ⟨[d,b]⟩,h)
def F62_1(n:Nat)(cl:CL)(a b:Value)(h:PH):R:=
 vb (xLdA 6 a h) fun c=>
 hb (F87 n cl c h) fun d h=>
 vb (xExt 0 d) fun e=>
 vb (xExt 1 d) fun f=>
 hb (xStA 5 b e h) fun _ h=>
 vb (xLdA 5 b h) fun g=>some (Value.tuple ⟨[g,f]⟩,h)
def F62(n:Nat)(cl:CL)(a:Value)(h:PH):R:=
 hb (xAlloc (zcells Tryz.prog 90) h) fun b h=>
 hb (fcall h (F86 n cl a (h.fzn))) fun c h=>
 vb (xExt 0 c) fun d=>
 vb (xExt 1 c) fun e=>
 vb (xExt 2 c) fun f=>
 hb (xAlloc (zcells Tryz.prog 85) h) fun g h=>
 hb (xStA 6 g d h) fun _ h=>
 vb (xCmp ine f (vN 0)) fun i=>
 bite i (F62_0 n cl b f h) (F62_1 n cl g b h)
theorem S62:OkF Tryz.prog 62 (A1 (F62 n cl)):=exA1 n ⟨[],[86],[],[],[],[],[],[]⟩ (svc_ok (S86 n hcl) (svc_ok (S87 n hcl) hcl)) hmx Tryz.func62 (by kernel_rfl) fun _ _=>by kernel_rfl
def F41_0(n:Nat)(cl:CL)(a:Value)(h:PH):R:=
 vb (xFld 0 a) fun b=>
 vb (xLd b h) fun c=>
 hb (F62 n cl c h) fun d h=>
 vb (xExt 0 d) fun e=>
 vb (xExt 1 d) fun f=>
 hb (xAlloc (zcells Tryz.prog 90) h) fun g h=>
 hb (xStA 5 g e h) fun _ h=>
 vb (xCmp ieq f (vN 0)) fun i=>
 vb (gd (isB true i) (xFld 1 g)) fun j=>
 vb (gd (isB true i) (xLd j h)) fun k=>
 vb (xPick i k ff) fun l=>
 bite l (some ((vN 5),h)) (some (f,h))
def F41(n:Nat)(cl:CL)(a b:Value)(h:PH):R:=
 hb (xBox a h) fun c h=>
 hb (xBox b h) fun d h=>
 vb (xFld 1 d) fun e=>
 vb (xLd e h) fun f=>
 vb (xFld 0 c) fun g=>
 vb (xLd g h) fun i=>
 vb (pcall (F49 n cl f i (h.fzn))) fun j=>
 vb (xNot j) fun k=>
 vb (gd (isB false k) (xFld 2 d)) fun l=>
 vb (gd (isB false k) (xLd l h)) fun m=>
 vb (gd (isB false k) (xFld 0 c)) fun o=>
 vb (gd (isB false k) (xLd o h)) fun p=>
 vb (gd (isB false k) (pcall (F49 n cl m p (h.fzn)))) fun q=>
 vb (gd (isB false k) (xNot q)) fun r=>
 vb (xPick k tt r) fun s=>
 vb (gd (isB false s) (xFld 3 d)) fun t=>
 vb (gd (isB false s) (xLd t h)) fun v=>
 vb (gd (isB false s) (xCmp ilt v (vM 0))) fun w=>
 vb (xPick s tt w) fun z=>
 vb (gd (isB false z) (xFld 3 d)) fun a1=>
 vb (gd (isB false z) (xLd a1 h)) fun b1=>
 vb (gd (isB false z) (xCmp (fun x y=>ile y x) b1 (vN 40))) fun c1=>
 vb (xPick z tt c1) fun d1=>
 bite d1 (some ((vN 6),h)) (F41_0 n cl d h)
theorem S41:OkF Tryz.prog 41 (A2 (F41 n cl)):=exA2 n ⟨[49],[],[],[],[],[],[],[]⟩ (svc_ok (S49 n hcl) (svc_ok (S62 n hcl) hcl)) hmx Tryz.func41 (by kernel_rfl) fun _ _ _=>by kernel_rfl
def F65_0(n:Nat)(cl:CL)(a:Value)(h:PH):R:=
 hb (xBS 0 (bsRow Tryz.prog 22 0 []) h) fun b h=>
 hb (xApp (appInfo Tryz.prog #[22,22]) b a h) fun c h=>
 some (c,h)
def F65(n:Nat)(cl:CL)(a:Value)(h:PH):R:=
 vb (abin Tryz.prog .eql 22 (Operand.tmp 3) (Operand.const (Value.slice none 0 0)) a nils) fun b=>
 bite b (some (nils,h)) (F65_0 n cl a h)
theorem S65:OkF Tryz.prog 65 (A1 (F65 n cl)):=exA1 n ⟨[],[],[],[],[],[],[],[]⟩ hcl hmx Tryz.func65 (by kernel_rfl) fun _ _=>by kernel_rfl
def F66(n:Nat)(cl:CL)(a b:Value)(h:PH):R:=
 hb (xBox a h) fun c h=>
 vb (xFld 1 c) fun d=>
 vb (xLd d h) fun e=>
 vb (xLd b h) fun f=>
 vb (xCmp ine e f) fun g=>
 some (g,h)
theorem S66:OkF Tryz.prog 66 (A2 (F66 n cl)):=exA2 n ⟨[],[],[],[],[],[],[],[]⟩ hcl hmx Tryz.func66 (by kernel_rfl) fun _ _ _=>by kernel_rfl
def F94_0(n:Nat)(cl:CL)(a:Value)(b:Kt)(c d e:Value)(h:PH):R:=
 vb (xAri Int.add a (vN 1)) fun f=>
 b [c,d,e,f] h
def F94_1(n:Nat)(cl:CL)(a b c:Value)(d:Kt)(e:Value)(h:PH):R:=
 vb (xIdxS 4 a b) fun f=>
 vb (xLdA 4 f h) fun g=>
 hb (xCall cl c [g] h) fun i h=>
 bite i (some (b,h)) (F94_0 n cl b d a c e h)
def F94_2(n:Nat)(cl:CL)(a b c d:Value)(e:Kt)(h:PH):R:=
 vb (xCmp ilt a b) fun f=>
 bite f (F94_1 n cl c a d e b h) (some ((vM 0),h))
def F94_3(n:Nat)(cl:CL)(a:Kt)(b:List Value)(h:PH):R:=
 u4 b fun c d e f=>F94_2 n cl f e c d a h
def F94(n:Nat)(cl:CL)(a b:Value)(h:PH):R:=
 vb (xLenS a) fun c=>
 lp n (F94_3 n cl) [a,b,c,(vN 0)] h
theorem S94:OkF Tryz.prog 94 (A2 (F94 n cl)):=exA2 n ⟨[],[],[(2,[0,1,7,8])],[],[],[],[],[]⟩ hcl hmx Tryz.func94 (by kernel_rfl) fun _ _ _=>by kernel_rfl
def F64_0(n:Nat)(cl:CL)(a:Value)(b:Kt)(c d e:Value)(h:PH):R:=
 vb (xAri Int.add a (vN 1)) fun f=>
 b [c,d,e,f] h
def F64_1(n:Nat)(cl:CL)(a b c:Value)(d:Kt)(e f:Value)(h:PH):R:=
 vb (xLdA 4 a h) fun g=>
 vb (xIdxS 4 b c) fun i=>
 hb (xStA 4 i g h) fun _ h=>
 vb (xAri Int.add c (vN 1)) fun j=>
 d [b,e,j,f] h
def F64_2(n:Nat)(cl:CL)(a:Kt)(b:List Value)(h:PH):R:=
 u4 b fun c d e f=>F64_0 n cl f a c d e h
def F64_3(n:Nat)(cl:CL)(a b c d:Value)(h:PH)(e:Kt):R:=
 vb (xIdxS 4 a b) fun f=>
 vb (xLdA 4 f h) fun g=>
 hb (xAlloc (zcells Tryz.prog 46) h) fun i h=>
 hb (xStA 4 i g h) fun _ h=>
 vb (xLdA 4 i h) fun j=>
 hb (xCall (svc 94 (A2 (F94 n cl)) cl) c [j] h) fun k h=>
 vb (xNot k) fun l=>
 bite l (F64_1 n cl i a d e c b h) (e [a,c,d,b] h)
def F64_4(n:Nat)(cl:CL)(a b:Value)(h:PH):R:=
 vb (acut Tryz.prog 22 a (some b) none none) fun c=>
 hb (xClear (zinfo Tryz.prog 22) c h) fun _ h=>
 vb (acut Tryz.prog 22 a none (some b) none) fun d=>
 some (d,h)
def F64_5(n:Nat)(cl:CL)(a b:Value)(c:Kt)(d e:Value)(h:PH):R:=
 vb (xLenS a) fun f=>
 vb (xCmp ilt b f) fun g=>
 bite g (jn (F64_2 n cl c) (F64_3 n cl a b d e h)) (F64_4 n cl a e h)
def F64_6(n:Nat)(cl:CL)(a:Kt)(b:List Value)(h:PH):R:=
 u4 b fun c d e f=>F64_5 n cl c f a d e h
def F64_7(n:Nat)(cl:CL)(a b c:Value)(h:PH):R:=
 vb (xAri Int.add a (vN 1)) fun d=>
 lp n (F64_6 n cl) [b,c,a,d] h
def F64(n:Nat)(cl:CL)(a b:Value)(h:PH):R:=
 vb (pcall (F94 n cl a b (h.fzn))) fun c=>
 vb (xCmp ieq c (vM 0)) fun d=>
 bite d (some (a,h)) (F64_7 n cl c a b h)
theorem S64:OkF Tryz.prog 64 (A2 (F64 n cl)):=exA2 n ⟨[94],[],[(5,[0,1,5,6]),(6,[0,1,5,6])],[],[],[],[],[]⟩ (svc_ok (S94 n hcl) hcl) hmx Tryz.func64 (by kernel_rfl) fun _ _ _=>by kernel_rfl
def F43(n:Nat)(cl:CL)(a b:Value)(h:PH):R:=
 hb (xBox a h) fun c h=>
 hb (xBox b h) fun d h=>
 vb (xFld 1 c) fun e=>
 vb (xLd e h) fun f=>
 hb (fcall h (F65 n cl f (h.fzn))) fun g h=>
 vb (some (Value.func (Fn.func 66) ⟨[]⟩ ⟨[d]⟩)) fun i=>
 hb (F64 n cl g i h) fun j h=>
 some (j,h)
theorem S43:OkF Tryz.prog 43 (A2 (F43 n cl)):=exA2 n ⟨[],[65],[],[],[],[],[],[]⟩ (svc_ok (S65 n hcl) (svc_ok (S64 n hcl) hcl)) hmx Tryz.func43 (by kernel_rfl) fun _ _ _=>by kernel_rfl
def F89(n:Nat)(cl:CL)(a:Value)(h:PH):R:=
 vb (xNil a) fun b=>
 vb (xFld 0 b) fun c=>
 vb (xLd c h) fun d=>
 vb (xQuo d (vN 64)) fun e=>
 vb (xAri Int.add e (vN 1)) fun f=>
 hb (xMk (zinfo Tryz.prog 170) f f h) fun g h=>
 some (g,h)
theorem S89:OkF Tryz.prog 89 (A1 (F89 n cl)):=exA1 n ⟨[],[],[],[],[],[],[],[]⟩ hcl hmx Tryz.func89 (by kernel_rfl) fun _ _=>by kernel_rfl
def F140(n:Nat)(cl:CL)(a b:Value)(h:PH):R:=
 vb (xQuo b (vN 64)) fun c=>
 vb (xIdxS 1 a c) fun d=>
 vb (xRem b (vN 64)) fun e=>
 vb (xShl (Value.int .u64 (.ofNat 1)) e) fun f=>
 vb (xLd d h) fun g=>
 vb (xBit Nat.lor g f) fun i=>
 vb (xIdxS 1 a c) fun j=>
 hb (xSt1 j i h) fun _ h=>
 some (Value.tuple ⟨[]⟩,h)
theorem S140:OkF Tryz.prog 140 (A2 (F140 n cl)):=exA2 n ⟨[],[],[],[(0,[0,1,2,3,5,6,7,4,8,9,10])],[],[],[],[]⟩ hcl hmx Tryz.func140 (by kernel_rfl) fun _ _ _=>by kernel_rfl
def F138_0(n:Nat)(cl:CL)(a:Value)(b:Kt)(c d e f g:Value)(h:PH):R:=
 vb (xAri Int.add a (vN 1)) fun i=>
 b [c,d,e,f,g,i] h
def F138_1(n:Nat)(cl:CL)(a b c:Value)(d:Kt)(e f g i:Value)(h:PH):R:=
 vb (xAri Int.add a b) fun j=>
 hb (F140 n cl c j h) fun k h=>
 d [a,e,c,f,g,i] h
def F138_2(n:Nat)(cl:CL)(a:Kt)(b:List Value)(h:PH):R:=
 u6 b fun c d e f g i=>F138_0 n cl i a c d e f g h
def F138_3(n:Nat)(cl:CL)(a b c d e f:Value)(h:PH)(g:Kt):R:=
 vb (xIdxS 1 a b) fun i=>
 vb (xLd i h) fun j=>
 vb (xCmp (fun x y=>ile y x) j (vN 0)) fun k=>
 vb (gd (isB true k) (some j)) fun l=>
 vb (gd (isB true k) (some c)) fun m=>
 vb (gd (isB true k) (xCmp ilt l m)) fun o=>
 vb (xPick k o ff) fun p=>
 bite p (F138_1 n cl d j e g c a f b h) (g [d,c,e,a,f,b] h)
def F138_4(n:Nat)(cl:CL)(a b:Value)(c:Kt)(d e f g:Value)(h:PH):R:=
 vb (xCmp ilt a b) fun i=>
 bite i (jn (F138_2 n cl c) (F138_3 n cl d a e f g b h)) (some (g,h))
def F138_5(n:Nat)(cl:CL)(a:Kt)(b:List Value)(h:PH):R:=
 u6 b fun c d e f g i=>F138_4 n cl i g a f d c e h
def F138(n:Nat)(cl:CL)(a b c d:Value)(h:PH):R:=
 hb (fcall h (F89 n cl a (h.fzn))) fun e h=>
 vb (xLenS b) fun f=>
 lp n (F138_5 n cl) [c,d,e,b,f,(vN 0)] h
theorem S138:OkF Tryz.prog 138 (A4 (F138 n cl)):=exA4 n ⟨[],[89],[(3,[2,3,9,14,15,16]),(7,[2,3,9,14,15,16])],[],[],[],[],[]⟩ (svc_ok (S89 n hcl) (svc_ok (S140 n hcl) hcl)) hmx Tryz.func138 (by kernel_rfl) fun _ _ _ _ _=>by kernel_rfl
def F137_0(n:Nat)(cl:CL)(a b c:Value)(d:Kt)(e:Value)(h:PH):R:=
 vb (xIdxS 1 a b) fun f=>
 vb (xIdxS 1 c b) fun g=>
 vb (xLd f h) fun i=>
 vb (xLd g h) fun j=>
 vb (xBit Nat.lor i j) fun k=>
 vb (xIdxS 1 a b) fun l=>
 hb (xSt1 l k h) fun _ h=>
 vb (xAri Int.add b (vN 1)) fun m=>
 d [a,c,e,m] h
def F137_1(n:Nat)(cl:CL)(a b c d:Value)(e:Kt)(h:PH):R:=
 vb (xCmp ilt a b) fun f=>
 bite f (F137_0 n cl c a d e b h) (some (Value.tuple ⟨[]⟩,h))
def F137_2(n:Nat)(cl:CL)(a:Kt)(b:List Value)(h:PH):R:=
 u4 b fun c d e f=>F137_1 n cl f e c d a h
def F137(n:Nat)(cl:CL)(a b:Value)(h:PH):R:=
 vb (xLenS a) fun c=>
 lp n (F137_2 n cl) [a,b,c,(vN 0)] h
theorem S137:OkF Tryz.prog 137 (A2 (F137 n cl)):=exA2 n ⟨[],[],[(1,[0,1,6,7])],[(3,[0,1,2,4,5,6,3,7,8,9,10])],[],[],[],[]⟩ hcl hmx Tryz.func137 (by kernel_rfl) fun _ _ _=>by kernel_rfl
def F156(n:Nat)(cl:CL)(a b:Value)(h:PH):R:=
 hb (xBox a h) fun c h=>
 vb (xQuo b (vN 64)) fun d=>
 vb (xIdxA 4 1 c d) fun e=>
 vb (xLd e h) fun f=>
 vb (xRem b (vN 64)) fun g=>
 vb (xShr f g) fun i=>
 vb (xBit Nat.land i (Value.int .u64 (.ofNat 1))) fun j=>
 vb (xCmp ieq j (Value.int .u64 (.ofNat 1))) fun k=>
 some (k,h)
theorem S156:OkF Tryz.prog 156 (A2 (F156 n cl)):=exA2 n ⟨[],[],[],[],[],[],[],[]⟩ hcl hmx Tryz.func156 (by kernel_rfl) fun _ _ _=>by kernel_rfl
def F139(n:Nat)(cl:CL)(a b:Value)(h:PH):R:=
 hb (xBox a h) fun c h=>
 vb (xLdA 4 c h) fun d=>
 vb (xConvI .i64 b) fun e=>
 vb (pcall (F156 n cl d e (h.fzn))) fun f=>
 some (f,h)
theorem S139:OkF Tryz.prog 139 (A2 (F139 n cl)):=exA2 n ⟨[156],[],[],[],[],[],[],[]⟩ (svc_ok (S156 n hcl) hcl) hmx Tryz.func139 (by kernel_rfl) fun _ _ _=>by kernel_rfl
def F114_0(n:Nat)(cl:CL)(a:Value)(b:Kt)(c d e f g i j k l:Value)(h:PH):R:=
 vb (xAri Int.add a (vN 1)) fun m=>
 b [c,d,e,f,g,i,j,k,l,m] h
def F114_1(n:Nat)(cl:CL)(a b c d:Value)(e:Kt)(f g i j k l:Value)(h:PH):R:=
 vb (xNil a) fun m=>
 vb (xFld 5 m) fun o=>
 vb (xIdxA 256 1 o b) fun p=>
 vb (xLd p h) fun q=>
 vb (xAri Int.add c d) fun r=>
 hb (F140 n cl q r h) fun s h=>
 e [a,c,f,g,d,i,j,k,l,b] h
def F114_2(n:Nat)(cl:CL)(a:Kt)(b:List Value)(h:PH):R:=
 u10 b fun c d e f g i j k l m=>F114_0 n cl m a c d e f g i j k l h
def F114_3(n:Nat)(cl:CL)(a b c d e f g i j k:Value)(h:PH)(l:Kt):R:=
 vb (xLdA 4 a h) fun m=>
 vb (xConvI .u8 b) fun o=>
 vb (pcall (F139 n cl m o (h.fzn))) fun p=>
 bite p (F114_1 n cl c b d e l f g a i j k h) (l [c,d,f,g,e,a,i,j,k,b] h)
def F114_4(n:Nat)(cl:CL)(a:Value)(b:Kt)(c d e f g i:Value)(h:PH):R:=
 vb (xAri Int.add a (vN 1)) fun j=>
 b [c,d,e,f,g,i,j] h
def F114_5(n:Nat)(cl:CL)(a:Value)(b:Kt)(c d e f g i j k l:Value)(m:Kt)(h:PH):R:=
 vb (xCmp ilt a (vN 256)) fun o=>
 bite o (jn (F114_2 n cl b) (F114_3 n cl c a d e f g i j k l h)) (F114_4 n cl l m d e g i j k h)
def F114_6(n:Nat)(cl:CL)(a b:Kt)(c:List Value)(h:PH):R:=
 u10 c fun d e f g i j k l m o=>F114_5 n cl o b j d e i f g k l m a h
def F114_7(n:Nat)(cl:CL)(a b:Value)(c:Kt)(d e f g i j k l:Value)(h:PH):R:=
 vb (xNil a) fun m=>
 vb (xFld 2 m) fun o=>
 vb (xLd o h) fun p=>
 hb (xBS 1 (bsRow Tryz.prog 172 1 [(0,b)]) h) fun q h=>
 hb (xApp (appInfo Tryz.prog #[172,172]) p q h) fun r h=>
 vb (xNil a) fun s=>
 vb (xFld 2 s) fun t=>
 hb (xSt1 t r h) fun _ h=>
 lp n (F114_6 n cl c) [a,d,e,f,g,i,j,k,l,(vN 0)] h
def F114_8(n:Nat)(cl:CL)(a b c d e:Value)(f:Kt)(g i j:Value)(h:PH):R:=
 vb (xFld 4 a) fun k=>
 vb (xLd k h) fun l=>
 vb (xIdxS 1 l b) fun m=>
 vb (xLd m h) fun o=>
 hb (fcall h (F138 n cl c o d e (h.fzn))) fun p h=>
 f [c,d,a,e,b,g,p,i,j,b] h
def F114_9(n:Nat)(cl:CL)(a:Kt)(b:List Value)(h:PH):R:=
 u10 b fun c d e f g i j k l m=>F114_7 n cl c j a d e f g i k l m h
def F114_10(n:Nat)(cl:CL)(a b c d e f g i j:Value)(h:PH)(k:Kt):R:=
 vb (xFld 4 a) fun l=>
 vb (xLd l h) fun m=>
 vb (xLenS m) fun o=>
 vb (xCmp ilt b o) fun p=>
 bite p (F114_8 n cl a b c d e k f g i h) (k [c,d,a,e,b,f,j,g,i,b] h)
def F114_11(n:Nat)(cl:CL)(a b c:Value)(d:Kt)(e f g i:Value)(h:PH):R:=
 vb (xIdxS 4 a b) fun j=>
 vb (xLdA 4 j h) fun k=>
 hb (xAlloc (zcells Tryz.prog 82) h) fun l h=>
 hb (xStA 4 l k h) fun _ h=>
 hb (fcall h (F89 n cl c (h.fzn))) fun m h=>
 jn (F114_9 n cl d) (F114_10 n cl e b c f g l a i m h)
def F114_12(n:Nat)(cl:CL)(a b c d:Value)(e:Kt)(f g i:Value)(h:PH):R:=
 vb (xCmp ilt a b) fun j=>
 bite j (F114_11 n cl c a d e f g i b h) (some (Value.tuple ⟨[]⟩,h))
def F114_13(n:Nat)(cl:CL)(a:Kt)(b:List Value)(h:PH):R:=
 u7 b fun c d e f g i j=>F114_12 n cl j i g c a e d f h
def F114(n:Nat)(cl:CL)(a b c:Value)(h:PH):R:=
 hb (xBox b h) fun d h=>
 vb (xFld 0 d) fun e=>
 vb (xLd e h) fun f=>
 vb (xLenS f) fun g=>
 vb (xNil a) fun i=>
 vb (xFld 1 i) fun j=>
 vb (xFld 2 d) fun k=>
 vb (xLd j h) fun l=>
 vb (xLd k h) fun m=>
 hb (fcall h (F138 n cl a m c g (h.fzn))) fun o h=>
 lchk (xLd j h) l<|
 hb (F137 n cl l o h) fun p h=>
 vb (xNil a) fun q=>
 vb (xFld 3 q) fun r=>
 vb (xFld 3 d) fun s=>
 vb (xLd r h) fun t=>
 vb (xLd s h) fun v=>
 hb (fcall h (F138 n cl a v c g (h.fzn))) fun w h=>
 lchk (xLd r h) t<|
 hb (xBS 1 (bsRow Tryz.prog 172 1 [(0,w)]) h) fun z h=>
 hb (xApp (appInfo Tryz.prog #[172,172]) t z h) fun a1 h=>
 vb (xNil a) fun b1=>
 vb (xFld 3 b1) fun c1=>
 hb (xSt1 c1 a1 h) fun _ h=>
 vb (xNil a) fun d1=>
 vb (xFld 4 d1) fun e1=>
 vb (xFld 1 d) fun f1=>
 vb (xLd e1 h) fun g1=>
 vb (xLd f1 h) fun i1=>
 hb (xBS 1 (bsRow Tryz.prog 151 1 [(0,i1)]) h) fun j1 h=>
 hb (xApp (appInfo Tryz.prog #[151,151]) g1 j1 h) fun k1 h=>
 vb (xNil a) fun l1=>
 vb (xFld 4 l1) fun m1=>
 hb (xSt1 m1 k1 h) fun _ h=>
 vb (xFld 0 d) fun o1=>
 vb (xLd o1 h) fun p1=>
 vb (xLenS p1) fun q1=>
 lp n (F114_13 n cl) [a,c,d,g,p1,q1,(vN 0)] h
theorem S114:OkF Tryz.prog 114 (A3 (F114 n cl)):=exA3 n ⟨[139],[89,138],[(6,[0,2,4,6,52,53,54]),(11,[0,2,4,6,7,8,9,52,53,54]),(13,[0,2,4,6,7,8,52,53,54,85]),(17,[0,2,4,6,7,8,52,53,54,85])],[(2,[0,1,2,4,5,7,8,3,6,9,10]),(3,[0,1,2,3,5,6,8,9,4,7,10,11,12,13,14,15]),(4,[0,1,2,3,5,4,6,7,8,9,10,11])],[(2,[3,9]),(3,[4,10])],[],[],[]⟩ (svc_ok (S138 n hcl) (svc_ok (S137 n hcl) (svc_ok (S89 n hcl) (svc_ok (S139 n hcl) (svc_ok (S140 n hcl) hcl))))) hmx Tryz.func114 (by kernel_rfl) fun _ _ _ _=>by kernel_rfl
def F88_0(n:Nat)(cl:CL)(a b c:Value)(d:Kt)(e f:Value)(h:PH):R:=
 vb (xIdxS 5 a b) fun g=>
 vb (xLdA 5 g h) fun i=>
 hb (xAlloc (zcells Tryz.prog 90) h) fun j h=>
 hb (xStA 5 j i h) fun _ h=>
 vb (xNil c) fun k=>
 vb (xFld 0 k) fun l=>
 vb (xFld 0 j) fun m=>
 vb (xLd l h) fun o=>
 vb (xLd m h) fun p=>
 vb (xLenS p) fun q=>
 vb (xAri Int.add o q) fun r=>
 vb (xNil c) fun s=>
 vb (xFld 0 s) fun t=>
 hb (xSt1 t r h) fun _ h=>
 vb (xAri Int.add b (vN 1)) fun v=>
 d [e,c,a,f,v] h
def F88_1(n:Nat)(cl:CL)(a b:Value)(c:Kt)(d:Value)(h:PH):R:=
 vb (xNil a) fun e=>
 vb (xFld 5 e) fun f=>
 hb (fcall h (F89 n cl a (h.fzn))) fun g h=>
 vb (xIdxA 256 1 f b) fun i=>
 hb (xSt1 i g h) fun _ h=>
 vb (xAri Int.add b (vN 1)) fun j=>
 c [d,a,j] h
def F88_2(n:Nat)(cl:CL)(a b c d:Value)(e:Kt)(f:Value)(h:PH):R:=
 vb (xIdxS 5 a b) fun g=>
 vb (xLdA 5 g h) fun i=>
 hb (xAlloc (zcells Tryz.prog 90) h) fun j h=>
 hb (xStA 5 j i h) fun _ h=>
 vb (xLdA 5 j h) fun k=>
 hb (F114 n cl c k d h) fun l h=>
 vb (xFld 0 j) fun m=>
 vb (xLd m h) fun o=>
 vb (xLenS o) fun p=>
 vb (xAri Int.add d p) fun q=>
 vb (xAri Int.add b (vN 1)) fun r=>
 e [c,q,a,f,r] h
def F88_3(n:Nat)(cl:CL)(a b c d e:Value)(f:Kt)(h:PH):R:=
 vb (xCmp ilt a b) fun g=>
 bite g (F88_2 n cl c a d e f b h) (some (d,h))
def F88_4(n:Nat)(cl:CL)(a:Kt)(b:List Value)(h:PH):R:=
 u5 b fun c d e f g=>F88_3 n cl g f e c d a h
def F88_5(n:Nat)(cl:CL)(a b:Value)(h:PH):R:=
 vb (xLenS a) fun c=>
 lp n (F88_4 n cl) [b,(vN 0),a,c,(vN 0)] h
def F88_6(n:Nat)(cl:CL)(a b:Value)(c:Kt)(d:Value)(h:PH):R:=
 vb (xCmp ilt a (vN 256)) fun e=>
 bite e (F88_1 n cl b a c d h) (F88_5 n cl d b h)
def F88_7(n:Nat)(cl:CL)(a:Kt)(b:List Value)(h:PH):R:=
 u3 b fun c d e=>F88_6 n cl e d a c h
def F88_8(n:Nat)(cl:CL)(a b:Value)(h:PH):R:=
 hb (fcall h (F89 n cl a (h.fzn))) fun c h=>
 vb (xNil a) fun d=>
 vb (xFld 1 d) fun e=>
 hb (xSt1 e c h) fun _ h=>
 lp n (F88_7 n cl) [b,a,(vN 0)] h
def F88_9(n:Nat)(cl:CL)(a b c d:Value)(e:Kt)(f:Value)(h:PH):R:=
 vb (xCmp ilt a b) fun g=>
 bite g (F88_0 n cl c a d e f b h) (F88_8 n cl d f h)
def F88_10(n:Nat)(cl:CL)(a:Kt)(b:List Value)(h:PH):R:=
 u5 b fun c d e f g=>F88_9 n cl g f e d a c h
def F88(n:Nat)(cl:CL)(a:Value)(h:PH):R:=
 vb (abuild Tryz.prog 176 []) fun b=>
 hb (xBox b h) fun c h=>
 vb (xLenS a) fun d=>
 lp n (F88_10 n cl) [a,c,a,d,(vN 0)] h
theorem S88:OkF Tryz.prog 88 (A1 (F88 n cl)):=exA1 n ⟨[],[89],[(3,[0,3,12,13,14]),(9,[0,3,34]),(15,[3,7,45,46,47])],[(5,[0,1,2,4,3,5,6,7,8,9,10]),(11,[0,1,2,4,5,3,6,7])],[],[],[],[]⟩ (svc_ok (S89 n hcl) (svc_ok (S114 n hcl) hcl)) hmx Tryz.func88 (by kernel_rfl) fun _ _=>by kernel_rfl
def F90_0(n:Nat)(cl:CL)(a:Value)(b:Kt)(c d e:Value)(h:PH):R:=
 vb (xAri Int.add a (vN 1)) fun f=>
 b [c,d,e,f] h
def F90_1(n:Nat)(cl:CL)(a b c:Value)(d:Kt)(e:Value)(h:PH):R:=
 vb (xIdxS 1 a b) fun f=>
 vb (xLd f h) fun g=>
 vb (abin Tryz.prog .eql 4 (Operand.tmp 11) (Operand.tmp 15) c g) fun i=>
 bite i (some (b,h)) (F90_0 n cl b d a c e h)
def F90_2(n:Nat)(cl:CL)(a b c d:Value)(e:Kt)(h:PH):R:=
 vb (xCmp ilt a b) fun f=>
 bite f (F90_1 n cl c a d e b h) (some ((vM 0),h))
def F90_3(n:Nat)(cl:CL)(a:Kt)(b:List Value)(h:PH):R:=
 u4 b fun c d e f=>F90_2 n cl f e c d a h
def F90(n:Nat)(cl:CL)(a b:Value)(h:PH):R:=
 vb (xLenS a) fun c=>
 lp n (F90_3 n cl) [a,b,c,(vN 0)] h
theorem S90:OkF Tryz.prog 90 (A2 (F90 n cl)):=exA2 n ⟨[],[],[(2,[0,1,7,8])],[],[],[],[],[]⟩ hcl hmx Tryz.func90 (by kernel_rfl) fun _ _ _=>by kernel_rfl
def F141(n:Nat)(cl:CL)(a b:Value)(h:PH):R:=
 vb (xQuo b (vN 64)) fun c=>
 vb (xIdxS 1 a c) fun d=>
 vb (xLd d h) fun e=>
 vb (xRem b (vN 64)) fun f=>
 vb (xShr e f) fun g=>
 vb (xBit Nat.land g (Value.int .u64 (.ofNat 1))) fun i=>
 vb (xCmp ieq i (Value.int .u64 (.ofNat 1))) fun j=>
 some (j,h)
theorem S141:OkF Tryz.prog 141 (A2 (F141 n cl)):=exA2 n ⟨[],[],[],[],[],[],[],[]⟩ hcl hmx Tryz.func141 (by kernel_rfl) fun _ _ _=>by kernel_rfl
def F115_0(n:Nat)(cl:CL)(a:Value)(b:Kt)(c d e f:Value)(h:PH):R:=
 vb (xAri Int.add a (vN 1)) fun g=>
 b [c,d,e,f,g] h
def F115_1(n:Nat)(cl:CL)(a b c:Value)(d:Kt)(e f:Value)(h:PH):R:=
 vb (xNil a) fun g=>
 vb (xFld 2 g) fun i=>
 vb (xLd i h) fun j=>
 vb (xIdxS 1 j b) fun k=>
 vb (xLd k h) fun l=>
 hb (F137 n cl c l h) fun m h=>
 d [a,e,c,f,b] h
def F115_2(n:Nat)(cl:CL)(a:Kt)(b:List Value)(h:PH):R:=
 u5 b fun c d e f g=>F115_0 n cl g a c d e f h
def F115_3(n:Nat)(cl:CL)(a b c d e:Value)(h:PH)(f:Kt):R:=
 vb (pcall (F141 n cl a b (h.fzn))) fun g=>
 bite g (F115_1 n cl c b d f a e h) (f [c,a,d,e,b] h)
def F115_4(n:Nat)(cl:CL)(a b:Value)(c:Kt)(d e f:Value)(h:PH):R:=
 vb (xCmp ilt a b) fun g=>
 bite g (jn (F115_2 n cl c) (F115_3 n cl d a e f b h)) (some (f,h))
def F115_5(n:Nat)(cl:CL)(a:Kt)(b:List Value)(h:PH):R:=
 u5 b fun c d e f g=>F115_4 n cl g f a d c e h
def F115(n:Nat)(cl:CL)(a b:Value)(h:PH):R:=
 hb (fcall h (F89 n cl a (h.fzn))) fun c h=>
 vb (xNil a) fun d=>
 vb (xFld 0 d) fun e=>
 vb (xLd e h) fun f=>
 lp n (F115_5 n cl) [a,b,c,f,(vN 0)] h
theorem S115:OkF Tryz.prog 115 (A2 (F115 n cl)):=exA2 n ⟨[141],[89],[(3,[0,1,5,12,13]),(7,[0,1,5,12,13])],[],[],[],[],[]⟩ (svc_ok (S89 n hcl) (svc_ok (S141 n hcl) (svc_ok (S137 n hcl) hcl))) hmx Tryz.func115 (by kernel_rfl) fun _ _ _=>by kernel_rfl
def F145_0(n:Nat)(cl:CL)(a:Value)(h:PH):R:=
 hb (xBS 0 (bsRow Tryz.prog 170 0 []) h) fun b h=>
 hb (xApp (appInfo Tryz.prog #[170,170]) b a h) fun c h=>
 some (c,h)
def F145(n:Nat)(cl:CL)(a:Value)(h:PH):R:=
 vb (abin Tryz.prog .eql 170 (Operand.tmp 3) (Operand.const (Value.slice none 0 0)) a nils) fun b=>
 bite b (some (nils,h)) (F145_0 n cl a h)
theorem S145:OkF Tryz.prog 145 (A1 (F145 n cl)):=exA1 n ⟨[],[],[],[],[],[],[],[]⟩ hcl hmx Tryz.func145 (by kernel_rfl) fun _ _=>by kernel_rfl
def F117_0(n:Nat)(cl:CL)(a b c:Value)(d:Kt)(e:Value)(h:PH):R:=
 vb (xIdxS 1 a b) fun f=>
 vb (xIdxS 1 c b) fun g=>
 vb (xLd f h) fun i=>
 vb (xLd g h) fun j=>
 vb (xBit Nat.land i j) fun k=>
 vb (xIdxS 1 a b) fun l=>
 hb (xSt1 l k h) fun _ h=>
 vb (xAri Int.add b (vN 1)) fun m=>
 d [c,a,e,m] h
def F117_1(n:Nat)(cl:CL)(a b c d:Value)(e:Kt)(h:PH):R:=
 vb (xCmp ilt a b) fun f=>
 bite f (F117_0 n cl c a d e b h) (some (c,h))
def F117_2(n:Nat)(cl:CL)(a:Kt)(b:List Value)(h:PH):R:=
 u4 b fun c d e f=>F117_1 n cl f e d c a h
def F117(n:Nat)(cl:CL)(a b:Value)(h:PH):R:=
 hb (fcall h (F145 n cl a (h.fzn))) fun c h=>
 vb (xLenS c) fun d=>
 lp n (F117_2 n cl) [b,c,d,(vN 0)] h
theorem S117:OkF Tryz.prog 117 (A2 (F117 n cl)):=exA2 n ⟨[],[145],[(3,[1,5,10,11])],[(5,[0,1,2,4,5,6,3,7,8,9,10])],[],[],[],[]⟩ (svc_ok (S145 n hcl) hcl) hmx Tryz.func117 (by kernel_rfl) fun _ _ _=>by kernel_rfl
def F174_0(n:Nat)(cl:CL)(a:Value)(b:Kt)(c d e:Value)(h:PH):R:=
 vb (xAri Int.add a (vN 1)) fun f=>
 b [c,d,e,f] h
def F174_1(n:Nat)(cl:CL)(a b c:Value)(d:Kt)(e:Value)(h:PH):R:=
 vb (xIdxS 1 a b) fun f=>
 vb (xLd f h) fun g=>
 hb (xCall cl c [g] h) fun i h=>
 bite i (some (b,h)) (F174_0 n cl b d a c e h)
def F174_2(n:Nat)(cl:CL)(a b c d:Value)(e:Kt)(h:PH):R:=
 vb (xCmp ilt a b) fun f=>
 bite f (F174_1 n cl c a d e b h) (some ((vM 0),h))
def F174_3(n:Nat)(cl:CL)(a:Kt)(b:List Value)(h:PH):R:=
 u4 b fun c d e f=>F174_2 n cl f e c d a h
def F174(n:Nat)(cl:CL)(a b:Value)(h:PH):R:=
 vb (xLenS a) fun c=>
 lp n (F174_3 n cl) [a,b,c,(vN 0)] h
theorem S174:OkF Tryz.prog 174 (A2 (F174 n cl)):=exA2 n ⟨[],[],[(2,[0,1,7,8])],[],[],[],[],[]⟩ hcl hmx Tryz.func174 (by kernel_rfl) fun _ _ _=>by kernel_rfl
def F157(n:Nat)(cl:CL)(a b:Value)(h:PH):R:=
 vb (pcall (F174 n cl a b (h.fzn))) fun c=>
 vb (xCmp (fun x y=>ile y x) c (vN 0)) fun d=>
 some (d,h)
theorem S157:OkF Tryz.prog 157 (A2 (F157 n cl)):=exA2 n ⟨[174],[],[],[],[],[],[],[]⟩ (svc_ok (S174 n hcl) hcl) hmx Tryz.func157 (by kernel_rfl) fun _ _ _=>by kernel_rfl
def F158(n:Nat)(cl:CL)(a:Value)(h:PH):R:=
 vb (xCmp ine a (Value.int .u64 (.ofNat 0))) fun b=>
 some (b,h)
theorem S158:OkF Tryz.prog 158 (A1 (F158 n cl)):=exA1 n ⟨[],[],[],[],[],[],[],[]⟩ hcl hmx Tryz.func158 (by kernel_rfl) fun _ _=>by kernel_rfl
def F142(n:Nat)(cl:CL)(a:Value)(h:PH):R:=
 vb (pcall (F157 n cl a (fnV 158 [] []) (h.fzn))) fun b=>
 vb (xNot b) fun c=>
 some (c,h)
theorem S142:OkF Tryz.prog 142 (A1 (F142 n cl)):=exA1 n ⟨[157],[],[],[],[],[],[],[]⟩ (svc_ok (S157 n hcl) hcl) hmx Tryz.func142 (by kernel_rfl) fun _ _=>by kernel_rfl
def F143_0(n:Nat)(cl:CL)(a b c:Value)(d:Kt)(e f g:Value)(h:PH):R:=
 vb (xShr a b) fun i=>
 vb (xConvI .u8 i) fun j=>
 hb (xBS 1 (bsRow Tryz.prog 33 1 [(0,j)]) h) fun k h=>
 hb (xApp (appInfo Tryz.prog #[33,33]) c k h) fun l h=>
 vb (xAri Int.add b (vN 8)) fun m=>
 d [l,a,m,e,f,g] h
def F143_1(n:Nat)(cl:CL)(a:Value)(b:Kt)(c d e:Value)(h:PH):R:=
 vb (xAri Int.add a (vN 1)) fun f=>
 b [c,d,e,f] h
def F143_2(n:Nat)(cl:CL)(a b c:Value)(d:Kt)(e f g:Value)(i:Kt)(h:PH):R:=
 vb (xCmp ilt a (vN 64)) fun j=>
 bite j (F143_0 n cl b a c d e f g h) (F143_1 n cl g i c e f h)
def F143_3(n:Nat)(cl:CL)(a b:Kt)(c:List Value)(h:PH):R:=
 u6 c fun d e f g i j=>F143_2 n cl f e d b g i j a h
def F143_4(n:Nat)(cl:CL)(a b:Value)(c:Kt)(d e:Value)(h:PH):R:=
 vb (xIdxS 1 a b) fun f=>
 vb (xLd f h) fun g=>
 lp n (F143_3 n cl c) [d,g,(vN 0),a,e,b] h
def F143_5(n:Nat)(cl:CL)(a:Value)(h:PH):R:=
 vb (xB2S a h) fun b=>
 some (b,h)
def F143_6(n:Nat)(cl:CL)(a b c:Value)(d:Kt)(e:Value)(h:PH):R:=
 vb (xCmp ilt a b) fun f=>
 bite f (F143_4 n cl c a d e b h) (F143_5 n cl e h)
def F143_7(n:Nat)(cl:CL)(a:Kt)(b:List Value)(h:PH):R:=
 u4 b fun c d e f=>F143_6 n cl f e d a c h
def F143(n:Nat)(cl:CL)(a:Value)(h:PH):R:=
 vb (xLenS a) fun b=>
 lp n (F143_7 n cl) [nils,a,b,(vN 0)] h
theorem S143:OkF Tryz.prog 143 (A1 (F143 n cl)):=exA1 n ⟨[],[],[(3,[3,7,8,9]),(6,[3,5,6,7,8,9])],[],[],[],[],[]⟩ hcl hmx Tryz.func143 (by kernel_rfl) fun _ _=>by kernel_rfl
def F160(n:Nat)(cl:CL)(a b:Value)(h:PH):R:=
 vb (xLd b h) fun c=>
 hb (fcall h (F117 n cl a c (h.fzn))) fun d h=>
 vb (pcall (F142 n cl d (h.fzn))) fun e=>
 vb (xNot e) fun f=>
 some (f,h)
theorem S160:OkF Tryz.prog 160 (A2 (F160 n cl)):=exA2 n ⟨[142],[117],[],[],[],[],[],[]⟩ (svc_ok (S117 n hcl) (svc_ok (S142 n hcl) hcl)) hmx Tryz.func160 (by kernel_rfl) fun _ _ _=>by kernel_rfl
def F159_0(n:Nat)(cl:CL)(a:Value)(b:Kt)(c d e:Value)(h:PH):R:=
 vb (xAri Int.add a (vN 1)) fun f=>
 b [c,d,e,f] h
def F159_1(n:Nat)(cl:CL)(a b c:Value)(d:Kt)(e:Value)(h:PH):R:=
 vb (xIdxS 1 a b) fun f=>
 vb (xLd f h) fun g=>
 hb (xCall cl c [g] h) fun i h=>
 bite i (some (b,h)) (F159_0 n cl b d a c e h)
def F159_2(n:Nat)(cl:CL)(a b c d:Value)(e:Kt)(h:PH):R:=
 vb (xCmp ilt a b) fun f=>
 bite f (F159_1 n cl c a d e b h) (some ((vM 0),h))
def F159_3(n:Nat)(cl:CL)(a:Kt)(b:List Value)(h:PH):R:=
 u4 b fun c d e f=>F159_2 n cl f e c d a h
def F159(n:Nat)(cl:CL)(a b:Value)(h:PH):R:=
 vb (xLenS a) fun c=>
 lp n (F159_3 n cl) [a,b,c,(vN 0)] h
theorem S159:OkF Tryz.prog 159 (A2 (F159 n cl)):=exA2 n ⟨[],[],[(2,[0,1,7,8])],[],[],[],[],[]⟩ hcl hmx Tryz.func159 (by kernel_rfl) fun _ _ _=>by kernel_rfl
def F144(n:Nat)(cl:CL)(a b:Value)(h:PH):R:=
 hb (xBox b h) fun c h=>
 vb (xNil a) fun d=>
 vb (xFld 3 d) fun e=>
 vb (xLd e h) fun f=>
 vb (some (Value.func (Fn.func 160) ⟨[]⟩ ⟨[c]⟩)) fun g=>
 vb (pcall (F159 n cl f g (h.fzn))) fun i=>
 some (i,h)
theorem S144:OkF Tryz.prog 144 (A2 (F144 n cl)):=exA2 n ⟨[159],[],[],[],[],[],[],[]⟩ (svc_ok (S159 n hcl) hcl) hmx Tryz.func144 (by kernel_rfl) fun _ _ _=>by kernel_rfl
def F116_0(n:Nat)(cl:CL)(a b c:Value)(d:Kt)(h:PH):R:=
 vb (xNil a) fun e=>
 vb (xFld 2 e) fun f=>
 vb (xLd f h) fun g=>
 vb (xLenS g) fun i=>
 vb (xNil a) fun j=>
 vb (xFld 1 j) fun k=>
 vb (xLd k h) fun l=>
 hb (xMUpd Tryz.prog 9 l b i h) fun _ h=>
 vb (xNil a) fun m=>
 vb (xFld 2 m) fun o=>
 vb (xLd o h) fun p=>
 hb (xBS 1 (bsRow Tryz.prog 172 1 [(0,c)]) h) fun q h=>
 hb (xApp (appInfo Tryz.prog #[172,172]) p q h) fun r h=>
 vb (xNil a) fun s=>
 vb (xFld 2 s) fun t=>
 hb (xSt1 t r h) fun _ h=>
 vb (xNil a) fun v=>
 vb (xFld 4 v) fun w=>
 vb (xNil a) fun z=>
 vb (xFld 0 z) fun a1=>
 vb (xLd w h) fun b1=>
 vb (xLd a1 h) fun c1=>
 vb (pcall (F144 n cl c1 c (h.fzn))) fun d1=>
 lchk (xLd w h) b1<|
 hb (xBS 1 (bsRow Tryz.prog 49 1 [(0,d1)]) h) fun e1 h=>
 hb (xApp (appInfo Tryz.prog #[49,49]) b1 e1 h) fun f1 h=>
 vb (xNil a) fun g1=>
 vb (xFld 4 g1) fun i1=>
 hb (xSt1 i1 f1 h) fun _ h=>
 d [i] h
def F116_1(n:Nat)(cl:CL)(a b c d e:Value)(h:PH)(f:Kt):R:=
 vb (xNot a) fun g=>
 bite g (F116_0 n cl b c d f h) (f [e] h)
def F116_2(n:Nat)(cl:CL)(a b:Value)(h:PH):R:=
 vb (pcall (F143 n cl a (h.fzn))) fun c=>
 vb (xNil b) fun d=>
 vb (xFld 1 d) fun e=>
 vb (xLd e h) fun f=>
 vb (xLkp Tryz.prog 9 3 true f c h) fun g=>
 vb (xExt 0 g) fun i=>
 vb (xExt 1 g) fun j=>
 jn (fun k h=>ucons k fun l m=>some (l,h)) (F116_1 n cl j b c a i h)
def F116(n:Nat)(cl:CL)(a b:Value)(h:PH):R:=
 vb (pcall (F142 n cl b (h.fzn))) fun c=>
 bite c (some ((vM 0),h)) (F116_2 n cl b a h)
theorem S116:OkF Tryz.prog 116 (A2 (F116 n cl)):=exA2 n ⟨[142,143,144],[],[(10,[6])],[(9,[0,1,2,3,5,6,7,9,4,8,10,11,12,13,14,15])],[(9,[4,10])],[],[],[]⟩ (svc_ok (S142 n hcl) (svc_ok (S143 n hcl) (svc_ok (S144 n hcl) hcl))) hmx Tryz.func116 (by kernel_rfl) fun _ _ _=>by kernel_rfl
def F91_0(n:Nat)(cl:CL)(a b c d:Value)(e:Kt)(f g:Value)(h:PH):R:=
 vb (xNil a) fun i=>
 vb (xFld 0 i) fun j=>
 vb (xLd j h) fun k=>
 vb (xNil k) fun l=>
 vb (xFld 5 l) fun m=>
 vb (xIdxA 256 1 m b) fun o=>
 vb (xLd o h) fun p=>
 hb (fcall h (F117 n cl c p (h.fzn))) fun q h=>
 hb (F116 n cl a q h) fun r h=>
 vb (xIdxS 1 d b) fun s=>
 hb (xSt1 s r h) fun _ h=>
 vb (xAri Int.add b (vN 1)) fun t=>
 e [a,f,c,d,g,t] h
def F91_1(n:Nat)(cl:CL)(a:Value)(b:Kt)(c:Value)(h:PH):R:=
 vb (xAri Int.add a (vN 1)) fun d=>
 b [c,d] h
def F91_2(n:Nat)(cl:CL)(a b c:Value)(d:Kt)(h:PH):R:=
 vb (xNil a) fun e=>
 vb (xFld 3 e) fun f=>
 vb (xLd f h) fun g=>
 hb (xBS 1 (bsRow Tryz.prog 74 1 [(0,b)]) h) fun i h=>
 hb (xApp (appInfo Tryz.prog #[74,74]) g i h) fun j h=>
 vb (xNil a) fun k=>
 vb (xFld 3 k) fun l=>
 hb (xSt1 l j h) fun _ h=>
 vb (xNil a) fun m=>
 vb (xFld 2 m) fun o=>
 vb (xLd o h) fun p=>
 vb (xLenS p) fun q=>
 vb (xCmp (fun x y=>ilt y x) q (vN 2000)) fun r=>
 bite r (some (ff,h)) (F91_1 n cl c d a h)
def F91_3(n:Nat)(cl:CL)(a b c d e:Value)(f:Kt)(g:Value)(i:Kt)(h:PH):R:=
 vb (xCmp ilt a b) fun j=>
 bite j (F91_0 n cl c a d e f g b h) (F91_2 n cl c e g i h)
def F91_4(n:Nat)(cl:CL)(a b:Kt)(c:List Value)(h:PH):R:=
 u6 c fun d e f g i j=>F91_3 n cl j i d f g b e a h
def F91_5(n:Nat)(cl:CL)(a:Kt)(b c d:Value)(h:PH):R:=
 hb (xMk (zinfo Tryz.prog 49) (vN 256) (vN 256) h) fun e h=>
 vb (xLenS e) fun f=>
 lp n (F91_4 n cl a) [b,c,d,e,f,(vN 0)] h
def F91_6(n:Nat)(cl:CL)(a b:Value)(c:Kt)(h:PH):R:=
 vb (xNil a) fun d=>
 vb (xFld 0 d) fun e=>
 vb (xNil a) fun f=>
 vb (xFld 2 f) fun g=>
 vb (xLd e h) fun i=>
 vb (xLd g h) fun j=>
 vb (xIdxS 1 j b) fun k=>
 vb (xLd k h) fun l=>
 hb (F115 n cl i l h) fun m h=>
 c [a,b,m] h
def F91_7(n:Nat)(cl:CL)(a:Kt)(b:List Value)(h:PH):R:=
 u3 b fun c d e=>F91_5 n cl a c d e h
def F91_8(n:Nat)(cl:CL)(a b c:Value)(h:PH)(d:Kt):R:=
 vb (xCmp (fun x y=>ilt y x) a (vN 0)) fun e=>
 bite e (F91_6 n cl b a d h) (d [b,a,c] h)
def F91_9(n:Nat)(cl:CL)(a:Value)(b:Kt)(c:Value)(h:PH):R:=
 vb (xNil a) fun d=>
 vb (xFld 0 d) fun e=>
 vb (xLd e h) fun f=>
 vb (xNil f) fun g=>
 vb (xFld 1 g) fun i=>
 vb (xLd i h) fun j=>
 jn (F91_7 n cl b) (F91_8 n cl c a j h)
def F91_10(n:Nat)(cl:CL)(a b:Value)(c:Kt)(h:PH):R:=
 vb (xNil a) fun d=>
 vb (xFld 2 d) fun e=>
 vb (xLd e h) fun f=>
 vb (xLenS f) fun g=>
 vb (xCmp ilt b g) fun i=>
 bite i (F91_9 n cl a c b h) (some (tt,h))
def F91(n:Nat)(cl:CL)(a:Value)(h:PH):R:=
 lp n (fun b c h=>ucons c fun d e=>ucons e fun f g=>F91_10 n cl d f b h) [a,(vN 0)] h
theorem S91:OkF Tryz.prog 91 (A1 (F91 n cl)):=exA1 n ⟨[],[117],[(2,[0,3]),(7,[0,3,4]),(9,[0,3,4,5,39,40])],[(6,[0,1,2,4,5,6,8,3,7,9,10,11,12])],[],[],[],[]⟩ (svc_ok (S117 n hcl) (svc_ok (S116 n hcl) (svc_ok (S115 n hcl) hcl))) hmx Tryz.func91 (by kernel_rfl) fun _ _=>by kernel_rfl
def F118_0(n:Nat)(cl:CL)(a:Value)(h:PH):R:=
 hb (xBS 0 (bsRow Tryz.prog 49 0 []) h) fun b h=>
 hb (xApp (appInfo Tryz.prog #[49,49]) b a h) fun c h=>
 some (c,h)
def F118(n:Nat)(cl:CL)(a:Value)(h:PH):R:=
 vb (abin Tryz.prog .eql 49 (Operand.tmp 3) (Operand.const (Value.slice none 0 0)) a nils) fun b=>
 bite b (some (nils,h)) (F118_0 n cl a h)
theorem S118:OkF Tryz.prog 118 (A1 (F118 n cl)):=exA1 n ⟨[],[],[],[],[],[],[],[]⟩ hcl hmx Tryz.func118 (by kernel_rfl) fun _ _=>by kernel_rfl
def F146(n:Nat)(cl:CL)(a b:Value)(h:PH):R:=
 vb (xLd b h) fun c=>
 vb (xConvI .u8 a) fun d=>
 vb (xShr a (Value.int .u64 (.ofNat 8))) fun e=>
 vb (xConvI .u8 e) fun f=>
 vb (xShr a (Value.int .u64 (.ofNat 16))) fun g=>
 vb (xConvI .u8 g) fun i=>
 hb (xBS 3 (bsRow Tryz.prog 33 3 [(0,d),(1,f),(2,i)]) h) fun j h=>
 hb (xApp (appInfo Tryz.prog #[33,33]) c j h) fun k h=>
 hb (xSt1 b k h) fun _ h=>
 some (Value.tuple ⟨[]⟩,h)
theorem S146:OkF Tryz.prog 146 (A2 (F146 n cl)):=exA2 n ⟨[],[],[],[],[],[],[],[]⟩ hcl hmx Tryz.func146 (by kernel_rfl) fun _ _ _=>by kernel_rfl
def F119_0(n:Nat)(cl:CL)(a b c d:Value)(e:Kt)(f g i j:Value)(h:PH):R:=
 vb (xIdxS 1 a b) fun k=>
 vb (xLd k h) fun l=>
 hb (xCall cl c [l] h) fun m h=>
 vb (xAri Int.add d (vN 1)) fun o=>
 e [f,a,g,i,j,c,o] h
def F119_1(n:Nat)(cl:CL)(a:Kt)(b:List Value)(h:PH):R:=
 u8 b fun c d e f g i j k=>F119_0 n cl d j i k a c e f g h
def F119_2(n:Nat)(cl:CL)(a b c d e f g i:Value)(h:PH)(j:Kt):R:=
 vb (xCmp ieq a (vM 0)) fun k=>
 bite k (j [b,c,d,e,f,g,e,i] h) (j [b,c,d,e,f,g,a,i] h)
def F119_3(n:Nat)(cl:CL)(a b c:Value)(d:Kt)(e f g i:Value)(h:PH):R:=
 vb (xNil a) fun j=>
 vb (xFld 3 j) fun k=>
 vb (xLd k h) fun l=>
 vb (xIdxS 1 l b) fun m=>
 vb (xLd m h) fun o=>
 vb (xIdxS 1 o c) fun p=>
 vb (xLd p h) fun q=>
 d [a,e,b,f,g,i,q,c] h
def F119_4(n:Nat)(cl:CL)(a:Kt)(b:List Value)(h:PH):R:=
 u8 b fun c d e f g i j k=>jn (F119_1 n cl a) (F119_2 n cl j c d e f g i k h)
def F119_5(n:Nat)(cl:CL)(a b c d e f g:Value)(h:PH)(i:Kt):R:=
 vb (xCmp ilt a b) fun j=>
 bite j (F119_3 n cl c a d i e b f g h) (i [c,e,a,b,f,g,(vM 0),d] h)
def F119_6(n:Nat)(cl:CL)(a:Value)(h:PH):R:=
 vb (xLd a h) fun b=>
 vb (xB2S b h) fun c=>
 some (c,h)
def F119_7(n:Nat)(cl:CL)(a:Value)(b:Kt)(c d e f g i:Value)(h:PH):R:=
 vb (xCmp ilt a (vN 256)) fun j=>
 bite j (jn (F119_4 n cl b) (F119_5 n cl c d e a f g i h)) (F119_6 n cl g h)
def F119_8(n:Nat)(cl:CL)(a:Kt)(b:List Value)(h:PH):R:=
 u7 b fun c d e f g i j=>F119_7 n cl j a e f c d g i h
def F119(n:Nat)(cl:CL)(a b c:Value)(h:PH):R:=
 vb (xNil a) fun d=>
 vb (xFld 2 d) fun e=>
 vb (xLd e h) fun f=>
 vb (xLenS f) fun g=>
 hb (xBS 0 (bsRow Tryz.prog 33 0 []) h) fun i h=>
 hb (xAlloc (zcells Tryz.prog 33) h) fun j h=>
 hb (xSt1 j i h) fun _ h=>
 vb (some (Value.func (Fn.func 146) ⟨[]⟩ ⟨[j]⟩)) fun k=>
 vb (xIdxS 1 b c) fun l=>
 vb (xLd l h) fun m=>
 hb (xCall cl k [m] h) fun o h=>
 lp n (F119_8 n cl) [a,b,c,g,j,k,(vN 0)] h
theorem S119:OkF Tryz.prog 119 (A3 (F119 n cl)):=exA3 n ⟨[],[],[(6,[0,1,2,7,8,9,25]),(11,[0,1,2,7,8,9,11,25]),(13,[0,1,2,7,8,9,11,25])],[],[],[],[],[]⟩ hcl hmx Tryz.func119 (by kernel_rfl) fun _ _ _ _=>by kernel_rfl
def F92_0(n:Nat)(cl:CL)(a b c d e:Value)(f:Kt)(g i j k l:Value)(h:PH):R:=
 vb (xLkp Tryz.prog 9 3 false a b h) fun m=>
 vb (xIdxS 1 c d) fun o=>
 hb (xSt1 o m h) fun _ h=>
 vb (xAri Int.add e (vN 1)) fun p=>
 f [g,i,j,k,a,c,l,p] h
def F92_1(n:Nat)(cl:CL)(a b:Value)(c:Kt)(d e f g i j k:Value)(h:PH):R:=
 vb (xMLen a h) fun l=>
 hb (xMUpd Tryz.prog 9 a b l h) fun _ h=>
 c [d,e,f,g,a,i,j,b,k,j] h
def F92_2(n:Nat)(cl:CL)(a:Kt)(b:List Value)(h:PH):R:=
 u10 b fun c d e f g i j k l m=>F92_0 n cl g k i j m a c d e f l h
def F92_3(n:Nat)(cl:CL)(a b c d e f g i j:Value)(h:PH)(k:Kt):R:=
 vb (xLkp Tryz.prog 9 3 true a b h) fun l=>
 vb (xExt 0 l) fun m=>
 vb (xExt 1 l) fun o=>
 vb (xNot o) fun p=>
 bite p (F92_1 n cl a b k c d e f g i j h) (k [c,d,e,f,a,g,i,b,j,i] h)
def F92_4(n:Nat)(cl:CL)(a b c:Value)(d:Kt)(e f g i j:Value)(h:PH):R:=
 vb (pcall (F119 n cl a b c (h.fzn))) fun k=>
 jn (F92_2 n cl d) (F92_3 n cl e k a f b g i c j h)
def F92_5(n:Nat)(cl:CL)(a b:Value)(h:PH):R:=
 vb (acut Tryz.prog 49 a none (some b) none) fun c=>
 vb (xIdxS 1 a b) fun d=>
 vb (xLd d h) fun e=>
 some (Value.tuple ⟨[c,e]⟩,h)
def F92_6(n:Nat)(cl:CL)(a:Value)(b:Kt)(c d e:Value)(h:PH):R:=
 vb (xMLen a h) fun f=>
 b [c,d,e,f] h
def F92_7(n:Nat)(cl:CL)(a b c d:Value)(e:Kt)(f:Value)(h:PH):R:=
 vb (xMLen a h) fun g=>
 vb (xCmp ieq g b) fun i=>
 bite i (F92_5 n cl c d h) (F92_6 n cl a e f d c h)
def F92_8(n:Nat)(cl:CL)(a b c d:Value)(e:Kt)(f g i j:Value)(k:Kt)(h:PH):R:=
 vb (xCmp ilt a b) fun l=>
 bite l (F92_4 n cl c d a e f g i j b h) (F92_7 n cl f i j g k c h)
def F92_9(n:Nat)(cl:CL)(a b:Kt)(c:List Value)(h:PH):R:=
 u8 c fun d e f g i j k l=>F92_8 n cl l k d f b i e g j a h
def F92_10(n:Nat)(cl:CL)(a:Value)(b:Kt)(c d e:Value)(h:PH):R:=
 hb (xMMk h) fun f h=>
 vb (xAri Int.add a (vN 1)) fun g=>
 hb (xMk (zinfo Tryz.prog 49) g g h) fun i h=>
 vb (xAri Int.add a (vN 1)) fun j=>
 lp n (F92_9 n cl b) [c,a,d,e,f,i,j,(vN 0)] h
def F92_11(n:Nat)(cl:CL)(a:Kt)(b:List Value)(h:PH):R:=
 u4 b fun c d e f=>F92_10 n cl d a c e f h
def F92(n:Nat)(cl:CL)(a:Value)(h:PH):R:=
 vb (xNil a) fun b=>
 vb (xFld 2 b) fun c=>
 vb (xLd c h) fun d=>
 vb (xLenS d) fun e=>
 vb (xNil a) fun f=>
 vb (xFld 4 f) fun g=>
 vb (xLd g h) fun i=>
 hb (fcall h (F118 n cl i (h.fzn))) fun j h=>
 hb (xBS 1 (bsRow Tryz.prog 49 1 [(0,(vM 0))]) h) fun k h=>
 hb (xApp (appInfo Tryz.prog #[49,49]) j k h) fun l h=>
 lp n (F92_11 n cl) [a,e,l,(vN 0)] h
theorem S92:OkF Tryz.prog 92 (A1 (F92 n cl)):=exA1 n ⟨[119],[118],[(4,[0,4,5,6]),(7,[0,4,5,6,7,8,30,31]),(13,[0,4,5,6,7,8,9,10,30,31])],[(17,[0,1,2,3,4,5,7,6,8])],[],[],[],[]⟩ (svc_ok (S118 n hcl) (svc_ok (S119 n hcl) hcl)) hmx Tryz.func92 (by kernel_rfl) fun _ _=>by kernel_rfl
def F93_0(n:Nat)(cl:CL)(a:Value)(b:Kt)(c d e f g i j k l m:Value)(h:PH):R:=
 vb (xAri Int.add a (vN 1)) fun o=>
 b [c,d,e,f,g,i,j,k,l,m,o] h
def F93_1(n:Nat)(cl:CL)(a b c d e:Value)(f:Kt)(g i j k l m o p:Value)(h:PH):R:=
 vb (xIdxS 1 a b) fun q=>
 vb (xLd q h) fun r=>
 vb (xLkp Tryz.prog 3 3 false c r h) fun s=>
 vb (xIdxS 1 d e) fun t=>
 hb (xSt1 t s h) fun _ h=>
 f [g,a,i,j,k,c,l,m,d,o,p] h
def F93_2(n:Nat)(cl:CL)(a b c d:Value)(e:Kt)(f g i j k l m o:Value)(h:PH):R:=
 vb (xIdxS 1 a b) fun p=>
 vb (xLd p h) fun q=>
 vb (xLenS c) fun r=>
 hb (xMUpd Tryz.prog 3 d q r h) fun _ h=>
 hb (xBS 1 (bsRow Tryz.prog 49 1 [(0,b)]) h) fun s h=>
 hb (xApp (appInfo Tryz.prog #[49,49]) c s h) fun t h=>
 e [f,a,g,i,j,d,t,k,l,m,b,o,m] h
def F93_3(n:Nat)(cl:CL)(a:Kt)(b:List Value)(h:PH):R:=
 u13 b fun c d e f g i j k l m o p q=>F93_1 n cl d o i l m a c e f g j k p q h
def F93_4(n:Nat)(cl:CL)(a b c d e f g i j k l m:Value)(h:PH)(o:Kt):R:=
 vb (xIdxS 1 a b) fun p=>
 vb (xLd p h) fun q=>
 vb (xLkp Tryz.prog 3 3 true c q h) fun r=>
 vb (xExt 0 r) fun s=>
 vb (xExt 1 r) fun t=>
 vb (xNot t) fun v=>
 bite v (F93_2 n cl a b d c o e f g i j k l m h) (o [e,a,f,g,i,c,d,j,k,l,b,m,l] h)
def F93_5(n:Nat)(cl:CL)(a:Kt)(b:List Value)(h:PH):R:=
 u11 b fun c d e f g i j k l m o=>F93_0 n cl o a c d e f g i j k l m h
def F93_6(n:Nat)(cl:CL)(a b c d e f g i j k l:Value)(h:PH)(m:Kt):R:=
 vb (xIdxS 1 a b) fun o=>
 hb (xSt1 o (vM 0) h) fun _ h=>
 vb (xNil c) fun p=>
 vb (xFld 3 p) fun q=>
 vb (xIdxS 1 d e) fun r=>
 vb (xLd q h) fun s=>
 vb (xLd r h) fun t=>
 vb (xIdxS 1 s t) fun v=>
 vb (xLd v h) fun w=>
 vb (xIdxS 1 w b) fun z=>
 vb (xLd z h) fun a1=>
 vb (xCmp ieq a1 (vM 0)) fun b1=>
 vb (gd (isB false b1) (some f)) fun c1=>
 vb (gd (isB false b1) (some a1)) fun d1=>
 vb (gd (isB false b1) (xIdxS 1 c1 d1)) fun e1=>
 vb (gd (isB false b1) (xLd e1 h)) fun f1=>
 vb (gd (isB false b1) (some g)) fun g1=>
 vb (gd (isB false b1) (xCmp ieq f1 g1)) fun i1=>
 vb (xPick b1 tt i1) fun j1=>
 bite j1 (m [c,f,g,i,j,k,d,e,a,l,b] h) (jn (F93_3 n cl m) (F93_4 n cl f a1 k d c g i j e a b l h))
def F93_7(n:Nat)(cl:CL)(a b c d e:Value)(f:Kt)(g i j k:Value)(h:PH):R:=
 vb (xFld 0 a) fun l=>
 vb (xLd l h) fun m=>
 hb (xBS 1 (bsRow Tryz.prog 74 1 [(0,b)]) h) fun o h=>
 hb (xApp (appInfo Tryz.prog #[74,74]) m o h) fun p h=>
 vb (xFld 0 a) fun q=>
 hb (xSt1 q p h) fun _ h=>
 vb (xFld 1 a) fun r=>
 vb (xNil c) fun s=>
 vb (xFld 4 s) fun t=>
 vb (xIdxS 1 d e) fun v=>
 vb (xLd r h) fun w=>
 vb (xLd t h) fun z=>
 vb (xLd v h) fun a1=>
 vb (xIdxS 1 z a1) fun b1=>
 vb (xLd b1 h) fun c1=>
 hb (xBS 1 (bsRow Tryz.prog 49 1 [(0,c1)]) h) fun d1 h=>
 hb (xApp (appInfo Tryz.prog #[49,49]) w d1 h) fun e1 h=>
 vb (xFld 1 a) fun f1=>
 hb (xSt1 f1 e1 h) fun _ h=>
 vb (xAri Int.add e (vN 1)) fun g1=>
 f [c,g,i,j,a,k,d,g1] h
def F93_8(n:Nat)(cl:CL)(a b:Value)(c:Kt)(d e f g i j k l m:Value)(o:Kt)(h:PH):R:=
 vb (xCmp ilt a b) fun p=>
 bite p (jn (F93_5 n cl c) (F93_6 n cl d a e f g i j k l m b h)) (F93_7 n cl l d e f g o i j k m h)
def F93_9(n:Nat)(cl:CL)(a b:Kt)(c:List Value)(h:PH):R:=
 u11 c fun d e f g i j k l m o p=>F93_8 n cl p o b m d k l e f g i j a h
def F93_10(n:Nat)(cl:CL)(a:Kt)(b c d e f g i j:Value)(h:PH):R:=
 hb (xMk (zinfo Tryz.prog 49) (vN 256) (vN 256) h) fun k h=>
 vb (xLenS k) fun l=>
 lp n (F93_9 n cl a) [b,c,d,e,f,g,i,j,k,l,(vN 0)] h
def F93_11(n:Nat)(cl:CL)(a b:Value)(h:PH):R:=
 vb (xLdA 2 a h) fun c=>
 hb (xStA 2 b c h) fun _ h=>
 vb (xLdA 2 b h) fun d=>some (d,h)
def F93_12(n:Nat)(cl:CL)(a b:Value)(c:Kt)(d e f g i j:Value)(h:PH):R:=
 vb (xLenS a) fun k=>
 vb (xCmp ilt b k) fun l=>
 bite l (F93_10 n cl c d e f g i j a b h) (F93_11 n cl i g h)
def F93_13(n:Nat)(cl:CL)(a:Kt)(b:List Value)(h:PH):R:=
 u8 b fun c d e f g i j k=>F93_12 n cl j k a c d e f g i h
def F93(n:Nat)(cl:CL)(a b c:Value)(h:PH):R:=
 hb (xAlloc (zcells Tryz.prog 76) h) fun d h=>
 hb (xAlloc (zcells Tryz.prog 76) h) fun e h=>
 hb (xMMk h) fun f h=>
 vb (xIdxS 1 b (vN 0)) fun g=>
 vb (xLd g h) fun i=>
 hb (xMUpd Tryz.prog 3 f i (vN 0) h) fun _ h=>
 hb (xBS 1 (bsRow Tryz.prog 49 1 [(0,(vN 0))]) h) fun j h=>
 lp n (F93_13 n cl) [a,b,c,d,e,f,j,(vN 0)] h
theorem S93:OkF Tryz.prog 93 (A3 (F93 n cl)):=exA3 n ⟨[],[],[(5,[0,1,2,6,7,8,9,10]),(9,[0,1,2,6,7,8,9,10,11,30,31]),(18,[0,1,2,6,7,8,9,10,11,12,13,30,31]),(19,[0,1,2,6,7,8,9,10,11,30,31])],[(12,[0,1,2,4,5,6,10,3,7,8,9,11,12,13]),(21,[0,2,3,4,6,7,8,1,5,9,10,11,12,13,14,15])],[],[],[],[]⟩ hcl hmx Tryz.func93 (by kernel_rfl) fun _ _ _ _=>by kernel_rfl
def F63_0(n:Nat)(cl:CL)(a:Value)(h:PH):R:=
 vb (abuild Tryz.prog 76 []) fun b=>
 hb (xStA 2 a b h) fun _ h=>
 vb (xLdA 2 a h) fun c=>some (Value.tuple ⟨[c,(vN 3)]⟩,h)
def F63_1(n:Nat)(cl:CL)(a:Value)(h:PH):R:=
 vb (abuild Tryz.prog 76 []) fun b=>
 hb (xStA 2 a b h) fun _ h=>
 vb (xLdA 2 a h) fun c=>some (Value.tuple ⟨[c,(vN 3)]⟩,h)
def F63_2(n:Nat)(cl:CL)(a b:Value)(h:PH):R:=
 hb (fcall h (F92 n cl a (h.fzn))) fun c h=>
 vb (xExt 0 c) fun d=>
 vb (xExt 1 c) fun e=>
 hb (fcall h (F93 n cl a d e (h.fzn))) fun f h=>
 hb (xStA 2 b f h) fun _ h=>
 vb (xLdA 2 b h) fun g=>some (Value.tuple ⟨[g,(vN 0)]⟩,h)
def F63_3(n:Nat)(cl:CL)(a b:Value)(h:PH):R:=
 hb (F88 n cl a h) fun c h=>
 kp 4 h fun d h=>
 vb (xNil c) fun e=>
 vb (xFld 4 e) fun f=>
 vb (xLd f h) fun g=>
 avk d 4 [c]<|
 hb (fcall h (F89 n cl c (h.fzn))) fun i h=>
 avk d 4 [g,tt]<|
 vb (pcall (F90 n cl g tt (h.fzn))) fun j=>
 hb (xfill (Nat.add d 0) h (xMMk hE)) fun k h=>
 hb (xfill (Nat.add d 1) h (xBS 1 (bsRow Tryz.prog 172 1 [(0,i)]) hE)) fun l h=>
 hb (xfill (Nat.add d 2) h (xBS 1 (bsRow Tryz.prog 49 1 [(0,j)]) hE)) fun m h=>
 vb (abuild Tryz.prog 178 [(0,c),(1,k),(2,l),(4,m)]) fun o=>
 hb (xfill (Nat.add d 3) h (xBox o hE)) fun p h=>
 hb (F91 n cl p h) fun q h=>
 vb (xNot q) fun r=>
 bite r (F63_1 n cl b h) (F63_2 n cl p b h)
def F63(n:Nat)(cl:CL)(a:Value)(h:PH):R:=
 hb (xAlloc (zcells Tryz.prog 76) h) fun b h=>
 vb (xLenS a) fun c=>
 vb (xCmp (fun x y=>ilt y x) c (vN 40)) fun d=>
 bite d (F63_0 n cl b h) (F63_3 n cl a b h)
theorem S63:OkF Tryz.prog 63 (A1 (F63 n cl)):=exA1 n ⟨[90],[89,92,93],[],[(4,[0,2,5,6,7,8,3,9,1,4,10,11,12,13])],[],[],[(4,[1,4,10,12])],[]⟩ (svc_ok (S88 n hcl) (svc_ok (S89 n hcl) (svc_ok (S90 n hcl) (svc_ok (S91 n hcl) (svc_ok (S92 n hcl) (svc_ok (S93 n hcl) hcl)))))) hmx Tryz.func63 (by kernel_rfl) fun _ _=>by kernel_rfl
def F42_0(n:Nat)(cl:CL)(a b:Value)(h:PH):R:=
 vb (abuild Tryz.prog 76 []) fun c=>
 hb (xStA 2 a c h) fun _ h=>
 vb (xLdA 2 a h) fun d=>some (Value.tuple ⟨[d,b]⟩,h)
def F42_1(n:Nat)(cl:CL)(a b c:Value)(d:Kt)(e f g:Value)(h:PH):R:=
 vb (xLdA 5 a h) fun i=>
 hb (xBS 1 (bsRow Tryz.prog 80 1 [(0,i)]) h) fun j h=>
 hb (xApp (appInfo Tryz.prog #[80,80]) b j h) fun k h=>
 vb (xAri Int.add c (vN 1)) fun l=>
 d [e,k,f,g,l] h
def F42_2(n:Nat)(cl:CL)(a b c d:Value)(e:Kt)(f:Value)(h:PH):R:=
 vb (xIdxS 4 a b) fun g=>
 vb (xLdA 4 g h) fun i=>
 hb (xAlloc (zcells Tryz.prog 46) h) fun j h=>
 hb (xStA 4 j i h) fun _ h=>
 vb (xFld 0 j) fun k=>
 vb (xLd k h) fun l=>
 hb (F62 n cl l h) fun m h=>
 vb (xExt 0 m) fun o=>
 vb (xExt 1 m) fun p=>
 hb (xAlloc (zcells Tryz.prog 90) h) fun q h=>
 hb (xStA 5 q o h) fun _ h=>
 vb (xCmp ine p (vN 0)) fun r=>
 bite r (F42_0 n cl c p h) (F42_1 n cl q d b e c a f h)
def F42_3(n:Nat)(cl:CL)(a b:Value)(h:PH):R:=
 hb (F63 n cl a h) fun c h=>
 vb (xExt 0 c) fun d=>
 vb (xExt 1 c) fun e=>
 hb (xStA 2 b d h) fun _ h=>
 vb (xLdA 2 b h) fun f=>some (Value.tuple ⟨[f,e]⟩,h)
def F42_4(n:Nat)(cl:CL)(a b c d e:Value)(f:Kt)(h:PH):R:=
 vb (xCmp ilt a b) fun g=>
 bite g (F42_2 n cl c a d e f b h) (F42_3 n cl e d h)
def F42_5(n:Nat)(cl:CL)(a:Kt)(b:List Value)(h:PH):R:=
 u5 b fun c d e f g=>F42_4 n cl g f e c d a h
def F42(n:Nat)(cl:CL)(a:Value)(h:PH):R:=
 hb (xAlloc (zcells Tryz.prog 76) h) fun b h=>
 vb (xLenS a) fun c=>
 lp n (F42_5 n cl) [b,nils,a,c,(vN 0)] h
theorem S42:OkF Tryz.prog 42 (A1 (F42 n cl)):=exA1 n ⟨[],[],[(3,[2,4,9,10,11])],[],[],[],[],[]⟩ (svc_ok (S62 n hcl) (svc_ok (S63 n hcl) hcl)) hmx Tryz.func42 (by kernel_rfl) fun _ _=>by kernel_rfl
def F18_0(n:Nat)(cl:CL)(a:Value)(b:Kt)(c d e:Value)(h:PH):R:=
 vb (xAri Int.add a (vN 1)) fun f=>
 b [c,d,e,f] h
def F18_1(n:Nat)(cl:CL)(a b c:Value)(d:Kt)(e:Value)(h:PH):R:=
 vb (xIdxS 4 a b) fun f=>
 vb (xLdA 4 f h) fun g=>
 hb (xAlloc (zcells Tryz.prog 46) h) fun i h=>
 hb (xStA 4 i g h) fun _ h=>
 vb (xLdA 2 c h) fun j=>
 vb (xLdA 4 i h) fun k=>
 vb (pcall (F41 n cl j k (h.fzn))) fun l=>
 vb (xCmp ine l (vN 0)) fun m=>
 bite m (some (Value.tuple ⟨[b,l]⟩,h)) (F18_0 n cl b d c a e h)
def F18_2(n:Nat)(cl:CL)(a:Value)(b:Kt)(c d:Value)(h:PH):R:=
 vb (xAri Int.add a (vN 1)) fun e=>
 b [c,d,e] h
def F18_3(n:Nat)(cl:CL)(a b:Value)(c:Kt)(d:Value)(h:PH):R:=
 vb (xLdA 2 a h) fun e=>
 hb (F43 n cl e b h) fun f h=>
 hb (F42 n cl f h) fun g h=>
 vb (xExt 0 g) fun i=>
 vb (xExt 1 g) fun j=>
 hb (xAlloc (zcells Tryz.prog 76) h) fun k h=>
 hb (xStA 2 k i h) fun _ h=>
 vb (xCmp ine j (vN 0)) fun l=>
 bite l (some (Value.tuple ⟨[(vM 0),j]⟩,h)) (F18_2 n cl b c a d h)
def F18_4(n:Nat)(cl:CL)(a b c:Value)(d:Kt)(h:PH):R:=
 vb (xCmp ilt a b) fun e=>
 bite e (F18_3 n cl c a d b h) (some (Value.tuple ⟨[(vM 0),(vN 0)]⟩,h))
def F18_5(n:Nat)(cl:CL)(a:Kt)(b:List Value)(h:PH):R:=
 u3 b fun c d e=>F18_4 n cl e d c a h
def F18_6(n:Nat)(cl:CL)(a:Value)(h:PH):R:=
 vb (xFld 0 a) fun b=>
 vb (xLd b h) fun c=>
 lp n (F18_5 n cl) [a,c,(vN 0)] h
def F18_7(n:Nat)(cl:CL)(a b c d:Value)(e:Kt)(h:PH):R:=
 vb (xCmp ilt a b) fun f=>
 bite f (F18_1 n cl c a d e b h) (F18_6 n cl d h)
def F18_8(n:Nat)(cl:CL)(a:Kt)(b:List Value)(h:PH):R:=
 u4 b fun c d e f=>F18_7 n cl f e d c a h
def F18_9(n:Nat)(cl:CL)(a:Value)(h:PH):R:=
 vb (xFld 1 a) fun b=>
 vb (xLd b h) fun c=>
 vb (xLenS c) fun d=>
 lp n (F18_8 n cl) [a,c,d,(vN 0)] h
def F18(n:Nat)(cl:CL)(a:Value)(h:PH):R:=
 hb (xBox a h) fun b h=>
 vb (xFld 0 b) fun c=>
 vb (xLd c h) fun d=>
 vb (xCmp ilt d (vN 1)) fun e=>
 vb (gd (isB false e) (xFld 0 b)) fun f=>
 vb (gd (isB false e) (xLd f h)) fun g=>
 vb (gd (isB false e) (xCmp (fun x y=>ilt y x) g (vN 8))) fun i=>
 vb (xPick e tt i) fun j=>
 vb (gd (isB false j) (xFld 1 b)) fun k=>
 vb (gd (isB false j) (xLd k h)) fun l=>
 vb (gd (isB false j) (xLenS l)) fun m=>
 vb (gd (isB false j) (xCmp (fun x y=>ilt y x) m (vN 40))) fun o=>
 vb (xPick j tt o) fun p=>
 bite p (some (Value.tuple ⟨[(vM 0),(vN 3)]⟩,h)) (F18_9 n cl b h)
theorem S18:OkF Tryz.prog 18 (A1 (F18 n cl)):=exA1 n ⟨[41],[],[(4,[1,25,26,27]),(11,[1,41,42])],[],[],[],[],[]⟩ (svc_ok (S41 n hcl) (svc_ok (S43 n hcl) (svc_ok (S42 n hcl) hcl))) hmx Tryz.func18 (by kernel_rfl) fun _ _=>by kernel_rfl
def F21_0(n:Nat)(cl:CL)(a b c:Value)(d:Kt)(e:Value)(h:PH):R:=
 vb (xNil a) fun f=>
 vb (xFld 0 f) fun g=>
 vb (xLd g h) fun i=>
 vb (xLdA 2 b h) fun j=>
 hb (F43 n cl j c h) fun k h=>
 lchk (xLd g h) i<|
 vb (abuild Tryz.prog 115 [(0,k)]) fun l=>
 hb (xBox l h) fun m h=>
 hb (xBS 1 (bsRow Tryz.prog 98 1 [(0,m)]) h) fun o h=>
 hb (xApp (appInfo Tryz.prog #[98,98]) i o h) fun p h=>
 vb (xNil a) fun q=>
 vb (xFld 0 q) fun r=>
 hb (xSt1 r p h) fun _ h=>
 vb (xAri Int.add c (vN 1)) fun s=>
 d [b,a,e,s] h
def F21_1(n:Nat)(cl:CL)(a b c d:Value)(e:Kt)(h:PH):R:=
 vb (xCmp ilt a b) fun f=>
 bite f (F21_0 n cl c d a e b h) (some (Value.tuple ⟨[c,(vN 0)]⟩,h))
def F21_2(n:Nat)(cl:CL)(a:Kt)(b:List Value)(h:PH):R:=
 u4 b fun c d e f=>F21_1 n cl f e d c a h
def F21_3(n:Nat)(cl:CL)(a:Value)(h:PH):R:=
 vb (abuild Tryz.prog 100 []) fun b=>
 hb (xBox b h) fun c h=>
 vb (xFld 0 a) fun d=>
 vb (xLd d h) fun e=>
 lp n (F21_2 n cl) [a,c,e,(vN 0)] h
def F21(n:Nat)(cl:CL)(a:Value)(h:PH):R:=
 hb (xBox a h) fun b h=>
 vb (xLdA 2 b h) fun c=>
 vb (pcall (F18 n cl c (h.fzn))) fun d=>
 vb (xExt 0 d) fun e=>
 vb (xExt 1 d) fun f=>
 vb (xCmp ine f (vN 0)) fun g=>
 bite g (some (Value.tuple ⟨[(Value.pointer none),f]⟩,h)) (F21_3 n cl b h)
theorem S21:OkF Tryz.prog 21 (A1 (F21 n cl)):=exA1 n ⟨[18],[],[(6,[1,6,19,20])],[(8,[0,1,2,3,6,4,5,7,8,9,10,11,12,13,14])],[(8,[4,7])],[],[],[]⟩ (svc_ok (S18 n hcl) (svc_ok (S43 n hcl) hcl)) hmx Tryz.func21 (by kernel_rfl) fun _ _=>by kernel_rfl
def F79(n:Nat)(cl:CL)(a:Value)(h:PH):R:=
 vb (xLd a h) fun b=>
 vb (xLd a h) fun c=>
 vb (xNil c) fun d=>
 vb (xFld 0 d) fun e=>
 vb (xLd e h) fun f=>
 hb (F42 n cl f h) fun g h=>
 lchk (xLd a h) b<|
 vb (xExt 0 g) fun i=>
 vb (xExt 1 g) fun j=>
 vb (xNil b) fun k=>
 vb (xFld 4 k) fun l=>
 hb (xStA 2 l i h) fun _ h=>
 some (Value.tuple ⟨[]⟩,h)
theorem S79:OkF Tryz.prog 79 (A1 (F79 n cl)):=exA1 n ⟨[],[],[],[(0,[0,1,2,3,4,5,6,7,8,9,10,11])],[(0,[0,5])],[],[],[]⟩ (svc_ok (S42 n hcl) hcl) hmx Tryz.func79 (by kernel_rfl) fun _ _=>by kernel_rfl
def F48(n:Nat)(cl:CL)(a:Value)(h:PH):R:=
 hb (xBox a h) fun b h=>
 hb (xAlloc (zcells Tryz.prog 76) h) fun c h=>
 vb (xLd b h) fun d=>
 vb (xNil d) fun e=>
 vb (xFld 1 e) fun f=>
 vb (some (Value.func (Fn.func 79) ⟨[]⟩ ⟨[b]⟩)) fun g=>
 hb (cl 78 [f,g] h) fun i h=>
 vb (xLd b h) fun j=>
 vb (xNil j) fun k=>
 vb (xFld 4 k) fun l=>
 vb (xLdA 2 l h) fun m=>
 hb (xStA 2 c m h) fun _ h=>
 vb (xLdA 2 c h) fun o=>some (o,h)
theorem S48:OkF Tryz.prog 48 (A1 (F48 n cl)):=exA1 n ⟨[],[],[],[],[],[],[],[]⟩ hcl hmx Tryz.func48 (by kernel_rfl) fun _ _=>by kernel_rfl
def F105(n:Nat)(cl:CL)(a b:Value)(h:PH):R:=
 hb (xBox a h) fun c h=>
 vb (xCmp (fun x y=>ile y x) b (vN 0)) fun d=>
 vb (gd (isB true d) (some b)) fun e=>
 vb (gd (isB true d) (xFld 0 c)) fun f=>
 vb (gd (isB true d) (xLd f h)) fun g=>
 vb (gd (isB true d) (xLenS g)) fun i=>
 vb (gd (isB true d) (xCmp ilt e i)) fun j=>
 vb (xPick d j ff) fun k=>
 vb (gd (isB true k) (some b)) fun l=>
 vb (gd (isB true k) (xFld 1 c)) fun m=>
 vb (gd (isB true k) (xLd m h)) fun o=>
 vb (gd (isB true k) (xLenS o)) fun p=>
 vb (gd (isB true k) (xCmp ilt l p)) fun q=>
 vb (xPick k q ff) fun r=>
 some (r,h)
theorem S105:OkF Tryz.prog 105 (A2 (F105 n cl)):=exA2 n ⟨[],[],[],[],[],[],[],[]⟩ hcl hmx Tryz.func105 (by kernel_rfl) fun _ _ _=>by kernel_rfl
def F76_0(n:Nat)(cl:CL)(a b c:Value)(h:PH):R:=
 vb (xFld 0 a) fun d=>
 vb (xLd d h) fun e=>
 vb (xIdxS 1 e b) fun f=>
 vb (xLd f h) fun g=>
 vb (xIdxS 1 g c) fun i=>
 vb (xLd i h) fun j=>
 some (j,h)
def F76(n:Nat)(cl:CL)(a b c:Value)(h:PH):R:=
 hb (xBox a h) fun d h=>
 vb (xLdA 2 d h) fun e=>
 vb (pcall (F105 n cl e b (h.fzn))) fun f=>
 vb (xNot f) fun g=>
 vb (gd (isB false g) (some c)) fun i=>
 vb (gd (isB false g) (xConvI .i64 i)) fun j=>
 vb (gd (isB false g) (xFld 0 d)) fun k=>
 vb (gd (isB false g) (some b)) fun l=>
 vb (gd (isB false g) (xLd k h)) fun m=>
 vb (gd (isB false g) (xIdxS 1 m l)) fun o=>
 vb (gd (isB false g) (xLd o h)) fun p=>
 vb (gd (isB false g) (xLenS p)) fun q=>
 vb (gd (isB false g) (xCmp (fun x y=>ile y x) j q)) fun r=>
 vb (xPick g tt r) fun s=>
 vb (gd (isB false s) (xFld 0 d)) fun t=>
 vb (gd (isB false s) (some b)) fun v=>
 vb (gd (isB false s) (some c)) fun w=>
 vb (gd (isB false s) (xLdA 2 d h)) fun z=>
 vb (gd (isB false s) (xLd t h)) fun a1=>
 vb (gd (isB false s) (xIdxS 1 a1 v)) fun b1=>
 vb (gd (isB false s) (xLd b1 h)) fun c1=>
 vb (gd (isB false s) (xIdxS 1 c1 w)) fun d1=>
 vb (gd (isB false s) (xLd d1 h)) fun e1=>
 vb (gd (isB false s) (pcall (F105 n cl z e1 (h.fzn)))) fun f1=>
 vb (gd (isB false s) (xNot f1)) fun g1=>
 vb (xPick s tt g1) fun i1=>
 bite i1 (some ((vM 0),h)) (F76_0 n cl d b c h)
theorem S76:OkF Tryz.prog 76 (A3 (F76 n cl)):=exA3 n ⟨[105],[],[],[(1,[1,0,2,3,4,5,6,7,9,8,10,11,12,13,14,15,17,19,22,16,18,20,21,23,24,25,26,27])],[],[],[],[]⟩ (svc_ok (S105 n hcl) hcl) hmx Tryz.func76 (by kernel_rfl) fun _ _ _ _=>by kernel_rfl
def F77_0(n:Nat)(cl:CL)(a b:Value)(h:PH):R:=
 vb (xFld 1 a) fun c=>
 vb (xLd c h) fun d=>
 vb (xIdxS 1 d b) fun e=>
 vb (xLd e h) fun f=>
 vb ((if plainV.plainVs [(vM 0),f]then prun Tryz.prog (Builtin.max_ #[3,3] 3 ⟨[(vM 0),f]⟩)else none)) fun g=>
 some (g,h)
def F77(n:Nat)(cl:CL)(a b:Value)(h:PH):R:=
 hb (xBox a h) fun c h=>
 vb (xLdA 2 c h) fun d=>
 vb (pcall (F105 n cl d b (h.fzn))) fun e=>
 vb (xNot e) fun f=>
 bite f (some ((vM 0),h)) (F77_0 n cl c b h)
theorem S77:OkF Tryz.prog 77 (A2 (F77 n cl)):=exA2 n ⟨[105],[],[],[],[],[],[],[]⟩ (svc_ok (S105 n hcl) hcl) hmx Tryz.func77 (by kernel_rfl) fun _ _ _=>by kernel_rfl
def F47_0(n:Nat)(cl:CL)(a:Value)(b:Kt)(c d e f g i j:Value)(h:PH):R:=
 vb (xAri Int.add a (vN 1)) fun k=>
 b [c,d,e,f,g,i,j,k] h
def F47_1(n:Nat)(cl:CL)(a b c:Value)(h:PH):R:=
 vb (xAri Int.add a (vN 1)) fun d=>
 some (Value.tuple ⟨[b,c,d]⟩,h)
def F47_2(n:Nat)(cl:CL)(a:Value)(b:Kt)(c d e f g i:Value)(h:PH):R:=
 vb (xAri Int.add a (vN 1)) fun j=>
 b [c,d,e,j,f,g,i,a] h
def F47_3(n:Nat)(cl:CL)(a b c:Value)(d:Kt)(e f g i j:Value)(h:PH):R:=
 vb (xLdA 2 a h) fun k=>
 vb (pcall (F77 n cl k b (h.fzn))) fun l=>
 vb (xCmp (fun x y=>ile y x) l (vN 0)) fun m=>
 bite m (F47_2 n cl c d e a l b f g h) (d [e,a,i,j,b,f,g,c] h)
def F47_4(n:Nat)(cl:CL)(a:Kt)(b:List Value)(h:PH):R:=
 u8 b fun c d e f g i j k=>F47_0 n cl k a c d e f g i j h
def F47_5(n:Nat)(cl:CL)(a b c d e f g i:Value)(h:PH)(j:Kt):R:=
 vb (xIdxS 1 a b) fun k=>
 vb (xLd k h) fun l=>
 vb (xLdA 2 c h) fun m=>
 vb (pcall (F76 n cl m d l (h.fzn))) fun o=>
 vb (xCmp ilt o (vN 0)) fun p=>
 bite p (F47_1 n cl b e f h) (F47_3 n cl c o b j g a i e f h)
def F47_6(n:Nat)(cl:CL)(a b c:Value)(h:PH):R:=
 vb (xLenS a) fun d=>
 vb (xAri Int.add d (vN 1)) fun e=>
 some (Value.tuple ⟨[b,c,e]⟩,h)
def F47_7(n:Nat)(cl:CL)(a b:Value)(c:Kt)(d e f g i j:Value)(h:PH):R:=
 vb (xCmp ilt a b) fun k=>
 bite k (jn (F47_4 n cl c) (F47_5 n cl d a e f g i j b h)) (F47_6 n cl j g i h)
def F47_8(n:Nat)(cl:CL)(a:Kt)(b:List Value)(h:PH):R:=
 u8 b fun c d e f g i j k=>F47_7 n cl k j a i d g e f c h
def F47(n:Nat)(cl:CL)(a b c:Value)(h:PH):R:=
 hb (xBox a h) fun d h=>
 vb (xLenS b) fun e=>
 vb ((if plainV.plainVs [c,e]then prun Tryz.prog (Builtin.min_ #[3,3] 3 ⟨[c,e]⟩)else none)) fun f=>
 vb ((if plainV.plainVs [(vN 0),f]then prun Tryz.prog (Builtin.max_ #[3,3] 3 ⟨[(vN 0),f]⟩)else none)) fun g=>
 vb (acut Tryz.prog 33 b (some g) none none) fun i=>
 vb (xLenS i) fun j=>
 lp n (F47_8 n cl) [i,d,(vM 0),(vN 0),(vN 0),i,j,(vN 0)] h
theorem S47:OkF Tryz.prog 47 (A3 (F47 n cl)):=exA3 n ⟨[76,77],[],[(4,[1,3,9,10,11,22,23,24]),(12,[1,3,9,10,11,22,23,24])],[],[],[],[],[]⟩ (svc_ok (S76 n hcl) (svc_ok (S77 n hcl) hcl)) hmx Tryz.func47 (by kernel_rfl) fun _ _ _ _=>by kernel_rfl
def F22_0(n:Nat)(cl:CL)(a b c:Value)(h:PH):R:=
 vb (xLdA 5 a h) fun d=>
 hb (xStA 5 b d h) fun _ h=>
 vb (xLdA 5 b h) fun e=>some (Value.tuple ⟨[e,c]⟩,h)
def F22_1(n:Nat)(cl:CL)(a b c d e:Value)(h:PH):R:=
 vb (xNil a) fun f=>
 vb (xFld 0 f) fun g=>
 vb (xLd g h) fun i=>
 vb (xIdxS 4 i b) fun j=>
 vb (xFld 3 j) fun k=>
 vb (xLd k h) fun l=>
 vb (xFld 0 c) fun m=>
 hb (xSt1 m l h) fun _ h=>
 vb (xFld 2 c) fun o=>
 hb (xSt1 o d h) fun _ h=>
 vb (xNil a) fun p=>
 vb (xFld 0 p) fun q=>
 vb (xLdA 5 c h) fun r=>
 vb (xLd q h) fun s=>
 vb (xIdxS 4 s b) fun t=>
 vb (xFld 2 t) fun v=>
 vb (xLd v h) fun w=>
 hb (xStA 5 e r h) fun _ h=>
 lchk (xLd q h) s<|
 lchk (xLd v h) w<|
 vb (xLdA 5 e h) fun z=>some (Value.tuple ⟨[z,w]⟩,h)
def F22_2(n:Nat)(cl:CL)(a b c d e:Value)(h:PH):R:=
 vb (xLenS a) fun f=>
 vb ((if plainV.plainVs [b,f]then prun Tryz.prog (Builtin.min_ #[3,3] 3 ⟨[b,f]⟩)else none)) fun g=>
 vb ((if plainV.plainVs [(vN 0),g]then prun Tryz.prog (Builtin.max_ #[3,3] 3 ⟨[(vN 0),g]⟩)else none)) fun i=>
 vb (xNil c) fun j=>
 vb (xFld 0 j) fun k=>
 vb (xLd k h) fun l=>
 vb (xLenS l) fun m=>
 vb (xAri Int.sub m (vN 1)) fun o=>
 vb ((if plainV.plainVs [d,o]then prun Tryz.prog (Builtin.min_ #[3,3] 3 ⟨[d,o]⟩)else none)) fun p=>
 vb ((if plainV.plainVs [(vN 0),p]then prun Tryz.prog (Builtin.max_ #[3,3] 3 ⟨[(vN 0),p]⟩)else none)) fun q=>
 vb (xNil c) fun r=>
 vb (xFld 0 r) fun s=>
 vb (xLd s h) fun t=>
 vb (xIdxS 1 t q) fun v=>
 vb (xLd v h) fun w=>
 hb (F48 n cl w h) fun z h=>
 vb (pcall (F47 n cl z a i (h.fzn))) fun a1=>
 vb (xExt 0 a1) fun b1=>
 vb (xExt 1 a1) fun c1=>
 vb (xExt 2 a1) fun d1=>
 vb (xLenS a) fun e1=>
 vb (xAri Int.sub e1 i) fun f1=>
 vb ((if plainV.plainVs [(vN 1),f1]then prun Tryz.prog (Builtin.min_ #[3,3] 3 ⟨[(vN 1),f1]⟩)else none)) fun g1=>
 vb (abuild Tryz.prog 41 [(0,(vM 1)),(1,i),(2,g1),(3,d1),(4,q)]) fun i1=>
 hb (xAlloc (zcells Tryz.prog 41) h) fun j1 h=>
 hb (xStA 5 j1 i1 h) fun _ h=>
 vb (xNil w) fun k1=>
 vb (xFld 0 k1) fun l1=>
 vb (xLd l1 h) fun m1=>
 vb (xLenS m1) fun o1=>
 vb (pcall (F49 n cl b1 o1 (h.fzn))) fun p1=>
 vb (xNot p1) fun q1=>
 bite q1 (F22_0 n cl j1 e q h) (F22_1 n cl w b1 j1 c1 e h)
def F22_3(n:Nat)(cl:CL)(a:Kt)(b c d e:Value)(h:PH):R:=
 vb (abuild Tryz.prog 115 []) fun f=>
 hb (xBox f h) fun g h=>
 hb (xBS 1 (bsRow Tryz.prog 98 1 [(0,g)]) h) fun i h=>
 vb (abuild Tryz.prog 100 [(0,i)]) fun j=>
 hb (xBox j h) fun k h=>
 a [k,b,c,d,e] h
def F22_4(n:Nat)(cl:CL)(a:List Value)(h:PH):R:=
 u5 a fun b c d e f=>F22_2 n cl c d b e f h
def F22_5(n:Nat)(cl:CL)(a b c d e:Value)(h:PH)(f:Kt):R:=
 vb (abin Tryz.prog .eql 37 (Operand.tmp 15) (Operand.const (Value.pointer none)) a (Value.pointer none)) fun g=>
 bite g (F22_3 n cl f b c d e h) (f [a,b,c,d,e] h)
def F22(n:Nat)(cl:CL)(a b c d:Value)(h:PH):R:=
 hb (xAlloc (zcells Tryz.prog 41) h) fun e h=>
 jn (F22_4 n cl) (F22_5 n cl a b c d e h)
theorem S22:OkF Tryz.prog 22 (A4 (F22 n cl)):=exA4 n ⟨[47,49],[],[(3,[0,1,2,3,8])],[(11,[1,2,3,5,0,4,6,7,8,9,10])],[(11,[4,8,9])],[],[],[]⟩ (svc_ok (S48 n hcl) (svc_ok (S47 n hcl) (svc_ok (S49 n hcl) hcl))) hmx Tryz.func22 (by kernel_rfl) fun _ _ _ _ _=>by kernel_rfl
def F68(n:Nat)(cl:CL)(a:Value)(h:PH):R:=
 vb (xNil a) fun b=>
 vb (xFld 1 b) fun c=>
 vb (xNil a) fun d=>
 vb (xFld 0 d) fun e=>
 vb (xLd c h) fun f=>
 vb (xLd e h) fun g=>
 vb (xLenT g) fun i=>
 vb (xCmp (fun x y=>ile y x) f i) fun j=>
 some (j,h)
theorem S68:OkF Tryz.prog 68 (A1 (F68 n cl)):=exA1 n ⟨[],[],[],[(1,[0,1,2,4,5,6,3,7,8,9,10])],[],[],[],[]⟩ hcl hmx Tryz.func68 (by kernel_rfl) fun _ _=>by kernel_rfl
def F96(n:Nat)(cl:CL)(a b:Value)(h:PH):R:=
 vb (pcall (F68 n cl a (h.fzn))) fun c=>
 vb (xNot c) fun d=>
 vb (gd (isB true d) (some a)) fun e=>
 vb (gd (isB true d) (xNil e)) fun f=>
 vb (gd (isB true d) (xFld 0 f)) fun g=>
 vb (gd (isB true d) (some a)) fun i=>
 vb (gd (isB true d) (xNil i)) fun j=>
 vb (gd (isB true d) (xFld 1 j)) fun k=>
 vb (gd (isB true d) (some b)) fun l=>
 vb (gd (isB true d) (xLd g h)) fun m=>
 vb (gd (isB true d) (xLd k h)) fun o=>
 vb (gd (isB true d) (aindex Tryz.prog 9 m o)) fun p=>
 vb (gd (isB true d) (xCmp ieq p l)) fun q=>
 vb (xPick d q ff) fun r=>
 some (r,h)
theorem S96:OkF Tryz.prog 96 (A2 (F96 n cl)):=exA2 n ⟨[68],[],[],[(1,[0,1,2,3,4,5,6,8,9,10,13,7,11,12,14,15,16])],[],[],[],[]⟩ (svc_ok (S68 n hcl) hcl) hmx Tryz.func96 (by kernel_rfl) fun _ _ _=>by kernel_rfl
def F69_0(n:Nat)(cl:CL)(a b c:Value)(h:PH):R:=
 vb (xNil a) fun d=>
 vb (xFld 2 d) fun e=>
 hb (xSt1 e b h) fun _ h=>
 vb (xNil a) fun f=>
 vb (xFld 3 f) fun g=>
 hb (xSt1 g c h) fun _ h=>
 some (Value.tuple ⟨[]⟩,h)
def F69(n:Nat)(cl:CL)(a b c:Value)(h:PH):R:=
 vb (xNil a) fun d=>
 vb (xFld 2 d) fun e=>
 vb (xLd e h) fun f=>
 vb (xCmp ieq f (vN 0)) fun g=>
 bite g (F69_0 n cl a b c h) (some (Value.tuple ⟨[]⟩,h))
theorem S69:OkF Tryz.prog 69 (A3 (F69 n cl)):=exA3 n ⟨[],[],[],[],[],[],[],[]⟩ hcl hmx Tryz.func69 (by kernel_rfl) fun _ _ _ _=>by kernel_rfl
def F175(n:Nat)(cl:CL)(a b:Value)(h:PH):R:=
 hb (xBox a h) fun c h=>
 hb (xAlloc (zcells Tryz.prog 82) h) fun d h=>
 vb (xShr b (Value.int .u64 (.ofNat 6))) fun e=>
 vb (xShr b (Value.int .u64 (.ofNat 6))) fun f=>
 vb (xIdxA 4 1 c f) fun g=>
 vb (xLd g h) fun i=>
 vb (xBit Nat.land b (Value.int .u8 (.ofNat 63))) fun j=>
 vb (xConvI .u64 j) fun k=>
 vb (xShl (Value.int .u64 (.ofNat 1)) k) fun l=>
 vb (xBit Nat.lor i l) fun m=>
 vb (xIdxA 4 1 c e) fun o=>
 hb (xSt1 o m h) fun _ h=>
 vb (xLdA 4 c h) fun p=>
 hb (xStA 4 d p h) fun _ h=>
 vb (xLdA 4 d h) fun q=>some (q,h)
theorem S175:OkF Tryz.prog 175 (A2 (F175 n cl)):=exA2 n ⟨[],[],[],[],[],[],[],[]⟩ hcl hmx Tryz.func175 (by kernel_rfl) fun _ _ _=>by kernel_rfl
def F161_0(n:Nat)(cl:CL)(a:Value)(b:Kt)(c d:Value)(h:PH):R:=
 vb (xAri Int.add a (vN 1)) fun e=>
 b [c,d,e] h
def F161_1(n:Nat)(cl:CL)(a b:Value)(c:Kt)(d:Value)(h:PH):R:=
 vb (xLdA 4 a h) fun e=>
 vb (xConvI .u8 b) fun f=>
 vb (pcall (F175 n cl e f (h.fzn))) fun g=>
 hb (xStA 4 a g h) fun _ h=>
 c [d,a,b] h
def F161_2(n:Nat)(cl:CL)(a:Kt)(b:List Value)(h:PH):R:=
 u3 b fun c d e=>F161_0 n cl e a c d h
def F161_3(n:Nat)(cl:CL)(a b c:Value)(h:PH)(d:Kt):R:=
 vb (xCmp ine a (vN 10)) fun e=>
 bite e (F161_1 n cl b a d c h) (d [c,b,a] h)
def F161_4(n:Nat)(cl:CL)(a b:Value)(h:PH):R:=
 vb (xLdA 4 a h) fun c=>
 hb (xStA 4 b c h) fun _ h=>
 vb (xLdA 4 b h) fun d=>some (d,h)
def F161_5(n:Nat)(cl:CL)(a:Value)(b:Kt)(c d:Value)(h:PH):R:=
 vb (xCmp ilt a (vN 256)) fun e=>
 bite e (jn (F161_2 n cl b) (F161_3 n cl a c d h)) (F161_4 n cl c d h)
def F161_6(n:Nat)(cl:CL)(a:Kt)(b:List Value)(h:PH):R:=
 u3 b fun c d e=>F161_5 n cl e a d c h
def F161(n:Nat)(cl:CL)(h:PH):R:=
 hb (xAlloc (zcells Tryz.prog 82) h) fun a h=>
 hb (xAlloc (zcells Tryz.prog 82) h) fun b h=>
 lp n (F161_6 n cl) [a,b,(vN 0)] h
theorem S161:OkF Tryz.prog 161 (A0 (F161 n cl)):=exA0 n ⟨[175],[],[(3,[0,1,2]),(4,[0,1,2])],[],[],[],[],[]⟩ (svc_ok (S175 n hcl) hcl) hmx Tryz.func161 (by kernel_rfl) fun _=>by kernel_rfl
def F162(n:Nat)(cl:CL)(a:Value)(h:PH):R:=
 hb (xAlloc (zcells Tryz.prog 85) h) fun b h=>
 hb (xAlloc (zcells Tryz.prog 82) h) fun c h=>
 vb (xLdA 4 c h) fun d=>
 vb (pcall (F175 n cl d a (h.fzn))) fun e=>
 vb (abuild Tryz.prog 85 [(0,(vN 1)),(1,e)]) fun f=>
 hb (xStA 6 b f h) fun _ h=>
 vb (xLdA 6 b h) fun g=>some (g,h)
theorem S162:OkF Tryz.prog 162 (A1 (F162 n cl)):=exA1 n ⟨[175],[],[],[],[],[],[],[]⟩ (svc_ok (S175 n hcl) hcl) hmx Tryz.func162 (by kernel_rfl) fun _ _=>by kernel_rfl
def F176_0(n:Nat)(cl:CL)(a:Value)(h:PH):R:=
 vb (xNil a) fun b=>
 vb (xFld 1 b) fun c=>
 vb (xLd c h) fun d=>
 hb (F69 n cl a (vN 2) d h) fun e h=>
 some ((Value.int .u8 (.ofNat 0)),h)
def F176_1(n:Nat)(cl:CL)(a:Value)(h:PH):R:=
 vb (xNil a) fun b=>
 vb (xFld 1 b) fun c=>
 vb (xLd c h) fun d=>
 vb (xAri Int.add d (vN 1)) fun e=>
 vb (xNil a) fun f=>
 vb (xFld 1 f) fun g=>
 hb (xSt1 g e h) fun _ h=>
 vb (xNil a) fun i=>
 vb (xFld 0 i) fun j=>
 vb (xNil a) fun k=>
 vb (xFld 1 k) fun l=>
 vb (xLd j h) fun m=>
 vb (xLd l h) fun o=>
 vb (xAri Int.sub o (vN 1)) fun p=>
 vb (aindex Tryz.prog 9 m p) fun q=>
 some (q,h)
def F176_2(n:Nat)(cl:CL)(a:Value)(h:PH):R:=
 vb (pcall (F68 n cl a (h.fzn))) fun b=>
 bite b (F176_0 n cl a h) (F176_1 n cl a h)
def F176_3(n:Nat)(cl:CL)(a:Value)(b:Kt)(h:PH):R:=
 vb (xNil a) fun c=>
 vb (xFld 1 c) fun d=>
 vb (xLd d h) fun e=>
 vb (xAri Int.add e (vN 1)) fun f=>
 vb (xNil a) fun g=>
 vb (xFld 1 g) fun i=>
 hb (xSt1 i f h) fun _ h=>
 b [a] h
def F176_4(n:Nat)(cl:CL)(a:Value)(h:PH)(b:Kt):R:=
 vb (pcall (F96 n cl a (Value.int .u8 (.ofNat 92)) (h.fzn))) fun c=>
 bite c (F176_3 n cl a b h) (b [a] h)
def F176(n:Nat)(cl:CL)(a:Value)(h:PH):R:=
 jn (fun b h=>ucons b fun c d=>F176_2 n cl c h) (F176_4 n cl a h)
theorem S176:OkF Tryz.prog 176 (A1 (F176 n cl)):=exA1 n ⟨[68,96],[],[(3,[0])],[(7,[0,1,2,4,5,6,3,7,8,9,10])],[],[],[],[]⟩ (svc_ok (S68 n hcl) (svc_ok (S69 n hcl) (svc_ok (S96 n hcl) hcl))) hmx Tryz.func176 (by kernel_rfl) fun _ _=>by kernel_rfl
def F163_0(n:Nat)(cl:CL)(a b:Value)(h:PH):R:=
 vb (xLdA 4 a h) fun c=>
 vb (abuild Tryz.prog 85 [(0,(vN 1)),(1,c)]) fun d=>
 hb (xStA 6 b d h) fun _ h=>
 vb (xLdA 6 b h) fun e=>some (e,h)
def F163_1(n:Nat)(cl:CL)(a b:Value)(c:Kt)(d:Value)(h:PH):R:=
 vb (xIdxA 4 1 a b) fun e=>
 vb (xLd e h) fun f=>
 vb (xUn Tryz.prog .xor f) fun g=>
 vb (xIdxA 4 1 a b) fun i=>
 hb (xSt1 i g h) fun _ h=>
 vb (xAri Int.add b (vN 1)) fun j=>
 c [d,a,j] h
def F163_2(n:Nat)(cl:CL)(a b:Value)(c:Kt)(d:Value)(e:Kt)(h:PH):R:=
 vb (xCmp ilt a (vN 4)) fun f=>
 bite f (F163_1 n cl b a c d h) (e [d,b] h)
def F163_3(n:Nat)(cl:CL)(a b:Kt)(c:List Value)(h:PH):R:=
 u3 c fun d e f=>F163_2 n cl f e b d a h
def F163_4(n:Nat)(cl:CL)(a b c d:Value)(h:PH):R:=
 vb (xNil a) fun e=>
 vb (xFld 1 e) fun f=>
 vb (xLd f h) fun g=>
 vb (xAri Int.add g (vN 1)) fun i=>
 vb (xNil a) fun j=>
 vb (xFld 1 j) fun k=>
 hb (xSt1 k i h) fun _ h=>
 jn (fun l h=>ucons l fun m o=>ucons o fun p q=>F163_0 n cl p m h) (fun r=>bite b (lp n (F163_3 n cl r) [c,d,(vN 0)] h) (r [c,d] h))
def F163_5(n:Nat)(cl:CL)(a:Value)(b:Kt)(c d e:Value)(h:PH):R:=
 vb (xNil a) fun f=>
 vb (xFld 1 f) fun g=>
 vb (xLd g h) fun i=>
 hb (F69 n cl a (vN 2) i h) fun j h=>
 b [a,c,d,e] h
def F163_6(n:Nat)(cl:CL)(a b:Value)(c:Kt)(d e f g i:Value)(h:PH):R:=
 vb (xLdA 4 a h) fun j=>
 vb (xConvI .u8 b) fun k=>
 vb (pcall (F175 n cl j k (h.fzn))) fun l=>
 hb (xStA 4 a l h) fun _ h=>
 vb (xAri Int.add b (vN 1)) fun m=>
 c [d,e,a,f,g,i,m] h
def F163_7(n:Nat)(cl:CL)(a:Value)(b:Kt)(c d e f:Value)(h:PH):R:=
 vb (xAri Int.add a (vN 1)) fun g=>
 b [c,d,e,f,g] h
def F163_8(n:Nat)(cl:CL)(a b c:Value)(d:Kt)(e f g i:Value)(j:Kt)(h:PH):R:=
 vb (xConvI .i64 a) fun k=>
 vb (xCmp ile b k) fun l=>
 bite l (F163_6 n cl c b d e f g i a h) (F163_7 n cl i j e f c g h)
def F163_9(n:Nat)(cl:CL)(a b:Kt)(c:List Value)(h:PH):R:=
 u7 c fun d e f g i j k=>F163_8 n cl j k f b d e g i a h
def F163_10(n:Nat)(cl:CL)(a:Value)(b:Kt)(c d e f g i:Value)(h:PH):R:=
 vb (xConvI .i64 a) fun j=>
 lp n (F163_9 n cl b) [c,d,e,f,g,i,j] h
def F163_11(n:Nat)(cl:CL)(a b:Value)(c:Kt)(d e f g i j:Value)(h:PH):R:=
 hb (F69 n cl a (vN 2) b h) fun k h=>
 c [a,d,e,f,g,i,j] h
def F163_12(n:Nat)(cl:CL)(a b:Value)(c:Kt)(d e f g:Value)(h:PH):R:=
 vb (xNil a) fun i=>
 vb (xFld 1 i) fun j=>
 vb (xLd j h) fun k=>
 vb (xAri Int.add k (vN 1)) fun l=>
 vb (xNil a) fun m=>
 vb (xFld 1 m) fun o=>
 hb (xSt1 o l h) fun _ h=>
 vb (xNil a) fun p=>
 vb (xFld 1 p) fun q=>
 vb (xLd q h) fun r=>
 hb (F176 n cl a h) fun s h=>
 vb (xNil a) fun t=>
 vb (xFld 2 t) fun v=>
 vb (xLd v h) fun w=>
 vb (xCmp ieq w (vN 0)) fun z=>
 vb (gd (isB true z) (some s)) fun a1=>
 vb (gd (isB true z) (some b)) fun b1=>
 vb (gd (isB true z) (xCmp ilt a1 b1)) fun c1=>
 vb (xPick z c1 ff) fun d1=>
 bite d1 (F163_11 n cl a r c d e f g b s h) (c [a,d,e,f,g,b,s] h)
def F163_13(n:Nat)(cl:CL)(a:Kt)(b:List Value)(h:PH):R:=
 u7 b fun c d e f g i j=>F163_10 n cl i a c d e f g j h
def F163_14(n:Nat)(cl:CL)(a b c d e f:Value)(h:PH)(g:Kt):R:=
 vb (xNil a) fun i=>
 vb (xFld 2 i) fun j=>
 vb (xLd j h) fun k=>
 vb (xCmp ieq k (vN 0)) fun l=>
 vb (gd (isB true l) (some a)) fun m=>
 vb (gd (isB true l) (pcall (F96 n cl m (Value.int .u8 (.ofNat 45)) (h.fzn)))) fun o=>
 vb (xPick l o ff) fun p=>
 vb (gd (isB true p) (some a)) fun q=>
 vb (gd (isB true p) (xNil q)) fun r=>
 vb (gd (isB true p) (xFld 1 r)) fun s=>
 vb (gd (isB true p) (some a)) fun t=>
 vb (gd (isB true p) (xNil t)) fun v=>
 vb (gd (isB true p) (xFld 0 v)) fun w=>
 vb (gd (isB true p) (xLd s h)) fun z=>
 vb (gd (isB true p) (xAri Int.add z (vN 1))) fun a1=>
 vb (gd (isB true p) (xLd w h)) fun b1=>
 vb (gd (isB true p) (xLenT b1)) fun c1=>
 vb (gd (isB true p) (xCmp ilt a1 c1)) fun d1=>
 vb (xPick p d1 ff) fun e1=>
 vb (gd (isB true e1) (some a)) fun f1=>
 vb (gd (isB true e1) (xNil f1)) fun g1=>
 vb (gd (isB true e1) (xFld 0 g1)) fun i1=>
 vb (gd (isB true e1) (some a)) fun j1=>
 vb (gd (isB true e1) (xNil j1)) fun k1=>
 vb (gd (isB true e1) (xFld 1 k1)) fun l1=>
 vb (gd (isB true e1) (xLd i1 h)) fun m1=>
 vb (gd (isB true e1) (xLd l1 h)) fun o1=>
 vb (gd (isB true e1) (xAri Int.add o1 (vN 1))) fun p1=>
 vb (gd (isB true e1) (aindex Tryz.prog 9 m1 p1)) fun q1=>
 vb (gd (isB true e1) (xCmp ine q1 (Value.int .u8 (.ofNat 93)))) fun r1=>
 vb (xPick e1 r1 ff) fun s1=>
 bite s1 (F163_12 n cl a b g c d e f h) (g [a,c,d,e,f,b,b] h)
def F163_15(n:Nat)(cl:CL)(a:Value)(b:Kt)(c d e f:Value)(h:PH):R:=
 hb (F176 n cl a h) fun g h=>
 jn (F163_13 n cl b) (F163_14 n cl a g c d e f h)
def F163_16(n:Nat)(cl:CL)(a:Value)(b:Kt)(c d e:Value)(f:Kt)(g:Value)(h:PH):R:=
 vb (pcall (F96 n cl a (Value.int .u8 (.ofNat 93)) (h.fzn))) fun i=>
 vb (gd (isB false i) (some a)) fun j=>
 vb (gd (isB false i) (pcall (F68 n cl j (h.fzn)))) fun k=>
 vb (xPick i tt k) fun l=>
 bite l (F163_5 n cl a b c d e h) (F163_15 n cl a f c d e g h)
def F163_17(n:Nat)(cl:CL)(a b:Value)(c:Kt)(d e f:Value)(g:Kt)(h:PH):R:=
 vb (xNil a) fun i=>
 vb (xFld 2 i) fun j=>
 vb (xLd j h) fun k=>
 vb (xCmp ieq k (vN 0)) fun l=>
 vb (gd (isB true l) (some a)) fun m=>
 vb (gd (isB true l) (pcall (F96 n cl m (Value.int .u8 (.ofNat 93)) (h.fzn)))) fun o=>
 vb (gd (isB true l) (some o)) fun p=>
 vb (gd (isB true p) (some b)) fun q=>
 vb (gd (isB true p) (xCmp (fun x y=>ilt y x) q (vN 0))) fun r=>
 vb (gd (isB true l) (xPick p r ff)) fun s=>
 vb (gd (isB true l) (xNot s)) fun t=>
 vb (xPick l t ff) fun v=>
 bite v (F163_16 n cl a c d e f g b h) (c [a,d,e,f] h)
def F163_18(n:Nat)(cl:CL)(a b:Kt)(c:List Value)(h:PH):R:=
 u5 c fun d e f g i=>F163_17 n cl d i a e f g b h
def F163_19(n:Nat)(cl:CL)(a:List Value)(h:PH):R:=
 u4 a fun b c d e=>F163_4 n cl b e c d h
def F163_20(n:Nat)(cl:CL)(a:Value)(b:Kt)(c d e:Value)(h:PH):R:=
 vb (xNil a) fun f=>
 vb (xFld 1 f) fun g=>
 vb (xLd g h) fun i=>
 vb (xAri Int.add i (vN 1)) fun j=>
 vb (xNil a) fun k=>
 vb (xFld 1 k) fun l=>
 hb (xSt1 l j h) fun _ h=>
 b [a,c,d,e] h
def F163_21(n:Nat)(cl:CL)(a:List Value)(h:PH):R:=
 u4 a fun b c d e=>jn (F163_19 n cl) (fun f=>lp n (F163_18 n cl f) [b,c,d,e,(vN 0)] h)
def F163(n:Nat)(cl:CL)(a:Value)(h:PH):R:=
 hb (xAlloc (zcells Tryz.prog 85) h) fun b h=>
 hb (xAlloc (zcells Tryz.prog 82) h) fun c h=>
 vb (pcall (F96 n cl a (Value.int .u8 (.ofNat 94)) (h.fzn))) fun d=>
 jn (F163_21 n cl) (fun e=>bite d (F163_20 n cl a e b c d h) (e [a,b,c,d] h))
theorem S163:OkF Tryz.prog 163 (A1 (F163 n cl)):=exA1 n ⟨[68,96,175],[],[(5,[0,2,3,4]),(6,[0,2,3,4,5]),(17,[0,2,3,4,5,6,7]),(18,[0,2,3,4,5,7,9]),(22,[0,2,3,4]),(25,[2,3,10]),(28,[2,3])],[(11,[0,1,2,3,4,5,6,7,8,9,10,11,12,15,16,17,13,14,18,19,20,21,22,23,24,25,27,28,29,26,30,31,32,33,34])],[],[],[],[]⟩ (svc_ok (S96 n hcl) (svc_ok (S68 n hcl) (svc_ok (S69 n hcl) (svc_ok (S176 n hcl) (svc_ok (S175 n hcl) hcl))))) hmx Tryz.func163 (by kernel_rfl) fun _ _=>by kernel_rfl
def F164(n:Nat)(cl:CL)(a:Value)(h:PH):R:=
 vb (xCmp ieq a (Value.int .u8 (.ofNat 124))) fun b=>
 vb (gd (isB false b) (some a)) fun c=>
 vb (gd (isB false b) (xCmp ieq c (Value.int .u8 (.ofNat 42)))) fun d=>
 vb (xPick b tt d) fun e=>
 vb (gd (isB false e) (some a)) fun f=>
 vb (gd (isB false e) (xCmp ieq f (Value.int .u8 (.ofNat 43)))) fun g=>
 vb (xPick e tt g) fun i=>
 vb (gd (isB false i) (some a)) fun j=>
 vb (gd (isB false i) (xCmp ieq j (Value.int .u8 (.ofNat 63)))) fun k=>
 vb (xPick i tt k) fun l=>
 vb (gd (isB false l) (some a)) fun m=>
 vb (gd (isB false l) (xCmp ieq m (Value.int .u8 (.ofNat 40)))) fun o=>
 vb (xPick l tt o) fun p=>
 vb (gd (isB false p) (some a)) fun q=>
 vb (gd (isB false p) (xCmp ieq q (Value.int .u8 (.ofNat 41)))) fun r=>
 vb (xPick p tt r) fun s=>
 vb (gd (isB false s) (some a)) fun t=>
 vb (gd (isB false s) (xCmp ieq t (Value.int .u8 (.ofNat 91)))) fun v=>
 vb (xPick s tt v) fun w=>
 vb (gd (isB false w) (some a)) fun z=>
 vb (gd (isB false w) (xCmp ieq z (Value.int .u8 (.ofNat 93)))) fun a1=>
 vb (xPick w tt a1) fun b1=>
 some (b1,h)
theorem S164:OkF Tryz.prog 164 (A1 (F164 n cl)):=exA1 n ⟨[],[],[],[],[],[],[],[]⟩ hcl hmx Tryz.func164 (by kernel_rfl) fun _ _=>by kernel_rfl
def F147_0(n:Nat)(cl:CL)(a b c:Value)(h:PH):R:=
 hb (F69 n cl a (vN 4) b h) fun d h=>
 vb (abuild Tryz.prog 85 []) fun e=>
 hb (xStA 6 c e h) fun _ h=>
 vb (xLdA 6 c h) fun f=>some (f,h)
def F147_1(n:Nat)(cl:CL)(a b c:Value)(h:PH):R:=
 vb (xNil a) fun d=>
 vb (xFld 1 d) fun e=>
 vb (xLd e h) fun f=>
 vb (xAri Int.add f (vN 1)) fun g=>
 vb (xNil a) fun i=>
 vb (xFld 1 i) fun j=>
 hb (xSt1 j g h) fun _ h=>
 vb (xLdA 6 b h) fun k=>
 hb (xStA 6 c k h) fun _ h=>
 vb (xLdA 6 c h) fun l=>some (l,h)
def F147_2(n:Nat)(cl:CL)(a:Value)(b:Kt)(c d:Value)(h:PH):R:=
 vb (xNil a) fun e=>
 vb (xFld 1 e) fun f=>
 vb (xLd f h) fun g=>
 hb (F69 n cl a (vN 2) g h) fun i h=>
 b [a,c,d] h
def F147_3(n:Nat)(cl:CL)(a:List Value)(h:PH):R:=
 u3 a fun b c d=>F147_1 n cl b d c h
def F147_4(n:Nat)(cl:CL)(a b c:Value)(h:PH)(d:Kt):R:=
 vb (xNil a) fun e=>
 vb (xFld 2 e) fun f=>
 vb (xLd f h) fun g=>
 vb (xCmp ieq g (vN 0)) fun i=>
 vb (gd (isB true i) (some a)) fun j=>
 vb (gd (isB true i) (pcall (F96 n cl j (Value.int .u8 (.ofNat 41)) (h.fzn)))) fun k=>
 vb (gd (isB true i) (xNot k)) fun l=>
 vb (xPick i l ff) fun m=>
 bite m (F147_2 n cl a d b c h) (d [a,b,c] h)
def F147_5(n:Nat)(cl:CL)(a b c:Value)(h:PH):R:=
 vb (xNil a) fun d=>
 vb (xFld 1 d) fun e=>
 vb (xLd e h) fun f=>
 vb (xAri Int.add f (vN 1)) fun g=>
 vb (xNil a) fun i=>
 vb (xFld 1 i) fun j=>
 hb (xSt1 j g h) fun _ h=>
 vb (xAri Int.add b (vN 1)) fun k=>
 hb (cl 67 [a,k] h) fun l h=>
 hb (xAlloc (zcells Tryz.prog 85) h) fun m h=>
 hb (xStA 6 m l h) fun _ h=>
 jn (F147_3 n cl) (F147_4 n cl a c m h)
def F147_6(n:Nat)(cl:CL)(a b c d:Value)(h:PH):R:=
 vb (xCmp (fun x y=>ile y x) a (vN 20)) fun e=>
 bite e (F147_0 n cl b c d h) (F147_5 n cl b a d h)
def F147_7(n:Nat)(cl:CL)(a b:Value)(h:PH):R:=
 vb (xNil a) fun c=>
 vb (xFld 1 c) fun d=>
 vb (xLd d h) fun e=>
 vb (xAri Int.add e (vN 1)) fun f=>
 vb (xNil a) fun g=>
 vb (xFld 1 g) fun i=>
 hb (xSt1 i f h) fun _ h=>
 vb (pcall (F161 n cl (h.fzn))) fun j=>
 vb (abuild Tryz.prog 85 [(0,(vN 1)),(1,j)]) fun k=>
 hb (xStA 6 b k h) fun _ h=>
 vb (xLdA 6 b h) fun l=>some (l,h)
def F147_8(n:Nat)(cl:CL)(a b:Value)(h:PH):R:=
 vb (xNil a) fun c=>
 vb (xFld 1 c) fun d=>
 vb (xLd d h) fun e=>
 hb (F69 n cl a (vN 2) e h) fun f h=>
 vb (abuild Tryz.prog 85 []) fun g=>
 hb (xStA 6 b g h) fun _ h=>
 vb (xLdA 6 b h) fun i=>some (i,h)
def F147_9(n:Nat)(cl:CL)(a b:Value)(h:PH):R:=
 vb (xNil a) fun c=>
 vb (xFld 1 c) fun d=>
 vb (xLd d h) fun e=>
 vb (xAri Int.add e (vN 1)) fun f=>
 vb (xNil a) fun g=>
 vb (xFld 1 g) fun i=>
 hb (xSt1 i f h) fun _ h=>
 vb (xNil a) fun j=>
 vb (xFld 0 j) fun k=>
 vb (xNil a) fun l=>
 vb (xFld 1 l) fun m=>
 vb (xLd k h) fun o=>
 vb (xLd m h) fun p=>
 vb (xAri Int.sub p (vN 1)) fun q=>
 vb (aindex Tryz.prog 9 o q) fun r=>
 hb (fcall h (F162 n cl r (h.fzn))) fun s h=>
 hb (xStA 6 b s h) fun _ h=>
 vb (xLdA 6 b h) fun t=>some (t,h)
def F147_10(n:Nat)(cl:CL)(a b:Value)(h:PH):R:=
 vb (xNil a) fun c=>
 vb (xFld 1 c) fun d=>
 vb (xLd d h) fun e=>
 vb (xAri Int.add e (vN 1)) fun f=>
 vb (xNil a) fun g=>
 vb (xFld 1 g) fun i=>
 hb (xSt1 i f h) fun _ h=>
 vb (pcall (F68 n cl a (h.fzn))) fun j=>
 bite j (F147_8 n cl a b h) (F147_9 n cl a b h)
def F147_11(n:Nat)(cl:CL)(a b:Value)(h:PH):R:=
 vb (xNil a) fun c=>
 vb (xFld 1 c) fun d=>
 vb (xLd d h) fun e=>
 vb (xAri Int.add e (vN 1)) fun f=>
 vb (xNil a) fun g=>
 vb (xFld 1 g) fun i=>
 hb (xSt1 i f h) fun _ h=>
 hb (F163 n cl a h) fun j h=>
 hb (xStA 6 b j h) fun _ h=>
 vb (xLdA 6 b h) fun k=>some (k,h)
def F147_12(n:Nat)(cl:CL)(a b c:Value)(h:PH):R:=
 hb (F69 n cl a (vN 2) b h) fun d h=>
 vb (abuild Tryz.prog 85 []) fun e=>
 hb (xStA 6 c e h) fun _ h=>
 vb (xLdA 6 c h) fun f=>some (f,h)
def F147_13(n:Nat)(cl:CL)(a b c:Value)(h:PH):R:=
 vb (xNil a) fun d=>
 vb (xFld 1 d) fun e=>
 vb (xLd e h) fun f=>
 vb (xAri Int.add f (vN 1)) fun g=>
 vb (xNil a) fun i=>
 vb (xFld 1 i) fun j=>
 hb (xSt1 j g h) fun _ h=>
 hb (fcall h (F162 n cl b (h.fzn))) fun k h=>
 hb (xStA 6 c k h) fun _ h=>
 vb (xLdA 6 c h) fun l=>some (l,h)
def F147_14(n:Nat)(cl:CL)(a b c d:Value)(h:PH):R:=
 vb (pcall (F164 n cl a (h.fzn))) fun e=>
 bite e (F147_12 n cl b c d h) (F147_13 n cl b a d h)
def F147_15(n:Nat)(cl:CL)(a b c d:Value)(h:PH):R:=
 vb (xCmp ieq a (Value.int .u8 (.ofNat 91))) fun e=>
 bite e (F147_11 n cl b c h) (F147_14 n cl a b d c h)
def F147_16(n:Nat)(cl:CL)(a b c d:Value)(h:PH):R:=
 vb (xCmp ieq a (Value.int .u8 (.ofNat 92))) fun e=>
 bite e (F147_10 n cl b c h) (F147_15 n cl a b c d h)
def F147_17(n:Nat)(cl:CL)(a b c d:Value)(h:PH):R:=
 vb (xCmp ieq a (Value.int .u8 (.ofNat 46))) fun e=>
 bite e (F147_7 n cl b c h) (F147_16 n cl a b c d h)
def F147(n:Nat)(cl:CL)(a b:Value)(h:PH):R:=
 hb (xAlloc (zcells Tryz.prog 85) h) fun c h=>
 vb (xNil a) fun d=>
 vb (xFld 1 d) fun e=>
 vb (xLd e h) fun f=>
 vb (xNil a) fun g=>
 vb (xFld 0 g) fun i=>
 vb (xLd i h) fun j=>
 vb (aindex Tryz.prog 9 j f) fun k=>
 vb (xCmp ieq k (Value.int .u8 (.ofNat 40))) fun l=>
 bite l (F147_6 n cl b a f c h) (F147_17 n cl k a c f h)
theorem S147:OkF Tryz.prog 147 (A2 (F147 n cl)):=exA2 n ⟨[68,96,161,164],[162],[(11,[0,4,7])],[(22,[0,1,2,4,5,6,3,7,8,9,10,11])],[],[],[],[]⟩ (svc_ok (S69 n hcl) (svc_ok (S96 n hcl) (svc_ok (S161 n hcl) (svc_ok (S68 n hcl) (svc_ok (S162 n hcl) (svc_ok (S163 n hcl) (svc_ok (S164 n hcl) hcl))))))) hmx Tryz.func147 (by kernel_rfl) fun _ _ _=>by kernel_rfl
def F120_0(n:Nat)(cl:CL)(a b c:Value)(d:Kt)(e:Value)(h:PH):R:=
 vb (xNil a) fun f=>
 vb (xFld 1 f) fun g=>
 vb (xLd g h) fun i=>
 vb (xAri Int.add i (vN 1)) fun j=>
 vb (xNil a) fun k=>
 vb (xFld 1 k) fun l=>
 hb (xSt1 l j h) fun _ h=>
 vb (xLdA 6 b h) fun m=>
 hb (xBS 1 (bsRow Tryz.prog 83 1 [(0,m)]) h) fun o h=>
 vb (abuild Tryz.prog 85 [(0,c),(2,o)]) fun p=>
 hb (xStA 6 b p h) fun _ h=>
 d [a,e,b] h
def F120_1(n:Nat)(cl:CL)(a:Kt)(b:List Value)(h:PH):R:=
 u4 b fun c d e f=>F120_0 n cl c e f a d h
def F120_2(n:Nat)(cl:CL)(a b c d:Value)(h:PH)(e:Kt):R:=
 vb (pcall (F96 n cl a (Value.int .u8 (.ofNat 63)) (h.fzn))) fun f=>
 bite f (e [a,b,c,(vN 6)] h) (e [a,b,c,d] h)
def F120_3(n:Nat)(cl:CL)(a:Kt)(b:List Value)(h:PH):R:=
 u4 b fun c d e f=>jn (F120_1 n cl a) (F120_2 n cl c d e f h)
def F120_4(n:Nat)(cl:CL)(a b c:Value)(h:PH)(d:Kt):R:=
 vb (pcall (F96 n cl a (Value.int .u8 (.ofNat 43)) (h.fzn))) fun e=>
 bite e (d [a,b,c,(vN 5)] h) (d [a,b,c,(vN 4)] h)
def F120_5(n:Nat)(cl:CL)(a b:Value)(h:PH):R:=
 vb (xLdA 6 a h) fun c=>
 hb (xStA 6 b c h) fun _ h=>
 vb (xLdA 6 b h) fun d=>some (d,h)
def F120_6(n:Nat)(cl:CL)(a:Value)(b:Kt)(c d:Value)(h:PH):R:=
 vb (xNil a) fun e=>
 vb (xFld 2 e) fun f=>
 vb (xLd f h) fun g=>
 vb (xCmp ieq g (vN 0)) fun i=>
 vb (gd (isB true i) (some a)) fun j=>
 vb (gd (isB true i) (pcall (F96 n cl j (Value.int .u8 (.ofNat 42)) (h.fzn)))) fun k=>
 vb (gd (isB true i) (some k)) fun l=>
 vb (gd (isB false l) (some a)) fun m=>
 vb (gd (isB false l) (pcall (F96 n cl m (Value.int .u8 (.ofNat 43)) (h.fzn)))) fun o=>
 vb (gd (isB true i) (xPick l tt o)) fun p=>
 vb (gd (isB true i) (some p)) fun q=>
 vb (gd (isB false q) (some a)) fun r=>
 vb (gd (isB false q) (pcall (F96 n cl r (Value.int .u8 (.ofNat 63)) (h.fzn)))) fun s=>
 vb (gd (isB true i) (xPick q tt s)) fun t=>
 vb (xPick i t ff) fun v=>
 bite v (jn (F120_3 n cl b) (F120_4 n cl a c d h)) (F120_5 n cl d c h)
def F120_7(n:Nat)(cl:CL)(a:Kt)(b:List Value)(h:PH):R:=
 u3 b fun c d e=>F120_6 n cl c a d e h
def F120(n:Nat)(cl:CL)(a b:Value)(h:PH):R:=
 hb (xAlloc (zcells Tryz.prog 85) h) fun c h=>
 hb (F147 n cl a b h) fun d h=>
 hb (xAlloc (zcells Tryz.prog 85) h) fun e h=>
 hb (xStA 6 e d h) fun _ h=>
 lp n (F120_7 n cl) [a,c,e] h
theorem S120:OkF Tryz.prog 120 (A2 (F120 n cl)):=exA2 n ⟨[96],[],[(2,[0,4,5]),(6,[0,4,5,6]),(8,[0,4,5,6])],[],[],[],[],[]⟩ (svc_ok (S147 n hcl) (svc_ok (S96 n hcl) hcl)) hmx Tryz.func120 (by kernel_rfl) fun _ _ _=>by kernel_rfl
def F95_0(n:Nat)(cl:CL)(a b c:Value)(d:Kt)(e:Value)(h:PH):R:=
 hb (F120 n cl a b h) fun f h=>
 hb (xBS 1 (bsRow Tryz.prog 83 1 [(0,f)]) h) fun g h=>
 hb (xApp (appInfo Tryz.prog #[83,83]) c g h) fun i h=>
 d [a,b,e,i] h
def F95_1(n:Nat)(cl:CL)(a:Value)(h:PH):R:=
 vb (abuild Tryz.prog 85 []) fun b=>
 hb (xStA 6 a b h) fun _ h=>
 vb (xLdA 6 a h) fun c=>some (c,h)
def F95_2(n:Nat)(cl:CL)(a b:Value)(h:PH):R:=
 vb (xIdxS 6 a (vN 0)) fun c=>
 vb (xLdA 6 c h) fun d=>
 hb (xStA 6 b d h) fun _ h=>
 vb (xLdA 6 b h) fun e=>some (e,h)
def F95_3(n:Nat)(cl:CL)(a b:Value)(h:PH):R:=
 vb (abuild Tryz.prog 85 [(0,(vN 2)),(2,a)]) fun c=>
 hb (xStA 6 b c h) fun _ h=>
 vb (xLdA 6 b h) fun d=>some (d,h)
def F95_4(n:Nat)(cl:CL)(a b c:Value)(h:PH):R:=
 vb (xCmp ieq a (vN 1)) fun d=>
 bite d (F95_2 n cl b c h) (F95_3 n cl b c h)
def F95_5(n:Nat)(cl:CL)(a b:Value)(h:PH):R:=
 vb (xLenS a) fun c=>
 vb (xCmp ieq c (vN 0)) fun d=>
 bite d (F95_1 n cl b h) (F95_4 n cl c a b h)
def F95_6(n:Nat)(cl:CL)(a b c:Value)(d:Kt)(e:Value)(h:PH):R:=
 vb (xNil a) fun f=>
 vb (xFld 2 f) fun g=>
 vb (xLd g h) fun i=>
 vb (xCmp ieq i (vN 0)) fun j=>
 vb (gd (isB true j) (some a)) fun k=>
 vb (gd (isB true j) (pcall (F68 n cl k (h.fzn)))) fun l=>
 vb (gd (isB true j) (xNot l)) fun m=>
 vb (xPick j m ff) fun o=>
 vb (gd (isB true o) (some a)) fun p=>
 vb (gd (isB true o) (pcall (F96 n cl p (Value.int .u8 (.ofNat 124)) (h.fzn)))) fun q=>
 vb (gd (isB true o) (xNot q)) fun r=>
 vb (xPick o r ff) fun s=>
 vb (gd (isB true s) (some a)) fun t=>
 vb (gd (isB true s) (pcall (F96 n cl t (Value.int .u8 (.ofNat 41)) (h.fzn)))) fun v=>
 vb (gd (isB true s) (xNot v)) fun w=>
 vb (xPick s w ff) fun z=>
 bite z (F95_0 n cl a b c d e h) (F95_5 n cl c e h)
def F95_7(n:Nat)(cl:CL)(a:Kt)(b:List Value)(h:PH):R:=
 u4 b fun c d e f=>F95_6 n cl c d f a e h
def F95(n:Nat)(cl:CL)(a b:Value)(h:PH):R:=
 hb (xAlloc (zcells Tryz.prog 85) h) fun c h=>
 lp n (F95_7 n cl) [a,b,c,nils] h
theorem S95:OkF Tryz.prog 95 (A2 (F95 n cl)):=exA2 n ⟨[68,96],[],[(2,[0,1,4,5])],[],[],[],[],[]⟩ (svc_ok (S68 n hcl) (svc_ok (S96 n hcl) (svc_ok (S120 n hcl) hcl))) hmx Tryz.func95 (by kernel_rfl) fun _ _ _=>by kernel_rfl
def F67_0(n:Nat)(cl:CL)(a b c:Value)(d:Kt)(e:Value)(h:PH):R:=
 vb (xNil a) fun f=>
 vb (xFld 1 f) fun g=>
 vb (xLd g h) fun i=>
 vb (xAri Int.add i (vN 1)) fun j=>
 vb (xNil a) fun k=>
 vb (xFld 1 k) fun l=>
 hb (xSt1 l j h) fun _ h=>
 hb (F95 n cl a b h) fun m h=>
 hb (xBS 1 (bsRow Tryz.prog 83 1 [(0,m)]) h) fun o h=>
 hb (xApp (appInfo Tryz.prog #[83,83]) c o h) fun p h=>
 d [a,b,e,p] h
def F67_1(n:Nat)(cl:CL)(a b:Value)(h:PH):R:=
 vb (xIdxS 6 a (vN 0)) fun c=>
 vb (xLdA 6 c h) fun d=>
 hb (xStA 6 b d h) fun _ h=>
 vb (xLdA 6 b h) fun e=>some (e,h)
def F67_2(n:Nat)(cl:CL)(a b:Value)(h:PH):R:=
 vb (abuild Tryz.prog 85 [(0,(vN 3)),(2,a)]) fun c=>
 hb (xStA 6 b c h) fun _ h=>
 vb (xLdA 6 b h) fun d=>some (d,h)
def F67_3(n:Nat)(cl:CL)(a b:Value)(h:PH):R:=
 vb (xLenS a) fun c=>
 vb (xCmp ieq c (vN 1)) fun d=>
 bite d (F67_1 n cl a b h) (F67_2 n cl a b h)
def F67_4(n:Nat)(cl:CL)(a b c:Value)(d:Kt)(e:Value)(h:PH):R:=
 vb (xNil a) fun f=>
 vb (xFld 2 f) fun g=>
 vb (xLd g h) fun i=>
 vb (xCmp ieq i (vN 0)) fun j=>
 vb (gd (isB true j) (some a)) fun k=>
 vb (gd (isB true j) (pcall (F96 n cl k (Value.int .u8 (.ofNat 124)) (h.fzn)))) fun l=>
 vb (xPick j l ff) fun m=>
 bite m (F67_0 n cl a b c d e h) (F67_3 n cl c e h)
def F67_5(n:Nat)(cl:CL)(a:Kt)(b:List Value)(h:PH):R:=
 u4 b fun c d e f=>F67_4 n cl c d f a e h
def F67(n:Nat)(cl:CL)(a b:Value)(h:PH):R:=
 hb (xAlloc (zcells Tryz.prog 85) h) fun c h=>
 hb (F95 n cl a b h) fun d h=>
 hb (xBS 1 (bsRow Tryz.prog 83 1 [(0,d)]) h) fun e h=>
 lp n (F67_5 n cl) [a,b,c,e] h
theorem S67:OkF Tryz.prog 67 (A2 (F67 n cl)):=exA2 n ⟨[96],[],[(2,[0,1,4,5])],[],[],[],[],[]⟩ (svc_ok (S95 n hcl) (svc_ok (S96 n hcl) hcl)) hmx Tryz.func67 (by kernel_rfl) fun _ _ _=>by kernel_rfl
def F70_0(n:Nat)(cl:CL)(a b c:Value)(d:Kt)(h:PH):R:=
 vb (xFld 5 a) fun e=>
 vb (xLd e h) fun f=>
 vb (xIdxS 6 f b) fun g=>
 vb (xLdA 6 g h) fun i=>
 vb (pcall (cl 70 [i] (h.fzn))) fun j=>
 vb (xAri Int.add c j) fun k=>
 vb (xAri Int.add b (vN 1)) fun l=>
 d [a,k,l] h
def F70_1(n:Nat)(cl:CL)(a b c:Value)(d:Kt)(h:PH):R:=
 vb (xFld 5 a) fun e=>
 vb (xLd e h) fun f=>
 vb (xLenS f) fun g=>
 vb (xCmp ilt b g) fun i=>
 vb (gd (isB true i) (some b)) fun j=>
 vb (gd (isB true i) (xCmp ieq j (vN 0))) fun k=>
 vb (gd (isB true i) (some k)) fun l=>
 vb (gd (isB false l) (xFld 0 a)) fun m=>
 vb (gd (isB false l) (xLd m h)) fun o=>
 vb (gd (isB false l) (xCmp ile o (vN 3))) fun p=>
 vb (gd (isB true i) (xPick l tt p)) fun q=>
 vb (xPick i q ff) fun r=>
 vb (gd (isB true r) (some c)) fun s=>
 vb (gd (isB true r) (xCmp ile s (vN 150))) fun t=>
 vb (xPick r t ff) fun v=>
 bite v (F70_0 n cl a b c d h) (some (c,h))
def F70_2(n:Nat)(cl:CL)(a:Kt)(b:List Value)(h:PH):R:=
 u3 b fun c d e=>F70_1 n cl c e d a h
def F70_3(n:Nat)(cl:CL)(a:Value)(h:PH):R:=
 vb (xFld 0 a) fun b=>
 vb (xLd b h) fun c=>
 vb (xCmp ilt c (vN 2)) fun d=>
 vb (gd (isB false d) (xFld 0 a)) fun e=>
 vb (gd (isB false d) (xLd e h)) fun f=>
 vb (gd (isB false d) (xCmp (fun x y=>ilt y x) f (vN 6))) fun g=>
 vb (xPick d tt g) fun i=>
 bite i (some ((vN 0),h)) (lp n (F70_2 n cl) [a,(vN 0),(vN 0)] h)
def F70(n:Nat)(cl:CL)(a:Value)(h:PH):R:=
 hb (xBox a h) fun b h=>
 vb (xFld 0 b) fun c=>
 vb (xLd c h) fun d=>
 vb (xCmp ieq d (vN 1)) fun e=>
 bite e (some ((vN 1),h)) (F70_3 n cl b h)
theorem S70:OkF Tryz.prog 70 (A1 (F70 n cl)):=exA1 n ⟨[70],[],[(7,[1,3,4])],[],[],[],[],[]⟩ hcl hmx Tryz.func70 (by kernel_rfl) fun _ _=>by kernel_rfl
def F71_0(n:Nat)(cl:CL)(a:Value)(b:Kt)(c d:Value)(h:PH):R:=
 vb (xAri Int.add a (vN 1)) fun e=>
 b [c,d,e] h
def F71_1(n:Nat)(cl:CL)(a:Kt)(b:List Value)(h:PH):R:=
 u3 b fun c d e=>F71_0 n cl e a c d h
def F71_2(n:Nat)(cl:CL)(a b c:Value)(h:PH)(d:Kt):R:=
 vb (xFld 5 a) fun e=>
 vb (xLd e h) fun f=>
 vb (xIdxS 6 f b) fun g=>
 vb (xLdA 6 g h) fun i=>
 vb (pcall (cl 71 [i] (h.fzn))) fun j=>
 vb (xCmp (fun x y=>ilt y x) j c) fun k=>
 bite k (d [a,j,b] h) (d [a,c,b] h)
def F71_3(n:Nat)(cl:CL)(a:Value)(h:PH):R:=
 vb (xAri Int.add a (vN 1)) fun b=>
 some (b,h)
def F71_4(n:Nat)(cl:CL)(a b:Value)(c:Kt)(d:Value)(h:PH):R:=
 vb (xFld 5 a) fun e=>
 vb (xLd e h) fun f=>
 vb (xLenS f) fun g=>
 vb (xCmp ilt b g) fun i=>
 vb (gd (isB true i) (xFld 0 a)) fun j=>
 vb (gd (isB true i) (xLd j h)) fun k=>
 vb (gd (isB true i) (xCmp (fun x y=>ile y x) k (vN 2))) fun l=>
 vb (xPick i l ff) fun m=>
 vb (gd (isB true m) (xFld 0 a)) fun o=>
 vb (gd (isB true m) (xLd o h)) fun p=>
 vb (gd (isB true m) (xCmp ile p (vN 6))) fun q=>
 vb (xPick m q ff) fun r=>
 vb (gd (isB true r) (some b)) fun s=>
 vb (gd (isB true r) (xCmp ieq s (vN 0))) fun t=>
 vb (gd (isB true r) (some t)) fun v=>
 vb (gd (isB false v) (xFld 0 a)) fun w=>
 vb (gd (isB false v) (xLd w h)) fun z=>
 vb (gd (isB false v) (xCmp ile z (vN 3))) fun a1=>
 vb (gd (isB true r) (xPick v tt a1)) fun b1=>
 vb (xPick r b1 ff) fun c1=>
 bite c1 (jn (F71_1 n cl c) (F71_2 n cl a b d h)) (F71_3 n cl d h)
def F71_5(n:Nat)(cl:CL)(a:Kt)(b:List Value)(h:PH):R:=
 u3 b fun c d e=>F71_4 n cl c e a d h
def F71(n:Nat)(cl:CL)(a:Value)(h:PH):R:=
 hb (xBox a h) fun b h=>
 lp n (F71_5 n cl) [b,(vN 0),(vN 0)] h
theorem S71:OkF Tryz.prog 71 (A1 (F71 n cl)):=exA1 n ⟨[71],[],[(3,[1,3,4]),(4,[1,3,4])],[],[],[],[],[]⟩ hcl hmx Tryz.func71 (by kernel_rfl) fun _ _=>by kernel_rfl
def F98_0(n:Nat)(cl:CL)(a b c:Value)(d:Kt)(e f:Value)(h:PH):R:=
 vb (xIdxS 1 a b) fun g=>
 vb (xLd g h) fun i=>
 hb (xBS 1 (bsRow Tryz.prog 49 1 [(0,i)]) h) fun j h=>
 hb (xApp (appInfo Tryz.prog #[49,49]) c j h) fun k h=>
 vb (xAri Int.add b (vN 1)) fun l=>
 d [a,e,k,l,f] h
def F98_1(n:Nat)(cl:CL)(a b c:Value)(d:Kt)(e f:Value)(h:PH):R:=
 vb (xIdxS 1 a b) fun g=>
 vb (xLd g h) fun i=>
 hb (xBS 1 (bsRow Tryz.prog 49 1 [(0,i)]) h) fun j h=>
 hb (xApp (appInfo Tryz.prog #[49,49]) c j h) fun k h=>
 vb (xAri Int.add b (vN 1)) fun l=>
 d [e,a,k,f,l] h
def F98_2(n:Nat)(cl:CL)(a b c d:Value)(e:Kt)(f:Value)(h:PH):R:=
 vb (xIdxS 1 a b) fun g=>
 vb (xLd g h) fun i=>
 hb (xBS 1 (bsRow Tryz.prog 49 1 [(0,i)]) h) fun j h=>
 hb (xApp (appInfo Tryz.prog #[49,49]) c j h) fun k h=>
 vb (xAri Int.add b (vN 1)) fun l=>
 vb (xAri Int.add d (vN 1)) fun m=>
 e [a,f,k,l,m] h
def F98_3(n:Nat)(cl:CL)(a b c d e:Value)(f:Kt)(h:PH):R:=
 vb (xLenS a) fun g=>
 vb (xCmp (fun x y=>ile y x) b g) fun i=>
 vb (gd (isB false i) (some c)) fun j=>
 vb (gd (isB false i) (some d)) fun k=>
 vb (gd (isB false i) (xIdxS 1 j k)) fun l=>
 vb (gd (isB false i) (some a)) fun m=>
 vb (gd (isB false i) (some b)) fun o=>
 vb (gd (isB false i) (xIdxS 1 m o)) fun p=>
 vb (gd (isB false i) (xLd l h)) fun q=>
 vb (gd (isB false i) (xLd p h)) fun r=>
 vb (gd (isB false i) (xCmp ilt q r)) fun s=>
 vb (xPick i tt s) fun t=>
 bite t (F98_1 n cl c d e f a b h) (F98_2 n cl a b e d f c h)
def F98_4(n:Nat)(cl:CL)(a b c d e:Value)(f:Kt)(h:PH):R:=
 vb (xLenS a) fun g=>
 vb (xCmp (fun x y=>ile y x) b g) fun i=>
 vb (gd (isB false i) (some c)) fun j=>
 vb (gd (isB false i) (some d)) fun k=>
 vb (gd (isB false i) (xLenS k)) fun l=>
 vb (gd (isB false i) (xCmp ilt j l)) fun m=>
 vb (gd (isB false i) (some m)) fun o=>
 vb (gd (isB true o) (some d)) fun p=>
 vb (gd (isB true o) (some c)) fun q=>
 vb (gd (isB true o) (xIdxS 1 p q)) fun r=>
 vb (gd (isB true o) (some a)) fun s=>
 vb (gd (isB true o) (some b)) fun t=>
 vb (gd (isB true o) (xIdxS 1 s t)) fun v=>
 vb (gd (isB true o) (xLd r h)) fun w=>
 vb (gd (isB true o) (xLd v h)) fun z=>
 vb (gd (isB true o) (xCmp ilt w z)) fun a1=>
 vb (gd (isB false i) (xPick o a1 ff)) fun b1=>
 vb (xPick i tt b1) fun c1=>
 bite c1 (F98_0 n cl d c e f a b h) (F98_3 n cl d c a b e f h)
def F98_5(n:Nat)(cl:CL)(a b c d e:Value)(f:Kt)(h:PH):R:=
 vb (xLenS a) fun g=>
 vb (xCmp ilt b g) fun i=>
 vb (gd (isB false i) (some c)) fun j=>
 vb (gd (isB false i) (some d)) fun k=>
 vb (gd (isB false i) (xLenS k)) fun l=>
 vb (gd (isB false i) (xCmp ilt j l)) fun m=>
 vb (xPick i tt m) fun o=>
 bite o (F98_4 n cl d c b a e f h) (some (e,h))
def F98_6(n:Nat)(cl:CL)(a:Kt)(b:List Value)(h:PH):R:=
 u5 b fun c d e f g=>F98_5 n cl c f g d e a h
def F98(n:Nat)(cl:CL)(a b:Value)(h:PH):R:=
 lp n (F98_6 n cl) [a,b,nils,(vN 0),(vN 0)] h
theorem S98:OkF Tryz.prog 98 (A2 (F98 n cl)):=exA2 n ⟨[],[],[(4,[0,1,5,6,7])],[(8,[0,1,2,3,4,5,6,7,8,9,10,11,12,14,15,16,13,17,18,19,20,21]),(11,[0,1,2,3,4,5,6,7,9,10,11,8,12,13,14,15])],[],[],[],[]⟩ hcl hmx Tryz.func98 (by kernel_rfl) fun _ _ _=>by kernel_rfl
def F97_0(n:Nat)(cl:CL)(a b c d:Value)(e:Kt)(h:PH):R:=
 vb (xNil a) fun f=>
 vb (xFld 0 f) fun g=>
 vb (xFld 4 g) fun i=>
 vb (xIdxS 1 b c) fun j=>
 vb (xNil a) fun k=>
 vb (xFld 0 k) fun l=>
 vb (xFld 4 l) fun m=>
 vb (xIdxS 1 b c) fun o=>
 vb (xLd i h) fun p=>
 vb (xLd j h) fun q=>
 vb (xLd m h) fun r=>
 vb (xLd o h) fun s=>
 vb (xIdxS 1 r s) fun t=>
 vb (xLd t h) fun v=>
 hb (fcall h (F98 n cl v d (h.fzn))) fun w h=>
 lchk (xLd i h) p<|
 lchk (xLd j h) q<|
 vb (xIdxS 1 p q) fun z=>
 hb (xSt1 z w h) fun _ h=>
 vb (xAri Int.add c (vN 1)) fun a1=>
 e [a,b,d,a1] h
def F97_1(n:Nat)(cl:CL)(a b c d:Value)(e:Kt)(h:PH):R:=
 vb (xLenS a) fun f=>
 vb (xCmp ilt b f) fun g=>
 bite g (F97_0 n cl c a b d e h) (some (Value.tuple ⟨[]⟩,h))
def F97_2(n:Nat)(cl:CL)(a:Kt)(b:List Value)(h:PH):R:=
 u4 b fun c d e f=>F97_1 n cl d f c e a h
def F97(n:Nat)(cl:CL)(a b c:Value)(h:PH):R:=
 lp n (F97_2 n cl) [a,b,c,(vN 0)] h
theorem S97:OkF Tryz.prog 97 (A3 (F97 n cl)):=exA3 n ⟨[],[98],[(1,[0,1,2,6])],[(3,[0,1,2,3,5,6,7,9,10,11,12,14,15,16,20,4,8,13,17,18,19,21,22,23])],[(3,[4,8,21])],[],[],[]⟩ (svc_ok (S98 n hcl) hcl) hmx Tryz.func97 (by kernel_rfl) fun _ _ _ _=>by kernel_rfl
def F72_0(n:Nat)(cl:CL)(a b c:Value)(d:Kt)(e f g:Value)(h:PH):R:=
 vb (xFld 0 a) fun i=>
 vb (xLd i h) fun j=>
 vb (gd (isB true j) (xFld 0 b)) fun k=>
 vb (gd (isB true j) (xLd k h)) fun l=>
 vb (xPick j l ff) fun m=>
 vb (xFld 0 a) fun o=>
 hb (xSt1 o m h) fun _ h=>
 vb (xAri Int.add c (vN 1)) fun p=>
 d [e,f,g,a,p] h
def F72_1(n:Nat)(cl:CL)(a b:Value)(c:Kt)(d e f g:Value)(h:PH):R:=
 vb (xFld 2 a) fun i=>
 vb (xLd i h) fun j=>
 vb (xFld 2 b) fun k=>
 vb (xLd k h) fun l=>
 hb (fcall h (F98 n cl j l (h.fzn))) fun m h=>
 vb (xFld 2 a) fun o=>
 hb (xSt1 o m h) fun _ h=>
 c [d,e,f,a,g,b] h
def F72_2(n:Nat)(cl:CL)(a b:Value)(c:Kt)(d e f g:Value)(h:PH):R:=
 vb (xFld 2 a) fun i=>
 vb (xLd i h) fun j=>
 vb (xFld 2 b) fun k=>
 hb (xSt1 k j h) fun _ h=>
 c [d,e,f,b,g,a] h
def F72_3(n:Nat)(cl:CL)(a:Kt)(b:List Value)(h:PH):R:=
 u6 b fun c d e f g i=>F72_0 n cl f i g a c d e h
def F72_4(n:Nat)(cl:CL)(a b c d e f:Value)(h:PH)(g:Kt):R:=
 vb (xFld 0 a) fun i=>
 vb (xLd i h) fun j=>
 bite j (F72_1 n cl b a g c d e f h) (F72_2 n cl a b g c d e f h)
def F72_5(n:Nat)(cl:CL)(a b:Value)(c:Kt)(d e f g:Value)(h:PH):R:=
 vb (xFld 1 a) fun i=>
 vb (xLd i h) fun j=>
 vb (xFld 1 b) fun k=>
 vb (xLd k h) fun l=>
 hb (fcall h (F98 n cl j l (h.fzn))) fun m h=>
 vb (xFld 1 a) fun o=>
 hb (xSt1 o m h) fun _ h=>
 c [d,e,f,a,g,b] h
def F72_6(n:Nat)(cl:CL)(a:Kt)(b:List Value)(h:PH):R:=
 u6 b fun c d e f g i=>jn (F72_3 n cl a) (F72_4 n cl i f c d e g h)
def F72_7(n:Nat)(cl:CL)(a b c d e f:Value)(h:PH)(g:Kt):R:=
 vb (xFld 0 a) fun i=>
 vb (xLd i h) fun j=>
 bite j (F72_5 n cl a b g c d e f h) (g [c,d,e,a,f,b] h)
def F72_8(n:Nat)(cl:CL)(a b c d:Value)(e:Kt)(f:Value)(h:PH):R:=
 vb (xFld 5 a) fun g=>
 vb (xLd g h) fun i=>
 vb (xIdxS 6 i b) fun j=>
 vb (xLdA 6 j h) fun k=>
 hb (cl 72 [c,k] h) fun l h=>
 hb (xAlloc (zcells Tryz.prog 146) h) fun m h=>
 hb (xStA 3 m l h) fun _ h=>
 vb (xFld 2 d) fun o=>
 vb (xLd o h) fun p=>
 vb (xFld 1 m) fun q=>
 vb (xLd q h) fun r=>
 hb (F97 n cl c p r h) fun s h=>
 jn (F72_6 n cl e) (F72_7 n cl d m c a f b h)
def F72_9(n:Nat)(cl:CL)(a b:Value)(h:PH):R:=
 vb (xLdA 3 a h) fun c=>
 hb (xStA 3 b c h) fun _ h=>
 vb (xLdA 3 b h) fun d=>some (d,h)
def F72_10(n:Nat)(cl:CL)(a b c d:Value)(e:Kt)(f:Value)(h:PH):R:=
 vb (xFld 5 a) fun g=>
 vb (xLd g h) fun i=>
 vb (xLenS i) fun j=>
 vb (xCmp ilt b j) fun k=>
 bite k (F72_8 n cl a b c d e f h) (F72_9 n cl d f h)
def F72_11(n:Nat)(cl:CL)(a:Kt)(b:List Value)(h:PH):R:=
 u5 b fun c d e f g=>F72_10 n cl d g c f a e h
def F72_12(n:Nat)(cl:CL)(a b c:Value)(h:PH):R:=
 vb (abuild Tryz.prog 146 [(0,tt)]) fun d=>
 hb (xAlloc (zcells Tryz.prog 146) h) fun e h=>
 hb (xStA 3 e d h) fun _ h=>
 lp n (F72_11 n cl) [a,b,c,e,(vN 0)] h
def F72_13(n:Nat)(cl:CL)(a b c d:Value)(e:Kt)(f:Value)(h:PH):R:=
 vb (xFld 5 a) fun g=>
 vb (xLd g h) fun i=>
 vb (xIdxS 6 i b) fun j=>
 vb (xLdA 6 j h) fun k=>
 hb (cl 72 [c,k] h) fun l h=>
 hb (xAlloc (zcells Tryz.prog 146) h) fun m h=>
 hb (xStA 3 m l h) fun _ h=>
 vb (xFld 1 d) fun o=>
 vb (xLd o h) fun p=>
 vb (xFld 1 m) fun q=>
 vb (xLd q h) fun r=>
 hb (fcall h (F98 n cl p r (h.fzn))) fun s h=>
 vb (xFld 1 d) fun t=>
 hb (xSt1 t s h) fun _ h=>
 vb (xFld 2 d) fun v=>
 vb (xLd v h) fun w=>
 vb (xFld 2 m) fun z=>
 vb (xLd z h) fun a1=>
 hb (fcall h (F98 n cl w a1 (h.fzn))) fun b1 h=>
 vb (xFld 2 d) fun c1=>
 hb (xSt1 c1 b1 h) fun _ h=>
 vb (xFld 0 d) fun d1=>
 vb (xLd d1 h) fun e1=>
 vb (gd (isB false e1) (xFld 0 m)) fun f1=>
 vb (gd (isB false e1) (xLd f1 h)) fun g1=>
 vb (xPick e1 tt g1) fun i1=>
 vb (xFld 0 d) fun j1=>
 hb (xSt1 j1 i1 h) fun _ h=>
 vb (xAri Int.add b (vN 1)) fun k1=>
 e [c,a,f,d,k1] h
def F72_14(n:Nat)(cl:CL)(a b:Value)(h:PH):R:=
 vb (xLdA 3 a h) fun c=>
 hb (xStA 3 b c h) fun _ h=>
 vb (xLdA 3 b h) fun d=>some (d,h)
def F72_15(n:Nat)(cl:CL)(a b c d:Value)(e:Kt)(f:Value)(h:PH):R:=
 vb (xFld 5 a) fun g=>
 vb (xLd g h) fun i=>
 vb (xLenS i) fun j=>
 vb (xCmp ilt b j) fun k=>
 bite k (F72_13 n cl a b c d e f h) (F72_14 n cl d f h)
def F72_16(n:Nat)(cl:CL)(a:Kt)(b:List Value)(h:PH):R:=
 u5 b fun c d e f g=>F72_15 n cl d g c f a e h
def F72_17(n:Nat)(cl:CL)(a b c:Value)(h:PH):R:=
 hb (xAlloc (zcells Tryz.prog 146) h) fun d h=>
 lp n (F72_16 n cl) [a,b,c,d,(vN 0)] h
def F72_18(n:Nat)(cl:CL)(a:Value)(h:PH):R:=
 vb (abuild Tryz.prog 146 [(0,tt)]) fun b=>
 hb (xStA 3 a b h) fun _ h=>
 vb (xLdA 3 a h) fun c=>some (c,h)
def F72_19(n:Nat)(cl:CL)(a b:Value)(h:PH):R:=
 vb (xLdA 3 a h) fun c=>
 hb (xStA 3 b c h) fun _ h=>
 vb (xLdA 3 b h) fun d=>some (d,h)
def F72_20(n:Nat)(cl:CL)(a:Value)(b:Kt)(c:Value)(h:PH):R:=
 vb (xFld 0 a) fun d=>
 hb (xSt1 d tt h) fun _ h=>
 b [c,a] h
def F72_21(n:Nat)(cl:CL)(a b c:Value)(h:PH)(d:Kt):R:=
 vb (xFld 0 a) fun e=>
 vb (xLd e h) fun f=>
 vb (xCmp ine f (vN 5)) fun g=>
 bite g (F72_20 n cl b d c h) (d [c,b] h)
def F72_22(n:Nat)(cl:CL)(a b c:Value)(h:PH):R:=
 jn (fun d h=>ucons d fun e f=>ucons f fun g i=>F72_19 n cl g e h) (F72_21 n cl a b c h)
def F72_23(n:Nat)(cl:CL)(a b:Value)(c:Kt)(d e:Value)(h:PH):R:=
 vb (xFld 2 a) fun f=>
 vb (xLd f h) fun g=>
 vb (xFld 1 a) fun i=>
 vb (xLd i h) fun j=>
 hb (F97 n cl b g j h) fun k h=>
 c [d,e,a] h
def F72_24(n:Nat)(cl:CL)(a:List Value)(h:PH):R:=
 u3 a fun b c d=>F72_22 n cl b d c h
def F72_25(n:Nat)(cl:CL)(a b c d:Value)(h:PH)(e:Kt):R:=
 vb (xFld 0 a) fun f=>
 vb (xLd f h) fun g=>
 vb (xCmp ine g (vN 6)) fun i=>
 bite i (F72_23 n cl b c e a d h) (e [a,d,b] h)
def F72_26(n:Nat)(cl:CL)(a b c:Value)(h:PH):R:=
 vb (xFld 5 a) fun d=>
 vb (xLd d h) fun e=>
 vb (xIdxS 6 e (vN 0)) fun f=>
 vb (xLdA 6 f h) fun g=>
 hb (cl 72 [b,g] h) fun i h=>
 hb (xAlloc (zcells Tryz.prog 146) h) fun j h=>
 hb (xStA 3 j i h) fun _ h=>
 jn (F72_24 n cl) (F72_25 n cl a j b c h)
def F72_27(n:Nat)(cl:CL)(a b c:Value)(h:PH):R:=
 vb (xFld 5 a) fun d=>
 vb (xLd d h) fun e=>
 vb (xLenS e) fun f=>
 vb (xCmp ieq f (vN 0)) fun g=>
 bite g (F72_18 n cl b h) (F72_26 n cl a c b h)
def F72_28(n:Nat)(cl:CL)(a:Value)(h:PH):R:=
 vb (abuild Tryz.prog 146 [(0,tt)]) fun b=>
 hb (xStA 3 a b h) fun _ h=>
 vb (xLdA 3 a h) fun c=>some (c,h)
def F72_29(n:Nat)(cl:CL)(a:Value)(b:Kt)(c d e:Value)(h:PH):R:=
 vb (xCmp ieq a (vN 6)) fun f=>
 b [c,d,e,f] h
def F72_30(n:Nat)(cl:CL)(a:Value)(b:Kt)(c d e:Value)(h:PH):R:=
 vb (xCmp ieq a (vN 5)) fun f=>
 bite f (b [c,d,e,f] h) (F72_29 n cl a b c d e h)
def F72_31(n:Nat)(cl:CL)(a:List Value)(h:PH):R:=
 u4 a fun b c d e=>bite e (F72_27 n cl c d b h) (F72_28 n cl d h)
def F72_32(n:Nat)(cl:CL)(a b c d:Value)(h:PH)(e:Kt):R:=
 vb (xCmp ieq a (vN 4)) fun f=>
 bite f (e [b,c,d,f] h) (F72_30 n cl a e b c d h)
def F72_33(n:Nat)(cl:CL)(a b c d:Value)(h:PH):R:=
 vb (xCmp ieq a (vN 3)) fun e=>
 bite e (F72_17 n cl b c d h) (jn (F72_31 n cl) (F72_32 n cl a b c d h))
def F72_34(n:Nat)(cl:CL)(a b c:Value)(h:PH):R:=
 vb (xFld 0 a) fun d=>
 vb (xLd d h) fun e=>
 vb (xCmp ieq e (vN 2)) fun f=>
 bite f (F72_12 n cl b a c h) (F72_33 n cl e b a c h)
def F72_35(n:Nat)(cl:CL)(a b c:Value)(h:PH):R:=
 vb (xNil a) fun d=>
 vb (xFld 0 d) fun e=>
 vb (xFld 0 e) fun f=>
 vb (xLd f h) fun g=>
 vb (xLenS g) fun i=>
 vb (xNil a) fun j=>
 vb (xFld 0 j) fun k=>
 vb (xFld 0 k) fun l=>
 vb (xFld 1 b) fun m=>
 vb (xLd l h) fun o=>
 vb (xLdA 4 m h) fun p=>
 hb (xBS 1 (bsRow Tryz.prog 88 1 [(0,p)]) h) fun q h=>
 hb (xApp (appInfo Tryz.prog #[88,88]) o q h) fun r h=>
 vb (xNil a) fun s=>
 vb (xFld 0 s) fun t=>
 vb (xFld 0 t) fun v=>
 hb (xSt1 v r h) fun _ h=>
 vb (xNil a) fun w=>
 vb (xFld 0 w) fun z=>
 vb (xFld 4 z) fun a1=>
 vb (xLd a1 h) fun b1=>
 hb (xBS 1 (bsRow Tryz.prog 74 1 [(0,nils)]) h) fun c1 h=>
 hb (xApp (appInfo Tryz.prog #[74,74]) b1 c1 h) fun d1 h=>
 vb (xNil a) fun e1=>
 vb (xFld 0 e1) fun f1=>
 vb (xFld 4 f1) fun g1=>
 hb (xSt1 g1 d1 h) fun _ h=>
 hb (xBS 1 (bsRow Tryz.prog 49 1 [(0,i)]) h) fun i1 h=>
 hb (xBS 1 (bsRow Tryz.prog 49 1 [(0,i)]) h) fun j1 h=>
 vb (abuild Tryz.prog 146 [(1,i1),(2,j1)]) fun k1=>
 hb (xStA 3 c k1 h) fun _ h=>
 vb (xLdA 3 c h) fun l1=>some (l1,h)
def F72_36(n:Nat)(cl:CL)(a:Value)(h:PH):R:=
 vb (abuild Tryz.prog 146 [(0,tt)]) fun b=>
 hb (xStA 3 a b h) fun _ h=>
 vb (xLdA 3 a h) fun c=>some (c,h)
def F72_37(n:Nat)(cl:CL)(a b:Value)(c:Kt)(d:Value)(h:PH):R:=
 vb (xFld 5 a) fun e=>
 vb (xLd e h) fun f=>
 vb (xLenS f) fun g=>
 vb (xCmp ieq g (vN 0)) fun i=>
 bite i (F72_36 n cl b h) (c [d,a,b] h)
def F72_38(n:Nat)(cl:CL)(a:Value)(b:Kt)(c d e:Value)(h:PH):R:=
 vb (xCmp ieq a (vN 3)) fun f=>
 b [c,d,e,f] h
def F72_39(n:Nat)(cl:CL)(a:Kt)(b:List Value)(h:PH):R:=
 u4 b fun c d e f=>bite f (F72_37 n cl d e a c h) (a [c,d,e] h)
def F72_40(n:Nat)(cl:CL)(a b c d:Value)(h:PH)(e:Kt):R:=
 vb (xCmp ieq a (vN 2)) fun f=>
 bite f (e [b,c,d,f] h) (F72_38 n cl a e b c d h)
def F72_41(n:Nat)(cl:CL)(a b c:Value)(h:PH)(d:Kt):R:=
 vb (xFld 0 a) fun e=>
 vb (xLd e h) fun f=>
 vb (xCmp ieq f (vN 1)) fun g=>
 bite g (F72_35 n cl b a c h) (jn (F72_39 n cl d) (F72_40 n cl f b a c h))
def F72(n:Nat)(cl:CL)(a b:Value)(h:PH):R:=
 hb (xBox b h) fun c h=>
 hb (xAlloc (zcells Tryz.prog 146) h) fun d h=>
 jn (fun e h=>u3 e fun f g i=>F72_34 n cl g f i h) (F72_41 n cl c a d h)
theorem S72:OkF Tryz.prog 72 (A2 (F72 n cl)):=exA2 n ⟨[],[98],[(9,[0,3,4,52]),(11,[0,3,4]),(15,[0,3,4,6,7]),(21,[0,3,4,6,7,8]),(24,[0,3,4,6,7,8]),(29,[0,3,4,9,10]),(39,[0,3,4,148]),(44,[3,4,12]),(46,[4,12])],[(4,[0,1,2,3,4,6,5,7,8,9,10,11,12,13])],[],[],[],[]⟩ (svc_ok (S97 n hcl) (svc_ok (S98 n hcl) hcl)) hmx Tryz.func72 (by kernel_rfl) fun _ _ _=>by kernel_rfl
def F26_0(n:Nat)(cl:CL)(a b c d e:Value)(f:Kt)(h:PH):R:=
 hb (F22 n cl a b c d h) fun g h=>
 vb (xExt 0 g) fun i=>
 vb (xExt 1 g) fun j=>
 hb (xAlloc (zcells Tryz.prog 41) h) fun k h=>
 hb (xStA 5 k i h) fun _ h=>
 vb (xLdA 5 k h) fun l=>
 hb (xBS 1 (bsRow Tryz.prog 51 1 [(0,l)]) h) fun m h=>
 hb (xApp (appInfo Tryz.prog #[51,51]) e m h) fun o h=>
 vb (xFld 2 k) fun p=>
 vb (xLd p h) fun q=>
 vb (xAri Int.add c q) fun r=>
 f [b,a,o,j,r] h
def F26_1(n:Nat)(cl:CL)(a b c d e:Value)(f:Kt)(h:PH):R:=
 vb (xLenS a) fun g=>
 vb (xCmp ilt b g) fun i=>
 bite i (F26_0 n cl c a b d e f h) (some (Value.tuple ⟨[e,(vN 0)]⟩,h))
def F26_2(n:Nat)(cl:CL)(a:Kt)(b:List Value)(h:PH):R:=
 u5 b fun c d e f g=>F26_1 n cl c g d f e a h
def F26_3(n:Nat)(cl:CL)(a b:Value)(h:PH):R:=
 vb (xLenS a) fun c=>
 vb (xCmp (fun x y=>ilt y x) c (vN 65536)) fun d=>
 bite d (some (Value.tuple ⟨[nils,(vN 3)]⟩,h)) (lp n (F26_2 n cl) [a,b,nils,(vN 0),(vN 0)] h)
def F26(n:Nat)(cl:CL)(a b:Value)(h:PH):R:=
 hb (xBox a h) fun c h=>
 vb (xLdA 2 c h) fun d=>
 hb (F21 n cl d h) fun e h=>
 vb (xExt 0 e) fun f=>
 vb (xExt 1 e) fun g=>
 vb (xCmp ine g (vN 0)) fun i=>
 bite i (some (Value.tuple ⟨[nils,g]⟩,h)) (F26_3 n cl b f h)
theorem S26:OkF Tryz.prog 26 (A2 (F26 n cl)):=exA2 n ⟨[],[],[(9,[1,6,8,9,10])],[],[],[],[],[]⟩ (svc_ok (S21 n hcl) (svc_ok (S22 n hcl) hcl)) hmx Tryz.func26 (by kernel_rfl) fun _ _ _=>by kernel_rfl
def F27(n:Nat)(cl:CL)(a:Value)(h:PH):R:=
 some (a,h)
theorem S27:OkF Tryz.prog 27 (A1 (F27 n cl)):=exA1 n ⟨[],[],[],[],[],[],[],[]⟩ hcl hmx Tryz.func27 (by kernel_rfl) fun _ _=>by kernel_rfl
def F33_0(n:Nat)(cl:CL)(a b c:Value)(d:Kt)(e:Value)(h:PH):R:=
 vb (xIdxS 5 a b) fun f=>
 vb (xLdA 5 f h) fun g=>
 hb (xAlloc (zcells Tryz.prog 41) h) fun i h=>
 hb (xStA 5 i g h) fun _ h=>
 vb (xFld 0 i) fun j=>
 vb (xLd j h) fun k=>
 hb (xBS 1 (bsRow Tryz.prog 49 1 [(0,k)]) h) fun l h=>
 hb (xApp (appInfo Tryz.prog #[49,49]) c l h) fun m h=>
 vb (xAri Int.add b (vN 1)) fun o=>
 d [m,a,e,o] h
def F33_1(n:Nat)(cl:CL)(a b c d:Value)(e:Kt)(h:PH):R:=
 vb (xCmp ilt a b) fun f=>
 bite f (F33_0 n cl c a d e b h) (some (d,h))
def F33_2(n:Nat)(cl:CL)(a:Kt)(b:List Value)(h:PH):R:=
 u4 b fun c d e f=>F33_1 n cl f e d c a h
def F33(n:Nat)(cl:CL)(a:Value)(h:PH):R:=
 vb (xLenS a) fun b=>
 lp n (F33_2 n cl) [nils,a,b,(vN 0)] h
theorem S33:OkF Tryz.prog 33 (A1 (F33 n cl)):=exA1 n ⟨[],[],[(3,[3,6,7,8])],[],[],[],[],[]⟩ hcl hmx Tryz.func33 (by kernel_rfl) fun _ _=>by kernel_rfl
def F24(n:Nat)(cl:CL)(h:PH):R:=
 vb (abuild Tryz.prog 24 [(0,(vN 1))]) fun a=>
 hb (F26 n cl a nils h) fun b h=>
 vb (xExt 0 b) fun c=>
 vb (xExt 1 b) fun d=>
 vb (abuild Tryz.prog 46 [(0,(Value.string {data:= #[97]}))]) fun e=>
 hb (xBS 1 (bsRow Tryz.prog 22 1 [(0,e)]) h) fun f h=>
 vb (abuild Tryz.prog 24 [(0,(vN 1)),(1,f)]) fun g=>
 hb (xBS 2 (bsRow Tryz.prog 33 2 [(0,(Value.int .u8 (.ofNat 97))),(1,(Value.int .u8 (.ofNat 97)))]) h) fun i h=>
 hb (xMark i h) fun j h=>
 hb (F26 n cl g j h) fun k h=>
 vb (xExt 0 k) fun l=>
 vb (xExt 1 k) fun m=>
 vb (pcall (F27 n cl d (h.fzn))) fun o=>
 vb (xCmp ieq o (vN 0)) fun p=>
 vb (gd (isB true p) (some c)) fun q=>
 vb (gd (isB true p) (xLenS q)) fun r=>
 vb (gd (isB true p) (xCmp ieq r (vN 0))) fun s=>
 vb (xPick p s ff) fun t=>
 vb (gd (isB true t) (some m)) fun v=>
 vb (gd (isB true t) (pcall (F27 n cl v (h.fzn)))) fun w=>
 vb (gd (isB true t) (xCmp ieq w (vN 0))) fun z=>
 vb (xPick t z ff) fun a1=>
 vb (gd (isB true a1) (some l)) fun b1=>
 vb (gd (isB true a1) (xLenS b1)) fun c1=>
 vb (gd (isB true a1) (xCmp ieq c1 (vN 2))) fun d1=>
 vb (xPick a1 d1 ff) fun e1=>
 vb (gd (isB true e1) (some l)) fun f1=>
 hb (gh (isB true e1) h (fcall h (F33 n cl f1 (h.fzn)))) fun g1 h=>
 vb (gd (isB true e1) (xLenS g1)) fun i1=>
 vb (gd (isB true e1) (xCmp ieq i1 (vN 2))) fun j1=>
 vb (xPick e1 j1 ff) fun k1=>
 some (k1,h)
theorem S24:OkF Tryz.prog 24 (A0 (F24 n cl)):=exA0 n ⟨[27],[33],[],[],[],[],[],[]⟩ (svc_ok (S26 n hcl) (svc_ok (S27 n hcl) (svc_ok (S33 n hcl) hcl))) hmx Tryz.func24 (by kernel_rfl) fun _=>by kernel_rfl
def F54_0(n:Nat)(cl:CL)(a:Value)(h:PH):R:=
 hb (xBS 0 (bsRow Tryz.prog 51 0 []) h) fun b h=>
 hb (xApp (appInfo Tryz.prog #[51,51]) b a h) fun c h=>
 some (c,h)
def F54(n:Nat)(cl:CL)(a:Value)(h:PH):R:=
 vb (abin Tryz.prog .eql 51 (Operand.tmp 3) (Operand.const (Value.slice none 0 0)) a nils) fun b=>
 bite b (some (nils,h)) (F54_0 n cl a h)
theorem S54:OkF Tryz.prog 54 (A1 (F54 n cl)):=exA1 n ⟨[],[],[],[],[],[],[],[]⟩ hcl hmx Tryz.func54 (by kernel_rfl) fun _ _=>by kernel_rfl
def F81_0(n:Nat)(cl:CL)(a:Value)(b:Kt)(c d e:Value)(h:PH):R:=
 vb (xAri Int.add a (vN 1)) fun f=>
 b [c,d,e,f] h
def F81_1(n:Nat)(cl:CL)(a b c:Value)(d:Kt)(e:Value)(h:PH):R:=
 vb (xIdxS 5 a b) fun f=>
 vb (xLdA 5 f h) fun g=>
 hb (xCall cl c [g] h) fun i h=>
 bite i (some (b,h)) (F81_0 n cl b d a c e h)
def F81_2(n:Nat)(cl:CL)(a b c d:Value)(e:Kt)(h:PH):R:=
 vb (xCmp ilt a b) fun f=>
 bite f (F81_1 n cl c a d e b h) (some ((vM 0),h))
def F81_3(n:Nat)(cl:CL)(a:Kt)(b:List Value)(h:PH):R:=
 u4 b fun c d e f=>F81_2 n cl f e c d a h
def F81(n:Nat)(cl:CL)(a b:Value)(h:PH):R:=
 vb (xLenS a) fun c=>
 lp n (F81_3 n cl) [a,b,c,(vN 0)] h
theorem S81:OkF Tryz.prog 81 (A2 (F81 n cl)):=exA2 n ⟨[],[],[(2,[0,1,7,8])],[],[],[],[],[]⟩ hcl hmx Tryz.func81 (by kernel_rfl) fun _ _ _=>by kernel_rfl
def F53_0(n:Nat)(cl:CL)(a:Value)(b:Kt)(c d e:Value)(h:PH):R:=
 vb (xAri Int.add a (vN 1)) fun f=>
 b [c,d,e,f] h
def F53_1(n:Nat)(cl:CL)(a b c:Value)(d:Kt)(e f:Value)(h:PH):R:=
 vb (xLdA 5 a h) fun g=>
 vb (xIdxS 5 b c) fun i=>
 hb (xStA 5 i g h) fun _ h=>
 vb (xAri Int.add c (vN 1)) fun j=>
 d [b,e,j,f] h
def F53_2(n:Nat)(cl:CL)(a:Kt)(b:List Value)(h:PH):R:=
 u4 b fun c d e f=>F53_0 n cl f a c d e h
def F53_3(n:Nat)(cl:CL)(a b c d:Value)(h:PH)(e:Kt):R:=
 vb (xIdxS 5 a b) fun f=>
 vb (xLdA 5 f h) fun g=>
 hb (xAlloc (zcells Tryz.prog 41) h) fun i h=>
 hb (xStA 5 i g h) fun _ h=>
 vb (xLdA 5 i h) fun j=>
 hb (xCall (svc 81 (A2 (F81 n cl)) cl) c [j] h) fun k h=>
 vb (xNot k) fun l=>
 bite l (F53_1 n cl i a d e c b h) (e [a,c,d,b] h)
def F53_4(n:Nat)(cl:CL)(a b:Value)(h:PH):R:=
 vb (acut Tryz.prog 51 a (some b) none none) fun c=>
 hb (xClear (zinfo Tryz.prog 51) c h) fun _ h=>
 vb (acut Tryz.prog 51 a none (some b) none) fun d=>
 some (d,h)
def F53_5(n:Nat)(cl:CL)(a b:Value)(c:Kt)(d e:Value)(h:PH):R:=
 vb (xLenS a) fun f=>
 vb (xCmp ilt b f) fun g=>
 bite g (jn (F53_2 n cl c) (F53_3 n cl a b d e h)) (F53_4 n cl a e h)
def F53_6(n:Nat)(cl:CL)(a:Kt)(b:List Value)(h:PH):R:=
 u4 b fun c d e f=>F53_5 n cl c f a d e h
def F53_7(n:Nat)(cl:CL)(a b c:Value)(h:PH):R:=
 vb (xAri Int.add a (vN 1)) fun d=>
 lp n (F53_6 n cl) [b,c,a,d] h
def F53(n:Nat)(cl:CL)(a b:Value)(h:PH):R:=
 vb (pcall (F81 n cl a b (h.fzn))) fun c=>
 vb (xCmp ieq c (vM 0)) fun d=>
 bite d (some (a,h)) (F53_7 n cl c a b h)
theorem S53:OkF Tryz.prog 53 (A2 (F53 n cl)):=exA2 n ⟨[81],[],[(5,[0,1,5,6]),(6,[0,1,5,6])],[],[],[],[],[]⟩ (svc_ok (S81 n hcl) hcl) hmx Tryz.func53 (by kernel_rfl) fun _ _ _=>by kernel_rfl
def F55(n:Nat)(cl:CL)(a:Value)(h:PH):R:=
 hb (xBox a h) fun b h=>
 vb (xFld 0 b) fun c=>
 vb (xLd c h) fun d=>
 vb (xCmp ieq d (vM 0)) fun e=>
 some (e,h)
theorem S55:OkF Tryz.prog 55 (A1 (F55 n cl)):=exA1 n ⟨[],[],[],[],[],[],[],[]⟩ hcl hmx Tryz.func55 (by kernel_rfl) fun _ _=>by kernel_rfl
def F30(n:Nat)(cl:CL)(a:Value)(h:PH):R:=
 hb (fcall h (F54 n cl a (h.fzn))) fun b h=>
 hb (F53 n cl b (fnV 55 [] []) h) fun c h=>
 some (c,h)
theorem S30:OkF Tryz.prog 30 (A1 (F30 n cl)):=exA1 n ⟨[],[54],[],[],[],[],[],[]⟩ (svc_ok (S54 n hcl) (svc_ok (S53 n hcl) hcl)) hmx Tryz.func30 (by kernel_rfl) fun _ _=>by kernel_rfl
def F10_0(n:Nat)(cl:CL)(a:Value)(b:Kt)(c d e:Value)(h:PH):R:=
 vb (xAri Int.add a (vN 1)) fun f=>
 b [c,d,e,f] h
def F10_1(n:Nat)(cl:CL)(a:Value)(b:Kt)(c d e:Value)(h:PH):R:=
 vb (xAri Int.add a (vN 1)) fun f=>
 b [c,d,f,e] h
def F10_2(n:Nat)(cl:CL)(a b c d:Value)(e:Kt)(h:PH):R:=
 vb (xLenS a) fun f=>
 vb (xCmp (fun x y=>ile y x) b f) fun g=>
 vb (gd (isB false g) (some a)) fun i=>
 vb (gd (isB false g) (some b)) fun j=>
 vb (gd (isB false g) (xIdxS 5 i j)) fun k=>
 vb (gd (isB false g) (some c)) fun l=>
 vb (gd (isB false g) (some d)) fun m=>
 vb (gd (isB false g) (xIdxS 5 l m)) fun o=>
 vb (gd (isB false g) (xLdA 5 k h)) fun p=>
 vb (gd (isB false g) (xLdA 5 o h)) fun q=>
 vb (gd (isB false g) (abin Tryz.prog .neq 41 (Operand.tmp 39) (Operand.tmp 43) p q)) fun r=>
 vb (xPick g tt r) fun s=>
 bite s (some (ff,h)) (F10_1 n cl b e c a d h)
def F10_3(n:Nat)(cl:CL)(a:Kt)(b:List Value)(h:PH):R:=
 u4 b fun c d e f=>F10_0 n cl f a c d e h
def F10_4(n:Nat)(cl:CL)(a b c d:Value)(h:PH)(e:Kt):R:=
 vb (xIdxS 5 a b) fun f=>
 vb (xFld 0 f) fun g=>
 vb (xLd g h) fun i=>
 vb (xCmp ieq i (vM 0)) fun j=>
 bite j (e [a,c,d,b] h) (F10_2 n cl c d a b e h)
def F10_5(n:Nat)(cl:CL)(a b:Value)(h:PH):R:=
 vb (xLenS a) fun c=>
 vb (xCmp ieq b c) fun d=>
 some (d,h)
def F10_6(n:Nat)(cl:CL)(a b:Value)(c:Kt)(d e:Value)(h:PH):R:=
 vb (xLenS a) fun f=>
 vb (xCmp ilt b f) fun g=>
 bite g (jn (F10_3 n cl c) (F10_4 n cl a b d e h)) (F10_5 n cl d e h)
def F10_7(n:Nat)(cl:CL)(a:Kt)(b:List Value)(h:PH):R:=
 u4 b fun c d e f=>F10_6 n cl c f a d e h
def F10_8(n:Nat)(cl:CL)(a:Value)(h:PH):R:=
 hb (xApp (appInfo Tryz.prog #[51,51]) nils a h) fun b h=>
 hb (fcall h (F30 n cl b (h.fzn))) fun c h=>
 lp n (F10_7 n cl) [a,c,(vN 0),(vN 0)] h
def F10(n:Nat)(cl:CL)(a:Value)(h:PH):R:=
 vb (pcall (cl 24 [] (h.fzn))) fun b=>
 vb (xNot b) fun c=>
 vb (gd (isB false c) (some a)) fun d=>
 vb (gd (isB false c) (xLenS d)) fun e=>
 vb (gd (isB false c) (xCmp (fun x y=>ilt y x) e (vN 200))) fun f=>
 vb (xPick c tt f) fun g=>
 bite g (some (b,h)) (F10_8 n cl a h)
theorem S10:OkF Tryz.prog 10 (A1 (F10 n cl)):=exA1 n ⟨[24],[30],[(7,[0,4,5,6]),(8,[0,4,5,6])],[(10,[0,1,2,3,4,5,6,7,9,10,11,8,12,13,14])],[],[],[],[]⟩ (svc_ok (S30 n hcl) hcl) hmx Tryz.func10 (by kernel_rfl) fun _ _=>by kernel_rfl
def F83(n:Nat)(cl:CL)(a b:Value)(h:PH):R:=
 hb (xBox a h) fun c h=>
 vb (xFld 1 c) fun d=>
 vb (xLd d h) fun e=>
 vb (xFld 3 c) fun f=>
 vb (xLd f h) fun g=>
 vb (xAri Int.add e g) fun i=>
 vb (xFld 1 b) fun j=>
 vb (xFld 0 j) fun k=>
 vb (xLd k h) fun l=>
 vb (xCmp (fun x y=>ilt y x) i l) fun m=>
 some (m,h)
theorem S83:OkF Tryz.prog 83 (A2 (F83 n cl)):=exA2 n ⟨[],[],[],[],[],[],[],[]⟩ hcl hmx Tryz.func83 (by kernel_rfl) fun _ _ _=>by kernel_rfl
def F85(n:Nat)(cl:CL)(a b:Value)(h:PH):R:=
 hb (xBox a h) fun c h=>
 vb (xFld 1 c) fun d=>
 vb (xLd d h) fun e=>
 vb (xAri Int.sub e b) fun f=>
 some (f,h)
theorem S85:OkF Tryz.prog 85 (A2 (F85 n cl)):=exA2 n ⟨[],[],[],[],[],[],[],[]⟩ hcl hmx Tryz.func85 (by kernel_rfl) fun _ _ _=>by kernel_rfl
end
def CLs(n:Nat)(ih:CL):CL:=(svc 108 (A2 (F108 n ih)) (svc 111 (A1 (F111 n ih)) (svc 112 (A2 (F112 n ih)) (svc 66 (A2 (F66 n ih)) (svc 158 (A1 (F158 n ih)) (svc 160 (A2 (F160 n ih)) (svc 146 (A2 (F146 n ih)) (svc 79 (A1 (F79 n ih)) (svc 67 (A2 (F67 n ih)) (svc 70 (A1 (F70 n ih)) (svc 71 (A1 (F71 n ih)) (svc 72 (A2 (F72 n ih)) (svc 55 (A1 (F55 n ih)) (svc 83 (A2 (F83 n ih)) (svc 85 (A2 (F85 n ih)) CNo)))))))))))))))
theorem CLs_ok{n:Nat}{ih:CL}(hcl:OkCL Tryz.prog ih):OkCL Tryz.prog (CLs n ih):=(svc_ok (S108 n hcl) (svc_ok (S111 n hcl) (svc_ok (S112 n hcl) (svc_ok (S66 n hcl) (svc_ok (S158 n hcl) (svc_ok (S160 n hcl) (svc_ok (S146 n hcl) (svc_ok (S79 n hcl) (svc_ok (S67 n hcl) (svc_ok (S70 n hcl) (svc_ok (S71 n hcl) (svc_ok (S72 n hcl) (svc_ok (S55 n hcl) (svc_ok (S83 n hcl) (svc_ok (S85 n hcl) (CNo_ok _))))))))))))))))
end
end Go.Am
