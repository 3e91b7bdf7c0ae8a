import Derived.Test.YthnhjgeneeflaaaZY
import Derived.Test.YthnhjgeneeflaaaProg
set_option linter.unusedVariables false
set_option maxRecDepth 100000
namespace Go.Am
open Go Go.RowKit Go.Proofs
noncomputable section
theorem hmx:Try.prog.follows .mixedOrders=true:=by kernel_rfl
section
variable (n:Nat){cl:CL}(hcl:OkCL Try.prog cl)
include hcl
def F52(n:Nat)(cl:CL)(a b:Value)(h:PH):R:=
 hb (xBox a h) fun c h=>
 vb (xCmp (fun x y=>ile y x) b (vN 0)) fun d=>
 vb (gd (isB true d) (some b)) fun e=>
 vb (gd (isB true d) (xFld 0 c)) fun f=>
 vb (gd (isB true d) (xLd f h)) fun g=>
 vb (gd (isB true d) (xCmp ilt e g)) fun i=>
 vb (xPick d i ff) fun j=>
 some (j,h)
theorem S52:OkF Try.prog 52 (A2 (F52 n cl)):=exA2 n ⟨[],[],[],[],[],[],[],[]⟩ hcl hmx Try.func52 (by kernel_rfl) fun _ _ _=>by kernel_rfl
def F89_0(n:Nat)(cl:CL)(a:Value)(b:Kt)(c d e:Value)(h:PH):R:=
 vb (xAri Int.add a (vN 1)) fun f=>
 b [c,d,e,f] h
def F89_1(n:Nat)(cl:CL)(a b c:Value)(d:Kt)(e:Value)(h:PH):R:=
 vb (xIdxS 1 a b) fun f=>
 vb (xLd f h) fun g=>
 hb (xCall cl c [g] h) fun i h=>
 bite i (some (b,h)) (F89_0 n cl b d a c e h)
def F89_2(n:Nat)(cl:CL)(a b c d:Value)(e:Kt)(h:PH):R:=
 vb (xCmp ilt a b) fun f=>
 bite f (F89_1 n cl c a d e b h) (some ((vM 0),h))
def F89_3(n:Nat)(cl:CL)(a:Kt)(b:List Value)(h:PH):R:=
 u4 b fun c d e f=>F89_2 n cl f e c d a h
def F89(n:Nat)(cl:CL)(a b:Value)(h:PH):R:=
 vb (xLenS a) fun c=>
 lp n (F89_3 n cl) [a,b,c,(vN 0)] h
theorem S89:OkF Try.prog 89 (A2 (F89 n cl)):=exA2 n ⟨[],[],[(2,[0,1,7,8])],[],[],[],[],[]⟩ hcl hmx Try.func89 (by kernel_rfl) fun _ _ _=>by kernel_rfl
def F82(n:Nat)(cl:CL)(a b:Value)(h:PH):R:=
 vb (pcall (F89 n cl a b (h.fzn))) fun c=>
 vb (xCmp (fun x y=>ile y x) c (vN 0)) fun d=>
 some (d,h)
theorem S82:OkF Try.prog 82 (A2 (F82 n cl)):=exA2 n ⟨[89],[],[],[],[],[],[],[]⟩ (svc_ok (S89 n hcl) hcl) hmx Try.func82 (by kernel_rfl) fun _ _ _=>by kernel_rfl
def F88(n:Nat)(cl:CL)(a:Value)(h:PH):R:=
 vb (xCmp ilt a (vN 0)) fun b=>
 vb (gd (isB false b) (some a)) fun c=>
 vb (gd (isB false b) (xCmp (fun x y=>ilt y x) c (vN 100))) fun d=>
 vb (xPick b tt d) fun e=>
 some (e,h)
theorem S88:OkF Try.prog 88 (A1 (F88 n cl)):=exA1 n ⟨[],[],[],[],[],[],[],[]⟩ hcl hmx Try.func88 (by kernel_rfl) fun _ _=>by kernel_rfl
def F81(n:Nat)(cl:CL)(a b:Value)(h:PH):R:=
 vb (xLenS a) fun c=>
 vb (xCmp ile c b) fun d=>
 vb (gd (isB true d) (some a)) fun e=>
 vb (gd (isB true d) (pcall (F82 n cl e (fnV 88 [] []) (h.fzn)))) fun f=>
 vb (gd (isB true d) (xNot f)) fun g=>
 vb (xPick d g ff) fun i=>
 some (i,h)
theorem S81:OkF Try.prog 81 (A2 (F81 n cl)):=exA2 n ⟨[82],[],[],[],[],[],[],[]⟩ (svc_ok (S82 n hcl) hcl) hmx Try.func81 (by kernel_rfl) fun _ _ _=>by kernel_rfl
def F67_0(n:Nat)(cl:CL)(a:Value)(h:PH):R:=
 vb (xFld 5 a) fun b=>
 vb (xLd b h) fun c=>
 vb (xFld 3 a) fun d=>
 vb (xLd d h) fun e=>
 vb (xLenS e) fun f=>
 vb (pcall (F81 n cl c f (h.fzn))) fun g=>
 vb (xNot g) fun i=>
 vb (gd (isB false i) (xFld 6 a)) fun j=>
 vb (gd (isB false i) (xLd j h)) fun k=>
 vb (gd (isB false i) (xFld 1 a)) fun l=>
 vb (gd (isB false i) (xLd l h)) fun m=>
 vb (gd (isB false i) (pcall (F81 n cl k m (h.fzn)))) fun o=>
 vb (gd (isB false i) (xNot o)) fun p=>
 vb (xPick i tt p) fun q=>
 bite q (some ((vN 1),h)) (some ((vN 0),h))
def F67_1(n:Nat)(cl:CL)(a:Value)(h:PH):R:=
 vb (xLdA 7 a h) fun b=>
 vb (xFld 2 a) fun c=>
 vb (xLd c h) fun d=>
 vb (pcall (F52 n cl b d (h.fzn))) fun e=>
 vb (xNot e) fun f=>
 bite f (some ((vN 6),h)) (F67_0 n cl a h)
def F67(n:Nat)(cl:CL)(a:Value)(h:PH):R:=
 hb (xBox a h) fun b h=>
 vb (xFld 0 b) fun c=>
 vb (xLd c h) fun d=>
 vb (xCmp ilt d (vN 1)) fun e=>
 vb (gd (isB false e) (xFld 0 b)) fun f=>
 vb (gd (isB false e) (xLd f h)) fun g=>
 vb (gd (isB false e) (xCmp (fun x y=>ilt y x) g (vN 40))) fun i=>
 vb (xPick e tt i) fun j=>
 vb (gd (isB false j) (xFld 1 b)) fun k=>
 vb (gd (isB false j) (xLd k h)) fun l=>
 vb (gd (isB false j) (xCmp ilt l (vN 0))) fun m=>
 vb (xPick j tt m) fun o=>
 vb (gd (isB false o) (xFld 1 b)) fun p=>
 vb (gd (isB false o) (xLd p h)) fun q=>
 vb (gd (isB false o) (xCmp (fun x y=>ilt y x) q (vN 40))) fun r=>
 vb (xPick o tt r) fun s=>
 vb (gd (isB false s) (xFld 3 b)) fun t=>
 vb (gd (isB false s) (xLd t h)) fun v=>
 vb (gd (isB false s) (xLenS v)) fun w=>
 vb (gd (isB false s) (xCmp (fun x y=>ilt y x) w (vN 60))) fun z=>
 vb (xPick s tt z) fun a1=>
 vb (gd (isB false a1) (xFld 4 b)) fun b1=>
 vb (gd (isB false a1) (xLd b1 h)) fun c1=>
 vb (gd (isB false a1) (xLenS c1)) fun d1=>
 vb (gd (isB false a1) (xCmp (fun x y=>ilt y x) d1 (vN 200))) fun e1=>
 vb (xPick a1 tt e1) fun f1=>
 bite f1 (some ((vN 3),h)) (F67_1 n cl b h)
theorem S67:OkF Try.prog 67 (A1 (F67 n cl)):=exA1 n ⟨[52,81],[],[],[],[],[],[],[]⟩ (svc_ok (S52 n hcl) (svc_ok (S81 n hcl) hcl)) hmx Try.func67 (by kernel_rfl) fun _ _=>by kernel_rfl
def F20(n:Nat)(cl:CL)(a b:Value)(h:PH):R:=
 hb (xBox a h) fun c h=>
 vb (xAri Int.sub (vM 0) b) fun d=>
 vb (xCmp ilt b (vN 0)) fun e=>
 vb (gd (isB true e) (some d)) fun f=>
 vb (gd (isB true e) (xFld 1 c)) fun g=>
 vb (gd (isB true e) (xLd g h)) fun i=>
 vb (gd (isB true e) (xCmp ilt f i)) fun j=>
 vb (xPick e j ff) fun k=>
 some (Value.tuple ⟨[d,k]⟩,h)
theorem S20:OkF Try.prog 20 (A2 (F20 n cl)):=exA2 n ⟨[],[],[],[(2,[0,1,2,3,4,5,9,6,7,8,10])],[],[],[],[]⟩ hcl hmx Try.func20 (by kernel_rfl) fun _ _ _=>by kernel_rfl
def F84(n:Nat)(cl:CL)(a b:Value)(h:PH):R:=
 hb (xBox a h) fun c h=>
 vb (xLdA 7 c h) fun d=>
 vb (pcall (F20 n cl d b (h.fzn))) fun e=>
 vb (xExt 0 e) fun f=>
 vb (xExt 1 e) fun g=>
 vb (gd (isB false g) (xLdA 7 c h)) fun i=>
 vb (gd (isB false g) (some b)) fun j=>
 vb (gd (isB false g) (pcall (F52 n cl i j (h.fzn)))) fun k=>
 vb (xPick g tt k) fun l=>
 some (l,h)
theorem S84:OkF Try.prog 84 (A2 (F84 n cl)):=exA2 n ⟨[20,52],[],[],[],[],[],[],[]⟩ (svc_ok (S20 n hcl) (svc_ok (S52 n hcl) hcl)) hmx Try.func84 (by kernel_rfl) fun _ _ _=>by kernel_rfl
def F83(n:Nat)(cl:CL)(a b:Value)(h:PH):R:=
 vb (xLdA 7 b h) fun c=>
 vb (pcall (F84 n cl c a (h.fzn))) fun d=>
 vb (xNot d) fun e=>
 some (e,h)
theorem S83:OkF Try.prog 83 (A2 (F83 n cl)):=exA2 n ⟨[84],[],[],[],[],[],[],[]⟩ (svc_ok (S84 n hcl) hcl) hmx Try.func83 (by kernel_rfl) fun _ _ _=>by kernel_rfl
def F68_0(n:Nat)(cl:CL)(a:Value)(h:PH):R:=
 vb (xFld 2 a) fun b=>
 vb (xLd b h) fun c=>
 vb (xCmp ilt c (vM 999)) fun d=>
 vb (gd (isB false d) (xFld 2 a)) fun e=>
 vb (gd (isB false d) (xLd e h)) fun f=>
 vb (gd (isB false d) (xCmp (fun x y=>ilt y x) f (vN 1000))) fun g=>
 vb (xPick d tt g) fun i=>
 bite i (some ((vN 1),h)) (some ((vN 0),h))
def F68_1(n:Nat)(cl:CL)(a:Value)(h:PH):R:=
 vb (xFld 1 a) fun b=>
 vb (xLd b h) fun c=>
 vb (xLenS c) fun d=>
 vb (xCmp (fun x y=>ilt y x) d (vN 8)) fun e=>
 bite e (some ((vN 3),h)) (F68_0 n cl a h)
def F68(n:Nat)(cl:CL)(a b:Value)(h:PH):R:=
 hb (xBox a h) fun c h=>
 hb (xBox b h) fun d h=>
 vb (xLdA 7 c h) fun e=>
 vb (xFld 0 d) fun f=>
 vb (xLd f h) fun g=>
 vb (pcall (F52 n cl e g (h.fzn))) fun i=>
 vb (xNot i) fun j=>
 vb (gd (isB false j) (xFld 1 d)) fun k=>
 vb (gd (isB false j) (xLd k h)) fun l=>
 vb (gd (isB false j) (some (Value.func (Fn.func 83) ⟨[]⟩ ⟨[c]⟩))) fun m=>
 vb (gd (isB false j) (pcall (F82 n cl l m (h.fzn)))) fun o=>
 vb (xPick j tt o) fun p=>
 bite p (some ((vN 6),h)) (F68_1 n cl d h)
theorem S68:OkF Try.prog 68 (A2 (F68 n cl)):=exA2 n ⟨[52,82],[],[],[],[],[],[],[]⟩ (svc_ok (S52 n hcl) (svc_ok (S82 n hcl) hcl)) hmx Try.func68 (by kernel_rfl) fun _ _ _=>by kernel_rfl
def F71_0(n:Nat)(cl:CL)(a b:Value)(h:PH):R:=
 vb (xFld 3 a) fun c=>
 vb (xLd c h) fun d=>
 vb (xIdxA 3 1 b (vN 0)) fun e=>
 vb (xLd e h) fun f=>
 vb (xIdxS 3 d f) fun g=>
 vb (xFld 1 g) fun i=>
 vb (xLd i h) fun j=>
 vb (xIdxA 3 1 b (vN 1)) fun k=>
 vb (xLd k h) fun l=>
 vb (xCmp (fun x y=>ile y x) l (vN 0)) fun m=>
 vb (gd (isB true m) (xIdxA 3 1 b (vN 1))) fun o=>
 vb (gd (isB true m) (some j)) fun p=>
 vb (gd (isB true m) (xLd o h)) fun q=>
 vb (gd (isB true m) (xLenS p)) fun r=>
 vb (gd (isB true m) (xCmp ilt q r)) fun s=>
 vb (xPick m s ff) fun t=>
 vb (gd (isB true t) (some j)) fun v=>
 vb (gd (isB true t) (xIdxA 3 1 b (vN 1))) fun w=>
 vb (gd (isB true t) (xFld 3 a)) fun z=>
 vb (gd (isB true t) (xIdxA 3 1 b (vN 2))) fun a1=>
 vb (gd (isB true t) (xLd w h)) fun b1=>
 vb (gd (isB true t) (xIdxS 1 v b1)) fun c1=>
 vb (gd (isB true t) (xLd c1 h)) fun d1=>
 vb (gd (isB true t) (xLd z h)) fun e1=>
 vb (gd (isB true t) (xLd a1 h)) fun f1=>
 vb (gd (isB true t) (xIdxS 3 e1 f1)) fun g1=>
 vb (gd (isB true t) (xFld 0 g1)) fun i1=>
 vb (gd (isB true t) (xLd i1 h)) fun j1=>
 vb (gd (isB true t) (xCmp ieq d1 j1)) fun k1=>
 vb (xPick t k1 ff) fun l1=>
 some (l1,h)
def F71(n:Nat)(cl:CL)(a b:Value)(h:PH):R:=
 hb (xBox a h) fun c h=>
 hb (xBox b h) fun d h=>
 vb (xIdxA 3 1 d (vN 0)) fun e=>
 vb (xLd e h) fun f=>
 vb (xCmp ilt f (vN 0)) fun g=>
 vb (gd (isB false g) (xIdxA 3 1 d (vN 0))) fun i=>
 vb (gd (isB false g) (xLd i h)) fun j=>
 vb (gd (isB false g) (xFld 3 c)) fun k=>
 vb (gd (isB false g) (xLd k h)) fun l=>
 vb (gd (isB false g) (xLenS l)) fun m=>
 vb (gd (isB false g) (xCmp (fun x y=>ile y x) j m)) fun o=>
 vb (xPick g tt o) fun p=>
 vb (gd (isB false p) (xIdxA 3 1 d (vN 2))) fun q=>
 vb (gd (isB false p) (xLd q h)) fun r=>
 vb (gd (isB false p) (xCmp ilt r (vN 0))) fun s=>
 vb (xPick p tt s) fun t=>
 vb (gd (isB false t) (xIdxA 3 1 d (vN 2))) fun v=>
 vb (gd (isB false t) (xLd v h)) fun w=>
 vb (gd (isB false t) (xFld 3 c)) fun z=>
 vb (gd (isB false t) (xLd z h)) fun a1=>
 vb (gd (isB false t) (xLenS a1)) fun b1=>
 vb (gd (isB false t) (xCmp (fun x y=>ile y x) w b1)) fun c1=>
 vb (xPick t tt c1) fun d1=>
 bite d1 (some (ff,h)) (F71_0 n cl c d h)
theorem S71:OkF Try.prog 71 (A2 (F71 n cl)):=exA2 n ⟨[],[],[],[(4,[0,1,2,3,4,6,5,7,8,9,10,11,12,16,18,13,14,15,17,19,20,21,22,23,24,25])],[],[],[],[]⟩ hcl hmx Try.func71 (by kernel_rfl) fun _ _ _=>by kernel_rfl
def F70(n:Nat)(cl:CL)(a b:Value)(h:PH):R:=
 hb (xBox a h) fun c h=>
 vb (xLdA 7 b h) fun d=>
 vb (xLdA 3 c h) fun e=>
 vb (pcall (F71 n cl d e (h.fzn))) fun f=>
 vb (xNot f) fun g=>
 some (g,h)
theorem S70:OkF Try.prog 70 (A2 (F70 n cl)):=exA2 n ⟨[71],[],[],[],[],[],[],[]⟩ (svc_ok (S71 n hcl) hcl) hmx Try.func70 (by kernel_rfl) fun _ _ _=>by kernel_rfl
def F85_0(n:Nat)(cl:CL)(a:Value)(b:Kt)(c d e:Value)(h:PH):R:=
 vb (xAri Int.add a (vN 1)) fun f=>
 b [c,d,e,f] h
def F85_1(n:Nat)(cl:CL)(a b c:Value)(d:Kt)(e:Value)(h:PH):R:=
 vb (xIdxS 3 a b) fun f=>
 vb (xLdA 3 f h) fun g=>
 hb (xCall cl c [g] h) fun i h=>
 bite i (some (b,h)) (F85_0 n cl b d a c e h)
def F85_2(n:Nat)(cl:CL)(a b c d:Value)(e:Kt)(h:PH):R:=
 vb (xCmp ilt a b) fun f=>
 bite f (F85_1 n cl c a d e b h) (some ((vM 0),h))
def F85_3(n:Nat)(cl:CL)(a:Kt)(b:List Value)(h:PH):R:=
 u4 b fun c d e f=>F85_2 n cl f e c d a h
def F85(n:Nat)(cl:CL)(a b:Value)(h:PH):R:=
 vb (xLenS a) fun c=>
 lp n (F85_3 n cl) [a,b,c,(vN 0)] h
theorem S85:OkF Try.prog 85 (A2 (F85 n cl)):=exA2 n ⟨[],[],[(2,[0,1,7,8])],[],[],[],[],[]⟩ hcl hmx Try.func85 (by kernel_rfl) fun _ _ _=>by kernel_rfl
def F69(n:Nat)(cl:CL)(a b:Value)(h:PH):R:=
 vb (pcall (F85 n cl a b (h.fzn))) fun c=>
 vb (xCmp (fun x y=>ile y x) c (vN 0)) fun d=>
 some (d,h)
theorem S69:OkF Try.prog 69 (A2 (F69 n cl)):=exA2 n ⟨[85],[],[],[],[],[],[],[]⟩ (svc_ok (S85 n hcl) hcl) hmx Try.func69 (by kernel_rfl) fun _ _ _=>by kernel_rfl
def F45_0(n:Nat)(cl:CL)(a:Value)(b:Kt)(c d e:Value)(h:PH):R:=
 vb (xAri Int.add a (vN 1)) fun f=>
 b [c,d,e,f] h
def F45_1(n:Nat)(cl:CL)(a b c:Value)(d:Kt)(e:Value)(h:PH):R:=
 vb (xIdxS 3 a b) fun f=>
 vb (xLdA 3 f h) fun g=>
 hb (xAlloc (zcells Try.prog 40) h) fun i h=>
 hb (xStA 3 i g h) fun _ h=>
 vb (xLdA 7 c h) fun j=>
 vb (xLdA 3 i h) fun k=>
 vb (pcall (F68 n cl j k (h.fzn))) fun l=>
 vb (xCmp ine l (vN 0)) fun m=>
 bite m (some (Value.tuple ⟨[b,l]⟩,h)) (F45_0 n cl b d c a e h)
def F45_2(n:Nat)(cl:CL)(a:Value)(h:PH):R:=
 vb (xFld 4 a) fun b=>
 vb (xLd b h) fun c=>
 vb (some (Value.func (Fn.func 70) ⟨[]⟩ ⟨[a]⟩)) fun d=>
 vb (pcall (F69 n cl c d (h.fzn))) fun e=>
 bite e (some (Value.tuple ⟨[(vM 0),(vN 6)]⟩,h)) (some (Value.tuple ⟨[(vM 0),(vN 0)]⟩,h))
def F45_3(n:Nat)(cl:CL)(a b c d:Value)(e:Kt)(h:PH):R:=
 vb (xCmp ilt a b) fun f=>
 bite f (F45_1 n cl c a d e b h) (F45_2 n cl d h)
def F45_4(n:Nat)(cl:CL)(a:Kt)(b:List Value)(h:PH):R:=
 u4 b fun c d e f=>F45_3 n cl f e d c a h
def F45_5(n:Nat)(cl:CL)(a:Value)(h:PH):R:=
 vb (xFld 3 a) fun b=>
 vb (xLd b h) fun c=>
 vb (xLenS c) fun d=>
 lp n (F45_4 n cl) [a,c,d,(vN 0)] h
def F45(n:Nat)(cl:CL)(a:Value)(h:PH):R:=
 hb (xBox a h) fun b h=>
 vb (xLdA 7 b h) fun c=>
 vb (pcall (F67 n cl c (h.fzn))) fun d=>
 vb (xCmp ine d (vN 0)) fun e=>
 bite e (some (Value.tuple ⟨[(vM 0),d]⟩,h)) (F45_5 n cl b h)
theorem S45:OkF Try.prog 45 (A1 (F45 n cl)):=exA1 n ⟨[67,68,69],[],[(5,[1,14,15,16])],[],[],[],[],[]⟩ (svc_ok (S67 n hcl) (svc_ok (S68 n hcl) (svc_ok (S69 n hcl) hcl))) hmx Try.func45 (by kernel_rfl) fun _ _=>by kernel_rfl
def F49(n:Nat)(cl:CL)(a:Value)(h:PH):R:=
 hb (xBox a h) fun b h=>
 vb (xLdA 7 b h) fun c=>
 vb (pcall (F45 n cl c (h.fzn))) fun d=>
 vb (xExt 0 d) fun e=>
 vb (xExt 1 d) fun f=>
 vb (xCmp ieq f (vN 0)) fun g=>
 some (g,h)
theorem S49:OkF Try.prog 49 (A1 (F49 n cl)):=exA1 n ⟨[45],[],[],[],[],[],[],[]⟩ (svc_ok (S45 n hcl) hcl) hmx Try.func49 (by kernel_rfl) fun _ _=>by kernel_rfl
def F46_0(n:Nat)(cl:CL)(a:Value)(b:Kt)(c d e f g:Value)(h:PH):R:=
 vb (xAri Int.add a (vN 1)) fun i=>
 b [c,d,e,f,g,i] h
def F46_1(n:Nat)(cl:CL)(a:Value)(b:Kt)(c d e f g i j k:Value)(h:PH):R:=
 vb (xAri Int.add a (vN 1)) fun l=>
 b [c,d,e,f,g,i,j,k,l] h
def F46_2(n:Nat)(cl:CL)(a b c:Value)(d:Kt)(e f g i j k l:Value)(h:PH):R:=
 vb (xIdxS 1 a b) fun m=>
 hb (xSt1 m tt h) fun _ h=>
 hb (xBS 1 (bsRow Try.prog 24 1 [(0,b)]) h) fun o h=>
 hb (xApp (appInfo Try.prog #[24,24]) c o h) fun p h=>
 d [e,a,p,f,g,i,j,k,l] h
def F46_3(n:Nat)(cl:CL)(a:Kt)(b:List Value)(h:PH):R:=
 u9 b fun c d e f g i j k l=>F46_1 n cl l a c d e f g i j k h
def F46_4(n:Nat)(cl:CL)(a b c d e f g i j:Value)(h:PH)(k:Kt):R:=
 vb (xIdxS 1 a b) fun l=>
 vb (xLd l h) fun m=>
 vb (xLdA 7 c h) fun o=>
 vb (pcall (F52 n cl o m (h.fzn))) fun p=>
 vb (gd (isB true p) (some d)) fun q=>
 vb (gd (isB true p) (some m)) fun r=>
 vb (gd (isB true p) (xIdxS 1 q r)) fun s=>
 vb (gd (isB true p) (xLd s h)) fun t=>
 vb (gd (isB true p) (xNot t)) fun v=>
 vb (xPick p v ff) fun w=>
 bite w (F46_2 n cl d m e k c f g i a j b h) (k [c,d,e,f,g,i,a,j,b] h)
def F46_5(n:Nat)(cl:CL)(a b:Value)(c:Kt)(d e f g i j k:Value)(l:Kt)(h:PH):R:=
 vb (xCmp ilt a b) fun m=>
 bite m (jn (F46_3 n cl c) (F46_4 n cl d a e f g i j k b h)) (l [e,f,g,i,j,k] h)
def F46_6(n:Nat)(cl:CL)(a b:Kt)(c:List Value)(h:PH):R:=
 u9 c fun d e f g i j k l m=>F46_5 n cl m l b k d e f g i j a h
def F46_7(n:Nat)(cl:CL)(a:Value)(b:Kt)(c d e f g i:Value)(h:PH):R:=
 vb (xFld 1 a) fun j=>
 vb (xLd j h) fun k=>
 vb (xLenS k) fun l=>
 lp n (F46_6 n cl b) [c,d,e,f,g,i,k,l,(vN 0)] h
def F46_8(n:Nat)(cl:CL)(a:Kt)(b:List Value)(h:PH):R:=
 u6 b fun c d e f g i=>F46_0 n cl i a c d e f g h
def F46_9(n:Nat)(cl:CL)(a b c d e f:Value)(h:PH)(g:Kt):R:=
 vb (xIdxS 3 a b) fun i=>
 vb (xLdA 3 i h) fun j=>
 hb (xAlloc (zcells Try.prog 40) h) fun k h=>
 hb (xStA 3 k j h) fun _ h=>
 vb (xFld 0 k) fun l=>
 vb (xIdxS 1 c (vN 0)) fun m=>
 vb (xLd l h) fun o=>
 vb (xLd m h) fun p=>
 vb (xCmp ine o p) fun q=>
 bite q (g [d,e,c,a,f,b] h) (F46_7 n cl k g d e c a f b h)
def F46_10(n:Nat)(cl:CL)(a:Value)(b:Kt)(c d:Value)(h:PH):R:=
 vb (acut Try.prog 24 a (some (vN 1)) none none) fun e=>
 b [c,d,e] h
def F46_11(n:Nat)(cl:CL)(a b:Value)(c:Kt)(d e f g:Value)(i:Kt)(h:PH):R:=
 vb (xCmp ilt a b) fun j=>
 bite j (jn (F46_8 n cl c) (F46_9 n cl d a e f g b h)) (F46_10 n cl e i f g h)
def F46_12(n:Nat)(cl:CL)(a b:Kt)(c:List Value)(h:PH):R:=
 u6 c fun d e f g i j=>F46_11 n cl j i b g f d e a h
def F46_13(n:Nat)(cl:CL)(a:Value)(b:Kt)(c d:Value)(h:PH):R:=
 vb (xFld 3 a) fun e=>
 vb (xLd e h) fun f=>
 vb (xLenS f) fun g=>
 lp n (F46_12 n cl b) [a,c,d,f,g,(vN 0)] h
def F46_14(n:Nat)(cl:CL)(a b:Value)(c:Kt)(d:Value)(h:PH):R:=
 vb (xLenS a) fun e=>
 vb (xCmp (fun x y=>ilt y x) e (vN 0)) fun f=>
 bite f (F46_13 n cl b c d a h) (some (d,h))
def F46_15(n:Nat)(cl:CL)(a:Kt)(b:List Value)(h:PH):R:=
 u3 b fun c d e=>F46_14 n cl e c a d h
def F46_16(n:Nat)(cl:CL)(a:Value)(h:PH):R:=
 vb (xFld 0 a) fun b=>
 vb (xLd b h) fun c=>
 hb (xMk (zinfo Try.prog 47) c c h) fun d h=>
 vb (xFld 2 a) fun e=>
 vb (xLd e h) fun f=>
 vb (xIdxS 1 d f) fun g=>
 hb (xSt1 g tt h) fun _ h=>
 vb (xFld 2 a) fun i=>
 vb (xLd i h) fun j=>
 hb (xBS 1 (bsRow Try.prog 24 1 [(0,j)]) h) fun k h=>
 lp n (F46_15 n cl) [a,d,k] h
def F46(n:Nat)(cl:CL)(a:Value)(h:PH):R:=
 hb (xBox a h) fun b h=>
 vb (xLdA 7 b h) fun c=>
 vb (pcall (F49 n cl c (h.fzn))) fun d=>
 vb (xNot d) fun e=>
 bite e (some (nils,h)) (F46_16 n cl b h)
theorem S46:OkF Try.prog 46 (A1 (F46 n cl)):=exA1 n ⟨[49,52],[],[(6,[1,3,4]),(9,[1,3,4,28,29,30]),(13,[1,3,4,28,29,30,41,42,43]),(18,[1,3,4,28,29,30,41,42,43]),(19,[1,3,4,28,29,30])],[(11,[0,2,3,1,4,5])],[],[],[],[]⟩ (svc_ok (S49 n hcl) (svc_ok (S52 n hcl) hcl)) hmx Try.func46 (by kernel_rfl) fun _ _=>by kernel_rfl
def F86_0(n:Nat)(cl:CL)(a:Value)(b:Kt)(c d e f g:Value)(h:PH):R:=
 vb (xAri Int.add a (vN 1)) fun i=>
 b [c,d,e,f,g,i] h
def F86_1(n:Nat)(cl:CL)(a:Value)(b:Kt)(c d e f g:Value)(h:PH):R:=
 vb (xAri Int.add a (vN 1)) fun i=>
 b [c,d,i,e,f,g] h
def F86_2(n:Nat)(cl:CL)(a b c:Value)(d:Kt)(e f g i:Value)(h:PH):R:=
 vb (xIdxS 1 a b) fun j=>
 vb (xLd j h) fun k=>
 vb (xAri Int.add c k) fun l=>
 d [a,e,l,f,g,i] h
def F86_3(n:Nat)(cl:CL)(a b c:Value)(d:Kt)(e f g i:Value)(h:PH):R:=
 vb (xIdxS 1 a b) fun j=>
 vb (xLd j h) fun k=>
 vb (xCmp ieq k (vM 0)) fun l=>
 bite l (some ((vM 0),h)) (F86_2 n cl a b c d e f g i h)
def F86_4(n:Nat)(cl:CL)(a:Kt)(b:List Value)(h:PH):R:=
 u6 b fun c d e f g i=>F86_0 n cl i a c d e f g h
def F86_5(n:Nat)(cl:CL)(a b c d e f:Value)(h:PH)(g:Kt):R:=
 vb (xIdxS 1 a b) fun i=>
 vb (xLd i h) fun j=>
 vb (xLdA 7 c h) fun k=>
 vb (pcall (F52 n cl k j (h.fzn))) fun l=>
 vb (xNot l) fun m=>
 bite m (F86_1 n cl d g e c a f b h) (F86_3 n cl e j d g c a f b h)
def F86_6(n:Nat)(cl:CL)(a:Value)(h:PH):R:=
 vb ((if plainV.plainVs [a,(vN 1000000000)]then prun Try.prog (Builtin.min_ #[3,3] 3 ⟨[a,(vN 1000000000)]⟩)else none)) fun b=>
 some (b,h)
def F86_7(n:Nat)(cl:CL)(a b:Value)(c:Kt)(d e f g:Value)(h:PH):R:=
 vb (xCmp ilt a b) fun i=>
 bite i (jn (F86_4 n cl c) (F86_5 n cl d a e f g b h)) (F86_6 n cl f h)
def F86_8(n:Nat)(cl:CL)(a:Kt)(b:List Value)(h:PH):R:=
 u6 b fun c d e f g i=>F86_7 n cl i g a f d e c h
def F86(n:Nat)(cl:CL)(a b c:Value)(h:PH):R:=
 hb (xBox a h) fun d h=>
 vb (xLenS c) fun e=>
 lp n (F86_8 n cl) [b,d,(vN 0),c,e,(vN 0)] h
theorem S86:OkF Try.prog 86 (A3 (F86 n cl)):=exA3 n ⟨[52],[],[(3,[1,3,7,10,11,12]),(10,[1,3,7,10,11,12])],[],[],[],[],[]⟩ (svc_ok (S52 n hcl) hcl) hmx Try.func86 (by kernel_rfl) fun _ _ _ _=>by kernel_rfl
def F72_0(n:Nat)(cl:CL)(a b:Value)(c:Kt)(d e:Value)(h:PH):R:=
 vb (xIdxS 1 a b) fun f=>
 hb (xSt1 f (vM 0) h) fun _ h=>
 vb (xAri Int.add b (vN 1)) fun g=>
 c [d,a,e,g] h
def F72_1(n:Nat)(cl:CL)(a:Value)(b:Kt)(c d e f g:Value)(h:PH):R:=
 vb (xAri Int.add a (vN 1)) fun i=>
 b [c,d,e,f,g,i] h
def F72_2(n:Nat)(cl:CL)(a b c:Value)(d:Kt)(e f g i:Value)(h:PH):R:=
 vb (xFld 0 a) fun j=>
 vb (xLd j h) fun k=>
 vb (xIdxS 1 b k) fun l=>
 hb (xSt1 l c h) fun _ h=>
 d [e,b,tt,f,g,i] h
def F72_3(n:Nat)(cl:CL)(a:Kt)(b:List Value)(h:PH):R:=
 u6 b fun c d e f g i=>F72_1 n cl i a c d e f g h
def F72_4(n:Nat)(cl:CL)(a b c d e f:Value)(h:PH)(g:Kt):R:=
 vb (xIdxS 3 a b) fun i=>
 vb (xLdA 3 i h) fun j=>
 hb (xAlloc (zcells Try.prog 40) h) fun k h=>
 hb (xStA 3 k j h) fun _ h=>
 vb (xLdA 7 c h) fun l=>
 vb (xFld 1 k) fun m=>
 vb (xLd m h) fun o=>
 vb (pcall (F86 n cl l d o (h.fzn))) fun p=>
 vb (xCmp ine p (vM 0)) fun q=>
 vb (gd (isB true q) (some d)) fun r=>
 vb (gd (isB true q) (xFld 0 k)) fun s=>
 vb (gd (isB true q) (xLd s h)) fun t=>
 vb (gd (isB true q) (xIdxS 1 r t)) fun v=>
 vb (gd (isB true q) (xLd v h)) fun w=>
 vb (gd (isB true q) (xCmp ieq w (vM 0))) fun z=>
 vb (gd (isB true q) (some z)) fun a1=>
 vb (gd (isB false a1) (some p)) fun b1=>
 vb (gd (isB false a1) (some d)) fun c1=>
 vb (gd (isB false a1) (xFld 0 k)) fun d1=>
 vb (gd (isB false a1) (xLd d1 h)) fun e1=>
 vb (gd (isB false a1) (xIdxS 1 c1 e1)) fun f1=>
 vb (gd (isB false a1) (xLd f1 h)) fun g1=>
 vb (gd (isB false a1) (xCmp ilt b1 g1)) fun i1=>
 vb (gd (isB true q) (xPick a1 tt i1)) fun j1=>
 vb (xPick q j1 ff) fun k1=>
 bite k1 (F72_2 n cl k d p g c a e b h) (g [c,d,f,a,e,b] h)
def F72_5(n:Nat)(cl:CL)(a b:Value)(c:Kt)(d e f g:Value)(i:Kt)(h:PH):R:=
 vb (xCmp ilt a b) fun j=>
 bite j (jn (F72_3 n cl c) (F72_4 n cl d a e f b g h)) (i [e,f,g] h)
def F72_6(n:Nat)(cl:CL)(a b:Kt)(c:List Value)(h:PH):R:=
 u6 c fun d e f g i j=>F72_5 n cl j i b g d e f a h
def F72_7(n:Nat)(cl:CL)(a:Value)(b:Kt)(c:Value)(h:PH):R:=
 vb (xFld 3 a) fun d=>
 vb (xLd d h) fun e=>
 vb (xLenS e) fun f=>
 lp n (F72_6 n cl b) [a,c,ff,e,f,(vN 0)] h
def F72_8(n:Nat)(cl:CL)(a:Kt)(b:List Value)(h:PH):R:=
 u3 b fun c d e=>bite e (F72_7 n cl c a d h) (some (d,h))
def F72_9(n:Nat)(cl:CL)(a b c:Value)(d:Kt)(e:Value)(h:PH):R:=
 vb (xCmp ilt a b) fun f=>
 bite f (F72_0 n cl c a d e b h) (lp n (F72_8 n cl) [e,c,tt] h)
def F72_10(n:Nat)(cl:CL)(a:Kt)(b:List Value)(h:PH):R:=
 u4 b fun c d e f=>F72_9 n cl f e d a c h
def F72_11(n:Nat)(cl:CL)(a:Value)(h:PH):R:=
 vb (xFld 0 a) fun b=>
 vb (xLd b h) fun c=>
 hb (xMk (zinfo Try.prog 24) c c h) fun d h=>
 vb (xLenS d) fun e=>
 lp n (F72_10 n cl) [a,d,e,(vN 0)] h
def F72(n:Nat)(cl:CL)(a:Value)(h:PH):R:=
 hb (xBox a h) fun b h=>
 vb (xLdA 7 b h) fun c=>
 vb (pcall (F49 n cl c (h.fzn))) fun d=>
 vb (xNot d) fun e=>
 bite e (some (nils,h)) (F72_11 n cl b h)
theorem S72:OkF Try.prog 72 (A1 (F72 n cl)):=exA1 n ⟨[49,86],[],[(5,[1,3,16,17]),(10,[1,3,5]),(13,[1,3,5,26,27,28]),(18,[1,3,5,26,27,28])],[],[],[],[],[]⟩ (svc_ok (S49 n hcl) (svc_ok (S86 n hcl) hcl)) hmx Try.func72 (by kernel_rfl) fun _ _=>by kernel_rfl
def F47_0(n:Nat)(cl:CL)(a b c:Value)(d:Kt)(e:Value)(h:PH):R:=
 vb (xIdxS 1 a b) fun f=>
 vb (xLd f h) fun g=>
 vb (xCmp ine g (vM 0)) fun i=>
 hb (xBS 1 (bsRow Try.prog 47 1 [(0,i)]) h) fun j h=>
 hb (xApp (appInfo Try.prog #[47,47]) c j h) fun k h=>
 vb (xAri Int.add b (vN 1)) fun l=>
 d [k,a,e,l] h
def F47_1(n:Nat)(cl:CL)(a b c d:Value)(e:Kt)(h:PH):R:=
 vb (xCmp ilt a b) fun f=>
 bite f (F47_0 n cl c a d e b h) (some (d,h))
def F47_2(n:Nat)(cl:CL)(a:Kt)(b:List Value)(h:PH):R:=
 u4 b fun c d e f=>F47_1 n cl f e d c a h
def F47(n:Nat)(cl:CL)(a:Value)(h:PH):R:=
 hb (xBox a h) fun b h=>
 vb (xLdA 7 b h) fun c=>
 hb (fcall h (F72 n cl c (h.fzn))) fun d h=>
 vb (xLenS d) fun e=>
 lp n (F47_2 n cl) [nils,d,e,(vN 0)] h
theorem S47:OkF Try.prog 47 (A1 (F47 n cl)):=exA1 n ⟨[],[72],[(3,[3,7,8,9])],[],[],[],[],[]⟩ (svc_ok (S72 n hcl) hcl) hmx Try.func47 (by kernel_rfl) fun _ _=>by kernel_rfl
def F74_0(n:Nat)(cl:CL)(a:Value)(b:Kt)(c d e f:Value)(h:PH):R:=
 vb (xAri Int.add a (vN 1)) fun g=>
 b [c,d,e,f,g] h
def F74_1(n:Nat)(cl:CL)(a b c d:Value)(e:Kt)(f:Value)(h:PH):R:=
 vb (xIdxS 1 a b) fun g=>
 vb (xLd g h) fun i=>
 vb (xLdA 7 c h) fun j=>
 vb (pcall (F52 n cl j i (h.fzn))) fun k=>
 vb (xNot k) fun l=>
 vb (gd (isB false l) (some d)) fun m=>
 vb (gd (isB false l) (some i)) fun o=>
 vb (gd (isB false l) (xIdxS 1 m o)) fun p=>
 vb (gd (isB false l) (xLd p h)) fun q=>
 vb (gd (isB false l) (xNot q)) fun r=>
 vb (xPick l tt r) fun s=>
 bite s (some (ff,h)) (F74_0 n cl b e d c a f h)
def F74_2(n:Nat)(cl:CL)(a b c d e:Value)(f:Kt)(h:PH):R:=
 vb (xCmp ilt a b) fun g=>
 bite g (F74_1 n cl c a d e f b h) (some (tt,h))
def F74_3(n:Nat)(cl:CL)(a:Kt)(b:List Value)(h:PH):R:=
 u5 b fun c d e f g=>F74_2 n cl g f e d c a h
def F74(n:Nat)(cl:CL)(a b c:Value)(h:PH):R:=
 hb (xBox a h) fun d h=>
 vb (xLenS c) fun e=>
 lp n (F74_3 n cl) [b,d,c,e,(vN 0)] h
theorem S74:OkF Try.prog 74 (A3 (F74 n cl)):=exA3 n ⟨[52],[],[(2,[1,3,9,10,11])],[],[],[],[],[]⟩ (svc_ok (S52 n hcl) hcl) hmx Try.func74 (by kernel_rfl) fun _ _ _ _=>by kernel_rfl
def F50_0(n:Nat)(cl:CL)(a:Value)(b:Kt)(c d e f g:Value)(h:PH):R:=
 vb (xAri Int.add a (vN 1)) fun i=>
 b [c,d,e,f,g,i] h
def F50_1(n:Nat)(cl:CL)(a b:Value)(c:Kt)(d e f g:Value)(h:PH):R:=
 vb (xFld 0 a) fun i=>
 vb (xLd i h) fun j=>
 vb (xIdxS 1 b j) fun k=>
 hb (xSt1 k tt h) fun _ h=>
 c [d,b,tt,e,f,g] h
def F50_2(n:Nat)(cl:CL)(a:Kt)(b:List Value)(h:PH):R:=
 u6 b fun c d e f g i=>F50_0 n cl i a c d e f g h
def F50_3(n:Nat)(cl:CL)(a b c d e f:Value)(h:PH)(g:Kt):R:=
 vb (xIdxS 3 a b) fun i=>
 vb (xLdA 3 i h) fun j=>
 hb (xAlloc (zcells Try.prog 40) h) fun k h=>
 hb (xStA 3 k j h) fun _ h=>
 vb (xFld 0 k) fun l=>
 vb (xLd l h) fun m=>
 vb (xIdxS 1 c m) fun o=>
 vb (xLd o h) fun p=>
 vb (xNot p) fun q=>
 vb (gd (isB true q) (xLdA 7 d h)) fun r=>
 vb (gd (isB true q) (some c)) fun s=>
 vb (gd (isB true q) (xFld 1 k)) fun t=>
 vb (gd (isB true q) (xLd t h)) fun v=>
 vb (gd (isB true q) (pcall (F74 n cl r s v (h.fzn)))) fun w=>
 vb (xPick q w ff) fun z=>
 bite z (F50_1 n cl k c g d a e b h) (g [d,c,f,a,e,b] h)
def F50_4(n:Nat)(cl:CL)(a b:Value)(c:Kt)(d e f g:Value)(i:Kt)(h:PH):R:=
 vb (xCmp ilt a b) fun j=>
 bite j (jn (F50_2 n cl c) (F50_3 n cl d a e f b g h)) (i [f,e,g] h)
def F50_5(n:Nat)(cl:CL)(a b:Kt)(c:List Value)(h:PH):R:=
 u6 c fun d e f g i j=>F50_4 n cl j i b g e d f a h
def F50_6(n:Nat)(cl:CL)(a:Value)(b:Kt)(c:Value)(h:PH):R:=
 vb (xFld 3 a) fun d=>
 vb (xLd d h) fun e=>
 vb (xLenS e) fun f=>
 lp n (F50_5 n cl b) [a,c,ff,e,f,(vN 0)] h
def F50_7(n:Nat)(cl:CL)(a:Kt)(b:List Value)(h:PH):R:=
 u3 b fun c d e=>bite e (F50_6 n cl c a d h) (some (d,h))
def F50(n:Nat)(cl:CL)(a:Value)(h:PH):R:=
 hb (xBox a h) fun b h=>
 vb (xFld 0 b) fun c=>
 vb (xLd c h) fun d=>
 hb (xMk (zinfo Try.prog 47) d d h) fun e h=>
 lp n (F50_7 n cl) [b,e,tt] h
theorem S50:OkF Try.prog 50 (A1 (F50 n cl)):=exA1 n ⟨[74],[],[(3,[1,3,4]),(6,[1,3,4,12,13,14]),(10,[1,3,4,12,13,14])],[],[],[],[],[]⟩ (svc_ok (S74 n hcl) hcl) hmx Try.func50 (by kernel_rfl) fun _ _=>by kernel_rfl
def F31_0(n:Nat)(cl:CL)(a:Value)(h:PH):R:=
 vb (xLdA 7 a h) fun b=>
 hb (fcall h (F50 n cl b (h.fzn))) fun c h=>
 some (c,h)
def F31(n:Nat)(cl:CL)(a:Value)(h:PH):R:=
 hb (xBox a h) fun b h=>
 vb (xLdA 7 b h) fun c=>
 vb (pcall (F49 n cl c (h.fzn))) fun d=>
 vb (xNot d) fun e=>
 bite e (some (nils,h)) (F31_0 n cl b h)
theorem S31:OkF Try.prog 31 (A1 (F31 n cl)):=exA1 n ⟨[49],[50],[],[],[],[],[],[]⟩ (svc_ok (S49 n hcl) (svc_ok (S50 n hcl) hcl)) hmx Try.func31 (by kernel_rfl) fun _ _=>by kernel_rfl
def F73_0(n:Nat)(cl:CL)(a:Value)(b:Kt)(c d e f g i:Value)(h:PH):R:=
 vb (xAri Int.add a (vN 1)) fun j=>
 b [c,d,e,f,g,i,j] h
def F73_1(n:Nat)(cl:CL)(a b c d e f:Value)(g:Kt)(i j k l m o p:Value)(h:PH):R:=
 vb (xIdxS 1 a b) fun q=>
 vb (xLd q h) fun r=>
 vb (gd (isB true c) (some b)) fun s=>
 vb (gd (isB true c) (some d)) fun t=>
 vb (gd (isB true c) (xCmp ieq s t)) fun v=>
 vb (gd (isB true c) (some v)) fun w=>
 vb (gd (isB false w) (xLdA 7 e h)) fun z=>
 vb (gd (isB false w) (some r)) fun a1=>
 vb (gd (isB false w) (pcall (F52 n cl z a1 (h.fzn)))) fun b1=>
 vb (gd (isB false w) (some b1)) fun c1=>
 vb (gd (isB true c1) (some f)) fun d1=>
 vb (gd (isB true c1) (some r)) fun e1=>
 vb (gd (isB true c1) (xIdxS 1 d1 e1)) fun f1=>
 vb (gd (isB true c1) (xLd f1 h)) fun g1=>
 vb (gd (isB false w) (xPick c1 g1 ff)) fun i1=>
 vb (gd (isB true c) (xPick w tt i1)) fun j1=>
 vb (xPick c j1 ff) fun k1=>
 vb (xAri Int.add b (vN 1)) fun l1=>
 g [f,e,i,j,d,k,k1,l,m,o,a,p,l1] h
def F73_2(n:Nat)(cl:CL)(a b:Value)(c:Kt)(d e f g i j:Value)(h:PH):R:=
 hb (xBS 1 (bsRow Try.prog 24 1 [(0,a)]) h) fun k h=>
 hb (xApp (appInfo Try.prog #[24,24]) b k h) fun l h=>
 c [d,e,f,l,g,i,j] h
def F73_3(n:Nat)(cl:CL)(a b c:Value)(d:Kt)(e f g i j k:Value)(h:PH):R:=
 bite a (F73_2 n cl b c d e f g i j k h) (d [e,f,g,c,i,j,k] h)
def F73_4(n:Nat)(cl:CL)(a b c d e f g:Value)(i:Kt)(j k l m o p:Value)(q:Kt)(h:PH):R:=
 vb (xCmp ilt a b) fun r=>
 bite r (F73_1 n cl c a d e f g i j k l m o p b h) (F73_3 n cl d l k q g f j m o p h)
def F73_5(n:Nat)(cl:CL)(a b:Kt)(c:List Value)(h:PH):R:=
 u13 c fun d e f g i j k l m o p q r=>F73_4 n cl r q p k i e d b f g j l m o a h
def F73_6(n:Nat)(cl:CL)(a:Kt)(b:List Value)(h:PH):R:=
 u7 b fun c d e f g i j=>F73_0 n cl j a c d e f g i h
def F73_7(n:Nat)(cl:CL)(a b c d e f g:Value)(h:PH)(i:Kt):R:=
 vb (xIdxS 1 a b) fun j=>
 vb (xLd j h) fun k=>
 vb (xLdA 7 c h) fun l=>
 vb (pcall (F52 n cl l k (h.fzn))) fun m=>
 vb (xFld 1 d) fun o=>
 vb (xLd o h) fun p=>
 vb (xLenS p) fun q=>
 lp n (F73_5 n cl i) [e,c,d,f,b,k,m,a,g,b,p,q,(vN 0)] h
def F73_8(n:Nat)(cl:CL)(a b:Value)(c:Kt)(d e f g i:Value)(h:PH):R:=
 vb (xCmp ilt a b) fun j=>
 bite j (jn (F73_6 n cl c) (F73_7 n cl d a e f g i b h)) (some (i,h))
def F73_9(n:Nat)(cl:CL)(a:Kt)(b:List Value)(h:PH):R:=
 u7 b fun c d e f g i j=>F73_8 n cl j i a g d e c f h
def F73(n:Nat)(cl:CL)(a b c:Value)(h:PH):R:=
 hb (xBox a h) fun d h=>
 hb (xBox c h) fun e h=>
 vb (xFld 1 e) fun f=>
 vb (xLd f h) fun g=>
 vb (xLenS g) fun i=>
 lp n (F73_9 n cl) [b,d,e,nils,g,i,(vN 0)] h
theorem S73:OkF Try.prog 73 (A3 (F73 n cl)):=exA3 n ⟨[52],[],[(3,[1,3,5,7,14,15,16]),(7,[1,3,5,7,8,9,10,14,15,16,25,26,27]),(13,[1,3,5,7,14,15,16])],[],[],[],[],[]⟩ (svc_ok (S52 n hcl) hcl) hmx Try.func73 (by kernel_rfl) fun _ _ _ _=>by kernel_rfl
def F48_0(n:Nat)(cl:CL)(a b c:Value)(d:Kt)(e f:Value)(h:PH):R:=
 vb (xFld 0 a) fun g=>
 vb (xLd g h) fun i=>
 hb (xMk (zinfo Try.prog 47) i i h) fun j h=>
 vb (xIdxS 1 b c) fun k=>
 hb (xSt1 k j h) fun _ h=>
 vb (xAri Int.add c (vN 1)) fun l=>
 d [a,e,b,f,l] h
def F48_1(n:Nat)(cl:CL)(a b c d:Value)(e:Kt)(f g i j k l:Value)(h:PH):R:=
 vb (xIdxS 1 a b) fun m=>
 vb (xLd m h) fun o=>
 vb (xFld 0 c) fun p=>
 vb (xLd p h) fun q=>
 vb (xIdxS 1 d q) fun r=>
 vb (xLd r h) fun s=>
 vb (xIdxS 1 s o) fun t=>
 hb (xSt1 t tt h) fun _ h=>
 vb (xAri Int.add b (vN 1)) fun v=>
 e [f,g,d,c,i,j,k,a,l,v] h
def F48_2(n:Nat)(cl:CL)(a:Value)(b:Kt)(c d e f g:Value)(h:PH):R:=
 vb (xAri Int.add a (vN 1)) fun i=>
 b [c,d,e,f,g,i] h
def F48_3(n:Nat)(cl:CL)(a b c d e:Value)(f:Kt)(g i j k l:Value)(m:Kt)(h:PH):R:=
 vb (xCmp ilt a b) fun o=>
 bite o (F48_1 n cl c a d e f g i j k l b h) (F48_2 n cl l m g i e j k h)
def F48_4(n:Nat)(cl:CL)(a b:Kt)(c:List Value)(h:PH):R:=
 u10 c fun d e f g i j k l m o=>F48_3 n cl o m l g f b d e i j k a h
def F48_5(n:Nat)(cl:CL)(a b c d:Value)(e:Kt)(f g:Value)(h:PH):R:=
 vb (xIdxS 3 a b) fun i=>
 vb (xLdA 3 i h) fun j=>
 hb (xAlloc (zcells Try.prog 40) h) fun k h=>
 hb (xStA 3 k j h) fun _ h=>
 vb (xLdA 7 c h) fun l=>
 vb (xLdA 3 k h) fun m=>
 hb (fcall h (F73 n cl l d m (h.fzn))) fun o h=>
 vb (xLenS o) fun p=>
 lp n (F48_4 n cl e) [c,d,f,k,a,g,b,o,p,(vN 0)] h
def F48_6(n:Nat)(cl:CL)(a b c d:Value)(e:Kt)(f g i j k l:Value)(h:PH):R:=
 vb (xIdxS 1 a b) fun m=>
 vb (xIdxS 1 a b) fun o=>
 vb (xLd m h) fun p=>
 vb (xLd o h) fun q=>
 vb (xIdxS 1 q c) fun r=>
 vb (xLd r h) fun s=>
 vb (gd (isB false s) (some a)) fun t=>
 vb (gd (isB false s) (some b)) fun v=>
 vb (gd (isB false s) (xIdxS 1 t v)) fun w=>
 vb (gd (isB false s) (some d)) fun z=>
 vb (gd (isB false s) (xLd w h)) fun a1=>
 vb (gd (isB false s) (xIdxS 1 a1 z)) fun b1=>
 vb (gd (isB false s) (xLd b1 h)) fun c1=>
 vb (gd (isB false s) (some c1)) fun d1=>
 vb (gd (isB true d1) (some a)) fun e1=>
 vb (gd (isB true d1) (some d)) fun f1=>
 vb (gd (isB true d1) (xIdxS 1 e1 f1)) fun g1=>
 vb (gd (isB true d1) (some c)) fun i1=>
 vb (gd (isB true d1) (xLd g1 h)) fun j1=>
 vb (gd (isB true d1) (xIdxS 1 j1 i1)) fun k1=>
 vb (gd (isB true d1) (xLd k1 h)) fun l1=>
 vb (gd (isB false s) (xPick d1 l1 ff)) fun m1=>
 vb (xPick s tt m1) fun o1=>
 vb (xIdxS 1 p c) fun p1=>
 hb (xSt1 p1 o1 h) fun _ h=>
 vb (xAri Int.add c (vN 1)) fun q1=>
 e [f,a,d,b,g,i,j,k,l,q1] h
def F48_7(n:Nat)(cl:CL)(a:Value)(b:Kt)(c d e f g i:Value)(h:PH):R:=
 vb (xAri Int.add a (vN 1)) fun j=>
 b [c,d,e,f,g,i,j] h
def F48_8(n:Nat)(cl:CL)(a b c d e:Value)(f:Kt)(g i j k l:Value)(m:Kt)(h:PH):R:=
 vb (xCmp ilt a b) fun o=>
 bite o (F48_6 n cl c d a e f g i j k l b h) (F48_7 n cl l m g c e i j k h)
def F48_9(n:Nat)(cl:CL)(a b:Kt)(c:List Value)(h:PH):R:=
 u10 c fun d e f g i j k l m o=>F48_8 n cl o m e g f b d i j k l a h
def F48_10(n:Nat)(cl:CL)(a:Value)(b:Kt)(c d e f g i:Value)(h:PH):R:=
 vb (xLenS a) fun j=>
 lp n (F48_9 n cl b) [c,a,d,e,f,g,i,e,j,(vN 0)] h
def F48_11(n:Nat)(cl:CL)(a:Value)(b:Kt)(c d e:Value)(h:PH):R:=
 vb (xAri Int.add a (vN 1)) fun f=>
 b [c,d,e,f] h
def F48_12(n:Nat)(cl:CL)(a b c:Value)(d:Kt)(e f g i:Value)(j:Kt)(h:PH):R:=
 vb (xCmp ilt a b) fun k=>
 bite k (F48_10 n cl c d e f a g i b h) (F48_11 n cl i j e c g h)
def F48_13(n:Nat)(cl:CL)(a b:Kt)(c:List Value)(h:PH):R:=
 u7 c fun d e f g i j k=>F48_12 n cl k j e b d f g i a h
def F48_14(n:Nat)(cl:CL)(a:Value)(b:Kt)(c d e:Value)(h:PH):R:=
 vb (xLenS a) fun f=>
 lp n (F48_13 n cl b) [c,a,d,e,d,f,(vN 0)] h
def F48_15(n:Nat)(cl:CL)(a b c:Value)(d:Kt)(e:Value)(h:PH):R:=
 vb (xIdxS 1 a b) fun f=>
 vb (xLd f h) fun g=>
 vb (xIdxS 1 g b) fun i=>
 vb (xLd i h) fun j=>
 vb (xIdxS 1 c b) fun k=>
 hb (xSt1 k j h) fun _ h=>
 vb (xAri Int.add b (vN 1)) fun l=>
 d [a,c,e,l] h
def F48_16(n:Nat)(cl:CL)(a b c d:Value)(e:Kt)(h:PH):R:=
 vb (xCmp ilt a b) fun f=>
 bite f (F48_15 n cl c a d e b h) (some (d,h))
def F48_17(n:Nat)(cl:CL)(a:Kt)(b:List Value)(h:PH):R:=
 u4 b fun c d e f=>F48_16 n cl f e c d a h
def F48_18(n:Nat)(cl:CL)(a b:Value)(h:PH):R:=
 vb (xFld 0 a) fun c=>
 vb (xLd c h) fun d=>
 hb (xMk (zinfo Try.prog 47) d d h) fun e h=>
 vb (xLenS e) fun f=>
 lp n (F48_17 n cl) [b,e,f,(vN 0)] h
def F48_19(n:Nat)(cl:CL)(a b c:Value)(d:Kt)(e:Value)(h:PH):R:=
 vb (xCmp ilt a b) fun f=>
 bite f (F48_14 n cl c d e a b h) (F48_18 n cl e c h)
def F48_20(n:Nat)(cl:CL)(a:Kt)(b:List Value)(h:PH):R:=
 u4 b fun c d e f=>F48_19 n cl f e d a c h
def F48_21(n:Nat)(cl:CL)(a b:Value)(h:PH):R:=
 vb (xLenS a) fun c=>
 lp n (F48_20 n cl) [b,a,c,(vN 0)] h
def F48_22(n:Nat)(cl:CL)(a b c d e:Value)(f:Kt)(g:Value)(h:PH):R:=
 vb (xCmp ilt a b) fun i=>
 bite i (F48_5 n cl c a d e f g b h) (F48_21 n cl g d h)
def F48_23(n:Nat)(cl:CL)(a:Kt)(b:List Value)(h:PH):R:=
 u6 b fun c d e f g i=>F48_22 n cl i g f c d a e h
def F48_24(n:Nat)(cl:CL)(a b c:Value)(h:PH):R:=
 vb (xFld 3 a) fun d=>
 vb (xLd d h) fun e=>
 vb (xLenS e) fun f=>
 lp n (F48_23 n cl) [a,b,c,e,f,(vN 0)] h
def F48_25(n:Nat)(cl:CL)(a b c d:Value)(e:Kt)(f:Value)(h:PH):R:=
 vb (xCmp ilt a b) fun g=>
 bite g (F48_0 n cl c d a e f b h) (F48_24 n cl c f d h)
def F48_26(n:Nat)(cl:CL)(a:Kt)(b:List Value)(h:PH):R:=
 u5 b fun c d e f g=>F48_25 n cl g f c e a d h
def F48_27(n:Nat)(cl:CL)(a:Value)(h:PH):R:=
 vb (xLdA 7 a h) fun b=>
 hb (fcall h (F31 n cl b (h.fzn))) fun c h=>
 vb (xFld 0 a) fun d=>
 vb (xLd d h) fun e=>
 hb (xMk (zinfo Try.prog 69) e e h) fun f h=>
 vb (xLenS f) fun g=>
 lp n (F48_26 n cl) [a,c,f,g,(vN 0)] h
def F48(n:Nat)(cl:CL)(a:Value)(h:PH):R:=
 hb (xBox a h) fun b h=>
 vb (xLdA 7 b h) fun c=>
 vb (pcall (F49 n cl c (h.fzn))) fun d=>
 vb (xNot d) fun e=>
 bite e (some (nils,h)) (F48_27 n cl b h)
theorem S48:OkF Try.prog 48 (A1 (F48 n cl)):=exA1 n ⟨[49],[31,73],[(6,[1,3,4,24,25]),(11,[1,3,4,36,37,38]),(14,[1,3,4,7,36,37,38,45,46,47]),(20,[1,4,61,62]),(23,[1,4,10,61,62,66,67]),(26,[1,4,10,11,61,62,66,67,71,72]),(34,[4,13,113,114])],[(28,[0,1,2,4,5,6,7,9,3,8,10,11,12,13,14,15,17,16,18,19,20,21,22,23,25,24,26,27,28,29,30,31])],[],[],[],[]⟩ (svc_ok (S49 n hcl) (svc_ok (S31 n hcl) (svc_ok (S73 n hcl) hcl))) hmx Try.func48 (by kernel_rfl) fun _ _=>by kernel_rfl
def F30_0(n:Nat)(cl:CL)(a:Value)(b:Kt)(c d e f:Value)(h:PH):R:=
 vb (xAri Int.add a (vN 1)) fun g=>
 b [c,d,e,f,g] h
def F30_1(n:Nat)(cl:CL)(a b c:Value)(d:Kt)(e f:Value)(h:PH):R:=
 vb (xIdxS 1 a b) fun g=>
 vb (xLd g h) fun i=>
 vb (xNot i) fun j=>
 vb (gd (isB false j) (some c)) fun k=>
 vb (gd (isB false j) (some b)) fun l=>
 vb (gd (isB false j) (xIdxS 1 k l)) fun m=>
 vb (gd (isB false j) (xLd m h)) fun o=>
 vb (gd (isB false j) (xNot o)) fun p=>
 vb (xPick j tt p) fun q=>
 bite q (some (Value.tuple ⟨[b,(vN 7)]⟩,h)) (F30_0 n cl b d e a c f h)
def F30_2(n:Nat)(cl:CL)(a:Value)(b:Kt)(c d:Value)(h:PH):R:=
 vb (xAri Int.add a (vN 1)) fun e=>
 b [c,d,e] h
def F30_3(n:Nat)(cl:CL)(a b:Value)(c:Kt)(d:Value)(h:PH):R:=
 vb (xIdxS 1 a b) fun e=>
 vb (xLd e h) fun f=>
 bite f (some (Value.tuple ⟨[b,(vN 8)]⟩,h)) (F30_2 n cl b c a d h)
def F30_4(n:Nat)(cl:CL)(a b c:Value)(d:Kt)(h:PH):R:=
 vb (xCmp ilt a b) fun e=>
 bite e (F30_3 n cl c a d b h) (some (Value.tuple ⟨[(vM 0),(vN 0)]⟩,h))
def F30_5(n:Nat)(cl:CL)(a:Kt)(b:List Value)(h:PH):R:=
 u3 b fun c d e=>F30_4 n cl e d c a h
def F30_6(n:Nat)(cl:CL)(a:Value)(h:PH):R:=
 vb (xLdA 7 a h) fun b=>
 hb (fcall h (F48 n cl b (h.fzn))) fun c h=>
 vb (xLenS c) fun d=>
 lp n (F30_5 n cl) [c,d,(vN 0)] h
def F30_7(n:Nat)(cl:CL)(a b c d:Value)(e:Kt)(f:Value)(h:PH):R:=
 vb (xCmp ilt a b) fun g=>
 bite g (F30_1 n cl c a d e f b h) (F30_6 n cl f h)
def F30_8(n:Nat)(cl:CL)(a:Kt)(b:List Value)(h:PH):R:=
 u5 b fun c d e f g=>F30_7 n cl g f d e a c h
def F30_9(n:Nat)(cl:CL)(a:Value)(h:PH):R:=
 vb (xLdA 7 a h) fun b=>
 vb (xLdA 7 a h) fun c=>
 hb (fcall h (F46 n cl b (h.fzn))) fun d h=>
 lchk (xLdA 7 a h) c<|
 hb (fcall h (F47 n cl c (h.fzn))) fun e h=>
 vb (xLenS d) fun f=>
 lp n (F30_8 n cl) [a,d,e,f,(vN 0)] h
def F30(n:Nat)(cl:CL)(a:Value)(h:PH):R:=
 hb (xBox a h) fun b h=>
 vb (xLdA 7 b h) fun c=>
 vb (pcall (F45 n cl c (h.fzn))) fun d=>
 vb (xExt 0 d) fun e=>
 vb (xExt 1 d) fun f=>
 vb (xCmp ine f (vN 0)) fun g=>
 bite g (some (Value.tuple ⟨[e,f]⟩,h)) (F30_9 n cl b h)
theorem S30:OkF Try.prog 30 (A1 (F30 n cl)):=exA1 n ⟨[45],[46,47,48],[(6,[1,6,7,25,26]),(12,[44,45,46])],[(4,[0,2,1,3,4,5])],[(4,[1,2])],[],[],[]⟩ (svc_ok (S45 n hcl) (svc_ok (S46 n hcl) (svc_ok (S47 n hcl) (svc_ok (S48 n hcl) hcl)))) hmx Try.func30 (by kernel_rfl) fun _ _=>by kernel_rfl
def F16(n:Nat)(cl:CL)(a:Value)(h:PH):R:=
 hb (xBox a h) fun b h=>
 vb (xLdA 7 b h) fun c=>
 vb (pcall (F30 n cl c (h.fzn))) fun d=>
 vb (xExt 0 d) fun e=>
 vb (xExt 1 d) fun f=>
 vb (xCmp ieq f (vN 0)) fun g=>
 some (g,h)
theorem S16:OkF Try.prog 16 (A1 (F16 n cl)):=exA1 n ⟨[30],[],[],[],[],[],[],[]⟩ (svc_ok (S30 n hcl) hcl) hmx Try.func16 (by kernel_rfl) fun _ _=>by kernel_rfl
def F33(n:Nat)(cl:CL)(a:Value)(h:PH):R:=
 vb (xNil a) fun b=>
 vb (xFld 8 b) fun c=>
 vb (xLd c h) fun d=>
 hb (xBS 1 (bsRow Try.prog 48 1 [(0,nils)]) h) fun e h=>
 hb (xApp (appInfo Try.prog #[48,48]) d e h) fun f h=>
 vb (xNil a) fun g=>
 vb (xFld 8 g) fun i=>
 hb (xSt1 i f h) fun _ h=>
 vb (xNil a) fun j=>
 vb (xFld 9 j) fun k=>
 vb (xLd k h) fun l=>
 hb (xMMk h) fun m h=>
 hb (xBS 1 (bsRow Try.prog 49 1 [(0,m)]) h) fun o h=>
 hb (xApp (appInfo Try.prog #[49,49]) l o h) fun p h=>
 vb (xNil a) fun q=>
 vb (xFld 9 q) fun r=>
 hb (xSt1 r p h) fun _ h=>
 vb (xNil a) fun s=>
 vb (xFld 8 s) fun t=>
 vb (xLd t h) fun v=>
 vb (xLenS v) fun w=>
 vb (xAri Int.sub w (vN 1)) fun z=>
 some (z,h)
theorem S33:OkF Try.prog 33 (A1 (F33 n cl)):=exA1 n ⟨[],[],[],[],[],[],[],[]⟩ hcl hmx Try.func33 (by kernel_rfl) fun _ _=>by kernel_rfl
def F32_0(n:Nat)(cl:CL)(a b c:Value)(h:PH):R:=
 vb (xNil a) fun d=>
 vb (xFld 9 d) fun e=>
 vb (xLd e h) fun f=>
 vb (xIdxS 1 f b) fun g=>
 vb (xLd g h) fun i=>
 vb (xLdA 3 c h) fun j=>
 hb (xMUpd Try.prog 55 i j tt h) fun _ h=>
 vb (xNil a) fun k=>
 vb (xFld 8 k) fun l=>
 vb (xNil a) fun m=>
 vb (xFld 8 m) fun o=>
 vb (xLd l h) fun p=>
 vb (xLd o h) fun q=>
 vb (xIdxS 1 q b) fun r=>
 vb (xLd r h) fun s=>
 vb (xLdA 3 c h) fun t=>
 hb (xBS 1 (bsRow Try.prog 46 1 [(0,t)]) h) fun v h=>
 hb (xApp (appInfo Try.prog #[46,46]) s v h) fun w h=>
 lchk (xLd l h) p<|
 vb (xIdxS 1 p b) fun z=>
 hb (xSt1 z w h) fun _ h=>
 some (Value.tuple ⟨[]⟩,h)
def F32(n:Nat)(cl:CL)(a b c:Value)(h:PH):R:=
 hb (xBox c h) fun d h=>
 vb (xNil a) fun e=>
 vb (xFld 9 e) fun f=>
 vb (xLd f h) fun g=>
 vb (xIdxS 1 g b) fun i=>
 vb (xLd i h) fun j=>
 vb (xLdA 3 d h) fun k=>
 vb (xLkp Try.prog 55 4 false j k h) fun l=>
 vb (xNot l) fun m=>
 bite m (F32_0 n cl a b d h) (some (Value.tuple ⟨[]⟩,h))
theorem S32:OkF Try.prog 32 (A3 (F32 n cl)):=exA3 n ⟨[],[],[],[(1,[0,1,2,4,3,5,6,7,8,9]),(2,[0,1,2,4,3,5,6,7,8]),(3,[0,1,2,4,5,6,7,9,3,8,10,11,12,13,14,15,16])],[(3,[3,14])],[],[],[]⟩ hcl hmx Try.func32 (by kernel_rfl) fun _ _ _ _=>by kernel_rfl
def F38_0(n:Nat)(cl:CL)(a:Value)(h:PH):R:=
 vb (xFld 2 a) fun b=>
 vb (xLd b h) fun c=>
 hb (xBS 1 (bsRow Try.prog 24 1 [(0,c)]) h) fun d h=>
 some (d,h)
def F38_1(n:Nat)(cl:CL)(a b:Value)(h:PH):R:=
 vb (xFld 3 a) fun c=>
 vb (xLd c h) fun d=>
 vb (xIdxS 3 d b) fun e=>
 vb (xFld 1 e) fun f=>
 vb (xLd f h) fun g=>
 some (g,h)
def F38(n:Nat)(cl:CL)(a b:Value)(h:PH):R:=
 hb (xBox a h) fun c h=>
 vb (xCmp ieq b (vM 0)) fun d=>
 bite d (F38_0 n cl c h) (F38_1 n cl c b h)
theorem S38:OkF Try.prog 38 (A2 (F38 n cl)):=exA2 n ⟨[],[],[],[],[],[],[],[]⟩ hcl hmx Try.func38 (by kernel_rfl) fun _ _ _=>by kernel_rfl
def F19_0(n:Nat)(cl:CL)(a b:Value)(h:PH):R:=
 vb (xFld 1 a) fun c=>
 vb (xLd c h) fun d=>
 vb (xIdxS 1 b d) fun e=>
 vb (xLd e h) fun f=>
 some (Value.tuple ⟨[f,tt]⟩,h)
def F19(n:Nat)(cl:CL)(a b:Value)(h:PH):R:=
 hb (xBox a h) fun c h=>
 hb (xBox b h) fun d h=>
 vb (xLdA 7 c h) fun e=>
 vb (xFld 0 d) fun f=>
 vb (xLd f h) fun g=>
 hb (fcall h (F38 n cl e g (h.fzn))) fun i h=>
 vb (xFld 1 d) fun j=>
 vb (xLd j h) fun k=>
 vb (xLenS i) fun l=>
 vb (xCmp (fun x y=>ile y x) k l) fun m=>
 bite m (some (Value.tuple ⟨[(vN 0),ff]⟩,h)) (F19_0 n cl d i h)
theorem S19:OkF Try.prog 19 (A2 (F19 n cl)):=exA2 n ⟨[],[38],[],[],[],[],[],[]⟩ (svc_ok (S38 n hcl) hcl) hmx Try.func19 (by kernel_rfl) fun _ _ _=>by kernel_rfl
def F54(n:Nat)(cl:CL)(a:Value)(h:PH):R:=
 hb (xBox a h) fun b h=>
 hb (xAlloc (zcells Try.prog 55) h) fun c h=>
 vb (xFld 0 b) fun d=>
 vb (xFld 1 d) fun e=>
 vb (xLd e h) fun f=>
 vb (xAri Int.add f (vN 1)) fun g=>
 vb (xFld 0 b) fun i=>
 vb (xFld 1 i) fun j=>
 hb (xSt1 j g h) fun _ h=>
 vb (xLdA 3 b h) fun k=>
 hb (xStA 3 c k h) fun _ h=>
 vb (xLdA 3 c h) fun l=>some (l,h)
theorem S54:OkF Try.prog 54 (A1 (F54 n cl)):=exA1 n ⟨[],[],[],[],[],[],[],[]⟩ hcl hmx Try.func54 (by kernel_rfl) fun _ _=>by kernel_rfl
def F51_0(n:Nat)(cl:CL)(a:Value)(b:Kt)(c d e f:Value)(h:PH):R:=
 vb (xAri Int.add a (vN 1)) fun g=>
 b [c,d,e,f,g] h
def F51_1(n:Nat)(cl:CL)(a b c:Value)(d:Kt)(e f g:Value)(h:PH):R:=
 vb (xLdA 3 a h) fun i=>
 vb (pcall (F54 n cl i (h.fzn))) fun j=>
 hb (F32 n cl b c j h) fun k h=>
 d [b,c,e,f,g] h
def F51_2(n:Nat)(cl:CL)(a:Kt)(b:List Value)(h:PH):R:=
 u5 b fun c d e f g=>F51_0 n cl g a c d e f h
def F51_3(n:Nat)(cl:CL)(a b c d e:Value)(h:PH)(f:Kt):R:=
 vb (xNil a) fun g=>
 vb (xFld 8 g) fun i=>
 vb (xFld 2 b) fun j=>
 vb (xLd i h) fun k=>
 vb (xLd j h) fun l=>
 vb (xIdxS 1 k l) fun m=>
 vb (xLd m h) fun o=>
 vb (xIdxS 3 o c) fun p=>
 vb (xLdA 3 p h) fun q=>
 hb (xAlloc (zcells Try.prog 55) h) fun r h=>
 hb (xStA 3 r q h) fun _ h=>
 vb (xNil a) fun s=>
 vb (xFld 0 s) fun t=>
 vb (xFld 0 r) fun v=>
 vb (xLdA 7 t h) fun w=>
 vb (xLdA 2 v h) fun z=>
 vb (pcall (F19 n cl w z (h.fzn))) fun a1=>
 vb (xExt 0 a1) fun b1=>
 vb (xExt 1 a1) fun c1=>
 vb (gd (isB true c1) (some b1)) fun d1=>
 vb (gd (isB true c1) (some d)) fun e1=>
 vb (gd (isB true c1) (xCmp ieq d1 e1)) fun f1=>
 vb (xPick c1 f1 ff) fun g1=>
 bite g1 (F51_1 n cl r a e f b d c h) (f [a,e,b,d,c] h)
def F51_4(n:Nat)(cl:CL)(a b c:Value)(d:Kt)(e f:Value)(h:PH):R:=
 vb (xNil a) fun g=>
 vb (xFld 8 g) fun i=>
 vb (xFld 2 b) fun j=>
 vb (xLd i h) fun k=>
 vb (xLd j h) fun l=>
 vb (xIdxS 1 k l) fun m=>
 vb (xLd m h) fun o=>
 vb (xLenS o) fun p=>
 vb (xCmp ilt c p) fun q=>
 bite q (jn (F51_2 n cl d) (F51_3 n cl a b c e f h)) (some (Value.tuple ⟨[]⟩,h))
def F51_5(n:Nat)(cl:CL)(a:Kt)(b:List Value)(h:PH):R:=
 u5 b fun c d e f g=>F51_4 n cl c e g a f d h
def F51_6(n:Nat)(cl:CL)(a b c:Value)(h:PH):R:=
 vb (xNil a) fun d=>
 vb (xFld 0 d) fun e=>
 vb (xFld 3 e) fun f=>
 vb (xFld 0 b) fun g=>
 vb (xFld 0 g) fun i=>
 vb (xLd f h) fun j=>
 vb (xLd i h) fun k=>
 vb (xIdxS 3 j k) fun l=>
 vb (xFld 0 l) fun m=>
 vb (xLd m h) fun o=>
 lp n (F51_5 n cl) [a,c,b,o,(vN 0)] h
def F51(n:Nat)(cl:CL)(a b c:Value)(h:PH):R:=
 hb (xBox c h) fun d h=>
 vb (xFld 0 d) fun e=>
 vb (xFld 0 e) fun f=>
 vb (xLd f h) fun g=>
 vb (xCmp ieq g (vM 0)) fun i=>
 bite i (some (Value.tuple ⟨[]⟩,h)) (F51_6 n cl a d b h)
theorem S51:OkF Try.prog 51 (A3 (F51 n cl)):=exA3 n ⟨[19,54],[],[(4,[0,1,5,6,7]),(5,[0,1,5,6,7])],[(2,[0,1,2,3,5,6,4,7,8,9,10,11]),(4,[0,1,2,3,5,4,6,7,8,9,10]),(6,[0,1,2,4,8,3,5,6,7,9,10,11,12]),(7,[0,1,2,4,3,5,6,7,8,9,10,11])],[],[],[],[]⟩ (svc_ok (S19 n hcl) (svc_ok (S54 n hcl) (svc_ok (S32 n hcl) hcl))) hmx Try.func51 (by kernel_rfl) fun _ _ _ _=>by kernel_rfl
def F53_0(n:Nat)(cl:CL)(a:Value)(b:Kt)(c d e f g i:Value)(h:PH):R:=
 vb (xAri Int.add a (vN 1)) fun j=>
 b [c,d,e,f,g,i,j] h
def F53_1(n:Nat)(cl:CL)(a b c:Value)(d:Kt)(e f g i:Value)(h:PH):R:=
 vb (abuild Try.prog 53 [(0,a)]) fun j=>
 vb (abuild Try.prog 55 [(0,j),(1,b)]) fun k=>
 hb (F32 n cl c b k h) fun l h=>
 d [c,b,e,f,g,i,a] h
def F53_2(n:Nat)(cl:CL)(a:Kt)(b:List Value)(h:PH):R:=
 u7 b fun c d e f g i j=>F53_0 n cl j a c d e f g i h
def F53_3(n:Nat)(cl:CL)(a b c d e f g:Value)(h:PH)(i:Kt):R:=
 vb (xIdxS 3 a b) fun j=>
 vb (xLdA 3 j h) fun k=>
 hb (xAlloc (zcells Try.prog 40) h) fun l h=>
 hb (xStA 3 l k h) fun _ h=>
 vb (xFld 0 l) fun m=>
 vb (xLd m h) fun o=>
 vb (xCmp ieq o c) fun p=>
 bite p (F53_1 n cl b d e i c f a g h) (i [e,d,c,f,a,g,b] h)
def F53_4(n:Nat)(cl:CL)(a b c:Value)(h:PH):R:=
 vb (xLdA 3 a h) fun d=>
 vb (pcall (F54 n cl d (h.fzn))) fun e=>
 hb (F32 n cl b c e h) fun f h=>
 some (Value.tuple ⟨[]⟩,h)
def F53_5(n:Nat)(cl:CL)(a b c d:Value)(h:PH):R:=
 vb (xNil a) fun e=>
 vb (xFld 7 e) fun f=>
 vb (xLd f h) fun g=>
 vb (xIdxS 1 g b) fun i=>
 vb (xLd i h) fun j=>
 bite j (F53_4 n cl c a d h) (some (Value.tuple ⟨[]⟩,h))
def F53_6(n:Nat)(cl:CL)(a b:Value)(c:Kt)(d e f g i:Value)(h:PH):R:=
 vb (xCmp ilt a b) fun j=>
 bite j (jn (F53_2 n cl c) (F53_3 n cl d a e f g i b h)) (F53_5 n cl g e i f h)
def F53_7(n:Nat)(cl:CL)(a:Kt)(b:List Value)(h:PH):R:=
 u7 b fun c d e f g i j=>F53_6 n cl j i a g e d c f h
def F53(n:Nat)(cl:CL)(a b c d:Value)(h:PH):R:=
 hb (xBox c h) fun e h=>
 vb (xNil a) fun f=>
 vb (xFld 0 f) fun g=>
 vb (xFld 3 g) fun i=>
 vb (xLd i h) fun j=>
 vb (xLenS j) fun k=>
 lp n (F53_7 n cl) [a,b,d,e,j,k,(vN 0)] h
theorem S53:OkF Try.prog 53 (A4 (F53 n cl)):=exA4 n ⟨[54],[],[(2,[0,1,3,6,14,15,16]),(6,[0,1,3,6,14,15,16])],[],[],[],[],[]⟩ (svc_ok (S32 n hcl) (svc_ok (S54 n hcl) hcl)) hmx Try.func53 (by kernel_rfl) fun _ _ _ _ _=>by kernel_rfl
def F34_0(n:Nat)(cl:CL)(a:Value)(b:Kt)(c d:Value)(h:PH):R:=
 vb (xAri Int.add a (vN 1)) fun e=>
 b [c,d,e] h
def F34_1(n:Nat)(cl:CL)(a b c:Value)(d:Kt)(e:Value)(h:PH):R:=
 vb (xLdA 3 a h) fun f=>
 hb (F51 n cl b c f h) fun g h=>
 d [b,c,e] h
def F34_2(n:Nat)(cl:CL)(a b c d:Value)(e:Kt)(f:Value)(h:PH):R:=
 vb (xLdA 3 a h) fun g=>
 hb (F53 n cl b c g d h) fun i h=>
 e [b,c,f] h
def F34_3(n:Nat)(cl:CL)(a b c d:Value)(e:Kt)(f:Value)(h:PH):R:=
 vb (xNil a) fun g=>
 vb (xFld 0 g) fun i=>
 vb (xLdA 7 i h) fun j=>
 vb (pcall (F52 n cl j b (h.fzn))) fun k=>
 bite k (F34_2 n cl c a d b e f h) (e [a,d,f] h)
def F34_4(n:Nat)(cl:CL)(a:Kt)(b:List Value)(h:PH):R:=
 u3 b fun c d e=>F34_0 n cl e a c d h
def F34_5(n:Nat)(cl:CL)(a b c:Value)(h:PH)(d:Kt):R:=
 vb (xNil a) fun e=>
 vb (xFld 8 e) fun f=>
 vb (xLd f h) fun g=>
 vb (xIdxS 1 g b) fun i=>
 vb (xLd i h) fun j=>
 vb (xIdxS 3 j c) fun k=>
 vb (xLdA 3 k h) fun l=>
 hb (xAlloc (zcells Try.prog 55) h) fun m h=>
 hb (xStA 3 m l h) fun _ h=>
 vb (xNil a) fun o=>
 vb (xFld 0 o) fun p=>
 vb (xFld 0 m) fun q=>
 vb (xLdA 7 p h) fun r=>
 vb (xLdA 2 q h) fun s=>
 vb (pcall (F19 n cl r s (h.fzn))) fun t=>
 vb (xExt 0 t) fun v=>
 vb (xExt 1 t) fun w=>
 vb (xNot w) fun z=>
 bite z (F34_1 n cl m a b d c h) (F34_3 n cl a v m b d c h)
def F34_6(n:Nat)(cl:CL)(a b c:Value)(d:Kt)(h:PH):R:=
 vb (xNil a) fun e=>
 vb (xFld 8 e) fun f=>
 vb (xLd f h) fun g=>
 vb (xIdxS 1 g b) fun i=>
 vb (xLd i h) fun j=>
 vb (xLenS j) fun k=>
 vb (xCmp ilt c k) fun l=>
 bite l (jn (F34_4 n cl d) (F34_5 n cl a b c h)) (some (Value.tuple ⟨[]⟩,h))
def F34_7(n:Nat)(cl:CL)(a:Kt)(b:List Value)(h:PH):R:=
 u3 b fun c d e=>F34_6 n cl c d e a h
def F34(n:Nat)(cl:CL)(a b:Value)(h:PH):R:=
 lp n (F34_7 n cl) [a,b,(vN 0)] h
theorem S34:OkF Try.prog 34 (A2 (F34 n cl)):=exA2 n ⟨[19,52],[],[(1,[0,1,4]),(2,[0,1,4])],[(4,[0,1,2,4,3,5,6,7,8,9,10,11])],[],[],[],[]⟩ (svc_ok (S19 n hcl) (svc_ok (S51 n hcl) (svc_ok (S52 n hcl) (svc_ok (S53 n hcl) hcl)))) hmx Try.func34 (by kernel_rfl) fun _ _ _=>by kernel_rfl
def F35_0(n:Nat)(cl:CL)(a:Value)(b:Kt)(c d e f g:Value)(h:PH):R:=
 vb (xAri Int.add a (vN 1)) fun i=>
 b [c,d,e,f,g,i] h
def F35_1(n:Nat)(cl:CL)(a b c:Value)(d:Kt)(e f g i:Value)(h:PH):R:=
 vb (xLdA 3 a h) fun j=>
 vb (pcall (F54 n cl j (h.fzn))) fun k=>
 hb (F32 n cl b c k h) fun l h=>
 d [b,e,c,f,g,i] h
def F35_2(n:Nat)(cl:CL)(a:Kt)(b:List Value)(h:PH):R:=
 u6 b fun c d e f g i=>F35_0 n cl i a c d e f g h
def F35_3(n:Nat)(cl:CL)(a b c d e f:Value)(h:PH)(g:Kt):R:=
 vb (xIdxS 3 a b) fun i=>
 vb (xLdA 3 i h) fun j=>
 hb (xAlloc (zcells Try.prog 55) h) fun k h=>
 hb (xStA 3 k j h) fun _ h=>
 vb (xNil c) fun l=>
 vb (xFld 0 l) fun m=>
 vb (xFld 0 k) fun o=>
 vb (xLdA 7 m h) fun p=>
 vb (xLdA 2 o h) fun q=>
 vb (pcall (F19 n cl p q (h.fzn))) fun r=>
 vb (xExt 0 r) fun s=>
 vb (xExt 1 r) fun t=>
 vb (gd (isB true t) (some s)) fun v=>
 vb (gd (isB true t) (some d)) fun w=>
 vb (gd (isB true t) (xAri Int.sub (vM 0) w)) fun z=>
 vb (gd (isB true t) (xCmp ieq v z)) fun a1=>
 vb (xPick t a1 ff) fun b1=>
 bite b1 (F35_1 n cl k c e g d a f b h) (g [c,d,e,a,f,b] h)
def F35_4(n:Nat)(cl:CL)(a b:Value)(h:PH):R:=
 hb (F34 n cl a b h) fun c h=>
 vb (xNil a) fun d=>
 vb (xFld 8 d) fun e=>
 vb (xLd e h) fun f=>
 vb (xIdxS 1 f b) fun g=>
 vb (xLd g h) fun i=>
 vb (xLenS i) fun j=>
 vb (xCmp (fun x y=>ilt y x) j (vN 0)) fun k=>
 some (k,h)
def F35_5(n:Nat)(cl:CL)(a b:Value)(c:Kt)(d e f g:Value)(h:PH):R:=
 vb (xCmp ilt a b) fun i=>
 bite i (jn (F35_2 n cl c) (F35_3 n cl d a e f g b h)) (F35_4 n cl e g h)
def F35_6(n:Nat)(cl:CL)(a:Kt)(b:List Value)(h:PH):R:=
 u6 b fun c d e f g i=>F35_5 n cl i g a f c d e h
def F35_7(n:Nat)(cl:CL)(a b:Value)(h:PH):R:=
 hb (F33 n cl a h) fun c h=>
 vb (xNil a) fun d=>
 vb (xFld 8 d) fun e=>
 vb (xLd e h) fun f=>
 vb (xAri Int.sub c (vN 1)) fun g=>
 vb (xIdxS 1 f g) fun i=>
 vb (xLd i h) fun j=>
 vb (xLenS j) fun k=>
 lp n (F35_6 n cl) [a,b,c,j,k,(vN 0)] h
def F35(n:Nat)(cl:CL)(a b:Value)(h:PH):R:=
 vb (xCmp ilt b (vN 0)) fun c=>
 vb (gd (isB false c) (some b)) fun d=>
 vb (gd (isB false c) (some a)) fun e=>
 vb (gd (isB false c) (xNil e)) fun f=>
 vb (gd (isB false c) (xFld 0 f)) fun g=>
 vb (gd (isB false c) (xFld 1 g)) fun i=>
 vb (gd (isB false c) (xLd i h)) fun j=>
 vb (gd (isB false c) (xCmp (fun x y=>ile y x) d j)) fun k=>
 vb (xPick c tt k) fun l=>
 bite l (some (ff,h)) (F35_7 n cl a b h)
theorem S35:OkF Try.prog 35 (A2 (F35 n cl)):=exA2 n ⟨[19,54],[],[(5,[0,1,5,30,31,32]),(10,[0,1,5,30,31,32])],[(7,[0,1,2,4,3,5,6,7,8,9,10,11])],[],[],[],[]⟩ (svc_ok (S33 n hcl) (svc_ok (S19 n hcl) (svc_ok (S54 n hcl) (svc_ok (S32 n hcl) (svc_ok (S34 n hcl) hcl))))) hmx Try.func35 (by kernel_rfl) fun _ _ _=>by kernel_rfl
def F17_0(n:Nat)(cl:CL)(a:Value)(b:Kt)(c d e f:Value)(h:PH):R:=
 vb (xAri Int.add a (vN 1)) fun g=>
 b [c,d,e,f,g] h
def F17_1(n:Nat)(cl:CL)(a b c:Value)(d:Kt)(e f:Value)(h:PH):R:=
 vb (xIdxS 1 a b) fun g=>
 vb (xLd g h) fun i=>
 hb (F35 n cl c i h) fun j h=>
 vb (xNot j) fun k=>
 bite k (some (Value.tuple ⟨[c,b]⟩,h)) (F17_0 n cl b d e c a f h)
def F17_2(n:Nat)(cl:CL)(a b:Value)(h:PH):R:=
 vb (xLenS a) fun c=>
 some (Value.tuple ⟨[b,c]⟩,h)
def F17_3(n:Nat)(cl:CL)(a b c d:Value)(e:Kt)(f:Value)(h:PH):R:=
 vb (xCmp ilt a b) fun g=>
 bite g (F17_1 n cl c a d e f b h) (F17_2 n cl f d h)
def F17_4(n:Nat)(cl:CL)(a:Kt)(b:List Value)(h:PH):R:=
 u5 b fun c d e f g=>F17_3 n cl g f e d a c h
def F17(n:Nat)(cl:CL)(a b:Value)(h:PH):R:=
 hb (xBox a h) fun c h=>
 vb (xLdA 7 c h) fun d=>
 vb (xLdA 7 c h) fun e=>
 hb (fcall h (F31 n cl e (h.fzn))) fun f h=>
 lchk (xLdA 7 c h) d<|
 vb (abuild Try.prog 51 [(0,d),(1,f)]) fun g=>
 hb (xBox g h) fun i h=>
 hb (F33 n cl i h) fun j h=>
 vb (abuild Try.prog 53 [(0,(vM 0))]) fun k=>
 vb (abuild Try.prog 55 [(0,k)]) fun l=>
 hb (F32 n cl i j l h) fun m h=>
 hb (F34 n cl i (vN 0) h) fun o h=>
 vb (xLenS b) fun p=>
 lp n (F17_4 n cl) [b,i,b,p,(vN 0)] h
theorem S17:OkF Try.prog 17 (A2 (F17 n cl)):=exA2 n ⟨[],[31],[(5,[1,6,22,23,24])],[(1,[0,1,2,3,4,5])],[(1,[0,2])],[],[],[]⟩ (svc_ok (S31 n hcl) (svc_ok (S33 n hcl) (svc_ok (S32 n hcl) (svc_ok (S34 n hcl) (svc_ok (S35 n hcl) hcl))))) hmx Try.func17 (by kernel_rfl) fun _ _ _=>by kernel_rfl
def F8_0(n:Nat)(cl:CL)(a b:Value)(h:PH):R:=
 vb (xLdA 7 a h) fun c=>
 hb (fcall h (F17 n cl c b (h.fzn))) fun d h=>
 vb (xExt 0 d) fun e=>
 vb (xExt 1 d) fun f=>
 some (f,h)
def F8(n:Nat)(cl:CL)(a b:Value)(h:PH):R:=
 hb (xBox a h) fun c h=>
 vb (xLdA 7 c h) fun d=>
 vb (pcall (F16 n cl d (h.fzn))) fun e=>
 vb (xNot e) fun f=>
 bite f (some ((vN 0),h)) (F8_0 n cl c b h)
theorem S8:OkF Try.prog 8 (A2 (F8 n cl)):=exA2 n ⟨[16],[17],[],[],[],[],[],[]⟩ (svc_ok (S16 n hcl) (svc_ok (S17 n hcl) hcl)) hmx Try.func8 (by kernel_rfl) fun _ _ _=>by kernel_rfl
def F65_0(n:Nat)(cl:CL)(a b:Value)(h:PH):R:=
 vb (xConvI .u8 a) fun c=>
 vb (aindex Try.prog 9 (Value.string {data:= #[0,1,2,2,3,3,3,3,4,4,4,4,4,4,4,4,5,5,5,5,5,5,5,5,5,5,5,5,5,5,5,5,6,6,6,6,6,6,6,6,6,6,6,6,6,6,6,6,6,6,6,6,6,6,6,6,6,6,6,6,6,6,6,6,7,7,7,7,7,7,7,7,7,7,7,7,7,7,7,7,7,7,7,7,7,7,7,7,7,7,7,7,7,7,7,7,7,7,7,7,7,7,7,7,7,7,7,7,7,7,7,7,7,7,7,7,7,7,7,7,7,7,7,7,7,7,7,7,8,8,8,8,8,8,8,8,8,8,8,8,8,8,8,8,8,8,8,8,8,8,8,8,8,8,8,8,8,8,8,8,8,8,8,8,8,8,8,8,8,8,8,8,8,8,8,8,8,8,8,8,8,8,8,8,8,8,8,8,8,8,8,8,8,8,8,8,8,8,8,8,8,8,8,8,8,8,8,8,8,8,8,8,8,8,8,8,8,8,8,8,8,8,8,8,8,8,8,8,8,8,8,8,8,8,8,8,8,8,8,8,8,8,8,8,8,8,8,8,8,8,8,8,8,8,8,8]}) c) fun d=>
 vb (xConvI .i64 d) fun e=>
 vb (xAri Int.add b e) fun f=>
 some (f,h)
def F65_1(n:Nat)(cl:CL)(a b:Value)(c:Kt)(h:PH):R:=
 vb (xShr a (Value.int .u64 (.ofNat 8))) fun d=>
 vb (xAri Int.add b (vN 8)) fun e=>
 c [d,e] h
def F65_2(n:Nat)(cl:CL)(a b:Value)(h:PH)(c:Kt):R:=
 vb (xCmp (fun x y=>ile y x) a (Value.int .u32 (.ofNat 256))) fun d=>
 bite d (F65_1 n cl a b c h) (c [a,b] h)
def F65_3(n:Nat)(cl:CL)(a b:Value)(h:PH):R:=
 jn (fun c h=>ucons c fun d e=>ucons e fun f g=>F65_0 n cl d f h) (F65_2 n cl a b h)
def F65_4(n:Nat)(cl:CL)(a:Value)(b:Kt)(h:PH):R:=
 vb (xShr a (Value.int .u64 (.ofNat 16))) fun c=>
 b [c,(vN 16)] h
def F65_5(n:Nat)(cl:CL)(a:Value)(h:PH)(b:Kt):R:=
 vb (xCmp (fun x y=>ile y x) a (Value.int .u32 (.ofNat 65536))) fun c=>
 bite c (F65_4 n cl a b h) (b [a,(vN 0)] h)
def F65(n:Nat)(cl:CL)(a:Value)(h:PH):R:=
 jn (fun b h=>ucons b fun c d=>ucons d fun e f=>F65_3 n cl c e h) (F65_5 n cl a h)
theorem S65:OkF Try.prog 65 (A1 (F65 n cl)):=exA1 n ⟨[],[],[(4,[0,2]),(7,[0,2])],[],[],[],[],[]⟩ hcl hmx Try.func65 (by kernel_rfl) fun _ _=>by kernel_rfl
def F66_0(n:Nat)(cl:CL)(a b:Value)(h:PH):R:=
 vb (xConvI .u8 a) fun c=>
 vb (aindex Try.prog 9 (Value.string {data:= #[0,1,2,2,3,3,3,3,4,4,4,4,4,4,4,4,5,5,5,5,5,5,5,5,5,5,5,5,5,5,5,5,6,6,6,6,6,6,6,6,6,6,6,6,6,6,6,6,6,6,6,6,6,6,6,6,6,6,6,6,6,6,6,6,7,7,7,7,7,7,7,7,7,7,7,7,7,7,7,7,7,7,7,7,7,7,7,7,7,7,7,7,7,7,7,7,7,7,7,7,7,7,7,7,7,7,7,7,7,7,7,7,7,7,7,7,7,7,7,7,7,7,7,7,7,7,7,7,8,8,8,8,8,8,8,8,8,8,8,8,8,8,8,8,8,8,8,8,8,8,8,8,8,8,8,8,8,8,8,8,8,8,8,8,8,8,8,8,8,8,8,8,8,8,8,8,8,8,8,8,8,8,8,8,8,8,8,8,8,8,8,8,8,8,8,8,8,8,8,8,8,8,8,8,8,8,8,8,8,8,8,8,8,8,8,8,8,8,8,8,8,8,8,8,8,8,8,8,8,8,8,8,8,8,8,8,8,8,8,8,8,8,8,8,8,8,8,8,8,8,8,8,8,8,8,8]}) c) fun d=>
 vb (xConvI .i64 d) fun e=>
 vb (xAri Int.add b e) fun f=>
 some (f,h)
def F66_1(n:Nat)(cl:CL)(a b:Value)(c:Kt)(h:PH):R:=
 vb (xShr a (Value.int .u64 (.ofNat 8))) fun d=>
 vb (xAri Int.add b (vN 8)) fun e=>
 c [d,e] h
def F66_2(n:Nat)(cl:CL)(a b:Value)(h:PH)(c:Kt):R:=
 vb (xCmp (fun x y=>ile y x) a (Value.int .u64 (.ofNat 256))) fun d=>
 bite d (F66_1 n cl a b c h) (c [a,b] h)
def F66_3(n:Nat)(cl:CL)(a b:Value)(h:PH):R:=
 jn (fun c h=>ucons c fun d e=>ucons e fun f g=>F66_0 n cl d f h) (F66_2 n cl a b h)
def F66_4(n:Nat)(cl:CL)(a b:Value)(c:Kt)(h:PH):R:=
 vb (xShr a (Value.int .u64 (.ofNat 16))) fun d=>
 vb (xAri Int.add b (vN 16)) fun e=>
 c [d,e] h
def F66_5(n:Nat)(cl:CL)(a b:Value)(h:PH)(c:Kt):R:=
 vb (xCmp (fun x y=>ile y x) a (Value.int .u64 (.ofNat 65536))) fun d=>
 bite d (F66_4 n cl a b c h) (c [a,b] h)
def F66_6(n:Nat)(cl:CL)(a b:Value)(h:PH):R:=
 jn (fun c h=>ucons c fun d e=>ucons e fun f g=>F66_3 n cl d f h) (F66_5 n cl a b h)
def F66_7(n:Nat)(cl:CL)(a:Value)(b:Kt)(h:PH):R:=
 vb (xShr a (Value.int .u64 (.ofNat 32))) fun c=>
 b [c,(vN 32)] h
def F66_8(n:Nat)(cl:CL)(a:Value)(h:PH)(b:Kt):R:=
 vb (xCmp (fun x y=>ile y x) a (Value.int .u64 (.ofNat 4294967296))) fun c=>
 bite c (F66_7 n cl a b h) (b [a,(vN 0)] h)
def F66(n:Nat)(cl:CL)(a:Value)(h:PH):R:=
 jn (fun b h=>ucons b fun c d=>ucons d fun e f=>F66_6 n cl c e h) (F66_8 n cl a h)
theorem S66:OkF Try.prog 66 (A1 (F66 n cl)):=exA1 n ⟨[],[],[(4,[0,2]),(7,[0,2]),(10,[0,2])],[],[],[],[],[]⟩ hcl hmx Try.func66 (by kernel_rfl) fun _ _=>by kernel_rfl
def F40_0(n:Nat)(cl:CL)(a:Value)(h:PH):R:=
 vb (xConvI .u32 a) fun b=>
 vb (pcall (F65 n cl b (h.fzn))) fun c=>
 some (c,h)
def F40_1(n:Nat)(cl:CL)(a:Value)(h:PH):R:=
 vb (pcall (F66 n cl a (h.fzn))) fun b=>
 some (b,h)
def F40(n:Nat)(cl:CL)(a:Value)(h:PH):R:=
 bite ff (F40_0 n cl a h) (F40_1 n cl a h)
theorem S40:OkF Try.prog 40 (A1 (F40 n cl)):=exA1 n ⟨[65,66],[],[],[],[],[],[],[]⟩ (svc_ok (S65 n hcl) (svc_ok (S66 n hcl) hcl)) hmx Try.func40 (by kernel_rfl) fun _ _=>by kernel_rfl
def F80(n:Nat)(cl:CL)(a:Value)(h:PH):R:=
 vb (xCmp ine a a) fun b=>
 some (b,h)
theorem S80:OkF Try.prog 80 (A1 (F80 n cl)):=exA1 n ⟨[],[],[],[],[],[],[],[]⟩ hcl hmx Try.func80 (by kernel_rfl) fun _ _=>by kernel_rfl
def F62(n:Nat)(cl:CL)(a b:Value)(h:PH):R:=
 vb (pcall (F80 n cl a (h.fzn))) fun c=>
 vb (gd (isB true c) (some b)) fun d=>
 vb (gd (isB true c) (pcall (F80 n cl d (h.fzn)))) fun e=>
 vb (gd (isB true c) (xNot e)) fun f=>
 vb (xPick c f ff) fun g=>
 vb (gd (isB false g) (some a)) fun i=>
 vb (gd (isB false g) (some b)) fun j=>
 vb (gd (isB false g) (xCmp ilt i j)) fun k=>
 vb (xPick g tt k) fun l=>
 some (l,h)
theorem S62:OkF Try.prog 62 (A2 (F62 n cl)):=exA2 n ⟨[80],[],[],[],[],[],[],[]⟩ (svc_ok (S80 n hcl) hcl) hmx Try.func62 (by kernel_rfl) fun _ _ _=>by kernel_rfl
def F56_0(n:Nat)(cl:CL)(a b:Value)(c:Kt)(d e f:Value)(h:PH):R:=
 vb (xAri Int.sub a (vN 1)) fun g=>
 vb (xAri Int.sub a (vN 1)) fun i=>
 vb (xIdxS 1 b i) fun j=>
 vb (xIdxS 1 b a) fun k=>
 vb (xLd j h) fun l=>
 vb (xLd k h) fun m=>
 vb (xIdxS 1 b a) fun o=>
 hb (xSt1 o l h) fun _ h=>
 vb (xIdxS 1 b g) fun p=>
 hb (xSt1 p m h) fun _ h=>
 vb (xAri Int.sub a (vN 1)) fun q=>
 c [b,d,e,f,q] h
def F56_1(n:Nat)(cl:CL)(a:Value)(b:Kt)(c d e:Value)(h:PH):R:=
 vb (xAri Int.add a (vN 1)) fun f=>
 b [c,d,e,f] h
def F56_2(n:Nat)(cl:CL)(a b c:Value)(d:Kt)(e f:Value)(g:Kt)(h:PH):R:=
 vb (xCmp (fun x y=>ilt y x) a b) fun i=>
 vb (gd (isB true i) (some c)) fun j=>
 vb (gd (isB true i) (some a)) fun k=>
 vb (gd (isB true i) (xIdxS 1 j k)) fun l=>
 vb (gd (isB true i) (some c)) fun m=>
 vb (gd (isB true i) (some a)) fun o=>
 vb (gd (isB true i) (xAri Int.sub o (vN 1))) fun p=>
 vb (gd (isB true i) (xIdxS 1 m p)) fun q=>
 vb (gd (isB true i) (xLd l h)) fun r=>
 vb (gd (isB true i) (xLd q h)) fun s=>
 vb (gd (isB true i) (pcall (F62 n cl r s (h.fzn)))) fun t=>
 vb (xPick i t ff) fun v=>
 bite v (F56_0 n cl a c d b e f h) (F56_1 n cl f g c b e h)
def F56_3(n:Nat)(cl:CL)(a b:Kt)(c:List Value)(h:PH):R:=
 u5 c fun d e f g i=>F56_2 n cl i e d b f g a h
def F56_4(n:Nat)(cl:CL)(a b:Value)(c:Kt)(d e:Value)(h:PH):R:=
 vb (xCmp ilt a b) fun f=>
 bite f (lp n (F56_3 n cl c) [d,e,b,a,a] h) (some (Value.tuple ⟨[]⟩,h))
def F56_5(n:Nat)(cl:CL)(a:Kt)(b:List Value)(h:PH):R:=
 u4 b fun c d e f=>F56_4 n cl f e a c d h
def F56(n:Nat)(cl:CL)(a b c:Value)(h:PH):R:=
 vb (xAri Int.add b (vN 1)) fun d=>
 lp n (F56_5 n cl) [a,b,c,d] h
theorem S56:OkF Try.prog 56 (A3 (F56 n cl)):=exA3 n ⟨[62],[],[(1,[0,1,2,6]),(4,[0,1,2,6,7])],[(4,[0,1,2,3,4,5,6,8,9,10,11,7,12,13,14]),(6,[0,1,2,3,4,5,6,7,8,10,11,12,9,13,14,15,16,17])],[],[],[],[]⟩ (svc_ok (S62 n hcl) hcl) hmx Try.func56 (by kernel_rfl) fun _ _ _ _=>by kernel_rfl
def F75_0(n:Nat)(cl:CL)(a b c d:Value)(e:Kt)(f:Value)(h:PH):R:=
 vb (xAri Int.add a b) fun g=>
 vb (xAri Int.add a c) fun i=>
 vb (xAri Int.add a c) fun j=>
 vb (xIdxS 1 d j) fun k=>
 vb (xAri Int.add a b) fun l=>
 vb (xIdxS 1 d l) fun m=>
 vb (xLd k h) fun o=>
 vb (xLd m h) fun p=>
 vb (xIdxS 1 d g) fun q=>
 hb (xSt1 q o h) fun _ h=>
 vb (xIdxS 1 d i) fun r=>
 hb (xSt1 r p h) fun _ h=>
 e [d,f,a,c] h
def F75_1(n:Nat)(cl:CL)(a b c d:Value)(e:Kt)(f:Value)(h:PH):R:=
 vb (xAri Int.add a b) fun g=>
 vb (xIdxS 1 c g) fun i=>
 vb (xAri Int.add a d) fun j=>
 vb (xIdxS 1 c j) fun k=>
 vb (xLd i h) fun l=>
 vb (xLd k h) fun m=>
 vb (pcall (F62 n cl l m (h.fzn))) fun o=>
 vb (xNot o) fun p=>
 bite p (some (Value.tuple ⟨[]⟩,h)) (F75_0 n cl a b d c e f h)
def F75_2(n:Nat)(cl:CL)(a:Value)(b:Kt)(c d e f:Value)(h:PH):R:=
 vb (xAri Int.add a (vN 1)) fun g=>
 b [c,d,e,f,g] h
def F75_3(n:Nat)(cl:CL)(a:Kt)(b:List Value)(h:PH):R:=
 u5 b fun c d e f g=>F75_1 n cl e f c g a d h
def F75_4(n:Nat)(cl:CL)(a b c d e:Value)(h:PH)(f:Kt):R:=
 vb (xAri Int.add a (vN 1)) fun g=>
 vb (xCmp ilt g b) fun i=>
 vb (gd (isB true i) (some c)) fun j=>
 vb (gd (isB true i) (some d)) fun k=>
 vb (gd (isB true i) (some a)) fun l=>
 vb (gd (isB true i) (xAri Int.add k l)) fun m=>
 vb (gd (isB true i) (xIdxS 1 j m)) fun o=>
 vb (gd (isB true i) (some c)) fun p=>
 vb (gd (isB true i) (some d)) fun q=>
 vb (gd (isB true i) (some a)) fun r=>
 vb (gd (isB true i) (xAri Int.add q r)) fun s=>
 vb (gd (isB true i) (xAri Int.add s (vN 1))) fun t=>
 vb (gd (isB true i) (xIdxS 1 p t)) fun v=>
 vb (gd (isB true i) (xLd o h)) fun w=>
 vb (gd (isB true i) (xLd v h)) fun z=>
 vb (gd (isB true i) (pcall (F62 n cl w z (h.fzn)))) fun a1=>
 vb (xPick i a1 ff) fun b1=>
 bite b1 (F75_2 n cl a f c b d e h) (f [c,b,d,e,a] h)
def F75_5(n:Nat)(cl:CL)(a b:Value)(c:Kt)(d e:Value)(h:PH):R:=
 vb (xAri Int.mul (vN 2) a) fun f=>
 vb (xAri Int.add f (vN 1)) fun g=>
 vb (xCmp (fun x y=>ile y x) g b) fun i=>
 bite i (some (Value.tuple ⟨[]⟩,h)) (jn (F75_3 n cl c) (F75_4 n cl g b d e a h))
def F75_6(n:Nat)(cl:CL)(a:Kt)(b:List Value)(h:PH):R:=
 u4 b fun c d e f=>F75_5 n cl f d a c e h
def F75(n:Nat)(cl:CL)(a b c d:Value)(h:PH):R:=
 lp n (F75_6 n cl) [a,c,d,b] h
theorem S75:OkF Try.prog 75 (A4 (F75 n cl)):=exA4 n ⟨[62],[],[(1,[0,2,3,8]),(5,[0,2,3,8,9])],[(3,[0,1,2,3,4,5,6,7,8,9,11,12,13,14,15,16,10,17,18,19]),(5,[0,1,2,3,4,6,7,8,9,10,5,11,12,13]),(6,[0,1,2,3,4,5,6,7,8,9,10,11,12,14,15,16,17,18,13,19,20,21,22,23])],[],[],[],[]⟩ (svc_ok (S62 n hcl) hcl) hmx Try.func75 (by kernel_rfl) fun _ _ _ _ _=>by kernel_rfl
def F57_0(n:Nat)(cl:CL)(a b c d:Value)(e:Kt)(f:Value)(h:PH):R:=
 hb (F75 n cl a b c d h) fun g h=>
 vb (xAri Int.sub b (vN 1)) fun i=>
 e [a,d,f,c,i] h
def F57_1(n:Nat)(cl:CL)(a b c d:Value)(e:Kt)(h:PH):R:=
 vb (xAri Int.add a b) fun f=>
 vb (xAri Int.add a b) fun g=>
 vb (xIdxS 1 c g) fun i=>
 vb (xIdxS 1 c a) fun j=>
 vb (xLd i h) fun k=>
 vb (xLd j h) fun l=>
 vb (xIdxS 1 c a) fun m=>
 hb (xSt1 m k h) fun _ h=>
 vb (xIdxS 1 c f) fun o=>
 hb (xSt1 o l h) fun _ h=>
 hb (F75 n cl c d b a h) fun p h=>
 vb (xAri Int.sub b (vN 1)) fun q=>
 e [c,a,d,q] h
def F57_2(n:Nat)(cl:CL)(a b c d:Value)(e:Kt)(h:PH):R:=
 vb (xCmp (fun x y=>ile y x) a (vN 0)) fun f=>
 bite f (F57_1 n cl b a c d e h) (some (Value.tuple ⟨[]⟩,h))
def F57_3(n:Nat)(cl:CL)(a:Kt)(b:List Value)(h:PH):R:=
 u4 b fun c d e f=>F57_2 n cl f d c e a h
def F57_4(n:Nat)(cl:CL)(a b c d:Value)(h:PH):R:=
 vb (xAri Int.sub a (vN 1)) fun e=>
 lp n (F57_3 n cl) [b,c,d,e] h
def F57_5(n:Nat)(cl:CL)(a b c d:Value)(e:Kt)(f:Value)(h:PH):R:=
 vb (xCmp (fun x y=>ile y x) a (vN 0)) fun g=>
 bite g (F57_0 n cl b a c d e f h) (F57_4 n cl c b d f h)
def F57_6(n:Nat)(cl:CL)(a:Kt)(b:List Value)(h:PH):R:=
 u5 b fun c d e f g=>F57_5 n cl g c f d a e h
def F57(n:Nat)(cl:CL)(a b c:Value)(h:PH):R:=
 vb (xAri Int.sub c b) fun d=>
 vb (xAri Int.sub d (vN 1)) fun e=>
 vb (xQuo e (vN 2)) fun f=>
 lp n (F57_6 n cl) [a,b,(vN 0),d,f] h
theorem S57:OkF Try.prog 57 (A3 (F57 n cl)):=exA3 n ⟨[],[],[(4,[0,6,7,8,9]),(8,[0,6,7,10])],[(10,[0,1,2,3,4,5,6,7,8,9,10,12,13,14,11,15,16,17,18,19])],[],[],[],[]⟩ (svc_ok (S75 n hcl) hcl) hmx Try.func57 (by kernel_rfl) fun _ _ _ _=>by kernel_rfl
def F76(n:Nat)(cl:CL)(a:Value)(h:PH):R:=
 vb (xConvI .u64 a) fun b=>
 vb (pcall (F40 n cl b (h.fzn))) fun c=>
 vb (xShl (Value.int .u64 (.ofNat 1)) c) fun d=>
 some (d,h)
theorem S76:OkF Try.prog 76 (A1 (F76 n cl)):=exA1 n ⟨[40],[],[],[],[],[],[],[]⟩ (svc_ok (S40 n hcl) hcl) hmx Try.func76 (by kernel_rfl) fun _ _=>by kernel_rfl
def F77(n:Nat)(cl:CL)(a:Value)(h:PH):R:=
 vb (xNil a) fun b=>
 vb (xNil a) fun c=>
 vb (xLd b h) fun d=>
 vb (xLd c h) fun e=>
 vb (xShl e (Value.int .u64 (.ofNat 13))) fun f=>
 vb (xBit Nat.xor d f) fun g=>
 vb (xNil a) fun i=>
 hb (xSt1 i g h) fun _ h=>
 vb (xNil a) fun j=>
 vb (xNil a) fun k=>
 vb (xLd j h) fun l=>
 vb (xLd k h) fun m=>
 vb (xShr m (Value.int .u64 (.ofNat 7))) fun o=>
 vb (xBit Nat.xor l o) fun p=>
 vb (xNil a) fun q=>
 hb (xSt1 q p h) fun _ h=>
 vb (xNil a) fun r=>
 vb (xNil a) fun s=>
 vb (xLd r h) fun t=>
 vb (xLd s h) fun v=>
 vb (xShl v (Value.int .u64 (.ofNat 17))) fun w=>
 vb (xBit Nat.xor t w) fun z=>
 vb (xNil a) fun a1=>
 hb (xSt1 a1 z h) fun _ h=>
 vb (xNil a) fun b1=>
 vb (xLd b1 h) fun c1=>
 some (c1,h)
theorem S77:OkF Try.prog 77 (A1 (F77 n cl)):=exA1 n ⟨[],[],[],[(1,[0,1,3,4,2,5,6,7,8,9]),(2,[0,1,3,4,2,5,6,7,8,9]),(3,[0,1,3,4,2,5,6,7,8,9])],[],[],[],[]⟩ hcl hmx Try.func77 (by kernel_rfl) fun _ _=>by kernel_rfl
def F58_0(n:Nat)(cl:CL)(a b c d:Value)(e:Kt)(f g i:Value)(h:PH):R:=
 vb (xAri Int.add a b) fun j=>
 vb (xAri Int.add a b) fun k=>
 vb (xIdxS 1 c k) fun l=>
 vb (xIdxS 1 c d) fun m=>
 vb (xLd l h) fun o=>
 vb (xLd m h) fun p=>
 vb (xIdxS 1 c d) fun q=>
 hb (xSt1 q o h) fun _ h=>
 vb (xIdxS 1 c j) fun r=>
 hb (xSt1 r p h) fun _ h=>
 vb (xAri Int.add d (vN 1)) fun s=>
 e [c,a,f,g,i,s] h
def F58_1(n:Nat)(cl:CL)(a b:Value)(c:Kt)(d e f g i:Value)(h:PH):R:=
 vb (xAri Int.sub a b) fun j=>
 c [d,e,b,f,g,i,j] h
def F58_2(n:Nat)(cl:CL)(a:Kt)(b:List Value)(h:PH):R:=
 u7 b fun c d e f g i j=>F58_0 n cl d j c i a e f g h
def F58_3(n:Nat)(cl:CL)(a b c d e f g:Value)(h:PH)(i:Kt):R:=
 vb (xCmp (fun x y=>ile y x) a b) fun j=>
 bite j (F58_1 n cl a b i c d e f g h) (i [c,d,b,e,f,g,a] h)
def F58_4(n:Nat)(cl:CL)(a b:Value)(c:Kt)(d e f g:Value)(h:PH):R:=
 hb (F77 n cl a h) fun i h=>
 vb (xAri Int.sub b (Value.int .u64 (.ofNat 1))) fun j=>
 vb (xBit Nat.land i j) fun k=>
 vb (xConvI .i64 k) fun l=>
 jn (F58_2 n cl c) (F58_3 n cl l d e f a b g h)
def F58_5(n:Nat)(cl:CL)(a b c d e:Value)(f:Kt)(g:Value)(h:PH):R:=
 vb (xQuo a (vN 4)) fun i=>
 vb (xAri Int.mul i (vN 2)) fun j=>
 vb (xAri Int.add b j) fun k=>
 vb (xAri Int.add k (vN 1)) fun l=>
 vb (xCmp ile c l) fun m=>
 bite m (F58_4 n cl d e f a g b c h) (some (Value.tuple ⟨[]⟩,h))
def F58_6(n:Nat)(cl:CL)(a:Kt)(b:List Value)(h:PH):R:=
 u6 b fun c d e f g i=>F58_5 n cl e d i f g a c h
def F58_7(n:Nat)(cl:CL)(a b c:Value)(h:PH):R:=
 vb (xConvI .u64 a) fun d=>
 hb (xAlloc (zcells Try.prog 110) h) fun e h=>
 hb (xSt1 e d h) fun _ h=>
 vb (pcall (F76 n cl a (h.fzn))) fun f=>
 vb (xQuo a (vN 4)) fun g=>
 vb (xAri Int.mul g (vN 2)) fun i=>
 vb (xAri Int.add b i) fun j=>
 vb (xAri Int.sub j (vN 1)) fun k=>
 lp n (F58_6 n cl) [c,b,a,e,f,k] h
def F58(n:Nat)(cl:CL)(a b c:Value)(h:PH):R:=
 vb (xAri Int.sub c b) fun d=>
 vb (xCmp (fun x y=>ile y x) d (vN 8)) fun e=>
 bite e (F58_7 n cl d b a h) (some (Value.tuple ⟨[]⟩,h))
theorem S58:OkF Try.prog 58 (A3 (F58 n cl)):=exA3 n ⟨[76],[],[(5,[0,1,6,7,8,9]),(10,[0,1,6,7,8,9,10])],[(10,[0,1,2,3,4,5,6,7,8,9,10,12,13,14,11,15,16,17,18,19])],[],[],[],[]⟩ (svc_ok (S76 n hcl) (svc_ok (S77 n hcl) hcl)) hmx Try.func58 (by kernel_rfl) fun _ _ _ _=>by kernel_rfl
def F87_0(n:Nat)(cl:CL)(a b c:Value)(h:PH):R:=
 vb (xNil a) fun d=>
 vb (xLd d h) fun e=>
 vb (xAri Int.add e (vN 1)) fun f=>
 vb (xNil a) fun g=>
 hb (xSt1 g f h) fun _ h=>
 some (Value.tuple ⟨[b,c]⟩,h)
def F87(n:Nat)(cl:CL)(a b c d:Value)(h:PH):R:=
 vb (xIdxS 1 a c) fun e=>
 vb (xIdxS 1 a b) fun f=>
 vb (xLd e h) fun g=>
 vb (xLd f h) fun i=>
 vb (pcall (F62 n cl g i (h.fzn))) fun j=>
 bite j (F87_0 n cl d c b h) (some (Value.tuple ⟨[b,c]⟩,h))
theorem S87:OkF Try.prog 87 (A4 (F87 n cl)):=exA4 n ⟨[62],[],[],[(1,[0,1,2,4,5,6,3,7,8])],[],[],[],[]⟩ (svc_ok (S62 n hcl) hcl) hmx Try.func87 (by kernel_rfl) fun _ _ _ _ _=>by kernel_rfl
def F79(n:Nat)(cl:CL)(a b c d e:Value)(h:PH):R:=
 hb (F87 n cl a b c e h) fun f h=>
 vb (xExt 0 f) fun g=>
 vb (xExt 1 f) fun i=>
 hb (F87 n cl a i d e h) fun j h=>
 vb (xExt 0 j) fun k=>
 vb (xExt 1 j) fun l=>
 hb (F87 n cl a g k e h) fun m h=>
 vb (xExt 0 m) fun o=>
 vb (xExt 1 m) fun p=>
 some (p,h)
theorem S79:OkF Try.prog 79 (A5 (F79 n cl)):=exA5 n ⟨[],[],[],[],[],[],[],[]⟩ (svc_ok (S87 n hcl) hcl) hmx Try.func79 (by kernel_rfl) fun _ _ _ _ _ _=>by kernel_rfl
def F78(n:Nat)(cl:CL)(a b c:Value)(h:PH):R:=
 vb (xAri Int.sub b (vN 1)) fun d=>
 vb (xAri Int.add b (vN 1)) fun e=>
 hb (F79 n cl a d b e c h) fun f h=>
 some (f,h)
theorem S78:OkF Try.prog 78 (A3 (F78 n cl)):=exA3 n ⟨[],[],[],[],[],[],[],[]⟩ (svc_ok (S79 n hcl) hcl) hmx Try.func78 (by kernel_rfl) fun _ _ _ _=>by kernel_rfl
def F59_0(n:Nat)(cl:CL)(a b:Value)(h:PH):R:=
 vb (xCmp ieq a (vN 12)) fun c=>
 bite c (some (Value.tuple ⟨[b,(vN 2)]⟩,h)) (some (Value.tuple ⟨[b,(vN 0)]⟩,h))
def F59_1(n:Nat)(cl:CL)(a b:Value)(h:PH):R:=
 vb (xLd a h) fun c=>
 vb (xCmp ieq c (vN 0)) fun d=>
 bite d (some (Value.tuple ⟨[b,(vN 1)]⟩,h)) (F59_0 n cl c b h)
def F59_2(n:Nat)(cl:CL)(a b c d e:Value)(f:Kt)(h:PH):R:=
 hb (F79 n cl a b c d e h) fun g h=>
 f [e,g] h
def F59_3(n:Nat)(cl:CL)(a b c d e:Value)(f:Kt)(h:PH):R:=
 hb (F78 n cl a b c h) fun g h=>
 hb (F78 n cl a d c h) fun i h=>
 hb (F78 n cl a e c h) fun j h=>
 f [a,c,g,i,j] h
def F59_4(n:Nat)(cl:CL)(a:Kt)(b:List Value)(h:PH):R:=
 u5 b fun c d e f g=>F59_2 n cl c e f g d a h
def F59_5(n:Nat)(cl:CL)(a b c d e f:Value)(h:PH)(g:Kt):R:=
 vb (xCmp (fun x y=>ile y x) a (vN 50)) fun i=>
 bite i (F59_3 n cl b c d e f g h) (g [b,d,c,e,f] h)
def F59_6(n:Nat)(cl:CL)(a b c d e f:Value)(h:PH)(g:Kt):R:=
 vb (xCmp (fun x y=>ile y x) a (vN 8)) fun i=>
 bite i (jn (F59_4 n cl g) (F59_5 n cl a b c d e f h)) (g [d,e] h)
def F59(n:Nat)(cl:CL)(a b c:Value)(h:PH):R:=
 vb (xAri Int.sub c b) fun d=>
 hb (xAlloc (zcells Try.prog 3) h) fun e h=>
 vb (xQuo d (vN 4)) fun f=>
 vb (xAri Int.mul f (vN 1)) fun g=>
 vb (xAri Int.add b g) fun i=>
 vb (xQuo d (vN 4)) fun j=>
 vb (xAri Int.mul j (vN 2)) fun k=>
 vb (xAri Int.add b k) fun l=>
 vb (xQuo d (vN 4)) fun m=>
 vb (xAri Int.mul m (vN 3)) fun o=>
 vb (xAri Int.add b o) fun p=>
 jn (fun q h=>ucons q fun r s=>ucons s fun t v=>F59_1 n cl r t h) (F59_6 n cl d a i e l p h)
theorem S59:OkF Try.prog 59 (A3 (F59 n cl)):=exA3 n ⟨[],[],[(11,[0,9,10,11,12]),(12,[9,11])],[],[],[],[],[]⟩ (svc_ok (S79 n hcl) (svc_ok (S78 n hcl) hcl)) hmx Try.func59 (by kernel_rfl) fun _ _ _ _=>by kernel_rfl
def F60_0(n:Nat)(cl:CL)(a b c:Value)(d:Kt)(h:PH):R:=
 vb (xIdxS 1 a b) fun e=>
 vb (xIdxS 1 a c) fun f=>
 vb (xLd e h) fun g=>
 vb (xLd f h) fun i=>
 vb (xIdxS 1 a c) fun j=>
 hb (xSt1 j g h) fun _ h=>
 vb (xIdxS 1 a b) fun k=>
 hb (xSt1 k i h) fun _ h=>
 vb (xAri Int.add c (vN 1)) fun l=>
 vb (xAri Int.sub b (vN 1)) fun m=>
 d [a,l,m] h
def F60_1(n:Nat)(cl:CL)(a b c:Value)(d:Kt)(h:PH):R:=
 vb (xCmp ilt a b) fun e=>
 bite e (F60_0 n cl c b a d h) (some (Value.tuple ⟨[]⟩,h))
def F60_2(n:Nat)(cl:CL)(a:Kt)(b:List Value)(h:PH):R:=
 u3 b fun c d e=>F60_1 n cl d e c a h
def F60(n:Nat)(cl:CL)(a b c:Value)(h:PH):R:=
 vb (xAri Int.sub c (vN 1)) fun d=>
 lp n (F60_2 n cl) [a,b,d] h
theorem S60:OkF Try.prog 60 (A3 (F60 n cl)):=exA3 n ⟨[],[],[(2,[0,6,7])],[(3,[0,1,2,3,4,5,6,8,9,10,7,11,12,13,14,15])],[],[],[],[]⟩ hcl hmx Try.func60 (by kernel_rfl) fun _ _ _ _=>by kernel_rfl
def F61_0(n:Nat)(cl:CL)(a:Value)(b:Kt)(c d e f:Value)(h:PH):R:=
 vb (xAri Int.add a (vN 1)) fun g=>
 b [c,d,e,f,g] h
def F61_1(n:Nat)(cl:CL)(a:Value)(b:Kt)(c d e f:Value)(h:PH):R:=
 vb (xAri Int.add a (vN 1)) fun g=>
 b [c,d,e,g,f] h
def F61_2(n:Nat)(cl:CL)(a b:Value)(c:Kt)(d e f g:Value)(h:PH):R:=
 vb (xAri Int.sub a (vN 1)) fun i=>
 vb (xAri Int.sub a (vN 1)) fun j=>
 vb (xIdxS 1 b j) fun k=>
 vb (xIdxS 1 b a) fun l=>
 vb (xLd k h) fun m=>
 vb (xLd l h) fun o=>
 vb (xIdxS 1 b a) fun p=>
 hb (xSt1 p m h) fun _ h=>
 vb (xIdxS 1 b i) fun q=>
 hb (xSt1 q o h) fun _ h=>
 vb (xAri Int.add a (vN 1)) fun r=>
 c [b,d,e,f,g,r] h
def F61_3(n:Nat)(cl:CL)(a b:Value)(c:Kt)(d e f g:Value)(i:Kt)(h:PH):R:=
 vb (xIdxS 1 a b) fun j=>
 vb (xAri Int.sub b (vN 1)) fun k=>
 vb (xIdxS 1 a k) fun l=>
 vb (xLd j h) fun m=>
 vb (xLd l h) fun o=>
 vb (pcall (F62 n cl m o (h.fzn))) fun p=>
 vb (xNot p) fun q=>
 bite q (c [a,d,e,f,g] h) (F61_2 n cl b a i d e f g h)
def F61_4(n:Nat)(cl:CL)(a b c:Value)(d:Kt)(e f g:Value)(i:Kt)(h:PH):R:=
 vb (xCmp ilt a b) fun j=>
 bite j (F61_3 n cl c a d e b f g i h) (d [c,e,b,f,g] h)
def F61_5(n:Nat)(cl:CL)(a b:Kt)(c:List Value)(h:PH):R:=
 u6 c fun d e f g i j=>F61_4 n cl j f d a e g i b h
def F61_6(n:Nat)(cl:CL)(a:Value)(b:Kt)(c d e f:Value)(h:PH):R:=
 vb (xAri Int.add a (vN 1)) fun g=>
 lp n (F61_5 n cl b) [c,d,e,a,f,g] h
def F61_7(n:Nat)(cl:CL)(a b:Value)(c:Kt)(d e f:Value)(h:PH):R:=
 vb (xAri Int.sub a b) fun g=>
 vb (xCmp (fun x y=>ile y x) g (vN 2)) fun i=>
 bite i (F61_6 n cl b c d e a f h) (c [d,e,a,b,f] h)
def F61_8(n:Nat)(cl:CL)(a b:Value)(c:Kt)(d e f g:Value)(h:PH):R:=
 vb (xAri Int.sub a (vN 1)) fun i=>
 vb (xAri Int.sub a (vN 1)) fun j=>
 vb (xIdxS 1 b j) fun k=>
 vb (xIdxS 1 b a) fun l=>
 vb (xLd k h) fun m=>
 vb (xLd l h) fun o=>
 vb (xIdxS 1 b a) fun p=>
 hb (xSt1 p m h) fun _ h=>
 vb (xIdxS 1 b i) fun q=>
 hb (xSt1 q o h) fun _ h=>
 vb (xAri Int.sub a (vN 1)) fun r=>
 c [b,d,e,f,g,r] h
def F61_9(n:Nat)(cl:CL)(a b:Value)(c:Kt)(d e f g:Value)(i:Kt)(h:PH):R:=
 vb (xIdxS 1 a b) fun j=>
 vb (xAri Int.sub b (vN 1)) fun k=>
 vb (xIdxS 1 a k) fun l=>
 vb (xLd j h) fun m=>
 vb (xLd l h) fun o=>
 vb (pcall (F62 n cl m o (h.fzn))) fun p=>
 vb (xNot p) fun q=>
 bite q (c [a,d,e,f,g] h) (F61_8 n cl b a i d e f g h)
def F61_10(n:Nat)(cl:CL)(a b:Value)(c:Kt)(d e f g:Value)(i:Kt)(h:PH):R:=
 vb (xCmp (fun x y=>ile y x) a (vN 1)) fun j=>
 bite j (F61_9 n cl b a c d e f g i h) (c [b,d,e,f,g] h)
def F61_11(n:Nat)(cl:CL)(a b:Kt)(c:List Value)(h:PH):R:=
 u6 c fun d e f g i j=>F61_10 n cl j d a e f g i b h
def F61_12(n:Nat)(cl:CL)(a:Value)(b:Kt)(c d e f:Value)(h:PH):R:=
 vb (xAri Int.sub a (vN 1)) fun g=>
 lp n (F61_11 n cl b) [c,d,e,a,f,g] h
def F61_13(n:Nat)(cl:CL)(a:Kt)(b:List Value)(h:PH):R:=
 u5 b fun c d e f g=>F61_7 n cl e f a c d g h
def F61_14(n:Nat)(cl:CL)(a b c d e:Value)(h:PH)(f:Kt):R:=
 vb (xAri Int.sub a b) fun g=>
 vb (xCmp (fun x y=>ile y x) g (vN 2)) fun i=>
 bite i (F61_12 n cl a f c b d e h) (f [c,b,d,a,e] h)
def F61_15(n:Nat)(cl:CL)(a b:Value)(c:Kt)(d e f:Value)(h:PH):R:=
 vb (xAri Int.sub a (vN 1)) fun g=>
 vb (xAri Int.sub a (vN 1)) fun i=>
 vb (xIdxS 1 b i) fun j=>
 vb (xIdxS 1 b a) fun k=>
 vb (xLd j h) fun l=>
 vb (xLd k h) fun m=>
 vb (xIdxS 1 b a) fun o=>
 hb (xSt1 o l h) fun _ h=>
 vb (xIdxS 1 b g) fun p=>
 hb (xSt1 p m h) fun _ h=>
 jn (F61_13 n cl c) (F61_14 n cl a d b e f h)
def F61_16(n:Nat)(cl:CL)(a b c d:Value)(e:Kt)(f:Value)(h:PH):R:=
 vb (xAri Int.sub a b) fun g=>
 vb (xCmp ilt g (vN 50)) fun i=>
 bite i (some (ff,h)) (F61_15 n cl c d e b a f h)
def F61_17(n:Nat)(cl:CL)(a b c d:Value)(e:Kt)(f:Value)(h:PH):R:=
 vb (xCmp ieq a b) fun g=>
 bite g (some (tt,h)) (F61_16 n cl b c a d e f h)
def F61_18(n:Nat)(cl:CL)(a b c:Value)(d:Kt)(e f:Value)(g:Kt)(h:PH):R:=
 vb (xCmp ilt a b) fun i=>
 vb (gd (isB true i) (some c)) fun j=>
 vb (gd (isB true i) (some a)) fun k=>
 vb (gd (isB true i) (xIdxS 1 j k)) fun l=>
 vb (gd (isB true i) (some c)) fun m=>
 vb (gd (isB true i) (some a)) fun o=>
 vb (gd (isB true i) (xAri Int.sub o (vN 1))) fun p=>
 vb (gd (isB true i) (xIdxS 1 m p)) fun q=>
 vb (gd (isB true i) (xLd l h)) fun r=>
 vb (gd (isB true i) (xLd q h)) fun s=>
 vb (gd (isB true i) (pcall (F62 n cl r s (h.fzn)))) fun t=>
 vb (gd (isB true i) (xNot t)) fun v=>
 vb (xPick i v ff) fun w=>
 bite w (F61_1 n cl a d c e b f h) (F61_17 n cl a b e c g f h)
def F61_19(n:Nat)(cl:CL)(a b:Kt)(c:List Value)(h:PH):R:=
 u5 c fun d e f g i=>F61_18 n cl g f d b e i a h
def F61_20(n:Nat)(cl:CL)(a:Kt)(b:List Value)(h:PH):R:=
 u5 b fun c d e f g=>F61_0 n cl g a c d e f h
def F61_21(n:Nat)(cl:CL)(a:Value)(b:Kt)(c d e f:Value)(h:PH):R:=
 vb (xCmp ilt a (vN 5)) fun g=>
 bite g (jn (F61_20 n cl b) (fun i=>lp n (F61_19 n cl i) [c,d,e,f,a] h)) (some (ff,h))
def F61_22(n:Nat)(cl:CL)(a:Kt)(b:List Value)(h:PH):R:=
 u5 b fun c d e f g=>F61_21 n cl g a c d e f h
def F61(n:Nat)(cl:CL)(a b c:Value)(h:PH):R:=
 vb (xAri Int.add b (vN 1)) fun d=>
 lp n (F61_22 n cl) [a,b,c,d,(vN 0)] h
theorem S61:OkF Try.prog 61 (A3 (F61 n cl)):=exA3 n ⟨[62],[],[(3,[0,1,2,7,8]),(4,[0,1,2,7,8]),(5,[0,1,2,7,8]),(14,[0,1,2,7,8,9]),(18,[0,1,2,7,8]),(20,[0,1,2,7,8,10])],[(5,[0,1,2,3,4,5,6,8,9,10,11,7,12,13,14,15]),(11,[0,1,2,3,4,5,6,7,8,10,11,12,9,13,14,15,16,17]),(16,[0,1,2,4,5,6,7,3,8,9,10]),(17,[0,1,2,3,4,5,6,7,8,10,11,12,9,13,14,15,16,17]),(22,[0,1,2,4,5,6,7,3,8,9,10]),(23,[0,1,2,3,4,5,6,7,8,10,11,12,9,13,14,15,16,17])],[],[],[],[]⟩ (svc_ok (S62 n hcl) hcl) hmx Try.func61 (by kernel_rfl) fun _ _ _ _=>by kernel_rfl
def F63_0(n:Nat)(cl:CL)(a:Value)(b:Kt)(c d e:Value)(h:PH):R:=
 vb (xAri Int.add a (vN 1)) fun f=>
 b [c,d,f,e] h
def F63_1(n:Nat)(cl:CL)(a:Value)(b:Kt)(c d e:Value)(h:PH):R:=
 vb (xAri Int.sub a (vN 1)) fun f=>
 b [c,d,e,f] h
def F63_2(n:Nat)(cl:CL)(a b c:Value)(d:Kt)(e:Value)(h:PH):R:=
 vb (xIdxS 1 a b) fun f=>
 vb (xIdxS 1 a c) fun g=>
 vb (xLd f h) fun i=>
 vb (xLd g h) fun j=>
 vb (xIdxS 1 a c) fun k=>
 hb (xSt1 k i h) fun _ h=>
 vb (xIdxS 1 a b) fun l=>
 hb (xSt1 l j h) fun _ h=>
 vb (xAri Int.add c (vN 1)) fun m=>
 vb (xAri Int.sub b (vN 1)) fun o=>
 d [a,e,m,o] h
def F63_3(n:Nat)(cl:CL)(a b c:Value)(d:Kt)(e:Value)(h:PH):R:=
 vb (xCmp (fun x y=>ilt y x) a b) fun f=>
 bite f (some (a,h)) (F63_2 n cl c b a d e h)
def F63_4(n:Nat)(cl:CL)(a b c d:Value)(e f:Kt)(h:PH):R:=
 vb (xCmp ile a b) fun g=>
 vb (gd (isB true g) (some c)) fun i=>
 vb (gd (isB true g) (some d)) fun j=>
 vb (gd (isB true g) (xIdxS 1 i j)) fun k=>
 vb (gd (isB true g) (some c)) fun l=>
 vb (gd (isB true g) (some b)) fun m=>
 vb (gd (isB true g) (xIdxS 1 l m)) fun o=>
 vb (gd (isB true g) (xLd k h)) fun p=>
 vb (gd (isB true g) (xLd o h)) fun q=>
 vb (gd (isB true g) (pcall (F62 n cl p q (h.fzn)))) fun r=>
 vb (xPick g r ff) fun s=>
 bite s (F63_1 n cl b e c d a h) (F63_3 n cl a b c f d h)
def F63_5(n:Nat)(cl:CL)(a b:Kt)(c:List Value)(h:PH):R:=
 u4 c fun d e f g=>F63_4 n cl f g d e b a h
def F63_6(n:Nat)(cl:CL)(a b c d:Value)(e f:Kt)(h:PH):R:=
 vb (xCmp ile a b) fun g=>
 vb (gd (isB true g) (some c)) fun i=>
 vb (gd (isB true g) (some d)) fun j=>
 vb (gd (isB true g) (xIdxS 1 i j)) fun k=>
 vb (gd (isB true g) (some c)) fun l=>
 vb (gd (isB true g) (some a)) fun m=>
 vb (gd (isB true g) (xIdxS 1 l m)) fun o=>
 vb (gd (isB true g) (xLd k h)) fun p=>
 vb (gd (isB true g) (xLd o h)) fun q=>
 vb (gd (isB true g) (pcall (F62 n cl p q (h.fzn)))) fun r=>
 vb (gd (isB true g) (xNot r)) fun s=>
 vb (xPick g s ff) fun t=>
 bite t (F63_0 n cl a e c d b h) (lp n (F63_5 n cl f) [c,d,a,b] h)
def F63_7(n:Nat)(cl:CL)(a b:Kt)(c:List Value)(h:PH):R:=
 u4 c fun d e f g=>F63_6 n cl f g d e b a h
def F63_8(n:Nat)(cl:CL)(a:Kt)(b:List Value)(h:PH):R:=
 u4 b fun c d e f=>lp n (F63_7 n cl a) [c,d,e,f] h
def F63(n:Nat)(cl:CL)(a b c d:Value)(h:PH):R:=
 vb (xIdxS 1 a d) fun e=>
 vb (xIdxS 1 a b) fun f=>
 vb (xLd e h) fun g=>
 vb (xLd f h) fun i=>
 vb (xIdxS 1 a b) fun j=>
 hb (xSt1 j g h) fun _ h=>
 vb (xIdxS 1 a d) fun k=>
 hb (xSt1 k i h) fun _ h=>
 vb (xAri Int.add b (vN 1)) fun l=>
 vb (xAri Int.sub c (vN 1)) fun m=>
 lp n (F63_8 n cl) [a,b,l,m] h
theorem S63:OkF Try.prog 63 (A4 (F63 n cl)):=exA4 n ⟨[62],[],[(3,[0,1,9,10]),(5,[0,1,9,10])],[(1,[0,1,2,3,4,5,6,8,9,10,7,11,12,13,14,15]),(3,[0,1,2,3,4,5,6,8,9,10,7,11,12,13,14]),(5,[0,1,2,3,4,5,6,8,9,10,7,11,12,13]),(8,[0,1,2,3,4,5,6,8,9,10,7,11,12,13,14,15])],[],[],[],[]⟩ (svc_ok (S62 n hcl) hcl) hmx Try.func63 (by kernel_rfl) fun _ _ _ _ _=>by kernel_rfl
def F64_0(n:Nat)(cl:CL)(a:Value)(b:Kt)(c d e:Value)(h:PH):R:=
 vb (xAri Int.add a (vN 1)) fun f=>
 b [c,d,f,e] h
def F64_1(n:Nat)(cl:CL)(a:Value)(b:Kt)(c d e:Value)(h:PH):R:=
 vb (xAri Int.sub a (vN 1)) fun f=>
 b [c,d,e,f] h
def F64_2(n:Nat)(cl:CL)(a b c:Value)(h:PH):R:=
 vb (xIdxS 1 a b) fun d=>
 vb (xIdxS 1 a c) fun e=>
 vb (xLd d h) fun f=>
 vb (xLd e h) fun g=>
 vb (xIdxS 1 a c) fun i=>
 hb (xSt1 i f h) fun _ h=>
 vb (xIdxS 1 a b) fun j=>
 hb (xSt1 j g h) fun _ h=>
 some (Value.tuple ⟨[c,tt]⟩,h)
def F64_3(n:Nat)(cl:CL)(a:Value)(b:Kt)(c d e:Value)(h:PH):R:=
 vb (xAri Int.add a (vN 1)) fun f=>
 b [c,d,f,e] h
def F64_4(n:Nat)(cl:CL)(a:Value)(b:Kt)(c d e:Value)(h:PH):R:=
 vb (xAri Int.sub a (vN 1)) fun f=>
 b [c,d,e,f] h
def F64_5(n:Nat)(cl:CL)(a b c:Value)(h:PH):R:=
 vb (xIdxS 1 a b) fun d=>
 vb (xIdxS 1 a c) fun e=>
 vb (xLd d h) fun f=>
 vb (xLd e h) fun g=>
 vb (xIdxS 1 a c) fun i=>
 hb (xSt1 i f h) fun _ h=>
 vb (xIdxS 1 a b) fun j=>
 hb (xSt1 j g h) fun _ h=>
 some (Value.tuple ⟨[c,ff]⟩,h)
def F64_6(n:Nat)(cl:CL)(a b c:Value)(d:Kt)(e:Value)(h:PH):R:=
 vb (xIdxS 1 a b) fun f=>
 vb (xIdxS 1 a c) fun g=>
 vb (xLd f h) fun i=>
 vb (xLd g h) fun j=>
 vb (xIdxS 1 a c) fun k=>
 hb (xSt1 k i h) fun _ h=>
 vb (xIdxS 1 a b) fun l=>
 hb (xSt1 l j h) fun _ h=>
 vb (xAri Int.add c (vN 1)) fun m=>
 vb (xAri Int.sub b (vN 1)) fun o=>
 d [a,e,m,o] h
def F64_7(n:Nat)(cl:CL)(a b c d:Value)(e:Kt)(h:PH):R:=
 vb (xCmp (fun x y=>ilt y x) a b) fun f=>
 bite f (F64_5 n cl c d b h) (F64_6 n cl c b a e d h)
def F64_8(n:Nat)(cl:CL)(a b c d:Value)(e f:Kt)(h:PH):R:=
 vb (xCmp ile a b) fun g=>
 vb (gd (isB true g) (some c)) fun i=>
 vb (gd (isB true g) (some b)) fun j=>
 vb (gd (isB true g) (xIdxS 1 i j)) fun k=>
 vb (gd (isB true g) (some c)) fun l=>
 vb (gd (isB true g) (some d)) fun m=>
 vb (gd (isB true g) (xIdxS 1 l m)) fun o=>
 vb (gd (isB true g) (xLd k h)) fun p=>
 vb (gd (isB true g) (xLd o h)) fun q=>
 vb (gd (isB true g) (pcall (F62 n cl p q (h.fzn)))) fun r=>
 vb (gd (isB true g) (xNot r)) fun s=>
 vb (xPick g s ff) fun t=>
 bite t (F64_4 n cl b e c d a h) (F64_7 n cl a b c d f h)
def F64_9(n:Nat)(cl:CL)(a b:Kt)(c:List Value)(h:PH):R:=
 u4 c fun d e f g=>F64_8 n cl f g d e b a h
def F64_10(n:Nat)(cl:CL)(a b c d:Value)(e f:Kt)(h:PH):R:=
 vb (xCmp ile a b) fun g=>
 vb (gd (isB true g) (some c)) fun i=>
 vb (gd (isB true g) (some a)) fun j=>
 vb (gd (isB true g) (xIdxS 1 i j)) fun k=>
 vb (gd (isB true g) (some c)) fun l=>
 vb (gd (isB true g) (some d)) fun m=>
 vb (gd (isB true g) (xIdxS 1 l m)) fun o=>
 vb (gd (isB true g) (xLd k h)) fun p=>
 vb (gd (isB true g) (xLd o h)) fun q=>
 vb (gd (isB true g) (pcall (F62 n cl p q (h.fzn)))) fun r=>
 vb (xPick g r ff) fun s=>
 bite s (F64_3 n cl a e c d b h) (lp n (F64_9 n cl f) [c,d,a,b] h)
def F64_11(n:Nat)(cl:CL)(a b:Kt)(c:List Value)(h:PH):R:=
 u4 c fun d e f g=>F64_10 n cl f g d e b a h
def F64_12(n:Nat)(cl:CL)(a:Kt)(b:List Value)(h:PH):R:=
 u4 b fun c d e f=>lp n (F64_11 n cl a) [c,d,e,f] h
def F64_13(n:Nat)(cl:CL)(a b c d:Value)(h:PH):R:=
 vb (xIdxS 1 a b) fun e=>
 vb (xIdxS 1 a c) fun f=>
 vb (xLd e h) fun g=>
 vb (xLd f h) fun i=>
 vb (xIdxS 1 a c) fun j=>
 hb (xSt1 j g h) fun _ h=>
 vb (xIdxS 1 a b) fun k=>
 hb (xSt1 k i h) fun _ h=>
 vb (xAri Int.add c (vN 1)) fun l=>
 vb (xAri Int.sub b (vN 1)) fun m=>
 lp n (F64_12 n cl) [a,d,l,m] h
def F64_14(n:Nat)(cl:CL)(a b c d:Value)(h:PH):R:=
 vb (xCmp (fun x y=>ilt y x) a b) fun e=>
 bite e (F64_2 n cl c d b h) (F64_13 n cl c b a d h)
def F64_15(n:Nat)(cl:CL)(a b c d:Value)(e:Kt)(h:PH):R:=
 vb (xCmp ile a b) fun f=>
 vb (gd (isB true f) (some c)) fun g=>
 vb (gd (isB true f) (some b)) fun i=>
 vb (gd (isB true f) (xIdxS 1 g i)) fun j=>
 vb (gd (isB true f) (some c)) fun k=>
 vb (gd (isB true f) (some d)) fun l=>
 vb (gd (isB true f) (xIdxS 1 k l)) fun m=>
 vb (gd (isB true f) (xLd j h)) fun o=>
 vb (gd (isB true f) (xLd m h)) fun p=>
 vb (gd (isB true f) (pcall (F62 n cl o p (h.fzn)))) fun q=>
 vb (gd (isB true f) (xNot q)) fun r=>
 vb (xPick f r ff) fun s=>
 bite s (F64_1 n cl b e c d a h) (F64_14 n cl a b c d h)
def F64_16(n:Nat)(cl:CL)(a:Kt)(b:List Value)(h:PH):R:=
 u4 b fun c d e f=>F64_15 n cl e f c d a h
def F64_17(n:Nat)(cl:CL)(a b c d:Value)(e:Kt)(h:PH):R:=
 vb (xCmp ile a b) fun f=>
 vb (gd (isB true f) (some c)) fun g=>
 vb (gd (isB true f) (some a)) fun i=>
 vb (gd (isB true f) (xIdxS 1 g i)) fun j=>
 vb (gd (isB true f) (some c)) fun k=>
 vb (gd (isB true f) (some d)) fun l=>
 vb (gd (isB true f) (xIdxS 1 k l)) fun m=>
 vb (gd (isB true f) (xLd j h)) fun o=>
 vb (gd (isB true f) (xLd m h)) fun p=>
 vb (gd (isB true f) (pcall (F62 n cl o p (h.fzn)))) fun q=>
 vb (xPick f q ff) fun r=>
 bite r (F64_0 n cl a e c d b h) (lp n (F64_16 n cl) [c,d,a,b] h)
def F64_18(n:Nat)(cl:CL)(a:Kt)(b:List Value)(h:PH):R:=
 u4 b fun c d e f=>F64_17 n cl e f c d a h
def F64(n:Nat)(cl:CL)(a b c d:Value)(h:PH):R:=
 vb (xIdxS 1 a d) fun e=>
 vb (xIdxS 1 a b) fun f=>
 vb (xLd e h) fun g=>
 vb (xLd f h) fun i=>
 vb (xIdxS 1 a b) fun j=>
 hb (xSt1 j g h) fun _ h=>
 vb (xIdxS 1 a d) fun k=>
 hb (xSt1 k i h) fun _ h=>
 vb (xAri Int.add b (vN 1)) fun l=>
 vb (xAri Int.sub c (vN 1)) fun m=>
 lp n (F64_18 n cl) [a,b,l,m] h
theorem S64:OkF Try.prog 64 (A4 (F64 n cl)):=exA4 n ⟨[62],[],[(3,[0,1,10,11]),(5,[0,1,10,11]),(13,[0,1,10,11]),(15,[0,1,10,11])],[(1,[0,1,2,3,4,5,6,8,9,10,7,11,12,13,14,15]),(3,[0,1,2,3,4,5,6,8,9,10,7,11,12,13]),(5,[0,1,2,3,4,5,6,8,9,10,7,11,12,13,14]),(8,[0,1,2,3,4,5,6,8,9,10,7,11,12,13,14,15]),(10,[0,1,2,3,4,5,6,8,9,10,7,11,12,13,14,15]),(13,[0,1,2,3,4,5,6,8,9,10,7,11,12,13]),(15,[0,1,2,3,4,5,6,8,9,10,7,11,12,13,14]),(18,[0,1,2,3,4,5,6,8,9,10,7,11,12,13,14,15]),(21,[0,1,2,3,4,5,6,8,9,10,7,11,12,13,14,15])],[],[],[],[]⟩ (svc_ok (S62 n hcl) hcl) hmx Try.func64 (by kernel_rfl) fun _ _ _ _ _=>by kernel_rfl
def F39_0(n:Nat)(cl:CL)(a b c:Value)(h:PH):R:=
 hb (F56 n cl a b c h) fun d h=>
 some (Value.tuple ⟨[]⟩,h)
def F39_1(n:Nat)(cl:CL)(a b c:Value)(h:PH):R:=
 hb (F57 n cl a b c h) fun d h=>
 some (Value.tuple ⟨[]⟩,h)
def F39_2(n:Nat)(cl:CL)(a b c d:Value)(e:Kt)(f g i:Value)(h:PH):R:=
 hb (F63 n cl a b c d h) fun j h=>
 e [a,j,c,f,g,i] h
def F39_3(n:Nat)(cl:CL)(a b c d e f:Value)(g:Kt)(i j:Value)(h:PH):R:=
 vb (xCmp (fun x y=>ile y x) a b) fun k=>
 hb (cl 39 [c,d,e,f] h) fun l h=>
 vb (xAri Int.add e (vN 1)) fun m=>
 g [c,m,i,f,k,j] h
def F39_4(n:Nat)(cl:CL)(a b c d e f:Value)(g:Kt)(i j:Value)(h:PH):R:=
 vb (xCmp (fun x y=>ile y x) a b) fun k=>
 vb (xAri Int.add c (vN 1)) fun l=>
 hb (cl 39 [d,l,e,f] h) fun m h=>
 g [d,i,c,f,k,j] h
def F39_5(n:Nat)(cl:CL)(a b c d e f:Value)(g:Kt)(h:PH):R:=
 hb (F64 n cl a b c d h) fun i h=>
 vb (xExt 0 i) fun j=>
 vb (xExt 1 i) fun k=>
 vb (xAri Int.sub j b) fun l=>
 vb (xAri Int.sub c j) fun m=>
 vb (xQuo e (vN 8)) fun o=>
 vb (xCmp ilt l m) fun p=>
 bite p (F39_3 n cl l o a b j f g c k h) (F39_4 n cl m o j a c f g b k h)
def F39_6(n:Nat)(cl:CL)(a b c d:Value)(e:Kt)(f g i j:Value)(h:PH):R:=
 vb (xCmp (fun x y=>ilt y x) a (vN 0)) fun k=>
 vb (gd (isB true k) (some b)) fun l=>
 vb (gd (isB true k) (some a)) fun m=>
 vb (gd (isB true k) (xAri Int.sub m (vN 1))) fun o=>
 vb (gd (isB true k) (xIdxS 1 l o)) fun p=>
 vb (gd (isB true k) (some b)) fun q=>
 vb (gd (isB true k) (some c)) fun r=>
 vb (gd (isB true k) (xIdxS 1 q r)) fun s=>
 vb (gd (isB true k) (xLd p h)) fun t=>
 vb (gd (isB true k) (xLd s h)) fun v=>
 vb (gd (isB true k) (pcall (F62 n cl t v (h.fzn)))) fun w=>
 vb (gd (isB true k) (xNot w)) fun z=>
 vb (xPick k z ff) fun a1=>
 bite a1 (F39_2 n cl b a d c e f g i h) (F39_5 n cl b a d c j f e h)
def F39_7(n:Nat)(cl:CL)(a b c:Value)(d:Kt)(e f g i j:Value)(h:PH):R:=
 hb (F61 n cl a b c h) fun k h=>
 bite k (some (Value.tuple ⟨[]⟩,h)) (d [a,b,c,e,f,g,i,j] h)
def F39_8(n:Nat)(cl:CL)(a:Kt)(b:List Value)(h:PH):R:=
 u8 b fun c d e f g i j k=>F39_6 n cl d c k e a f g i j h
def F39_9(n:Nat)(cl:CL)(a b c d e f g i j:Value)(h:PH)(k:Kt):R:=
 vb (gd (isB true a) (some b)) fun l=>
 vb (xPick a l ff) fun m=>
 vb (gd (isB true m) (some c)) fun o=>
 vb (gd (isB true m) (xCmp ieq o (vN 1))) fun p=>
 vb (xPick m p ff) fun q=>
 bite q (F39_7 n cl d e f k g a b i j h) (k [d,e,f,g,a,b,i,j] h)
def F39_10(n:Nat)(cl:CL)(a b c d:Value)(e:Kt)(f g i j:Value)(h:PH):R:=
 hb (F60 n cl a b c h) fun k h=>
 vb (xAri Int.sub c (vN 1)) fun l=>
 vb (xAri Int.sub d b) fun m=>
 vb (xAri Int.sub l m) fun o=>
 e [a,b,c,f,g,i,j,o,(vN 1)] h
def F39_11(n:Nat)(cl:CL)(a:Kt)(b:List Value)(h:PH):R:=
 u9 b fun c d e f g i j k l=>jn (F39_8 n cl a) (F39_9 n cl g i l c d e f j k h)
def F39_12(n:Nat)(cl:CL)(a b c d e f g i j:Value)(h:PH)(k:Kt):R:=
 vb (xCmp ieq a (vN 2)) fun l=>
 bite l (F39_10 n cl b c d e k f g i j h) (k [b,c,d,f,g,i,j,e,a] h)
def F39_13(n:Nat)(cl:CL)(a b c:Value)(d:Kt)(e f g i:Value)(h:PH):R:=
 hb (F59 n cl a b c h) fun j h=>
 vb (xExt 0 j) fun k=>
 vb (xExt 1 j) fun l=>
 jn (F39_11 n cl d) (F39_12 n cl l a b c k e f g i h)
def F39_14(n:Nat)(cl:CL)(a b c d:Value)(e:Kt)(f g i:Value)(h:PH):R:=
 hb (F58 n cl a b c h) fun j h=>
 vb (xAri Int.sub d (vN 1)) fun k=>
 e [a,b,c,k,f,g,i] h
def F39_15(n:Nat)(cl:CL)(a:Kt)(b:List Value)(h:PH):R:=
 u7 b fun c d e f g i j=>F39_13 n cl c d e a f g i j h
def F39_16(n:Nat)(cl:CL)(a b c d e f g:Value)(h:PH)(i:Kt):R:=
 vb (xNot a) fun j=>
 bite j (F39_14 n cl b c d e i a f g h) (i [b,c,d,e,a,f,g] h)
def F39_17(n:Nat)(cl:CL)(a b c d:Value)(e:Kt)(f g i:Value)(h:PH):R:=
 vb (xCmp ieq a (vN 0)) fun j=>
 bite j (F39_1 n cl b c d h) (jn (F39_15 n cl e) (F39_16 n cl f b c d a g i h))
def F39_18(n:Nat)(cl:CL)(a b c d:Value)(e:Kt)(f g:Value)(h:PH):R:=
 vb (xAri Int.sub a b) fun i=>
 vb (xCmp ile i (vN 12)) fun j=>
 bite j (F39_0 n cl c b a h) (F39_17 n cl d c b a e f g i h)
def F39_19(n:Nat)(cl:CL)(a:Kt)(b:List Value)(h:PH):R:=
 u6 b fun c d e f g i=>F39_18 n cl e d c f a g i h
def F39(n:Nat)(cl:CL)(a b c d:Value)(h:PH):R:=
 lp n (F39_19 n cl) [a,b,c,d,tt,tt] h
theorem S39:OkF Try.prog 39 (A4 (F39 n cl)):=exA4 n ⟨[62],[],[(2,[0,1,2,3,8,9]),(10,[0,1,2,3,8,9,10]),(15,[0,1,2,3,8,9,10,11,12]),(17,[0,1,2,3,8,9,10,11])],[(17,[0,1,2,3,4,5,6,8,9,10,7,11,12,13,14])],[],[],[],[]⟩ (svc_ok (S56 n hcl) (svc_ok (S57 n hcl) (svc_ok (S59 n hcl) (svc_ok (S62 n hcl) (svc_ok (S63 n hcl) (svc_ok (S64 n hcl) (svc_ok (S61 n hcl) (svc_ok (S60 n hcl) (svc_ok (S58 n hcl) hcl))))))))) hmx Try.func39 (by kernel_rfl) fun _ _ _ _ _=>by kernel_rfl
def F21(n:Nat)(cl:CL)(a:Value)(h:PH):R:=
 vb (xLenS a) fun b=>
 vb (xConvI .u64 b) fun c=>
 vb (pcall (F40 n cl c (h.fzn))) fun d=>
 hb (cl 39 [a,(vN 0),b,d] h) fun e h=>
 some (Value.tuple ⟨[]⟩,h)
theorem S21:OkF Try.prog 21 (A1 (F21 n cl)):=exA1 n ⟨[40],[],[],[],[],[],[],[]⟩ (svc_ok (S40 n hcl) hcl) hmx Try.func21 (by kernel_rfl) fun _ _=>by kernel_rfl
def F22_0(n:Nat)(cl:CL)(a:Value)(b:Kt)(c d e:Value)(h:PH):R:=
 vb (xAri Int.add a (vN 1)) fun f=>
 b [c,d,e,f] h
def F22_1(n:Nat)(cl:CL)(a b c d:Value)(e:Kt)(h:PH):R:=
 vb (xIdxS 1 a b) fun f=>
 vb (xLd f h) fun g=>
 vb (xIdxS 1 c d) fun i=>
 hb (xSt1 i g h) fun _ h=>
 vb (xAri Int.add d (vN 1)) fun j=>
 e [c,j,a,b] h
def F22_2(n:Nat)(cl:CL)(a:Kt)(b:List Value)(h:PH):R:=
 u4 b fun c d e f=>F22_0 n cl f a c d e h
def F22_3(n:Nat)(cl:CL)(a b c d:Value)(h:PH)(e:Kt):R:=
 vb (xIdxS 1 a b) fun f=>
 vb (xAri Int.sub b (vN 1)) fun g=>
 vb (xIdxS 1 a g) fun i=>
 vb (xLd f h) fun j=>
 vb (xLd i h) fun k=>
 vb (xCmp ine j k) fun l=>
 bite l (F22_1 n cl a b c d e h) (e [c,d,a,b] h)
def F22_4(n:Nat)(cl:CL)(a b:Value)(h:PH):R:=
 vb (acut Try.prog 24 a (some b) none none) fun c=>
 hb (xClear (zinfo Try.prog 24) c h) fun _ h=>
 vb (acut Try.prog 24 a none (some b) none) fun d=>
 some (d,h)
def F22_5(n:Nat)(cl:CL)(a b:Value)(c:Kt)(d e:Value)(h:PH):R:=
 vb (xLenS a) fun f=>
 vb (xCmp ilt b f) fun g=>
 bite g (jn (F22_2 n cl c) (F22_3 n cl a b d e h)) (F22_4 n cl d e h)
def F22_6(n:Nat)(cl:CL)(a:Kt)(b:List Value)(h:PH):R:=
 u4 b fun c d e f=>F22_5 n cl e f a c d h
def F22_7(n:Nat)(cl:CL)(a b:Value)(h:PH):R:=
 vb (acut Try.prog 24 a (some b) none none) fun c=>
 lp n (F22_6 n cl) [a,b,c,(vN 1)] h
def F22_8(n:Nat)(cl:CL)(a:Value)(b:Kt)(c:Value)(h:PH):R:=
 vb (xAri Int.add a (vN 1)) fun d=>
 b [c,d] h
def F22_9(n:Nat)(cl:CL)(a b:Value)(c:Kt)(h:PH):R:=
 vb (xIdxS 1 a b) fun d=>
 vb (xAri Int.sub b (vN 1)) fun e=>
 vb (xIdxS 1 a e) fun f=>
 vb (xLd d h) fun g=>
 vb (xLd f h) fun i=>
 vb (xCmp ieq g i) fun j=>
 bite j (F22_7 n cl a b h) (F22_8 n cl b c a h)
def F22_10(n:Nat)(cl:CL)(a b:Value)(c:Kt)(h:PH):R:=
 vb (xLenS a) fun d=>
 vb (xCmp ilt b d) fun e=>
 bite e (F22_9 n cl a b c h) (some (a,h))
def F22_11(n:Nat)(cl:CL)(a:Value)(h:PH):R:=
 lp n (fun b c h=>ucons c fun d e=>ucons e fun f g=>F22_10 n cl d f b h) [a,(vN 1)] h
def F22(n:Nat)(cl:CL)(a:Value)(h:PH):R:=
 vb (xLenS a) fun b=>
 vb (xCmp ilt b (vN 2)) fun c=>
 bite c (some (a,h)) (F22_11 n cl a h)
theorem S22:OkF Try.prog 22 (A1 (F22 n cl)):=exA1 n ⟨[],[],[(4,[0,3]),(9,[0,3,4,5]),(10,[0,3,4,5])],[(6,[0,1,2,4,5,6,7,3,8,9]),(11,[0,1,2,4,5,6,7,3,8,9])],[],[],[],[]⟩ hcl hmx Try.func22 (by kernel_rfl) fun _ _=>by kernel_rfl
def F11_0(n:Nat)(cl:CL)(a:Value)(b:Kt)(c d e f:Value)(h:PH):R:=
 vb (xAri Int.add a (vN 1)) fun g=>
 b [c,d,e,f,g] h
def F11_1(n:Nat)(cl:CL)(a b:Value)(c:Kt)(d e f:Value)(h:PH):R:=
 vb (xFld 1 a) fun g=>
 vb (xLd g h) fun i=>
 hb (xBS 1 (bsRow Try.prog 24 1 [(0,i)]) h) fun j h=>
 hb (xApp (appInfo Try.prog #[24,24]) b j h) fun k h=>
 c [a,k,d,e,f] h
def F11_2(n:Nat)(cl:CL)(a b c d:Value)(e:Kt)(f g i:Value)(h:PH):R:=
 vb (xNot a) fun j=>
 vb (gd (isB true j) (xFld 0 b)) fun k=>
 vb (gd (isB true j) (xFld 0 k)) fun l=>
 vb (gd (isB true j) (xLd l h)) fun m=>
 vb (gd (isB true j) (xCmp ieq m (vM 0))) fun o=>
 vb (xPick j o ff) fun p=>
 bite p (F11_1 n cl c d e f g i h) (e [c,d,f,g,i] h)
def F11_3(n:Nat)(cl:CL)(a b:Value)(c:Kt)(d e f g i j:Value)(h:PH):R:=
 hb (xBS 1 (bsRow Try.prog 24 1 [(0,a)]) h) fun k h=>
 hb (xApp (appInfo Try.prog #[24,24]) b k h) fun l h=>
 c [d,l,e,f,g,i,j] h
def F11_4(n:Nat)(cl:CL)(a:Kt)(b:List Value)(h:PH):R:=
 u7 b fun c d e f g i j=>F11_2 n cl f e c d a g i j h
def F11_5(n:Nat)(cl:CL)(a b c d e f g i:Value)(h:PH)(j:Kt):R:=
 vb (xLdA 7 a h) fun k=>
 vb (pcall (F20 n cl k b (h.fzn))) fun l=>
 vb (xExt 0 l) fun m=>
 vb (xExt 1 l) fun o=>
 vb (gd (isB true c) (some o)) fun p=>
 vb (xPick c p ff) fun q=>
 bite q (F11_3 n cl m d j a e c f g i h) (j [a,d,e,c,f,g,i] h)
def F11_6(n:Nat)(cl:CL)(a:Kt)(b:List Value)(h:PH):R:=
 u5 b fun c d e f g=>F11_0 n cl g a c d e f h
def F11_7(n:Nat)(cl:CL)(a b c d e:Value)(h:PH)(f:Kt):R:=
 vb (xIdxS 3 a b) fun g=>
 vb (xLdA 3 g h) fun i=>
 hb (xAlloc (zcells Try.prog 55) h) fun j h=>
 hb (xStA 3 j i h) fun _ h=>
 vb (xLdA 7 c h) fun k=>
 vb (xFld 0 j) fun l=>
 vb (xLdA 2 l h) fun m=>
 vb (pcall (F19 n cl k m (h.fzn))) fun o=>
 vb (xExt 0 o) fun p=>
 vb (xExt 1 o) fun q=>
 jn (F11_4 n cl f) (F11_5 n cl c p q d j a e b h)
def F11_8(n:Nat)(cl:CL)(a:Value)(h:PH):R:=
 hb (F21 n cl a h) fun b h=>
 hb (F22 n cl a h) fun c h=>
 some (c,h)
def F11_9(n:Nat)(cl:CL)(a b:Value)(c:Kt)(d e f:Value)(h:PH):R:=
 vb (xCmp ilt a b) fun g=>
 bite g (jn (F11_6 n cl c) (F11_7 n cl d a e f b h)) (F11_8 n cl f h)
def F11_10(n:Nat)(cl:CL)(a:Kt)(b:List Value)(h:PH):R:=
 u5 b fun c d e f g=>F11_9 n cl g f a e c d h
def F11_11(n:Nat)(cl:CL)(a b c:Value)(h:PH):R:=
 vb (xNil a) fun d=>
 vb (xFld 8 d) fun e=>
 vb (xLd e h) fun f=>
 vb (xIdxS 1 f b) fun g=>
 vb (xLd g h) fun i=>
 vb (xLenS i) fun j=>
 lp n (F11_10 n cl) [c,nils,i,j,(vN 0)] h
def F11_12(n:Nat)(cl:CL)(a b:Value)(h:PH):R:=
 vb (xLdA 7 a h) fun c=>
 hb (fcall h (F17 n cl c b (h.fzn))) fun d h=>
 vb (xExt 0 d) fun e=>
 vb (xExt 1 d) fun f=>
 vb (xLenS b) fun g=>
 vb (xCmp ilt f g) fun i=>
 bite i (some (nils,h)) (F11_11 n cl e f a h)
def F11(n:Nat)(cl:CL)(a b:Value)(h:PH):R:=
 hb (xBox a h) fun c h=>
 vb (xLdA 7 c h) fun d=>
 vb (pcall (F16 n cl d (h.fzn))) fun e=>
 vb (xNot e) fun f=>
 bite f (some (nils,h)) (F11_12 n cl c b h)
theorem S11:OkF Try.prog 11 (A2 (F11 n cl)):=exA2 n ⟨[16,19,20],[17],[(8,[2,7,33,34,35]),(14,[2,7,9,11,33,34,35]),(16,[2,7,33,34,35])],[],[],[],[],[]⟩ (svc_ok (S16 n hcl) (svc_ok (S17 n hcl) (svc_ok (S19 n hcl) (svc_ok (S20 n hcl) (svc_ok (S21 n hcl) (svc_ok (S22 n hcl) hcl)))))) hmx Try.func11 (by kernel_rfl) fun _ _ _=>by kernel_rfl
def F6(n:Nat)(cl:CL)(h:PH):R:=
 hb (xBS 2 (bsRow Try.prog 24 2 [(0,(vM 0)),(1,(vM 0))]) h) fun a h=>
 vb (abuild Try.prog 40 [(1,a)]) fun b=>
 hb (xBS 1 (bsRow Try.prog 22 1 [(0,b)]) h) fun c h=>
 vb (abuild Try.prog 26 [(0,(vN 1)),(1,(vN 1)),(3,c)]) fun d=>
 hb (xAlloc (zcells Try.prog 26) h) fun e h=>
 hb (xStA 7 e d h) fun _ h=>
 vb (abuild Try.prog 26 []) fun f=>
 hb (xBS 1 (bsRow Try.prog 24 1 [(0,(vN 0))]) h) fun g h=>
 vb (pcall (F8 n cl f g (h.fzn))) fun i=>
 vb (xCmp ieq i (vN 0)) fun j=>
 vb (gd (isB true j) (xLdA 7 e h)) fun k=>
 hb (gh (isB true j) h (xBS 3 (bsRow Try.prog 24 3 [(0,(vN 0)),(1,(vN 0)),(2,(vN 0))]) h)) fun l h=>
 vb (gd (isB true j) (pcall (F8 n cl k l (h.fzn)))) fun m=>
 vb (gd (isB true j) (xCmp ieq m (vN 2))) fun o=>
 vb (xPick j o ff) fun p=>
 vb (gd (isB true p) (xLdA 7 e h)) fun q=>
 hb (gh (isB true p) h (xBS 1 (bsRow Try.prog 24 1 [(0,(vN 0))]) h)) fun r h=>
 hb (gh (isB true p) h (fcall h (F11 n cl q r (h.fzn)))) fun s h=>
 vb (gd (isB true p) (xLenS s)) fun t=>
 vb (gd (isB true p) (xCmp ieq t (vN 1))) fun v=>
 vb (xPick p v ff) fun w=>
 some (w,h)
theorem S6:OkF Try.prog 6 (A0 (F6 n cl)):=exA0 n ⟨[8],[11],[],[],[],[],[],[]⟩ (svc_ok (S8 n hcl) (svc_ok (S11 n hcl) hcl)) hmx Try.func6 (by kernel_rfl) fun _=>by kernel_rfl
def F7(n:Nat)(cl:CL)(a:Value)(h:PH):R:=
 hb (xBox a h) fun b h=>
 vb (xFld 3 b) fun c=>
 vb (xLd c h) fun d=>
 vb (xLenS d) fun e=>
 vb (xCmp ile e (vN 70)) fun f=>
 vb (gd (isB true f) (xFld 4 b)) fun g=>
 vb (gd (isB true f) (xLd g h)) fun i=>
 vb (gd (isB true f) (xLenS i)) fun j=>
 vb (gd (isB true f) (xCmp ile j (vN 250))) fun k=>
 vb (xPick f k ff) fun l=>
 vb (gd (isB true l) (xFld 5 b)) fun m=>
 vb (gd (isB true l) (xLd m h)) fun o=>
 vb (gd (isB true l) (xLenS o)) fun p=>
 vb (gd (isB true l) (xCmp ile p (vN 100))) fun q=>
 vb (xPick l q ff) fun r=>
 vb (gd (isB true r) (xFld 6 b)) fun s=>
 vb (gd (isB true r) (xLd s h)) fun t=>
 vb (gd (isB true r) (xLenS t)) fun v=>
 vb (gd (isB true r) (xCmp ile v (vN 100))) fun w=>
 vb (xPick r w ff) fun z=>
 some (z,h)
theorem S7:OkF Try.prog 7 (A1 (F7 n cl)):=exA1 n ⟨[],[],[],[],[],[],[],[]⟩ hcl hmx Try.func7 (by kernel_rfl) fun _ _=>by kernel_rfl
def F41_0(n:Nat)(cl:CL)(a:Value)(b:Kt)(c:Value)(h:PH):R:=
 vb (xAri Int.add a (vN 1)) fun d=>
 b [c,d] h
def F41_1(n:Nat)(cl:CL)(a b:Value)(c:Kt)(h:PH):R:=
 vb (xIdxS 1 a b) fun d=>
 vb (xLd d h) fun e=>
 vb (xCmp ilt e (vN 0)) fun f=>
 vb (gd (isB false f) (some a)) fun g=>
 vb (gd (isB false f) (some b)) fun i=>
 vb (gd (isB false f) (xIdxS 1 g i)) fun j=>
 vb (gd (isB false f) (xLd j h)) fun k=>
 vb (gd (isB false f) (xCmp (fun x y=>ilt y x) k (vN 100))) fun l=>
 vb (xPick f tt l) fun m=>
 bite m (some (ff,h)) (F41_0 n cl b c a h)
def F41_2(n:Nat)(cl:CL)(a b:Value)(c:Kt)(h:PH):R:=
 vb (xLenS a) fun d=>
 vb (xCmp ilt b d) fun e=>
 bite e (F41_1 n cl a b c h) (some (tt,h))
def F41(n:Nat)(cl:CL)(a:Value)(h:PH):R:=
 lp n (fun b c h=>ucons c fun d e=>ucons e fun f g=>F41_2 n cl d f b h) [a,(vN 0)] h
theorem S41:OkF Try.prog 41 (A1 (F41 n cl)):=exA1 n ⟨[],[],[(2,[0,3])],[],[],[],[],[]⟩ hcl hmx Try.func41 (by kernel_rfl) fun _ _=>by kernel_rfl
def F42_0(n:Nat)(cl:CL)(a b:Value)(h:PH):R:=
 vb (xAri Int.sub (vM 0) a) fun c=>
 vb (xFld 1 b) fun d=>
 vb (xLd d h) fun e=>
 vb (xCmp ilt c e) fun f=>
 some (f,h)
def F42_1(n:Nat)(cl:CL)(a b:Value)(h:PH):R:=
 vb (xFld 0 a) fun c=>
 vb (xLd c h) fun d=>
 vb (xCmp ilt b d) fun e=>
 some (e,h)
def F42(n:Nat)(cl:CL)(a b:Value)(h:PH):R:=
 hb (xBox a h) fun c h=>
 vb (xCmp ilt b (vN 0)) fun d=>
 bite d (F42_0 n cl b c h) (F42_1 n cl c b h)
theorem S42:OkF Try.prog 42 (A2 (F42 n cl)):=exA2 n ⟨[],[],[],[],[],[],[],[]⟩ hcl hmx Try.func42 (by kernel_rfl) fun _ _ _=>by kernel_rfl
def F25_0(n:Nat)(cl:CL)(a b c:Value)(d:Kt)(e:Value)(h:PH):R:=
 vb (xFld 1 a) fun f=>
 vb (xLdA 7 b h) fun g=>
 vb (xLd f h) fun i=>
 vb (xIdxS 1 i c) fun j=>
 vb (xLd j h) fun k=>
 vb (pcall (F42 n cl g k (h.fzn))) fun l=>
 vb (xAri Int.add c (vN 1)) fun m=>
 d [b,e,a,l,m] h
def F25_1(n:Nat)(cl:CL)(a:Value)(b:Kt)(c:Value)(h:PH):R:=
 vb (xAri Int.add a (vN 1)) fun d=>
 b [c,d] h
def F25_2(n:Nat)(cl:CL)(a b:Value)(c:Kt)(d:Value)(h:PH):R:=
 vb (xFld 2 a) fun e=>
 vb (xLd e h) fun f=>
 vb (xCmp ilt f (vM 999)) fun g=>
 vb (gd (isB false g) (xFld 2 a)) fun i=>
 vb (gd (isB false g) (xLd i h)) fun j=>
 vb (gd (isB false g) (xCmp (fun x y=>ilt y x) j (vN 1000))) fun k=>
 vb (xPick g tt k) fun l=>
 bite l (some (Value.tuple ⟨[b,(vN 1)]⟩,h)) (F25_1 n cl b c d h)
def F25_3(n:Nat)(cl:CL)(a b:Value)(c:Kt)(d:Value)(h:PH):R:=
 vb (xFld 1 a) fun e=>
 vb (xLd e h) fun f=>
 vb (xLenS f) fun g=>
 vb (xCmp (fun x y=>ilt y x) g (vN 8)) fun i=>
 bite i (some (Value.tuple ⟨[b,(vN 3)]⟩,h)) (F25_2 n cl a b c d h)
def F25_4(n:Nat)(cl:CL)(a b c:Value)(d:Kt)(e:Value)(h:PH):R:=
 vb (xNot a) fun f=>
 bite f (some (Value.tuple ⟨[b,(vN 6)]⟩,h)) (F25_3 n cl c b d e h)
def F25_5(n:Nat)(cl:CL)(a b c d:Value)(e:Kt)(f:Value)(g:Kt)(h:PH):R:=
 vb (xFld 1 a) fun i=>
 vb (xLd i h) fun j=>
 vb (xLenS j) fun k=>
 vb (xCmp ilt b k) fun l=>
 vb (gd (isB true l) (some c)) fun m=>
 vb (xPick l m ff) fun o=>
 bite o (F25_0 n cl a d b e f h) (F25_4 n cl c f a g d h)
def F25_6(n:Nat)(cl:CL)(a b:Kt)(c:List Value)(h:PH):R:=
 u5 c fun d e f g i=>F25_5 n cl f i g d b e a h
def F25_7(n:Nat)(cl:CL)(a b:Value)(c:Kt)(h:PH):R:=
 vb (xFld 3 a) fun d=>
 vb (xLd d h) fun e=>
 vb (xIdxS 3 e b) fun f=>
 vb (xLdA 3 f h) fun g=>
 hb (xAlloc (zcells Try.prog 40) h) fun i h=>
 hb (xStA 3 i g h) fun _ h=>
 vb (xFld 0 i) fun j=>
 vb (xLd j h) fun k=>
 vb (xCmp (fun x y=>ile y x) k (vN 0)) fun l=>
 vb (gd (isB true l) (xFld 0 i)) fun m=>
 vb (gd (isB true l) (xLd m h)) fun o=>
 vb (gd (isB true l) (xFld 0 a)) fun p=>
 vb (gd (isB true l) (xLd p h)) fun q=>
 vb (gd (isB true l) (xCmp ilt o q)) fun r=>
 vb (xPick l r ff) fun s=>
 lp n (F25_6 n cl c) [a,b,i,s,(vN 0)] h
def F25_8(n:Nat)(cl:CL)(a:Value)(b:Kt)(c:Value)(h:PH):R:=
 vb (xAri Int.add a (vN 1)) fun d=>
 b [c,d] h
def F25_9(n:Nat)(cl:CL)(a b:Value)(c:Kt)(h:PH):R:=
 vb (xFld 4 a) fun d=>
 vb (xLd d h) fun e=>
 vb (xIdxS 3 e b) fun f=>
 vb (xLdA 3 f h) fun g=>
 hb (xAlloc (zcells Try.prog 85) h) fun i h=>
 hb (xStA 3 i g h) fun _ h=>
 vb (xIdxA 3 1 i (vN 0)) fun j=>
 vb (xLd j h) fun k=>
 vb (xCmp ilt k (vN 0)) fun l=>
 vb (gd (isB false l) (xIdxA 3 1 i (vN 0))) fun m=>
 vb (gd (isB false l) (xFld 3 a)) fun o=>
 vb (gd (isB false l) (xLd m h)) fun p=>
 vb (gd (isB false l) (xLd o h)) fun q=>
 vb (gd (isB false l) (xLenS q)) fun r=>
 vb (gd (isB false l) (xCmp (fun x y=>ile y x) p r)) fun s=>
 vb (xPick l tt s) fun t=>
 vb (gd (isB false t) (xIdxA 3 1 i (vN 2))) fun v=>
 vb (gd (isB false t) (xLd v h)) fun w=>
 vb (gd (isB false t) (xCmp ilt w (vN 0))) fun z=>
 vb (xPick t tt z) fun a1=>
 vb (gd (isB false a1) (xIdxA 3 1 i (vN 2))) fun b1=>
 vb (gd (isB false a1) (xFld 3 a)) fun c1=>
 vb (gd (isB false a1) (xLd b1 h)) fun d1=>
 vb (gd (isB false a1) (xLd c1 h)) fun e1=>
 vb (gd (isB false a1) (xLenS e1)) fun f1=>
 vb (gd (isB false a1) (xCmp (fun x y=>ile y x) d1 f1)) fun g1=>
 vb (xPick a1 tt g1) fun i1=>
 vb (gd (isB false i1) (xIdxA 3 1 i (vN 1))) fun j1=>
 vb (gd (isB false i1) (xLd j1 h)) fun k1=>
 vb (gd (isB false i1) (xCmp ilt k1 (vN 0))) fun l1=>
 vb (xPick i1 tt l1) fun m1=>
 vb (gd (isB false m1) (xIdxA 3 1 i (vN 1))) fun o1=>
 vb (gd (isB false m1) (xFld 3 a)) fun p1=>
 vb (gd (isB false m1) (xIdxA 3 1 i (vN 0))) fun q1=>
 vb (gd (isB false m1) (xLd o1 h)) fun r1=>
 vb (gd (isB false m1) (xLd p1 h)) fun s1=>
 vb (gd (isB false m1) (xLd q1 h)) fun t1=>
 vb (gd (isB false m1) (xIdxS 3 s1 t1)) fun v1=>
 vb (gd (isB false m1) (xFld 1 v1)) fun w1=>
 vb (gd (isB false m1) (xLd w1 h)) fun z1=>
 vb (gd (isB false m1) (xLenS z1)) fun a2=>
 vb (gd (isB false m1) (xCmp (fun x y=>ile y x) r1 a2)) fun b2=>
 vb (xPick m1 tt b2) fun c2=>
 vb (gd (isB false c2) (xFld 3 a)) fun d2=>
 vb (gd (isB false c2) (xIdxA 3 1 i (vN 0))) fun e2=>
 vb (gd (isB false c2) (xIdxA 3 1 i (vN 1))) fun f2=>
 vb (gd (isB false c2) (xFld 3 a)) fun g2=>
 vb (gd (isB false c2) (xIdxA 3 1 i (vN 2))) fun i2=>
 vb (gd (isB false c2) (xLd d2 h)) fun j2=>
 vb (gd (isB false c2) (xLd e2 h)) fun k2=>
 vb (gd (isB false c2) (xIdxS 3 j2 k2)) fun l2=>
 vb (gd (isB false c2) (xFld 1 l2)) fun m2=>
 vb (gd (isB false c2) (xLd m2 h)) fun o2=>
 vb (gd (isB false c2) (xLd f2 h)) fun p2=>
 vb (gd (isB false c2) (xIdxS 1 o2 p2)) fun q2=>
 vb (gd (isB false c2) (xLd q2 h)) fun r2=>
 vb (gd (isB false c2) (xLd g2 h)) fun s2=>
 vb (gd (isB false c2) (xLd i2 h)) fun t2=>
 vb (gd (isB false c2) (xIdxS 3 s2 t2)) fun v2=>
 vb (gd (isB false c2) (xFld 0 v2)) fun w2=>
 vb (gd (isB false c2) (xLd w2 h)) fun z2=>
 vb (gd (isB false c2) (xCmp ine r2 z2)) fun a3=>
 vb (xPick c2 tt a3) fun b3=>
 bite b3 (some (Value.tuple ⟨[(vM 0),(vN 6)]⟩,h)) (F25_8 n cl b c a h)
def F25_10(n:Nat)(cl:CL)(a b:Value)(c:Kt)(h:PH):R:=
 vb (xFld 4 a) fun d=>
 vb (xLd d h) fun e=>
 vb (xLenS e) fun f=>
 vb (xCmp ilt b f) fun g=>
 bite g (F25_9 n cl a b c h) (some (Value.tuple ⟨[(vM 0),(vN 0)]⟩,h))
def F25_11(n:Nat)(cl:CL)(a:Value)(h:PH):R:=
 lp n (fun b c h=>ucons c fun d e=>ucons e fun f g=>F25_10 n cl d f b h) [a,(vN 0)] h
def F25_12(n:Nat)(cl:CL)(a b:Value)(c:Kt)(h:PH):R:=
 vb (xFld 3 a) fun d=>
 vb (xLd d h) fun e=>
 vb (xLenS e) fun f=>
 vb (xCmp ilt b f) fun g=>
 bite g (F25_7 n cl a b c h) (F25_11 n cl a h)
def F25_13(n:Nat)(cl:CL)(a:Value)(h:PH):R:=
 lp n (fun b c h=>ucons c fun d e=>ucons e fun f g=>F25_12 n cl d f b h) [a,(vN 0)] h
def F25_14(n:Nat)(cl:CL)(a:Value)(h:PH):R:=
 vb (xFld 5 a) fun b=>
 vb (xLd b h) fun c=>
 vb (xLenS c) fun d=>
 vb (xFld 3 a) fun e=>
 vb (xLd e h) fun f=>
 vb (xLenS f) fun g=>
 vb (xCmp (fun x y=>ilt y x) d g) fun i=>
 vb (gd (isB false i) (xFld 6 a)) fun j=>
 vb (gd (isB false i) (xLd j h)) fun k=>
 vb (gd (isB false i) (xLenS k)) fun l=>
 vb (gd (isB false i) (xFld 1 a)) fun m=>
 vb (gd (isB false i) (xLd m h)) fun o=>
 vb (gd (isB false i) (xCmp (fun x y=>ilt y x) l o)) fun p=>
 vb (xPick i tt p) fun q=>
 vb (gd (isB false q) (xFld 5 a)) fun r=>
 vb (gd (isB false q) (xLd r h)) fun s=>
 vb (gd (isB false q) (pcall (F41 n cl s (h.fzn)))) fun t=>
 vb (gd (isB false q) (xNot t)) fun v=>
 vb (xPick q tt v) fun w=>
 vb (gd (isB false w) (xFld 6 a)) fun z=>
 vb (gd (isB false w) (xLd z h)) fun a1=>
 vb (gd (isB false w) (pcall (F41 n cl a1 (h.fzn)))) fun b1=>
 vb (gd (isB false w) (xNot b1)) fun c1=>
 vb (xPick w tt c1) fun d1=>
 bite d1 (some (Value.tuple ⟨[(vM 0),(vN 1)]⟩,h)) (F25_13 n cl a h)
def F25_15(n:Nat)(cl:CL)(a:Value)(h:PH):R:=
 vb (xFld 2 a) fun b=>
 vb (xLd b h) fun c=>
 vb (xCmp ilt c (vN 0)) fun d=>
 vb (gd (isB false d) (xFld 2 a)) fun e=>
 vb (gd (isB false d) (xLd e h)) fun f=>
 vb (gd (isB false d) (xFld 0 a)) fun g=>
 vb (gd (isB false d) (xLd g h)) fun i=>
 vb (gd (isB false d) (xCmp (fun x y=>ile y x) f i)) fun j=>
 vb (xPick d tt j) fun k=>
 bite k (some (Value.tuple ⟨[(vM 0),(vN 6)]⟩,h)) (F25_14 n cl a h)
def F25(n:Nat)(cl:CL)(a:Value)(h:PH):R:=
 hb (xBox a h) fun b h=>
 vb (xFld 0 b) fun c=>
 vb (xLd c h) fun d=>
 vb (xCmp ilt d (vN 1)) fun e=>
 vb (gd (isB false e) (xFld 0 b)) fun f=>
 vb (gd (isB false e) (xLd f h)) fun g=>
 vb (gd (isB false e) (xCmp (fun x y=>ilt y x) g (vN 40))) fun i=>
 vb (xPick e tt i) fun j=>
 vb (gd (isB false j) (xFld 1 b)) fun k=>
 vb (gd (isB false j) (xLd k h)) fun l=>
 vb (gd (isB false j) (xCmp ilt l (vN 0))) fun m=>
 vb (xPick j tt m) fun o=>
 vb (gd (isB false o) (xFld 1 b)) fun p=>
 vb (gd (isB false o) (xLd p h)) fun q=>
 vb (gd (isB false o) (xCmp (fun x y=>ilt y x) q (vN 40))) fun r=>
 vb (xPick o tt r) fun s=>
 vb (gd (isB false s) (xFld 3 b)) fun t=>
 vb (gd (isB false s) (xLd t h)) fun v=>
 vb (gd (isB false s) (xLenS v)) fun w=>
 vb (gd (isB false s) (xCmp (fun x y=>ilt y x) w (vN 60))) fun z=>
 vb (xPick s tt z) fun a1=>
 vb (gd (isB false a1) (xFld 4 b)) fun b1=>
 vb (gd (isB false a1) (xLd b1 h)) fun c1=>
 vb (gd (isB false a1) (xLenS c1)) fun d1=>
 vb (gd (isB false a1) (xCmp (fun x y=>ilt y x) d1 (vN 200))) fun e1=>
 vb (xPick a1 tt e1) fun f1=>
 bite f1 (some (Value.tuple ⟨[(vM 0),(vN 3)]⟩,h)) (F25_15 n cl b h)
theorem S25:OkF Try.prog 25 (A1 (F25 n cl)):=exA1 n ⟨[41,42],[],[(8,[1,4]),(13,[1,4,5,6,7]),(23,[1,8])],[(15,[1,3,0,2,4,5,6,7]),(26,[0,1,2,3,4,6,5,7,8,9,10,11,12,13,14,15,16,17,19,18,20,21,22,23,24,25,26,27,28,29,30,32,34,31,33,35,36,37,38,39,40,41,42,43,45,50,54,56,44,46,47,48,49,51,52,53,55,57,58,59,60,61,62])],[],[],[],[]⟩ (svc_ok (S41 n hcl) (svc_ok (S42 n hcl) hcl)) hmx Try.func25 (by kernel_rfl) fun _ _=>by kernel_rfl
def F43(n:Nat)(cl:CL)(a:Value)(h:PH):R:=
 hb (xBox a h) fun b h=>
 vb (xLdA 7 b h) fun c=>
 vb (pcall (F25 n cl c (h.fzn))) fun d=>
 vb (xExt 0 d) fun e=>
 vb (xExt 1 d) fun f=>
 vb (xCmp ieq f (vN 0)) fun g=>
 some (g,h)
theorem S43:OkF Try.prog 43 (A1 (F43 n cl)):=exA1 n ⟨[25],[],[],[],[],[],[],[]⟩ (svc_ok (S25 n hcl) hcl) hmx Try.func43 (by kernel_rfl) fun _ _=>by kernel_rfl
def F26_0(n:Nat)(cl:CL)(a:Value)(b:Kt)(c d e f g:Value)(h:PH):R:=
 vb (xAri Int.add a (vN 1)) fun i=>
 b [c,d,e,f,g,i] h
def F26_1(n:Nat)(cl:CL)(a b c:Value)(d:Kt)(e f:Value)(h:PH):R:=
 vb (xFld 1 a) fun g=>
 vb (xLd g h) fun i=>
 vb (xIdxS 1 i b) fun j=>
 vb (xLd j h) fun k=>
 vb (xIdxS 1 c k) fun l=>
 hb (xSt1 l tt h) fun _ h=>
 d [e,c,tt,f,a,b] h
def F26_2(n:Nat)(cl:CL)(a:Kt)(b:List Value)(h:PH):R:=
 u6 b fun c d e f g i=>F26_0 n cl i a c d e f g h
def F26_3(n:Nat)(cl:CL)(a b c d e f:Value)(h:PH)(g:Kt):R:=
 vb (xFld 1 a) fun i=>
 vb (xLd i h) fun j=>
 vb (xIdxS 1 j b) fun k=>
 vb (xLd k h) fun l=>
 vb (xCmp (fun x y=>ile y x) l (vN 0)) fun m=>
 vb (gd (isB true m) (some c)) fun o=>
 vb (gd (isB true m) (xFld 1 a)) fun p=>
 vb (gd (isB true m) (xLd p h)) fun q=>
 vb (gd (isB true m) (some b)) fun r=>
 vb (gd (isB true m) (xIdxS 1 q r)) fun s=>
 vb (gd (isB true m) (xLd s h)) fun t=>
 vb (gd (isB true m) (xIdxS 1 o t)) fun v=>
 vb (gd (isB true m) (xLd v h)) fun w=>
 vb (gd (isB true m) (xNot w)) fun z=>
 vb (xPick m z ff) fun a1=>
 bite a1 (F26_1 n cl a b c g d e h) (g [d,c,f,e,a,b] h)
def F26_4(n:Nat)(cl:CL)(a:Value)(b:Kt)(c d e:Value)(h:PH):R:=
 vb (xAri Int.add a (vN 1)) fun f=>
 b [c,d,e,f] h
def F26_5(n:Nat)(cl:CL)(a b c:Value)(d:Kt)(e f g:Value)(i:Kt)(h:PH):R:=
 vb (xFld 1 a) fun j=>
 vb (xLd j h) fun k=>
 vb (xLenS k) fun l=>
 vb (xCmp ilt b l) fun m=>
 vb (gd (isB true m) (some c)) fun o=>
 vb (gd (isB true m) (xFld 0 a)) fun p=>
 vb (gd (isB true m) (xLd p h)) fun q=>
 vb (gd (isB true m) (xIdxS 1 o q)) fun r=>
 vb (gd (isB true m) (xLd r h)) fun s=>
 vb (xPick m s ff) fun t=>
 bite t (jn (F26_2 n cl d) (F26_3 n cl a b c e f g h)) (F26_4 n cl f i e c g h)
def F26_6(n:Nat)(cl:CL)(a b:Kt)(c:List Value)(h:PH):R:=
 u6 c fun d e f g i j=>F26_5 n cl i j e b d g f a h
def F26_7(n:Nat)(cl:CL)(a b:Value)(c:Kt)(d e:Value)(h:PH):R:=
 vb (xFld 3 a) fun f=>
 vb (xLd f h) fun g=>
 vb (xIdxS 3 g b) fun i=>
 vb (xLdA 3 i h) fun j=>
 hb (xAlloc (zcells Try.prog 40) h) fun k h=>
 hb (xStA 3 k j h) fun _ h=>
 lp n (F26_6 n cl c) [a,d,e,b,k,(vN 0)] h
def F26_8(n:Nat)(cl:CL)(a b:Value)(c:Kt)(d e:Value)(f:Kt)(h:PH):R:=
 vb (xFld 3 a) fun g=>
 vb (xLd g h) fun i=>
 vb (xLenS i) fun j=>
 vb (xCmp ilt b j) fun k=>
 bite k (F26_7 n cl a b c d e h) (f [a,d,e] h)
def F26_9(n:Nat)(cl:CL)(a b:Kt)(c:List Value)(h:PH):R:=
 u4 c fun d e f g=>F26_8 n cl d g b e f a h
def F26_10(n:Nat)(cl:CL)(a:Kt)(b:List Value)(h:PH):R:=
 u3 b fun c d e=>bite e (lp n (F26_9 n cl a) [c,d,ff,(vN 0)] h) (some (d,h))
def F26_11(n:Nat)(cl:CL)(a:Value)(h:PH):R:=
 vb (xFld 0 a) fun b=>
 vb (xLd b h) fun c=>
 hb (xMk (zinfo Try.prog 47) c c h) fun d h=>
 vb (xFld 2 a) fun e=>
 vb (xLd e h) fun f=>
 vb (xIdxS 1 d f) fun g=>
 hb (xSt1 g tt h) fun _ h=>
 lp n (F26_10 n cl) [a,d,tt] h
def F26(n:Nat)(cl:CL)(a:Value)(h:PH):R:=
 hb (xBox a h) fun b h=>
 vb (xLdA 7 b h) fun c=>
 vb (pcall (F43 n cl c (h.fzn))) fun d=>
 vb (xNot d) fun e=>
 bite e (some (nils,h)) (F26_11 n cl b h)
theorem S26:OkF Try.prog 26 (A1 (F26 n cl)):=exA1 n ⟨[43],[],[(6,[1,3,4]),(9,[1,3,4,5]),(13,[1,3,4,5,6,7]),(14,[1,3,4,5,6,7])],[],[],[],[],[]⟩ (svc_ok (S43 n hcl) hcl) hmx Try.func26 (by kernel_rfl) fun _ _=>by kernel_rfl
def F44_0(n:Nat)(cl:CL)(a b:Value)(c:Kt)(d:Value)(h:PH):R:=
 vb (xIdxS 1 a b) fun e=>
 hb (xSt1 e (vM 0) h) fun _ h=>
 vb (xAri Int.add b (vN 1)) fun f=>
 c [d,a,f] h
def F44_1(n:Nat)(cl:CL)(a:Value)(b:Kt)(c d e:Value)(h:PH):R:=
 vb (xAri Int.add a (vN 1)) fun f=>
 b [c,d,e,f] h
def F44_2(n:Nat)(cl:CL)(a:Value)(b:Kt)(c d e f g i:Value)(h:PH):R:=
 vb (xAri Int.add a (vN 1)) fun j=>
 b [c,d,e,f,g,i,j] h
def F44_3(n:Nat)(cl:CL)(a:Value)(b:Kt)(c d e f g i:Value)(h:PH):R:=
 vb (xAri Int.add a (vN 1)) fun j=>
 b [c,d,e,f,g,j,i] h
def F44_4(n:Nat)(cl:CL)(a b c d:Value)(e:Kt)(f g i:Value)(h:PH):R:=
 vb (xFld 1 a) fun j=>
 vb (xLd j h) fun k=>
 vb (xIdxS 1 k b) fun l=>
 vb (xLd l h) fun m=>
 vb (xIdxS 1 c m) fun o=>
 vb (xLd o h) fun p=>
 vb (xAri Int.add d p) fun q=>
 e [f,c,g,i,a,q,b] h
def F44_5(n:Nat)(cl:CL)(a b c:Value)(d:Kt)(e f g i:Value)(h:PH):R:=
 vb (xFld 1 a) fun j=>
 vb (xLd j h) fun k=>
 vb (xIdxS 1 k b) fun l=>
 vb (xLd l h) fun m=>
 vb (xIdxS 1 c m) fun o=>
 vb (xLd o h) fun p=>
 vb (xCmp ilt p (vN 0)) fun q=>
 bite q (d [e,c,f,g,a,(vM 0),b] h) (F44_4 n cl a b c i d e f g h)
def F44_6(n:Nat)(cl:CL)(a:Kt)(b:List Value)(h:PH):R:=
 u7 b fun c d e f g i j=>F44_2 n cl j a c d e f g i h
def F44_7(n:Nat)(cl:CL)(a b c d e f g:Value)(h:PH)(i:Kt):R:=
 vb (xFld 1 a) fun j=>
 vb (xLd j h) fun k=>
 vb (xIdxS 1 k b) fun l=>
 vb (xLd l h) fun m=>
 vb (xCmp ilt m (vN 0)) fun o=>
 bite o (F44_3 n cl c i d e f g a b h) (F44_5 n cl a b e i d f g c h)
def F44_8(n:Nat)(cl:CL)(a b c:Value)(d:Kt)(e f:Value)(h:PH):R:=
 vb (xFld 0 a) fun g=>
 vb (xLd g h) fun i=>
 vb (xIdxS 1 b i) fun j=>
 hb (xSt1 j c h) fun _ h=>
 d [e,b,tt,f] h
def F44_9(n:Nat)(cl:CL)(a b c:Value)(d:Kt)(e f g:Value)(h:PH):R:=
 vb (xCmp (fun x y=>ile y x) a (vN 0)) fun i=>
 vb (gd (isB true i) (some b)) fun j=>
 vb (gd (isB true i) (xFld 0 c)) fun k=>
 vb (gd (isB true i) (xLd k h)) fun l=>
 vb (gd (isB true i) (xIdxS 1 j l)) fun m=>
 vb (gd (isB true i) (xLd m h)) fun o=>
 vb (gd (isB true i) (xCmp ilt o (vN 0))) fun p=>
 vb (gd (isB true i) (some p)) fun q=>
 vb (gd (isB false q) (some a)) fun r=>
 vb (gd (isB false q) (some b)) fun s=>
 vb (gd (isB false q) (xFld 0 c)) fun t=>
 vb (gd (isB false q) (xLd t h)) fun v=>
 vb (gd (isB false q) (xIdxS 1 s v)) fun w=>
 vb (gd (isB false q) (xLd w h)) fun z=>
 vb (gd (isB false q) (xCmp ilt r z)) fun a1=>
 vb (gd (isB true i) (xPick q tt a1)) fun b1=>
 vb (xPick i b1 ff) fun c1=>
 bite c1 (F44_8 n cl c b a d e f h) (d [e,b,g,f] h)
def F44_10(n:Nat)(cl:CL)(a:Kt)(b:List Value)(h:PH):R:=
 u6 b fun c d e f g i=>F44_9 n cl i d g a c f e h
def F44_11(n:Nat)(cl:CL)(a b c d e f:Value)(h:PH)(g:Kt):R:=
 vb (xCmp (fun x y=>ilt y x) a (vN 1000000000)) fun i=>
 bite i (g [b,c,d,e,f,(vN 1000000000)] h) (g [b,c,d,e,f,a] h)
def F44_12(n:Nat)(cl:CL)(a b c:Value)(d:Kt)(e f g i:Value)(j:Kt)(h:PH):R:=
 vb (xFld 1 a) fun k=>
 vb (xLd k h) fun l=>
 vb (xLenS l) fun m=>
 vb (xCmp ilt b m) fun o=>
 vb (gd (isB true o) (some c)) fun p=>
 vb (gd (isB true o) (xCmp (fun x y=>ile y x) p (vN 0))) fun q=>
 vb (xPick o q ff) fun r=>
 bite r (jn (F44_6 n cl d) (F44_7 n cl a b c e f g i h)) (jn (F44_10 n cl j) (F44_11 n cl c e f g i a h))
def F44_13(n:Nat)(cl:CL)(a b:Kt)(c:List Value)(h:PH):R:=
 u7 c fun d e f g i j k=>F44_12 n cl i k j b d e f g a h
def F44_14(n:Nat)(cl:CL)(a:Kt)(b:List Value)(h:PH):R:=
 u4 b fun c d e f=>F44_1 n cl f a c d e h
def F44_15(n:Nat)(cl:CL)(a b c d:Value)(h:PH)(e:Kt):R:=
 vb (xFld 3 a) fun f=>
 vb (xLd f h) fun g=>
 vb (xIdxS 3 g b) fun i=>
 vb (xLdA 3 i h) fun j=>
 hb (xAlloc (zcells Try.prog 40) h) fun k h=>
 hb (xStA 3 k j h) fun _ h=>
 lp n (F44_13 n cl e) [a,c,d,b,k,(vN 0),(vN 0)] h
def F44_16(n:Nat)(cl:CL)(a b:Value)(c:Kt)(d e:Value)(f:Kt)(h:PH):R:=
 vb (xFld 3 a) fun g=>
 vb (xLd g h) fun i=>
 vb (xLenS i) fun j=>
 vb (xCmp ilt b j) fun k=>
 bite k (jn (F44_14 n cl c) (F44_15 n cl a b d e h)) (f [a,d,e] h)
def F44_17(n:Nat)(cl:CL)(a b:Kt)(c:List Value)(h:PH):R:=
 u4 c fun d e f g=>F44_16 n cl d g b e f a h
def F44_18(n:Nat)(cl:CL)(a:Kt)(b:List Value)(h:PH):R:=
 u3 b fun c d e=>bite e (lp n (F44_17 n cl a) [c,d,ff,(vN 0)] h) (some (d,h))
def F44_19(n:Nat)(cl:CL)(a b c:Value)(d:Kt)(h:PH):R:=
 vb (xFld 0 a) fun e=>
 vb (xLd e h) fun f=>
 vb (xCmp ilt b f) fun g=>
 bite g (F44_0 n cl c b d a h) (lp n (F44_18 n cl) [a,c,tt] h)
def F44_20(n:Nat)(cl:CL)(a:Kt)(b:List Value)(h:PH):R:=
 u3 b fun c d e=>F44_19 n cl c e d a h
def F44_21(n:Nat)(cl:CL)(a:Value)(h:PH):R:=
 vb (xFld 0 a) fun b=>
 vb (xLd b h) fun c=>
 hb (xMk (zinfo Try.prog 24) c c h) fun d h=>
 lp n (F44_20 n cl) [a,d,(vN 0)] h
def F44(n:Nat)(cl:CL)(a:Value)(h:PH):R:=
 hb (xBox a h) fun b h=>
 vb (xLdA 7 b h) fun c=>
 vb (pcall (F43 n cl c (h.fzn))) fun d=>
 vb (xNot d) fun e=>
 bite e (some (nils,h)) (F44_21 n cl b h)
theorem S44:OkF Try.prog 44 (A1 (F44 n cl)):=exA1 n ⟨[43],[],[(5,[1,3,4]),(9,[1,3,5]),(12,[1,3,5,6]),(13,[1,3,5,6]),(17,[1,3,5,6,7,8,9]),(18,[1,3,5,6,7,8,9]),(26,[1,3,5,6,7,8])],[],[],[],[],[]⟩ (svc_ok (S43 n hcl) hcl) hmx Try.func44 (by kernel_rfl) fun _ _=>by kernel_rfl
def F27_0(n:Nat)(cl:CL)(a b c:Value)(d:Kt)(h:PH):R:=
 vb (xIdxS 1 a b) fun e=>
 vb (xLd e h) fun f=>
 vb (xCmp (fun x y=>ile y x) f (vN 0)) fun g=>
 hb (xBS 1 (bsRow Try.prog 47 1 [(0,g)]) h) fun i h=>
 hb (xApp (appInfo Try.prog #[47,47]) c i h) fun j h=>
 vb (xAri Int.add b (vN 1)) fun k=>
 d [a,j,k] h
def F27_1(n:Nat)(cl:CL)(a b c:Value)(d:Kt)(h:PH):R:=
 vb (xLenS a) fun e=>
 vb (xCmp ilt b e) fun f=>
 bite f (F27_0 n cl a b c d h) (some (c,h))
def F27_2(n:Nat)(cl:CL)(a:Kt)(b:List Value)(h:PH):R:=
 u3 b fun c d e=>F27_1 n cl c e d a h
def F27_3(n:Nat)(cl:CL)(a:Value)(h:PH):R:=
 vb (xLdA 7 a h) fun b=>
 hb (fcall h (F44 n cl b (h.fzn))) fun c h=>
 lp n (F27_2 n cl) [c,nils,(vN 0)] h
def F27(n:Nat)(cl:CL)(a:Value)(h:PH):R:=
 hb (xBox a h) fun b h=>
 vb (xLdA 7 b h) fun c=>
 vb (pcall (F43 n cl c (h.fzn))) fun d=>
 vb (xNot d) fun e=>
 bite e (some (nils,h)) (F27_3 n cl b h)
theorem S27:OkF Try.prog 27 (A1 (F27 n cl)):=exA1 n ⟨[43],[44],[(6,[3,4,5])],[],[],[],[],[]⟩ (svc_ok (S43 n hcl) (svc_ok (S44 n hcl) hcl)) hmx Try.func27 (by kernel_rfl) fun _ _=>by kernel_rfl
def F36_0(n:Nat)(cl:CL)(a:Value)(b:Kt)(c d e:Value)(h:PH):R:=
 vb (xAri Int.add a (vN 1)) fun f=>
 b [c,d,e,f] h
def F36_1(n:Nat)(cl:CL)(a b c:Value)(d:Kt)(e f g:Value)(h:PH):R:=
 vb (xFld 1 a) fun i=>
 vb (xLd i h) fun j=>
 vb (xIdxS 1 j b) fun k=>
 vb (xLd k h) fun l=>
 vb (xCmp (fun x y=>ile y x) l (vN 0)) fun m=>
 vb (gd (isB true m) (some c)) fun o=>
 vb (gd (isB true m) (xFld 1 a)) fun p=>
 vb (gd (isB true m) (xLd p h)) fun q=>
 vb (gd (isB true m) (some b)) fun r=>
 vb (gd (isB true m) (xIdxS 1 q r)) fun s=>
 vb (gd (isB true m) (xLd s h)) fun t=>
 vb (gd (isB true m) (xIdxS 1 o t)) fun v=>
 vb (gd (isB true m) (xLd v h)) fun w=>
 vb (xPick m w ff) fun z=>
 vb (xAri Int.add b (vN 1)) fun a1=>
 d [e,c,f,g,a,z,a1] h
def F36_2(n:Nat)(cl:CL)(a b:Value)(c:Kt)(d e:Value)(h:PH):R:=
 vb (xFld 0 a) fun f=>
 vb (xLd f h) fun g=>
 vb (xIdxS 1 b g) fun i=>
 hb (xSt1 i tt h) fun _ h=>
 c [d,b,tt,e] h
def F36_3(n:Nat)(cl:CL)(a b c d:Value)(e:Kt)(f g i:Value)(j:Kt)(h:PH):R:=
 vb (xFld 1 a) fun k=>
 vb (xLd k h) fun l=>
 vb (xLenS l) fun m=>
 vb (xCmp ilt b m) fun o=>
 vb (gd (isB true o) (some c)) fun p=>
 vb (xPick o p ff) fun q=>
 bite q (F36_1 n cl a b d e f g i h) (bite c (F36_2 n cl a d j f i h) (j [f,d,g,i] h))
def F36_4(n:Nat)(cl:CL)(a b:Kt)(c:List Value)(h:PH):R:=
 u7 c fun d e f g i j k=>F36_3 n cl i k j e b d f g a h
def F36_5(n:Nat)(cl:CL)(a:Kt)(b:List Value)(h:PH):R:=
 u4 b fun c d e f=>F36_0 n cl f a c d e h
def F36_6(n:Nat)(cl:CL)(a b c d:Value)(h:PH)(e:Kt):R:=
 vb (xFld 3 a) fun f=>
 vb (xLd f h) fun g=>
 vb (xIdxS 3 g b) fun i=>
 vb (xLdA 3 i h) fun j=>
 hb (xAlloc (zcells Try.prog 40) h) fun k h=>
 hb (xStA 3 k j h) fun _ h=>
 vb (xFld 0 k) fun l=>
 vb (xLd l h) fun m=>
 vb (xIdxS 1 c m) fun o=>
 vb (xLd o h) fun p=>
 vb (xNot p) fun q=>
 lp n (F36_4 n cl e) [a,c,d,b,k,q,(vN 0)] h
def F36_7(n:Nat)(cl:CL)(a b:Value)(c:Kt)(d e:Value)(f:Kt)(h:PH):R:=
 vb (xFld 3 a) fun g=>
 vb (xLd g h) fun i=>
 vb (xLenS i) fun j=>
 vb (xCmp ilt b j) fun k=>
 bite k (jn (F36_5 n cl c) (F36_6 n cl a b d e h)) (f [a,d,e] h)
def F36_8(n:Nat)(cl:CL)(a b:Kt)(c:List Value)(h:PH):R:=
 u4 c fun d e f g=>F36_7 n cl d g b e f a h
def F36_9(n:Nat)(cl:CL)(a:Kt)(b:List Value)(h:PH):R:=
 u3 b fun c d e=>bite e (lp n (F36_8 n cl a) [c,d,ff,(vN 0)] h) (some (d,h))
def F36_10(n:Nat)(cl:CL)(a:Value)(h:PH):R:=
 vb (xFld 0 a) fun b=>
 vb (xLd b h) fun c=>
 hb (xMk (zinfo Try.prog 47) c c h) fun d h=>
 lp n (F36_9 n cl) [a,d,tt] h
def F36(n:Nat)(cl:CL)(a:Value)(h:PH):R:=
 hb (xBox a h) fun b h=>
 vb (xLdA 7 b h) fun c=>
 vb (pcall (F43 n cl c (h.fzn))) fun d=>
 vb (xNot d) fun e=>
 bite e (some (nils,h)) (F36_10 n cl b h)
theorem S36:OkF Try.prog 36 (A1 (F36 n cl)):=exA1 n ⟨[43],[],[(5,[1,3,4]),(8,[1,3,4,5]),(9,[1,3,4,5]),(13,[1,3,4,5,6,7,8])],[],[],[],[],[]⟩ (svc_ok (S43 n hcl) hcl) hmx Try.func36 (by kernel_rfl) fun _ _=>by kernel_rfl
def F28_0(n:Nat)(cl:CL)(a b c:Value)(d:Kt)(e f:Value)(h:PH):R:=
 hb (xMk (zinfo Try.prog 47) a a h) fun g h=>
 vb (xIdxS 1 b c) fun i=>
 hb (xSt1 i g h) fun _ h=>
 vb (xAri Int.add c (vN 1)) fun j=>
 d [e,f,a,b,j] h
def F28_1(n:Nat)(cl:CL)(a:Value)(b:Kt)(c d e f g i:Value)(h:PH):R:=
 vb (xAri Int.add a (vN 1)) fun j=>
 b [c,d,e,f,g,i,j] h
def F28_2(n:Nat)(cl:CL)(a b c d:Value)(e:Kt)(f g i j:Value)(h:PH):R:=
 vb (xCmp ieq a b) fun k=>
 vb (gd (isB false k) (xFld 1 c)) fun l=>
 vb (gd (isB false k) (xLd l h)) fun m=>
 vb (gd (isB false k) (some a)) fun o=>
 vb (gd (isB false k) (xIdxS 1 m o)) fun p=>
 vb (gd (isB false k) (xLd p h)) fun q=>
 vb (gd (isB false k) (xCmp (fun x y=>ile y x) q (vN 0))) fun r=>
 vb (gd (isB false k) (some r)) fun s=>
 vb (gd (isB true s) (some d)) fun t=>
 vb (gd (isB true s) (xFld 1 c)) fun v=>
 vb (gd (isB true s) (xLd v h)) fun w=>
 vb (gd (isB true s) (some a)) fun z=>
 vb (gd (isB true s) (xIdxS 1 w z)) fun a1=>
 vb (gd (isB true s) (xLd a1 h)) fun b1=>
 vb (gd (isB true s) (xIdxS 1 t b1)) fun c1=>
 vb (gd (isB true s) (xLd c1 h)) fun d1=>
 vb (gd (isB false k) (xPick s d1 ff)) fun e1=>
 vb (xPick k tt e1) fun f1=>
 vb (xAri Int.add a (vN 1)) fun g1=>
 e [f,d,g,i,j,c,b,f1,g1] h
def F28_3(n:Nat)(cl:CL)(a b c:Value)(d:Kt)(e f g i:Value)(h:PH):R:=
 vb (xFld 0 a) fun j=>
 vb (xFld 1 a) fun k=>
 vb (xLd j h) fun l=>
 vb (xIdxS 1 b l) fun m=>
 vb (xLd m h) fun o=>
 vb (xLd k h) fun p=>
 vb (xIdxS 1 p c) fun q=>
 vb (xLd q h) fun r=>
 vb (xIdxS 1 o r) fun s=>
 hb (xSt1 s tt h) fun _ h=>
 d [e,f,g,b,i,a,c] h
def F28_4(n:Nat)(cl:CL)(a b c d:Value)(e:Kt)(f g i j:Value)(h:PH):R:=
 bite a (F28_3 n cl b c d e f g i j h) (e [f,g,i,c,j,b,d] h)
def F28_5(n:Nat)(cl:CL)(a b c d e:Value)(f:Kt)(g i j k:Value)(l:Kt)(h:PH):R:=
 vb (xFld 1 a) fun m=>
 vb (xLd m h) fun o=>
 vb (xLenS o) fun p=>
 vb (xCmp ilt b p) fun q=>
 vb (gd (isB true q) (some c)) fun r=>
 vb (xPick q r ff) fun s=>
 bite s (F28_2 n cl b d a e f g i j k h) (F28_4 n cl c a j d l g e i k h)
def F28_6(n:Nat)(cl:CL)(a b:Kt)(c:List Value)(h:PH):R:=
 u9 c fun d e f g i j k l m=>F28_5 n cl j m l k e b d f g i a h
def F28_7(n:Nat)(cl:CL)(a:Kt)(b:List Value)(h:PH):R:=
 u7 b fun c d e f g i j=>F28_1 n cl j a c d e f g i h
def F28_8(n:Nat)(cl:CL)(a b c d e f g:Value)(h:PH)(i:Kt):R:=
 vb (xFld 1 a) fun j=>
 vb (xLd j h) fun k=>
 vb (xIdxS 1 k b) fun l=>
 vb (xLd l h) fun m=>
 vb (xCmp (fun x y=>ile y x) m (vN 0)) fun o=>
 lp n (F28_6 n cl i) [c,d,e,f,g,a,b,o,(vN 0)] h
def F28_9(n:Nat)(cl:CL)(a:Value)(b:Kt)(c d e f:Value)(h:PH):R:=
 vb (xAri Int.add a (vN 1)) fun g=>
 b [c,d,e,f,g] h
def F28_10(n:Nat)(cl:CL)(a b:Value)(c:Kt)(d e f g i:Value)(j:Kt)(h:PH):R:=
 vb (xFld 1 a) fun k=>
 vb (xLd k h) fun l=>
 vb (xLenS l) fun m=>
 vb (xCmp ilt b m) fun o=>
 bite o (jn (F28_7 n cl c) (F28_8 n cl a b d e f g i h)) (F28_9 n cl i j d e f g h)
def F28_11(n:Nat)(cl:CL)(a b:Kt)(c:List Value)(h:PH):R:=
 u7 c fun d e f g i j k=>F28_10 n cl j k b d e f g i a h
def F28_12(n:Nat)(cl:CL)(a b:Value)(c:Kt)(d e f:Value)(h:PH):R:=
 vb (xFld 3 a) fun g=>
 vb (xLd g h) fun i=>
 vb (xIdxS 3 i b) fun j=>
 vb (xLdA 3 j h) fun k=>
 hb (xAlloc (zcells Try.prog 40) h) fun l h=>
 hb (xStA 3 l k h) fun _ h=>
 lp n (F28_11 n cl c) [a,d,e,f,b,l,(vN 0)] h
def F28_13(n:Nat)(cl:CL)(a b c d:Value)(e:Kt)(f:Value)(h:PH):R:=
 vb (xIdxS 1 a b) fun g=>
 vb (xIdxS 1 a b) fun i=>
 vb (xLd g h) fun j=>
 vb (xLd i h) fun k=>
 vb (xIdxS 1 k c) fun l=>
 vb (xLd l h) fun m=>
 vb (gd (isB false m) (some a)) fun o=>
 vb (gd (isB false m) (some b)) fun p=>
 vb (gd (isB false m) (xIdxS 1 o p)) fun q=>
 vb (gd (isB false m) (some d)) fun r=>
 vb (gd (isB false m) (xLd q h)) fun s=>
 vb (gd (isB false m) (xIdxS 1 s r)) fun t=>
 vb (gd (isB false m) (xLd t h)) fun v=>
 vb (gd (isB false m) (some v)) fun w=>
 vb (gd (isB true w) (some a)) fun z=>
 vb (gd (isB true w) (some d)) fun a1=>
 vb (gd (isB true w) (xIdxS 1 z a1)) fun b1=>
 vb (gd (isB true w) (some c)) fun c1=>
 vb (gd (isB true w) (xLd b1 h)) fun d1=>
 vb (gd (isB true w) (xIdxS 1 d1 c1)) fun e1=>
 vb (gd (isB true w) (xLd e1 h)) fun f1=>
 vb (gd (isB false m) (xPick w f1 ff)) fun g1=>
 vb (xPick m tt g1) fun i1=>
 vb (xIdxS 1 j c) fun j1=>
 hb (xSt1 j1 i1 h) fun _ h=>
 vb (xAri Int.add c (vN 1)) fun k1=>
 e [f,a,d,b,k1] h
def F28_14(n:Nat)(cl:CL)(a:Value)(b:Kt)(c d e:Value)(h:PH):R:=
 vb (xAri Int.add a (vN 1)) fun f=>
 b [c,d,e,f] h
def F28_15(n:Nat)(cl:CL)(a b c d e:Value)(f g:Kt)(h:PH):R:=
 vb (xCmp ilt a b) fun i=>
 bite i (F28_13 n cl c d a e f b h) (F28_14 n cl d g b c e h)
def F28_16(n:Nat)(cl:CL)(a b:Kt)(c:List Value)(h:PH):R:=
 u5 c fun d e f g i=>F28_15 n cl i d e g f b a h
def F28_17(n:Nat)(cl:CL)(a:Value)(b:Kt)(c d:Value)(h:PH):R:=
 vb (xAri Int.add a (vN 1)) fun e=>
 b [c,d,e] h
def F28_18(n:Nat)(cl:CL)(a b:Value)(c:Kt)(d e:Value)(f:Kt)(h:PH):R:=
 vb (xCmp ilt a b) fun g=>
 bite g (lp n (F28_16 n cl c) [b,d,e,a,(vN 0)] h) (F28_17 n cl e f b d h)
def F28_19(n:Nat)(cl:CL)(a b:Kt)(c:List Value)(h:PH):R:=
 u4 c fun d e f g=>F28_18 n cl g d b e f a h
def F28_20(n:Nat)(cl:CL)(a b c:Value)(d:Kt)(e:Value)(h:PH):R:=
 vb (xIdxS 1 a b) fun f=>
 vb (xLd f h) fun g=>
 vb (xIdxS 1 g b) fun i=>
 vb (xLd i h) fun j=>
 hb (xBS 1 (bsRow Try.prog 47 1 [(0,j)]) h) fun k h=>
 hb (xApp (appInfo Try.prog #[47,47]) c k h) fun l h=>
 vb (xAri Int.add b (vN 1)) fun m=>
 d [e,a,l,m] h
def F28_21(n:Nat)(cl:CL)(a b c d:Value)(e:Kt)(h:PH):R:=
 vb (xCmp ilt a b) fun f=>
 bite f (F28_20 n cl c a d e b h) (some (d,h))
def F28_22(n:Nat)(cl:CL)(a:Kt)(b:List Value)(h:PH):R:=
 u4 b fun c d e f=>F28_21 n cl f c d e a h
def F28_23(n:Nat)(cl:CL)(a b:Value)(c:Kt)(d:Value)(h:PH):R:=
 vb (xCmp ilt a b) fun e=>
 bite e (lp n (F28_19 n cl c) [b,d,a,(vN 0)] h) (lp n (F28_22 n cl) [b,d,nils,(vN 0)] h)
def F28_24(n:Nat)(cl:CL)(a:Kt)(b:List Value)(h:PH):R:=
 u3 b fun c d e=>F28_23 n cl e c a d h
def F28_25(n:Nat)(cl:CL)(a b:Value)(c:Kt)(d e f:Value)(h:PH):R:=
 vb (xFld 3 a) fun g=>
 vb (xLd g h) fun i=>
 vb (xLenS i) fun j=>
 vb (xCmp ilt b j) fun k=>
 bite k (F28_12 n cl a b c d e f h) (lp n (F28_24 n cl) [e,f,(vN 0)] h)
def F28_26(n:Nat)(cl:CL)(a:Kt)(b:List Value)(h:PH):R:=
 u5 b fun c d e f g=>F28_25 n cl c g a d e f h
def F28_27(n:Nat)(cl:CL)(a b c:Value)(d:Kt)(e f:Value)(h:PH):R:=
 vb (xCmp ilt a b) fun g=>
 bite g (F28_0 n cl b c a d e f h) (lp n (F28_26 n cl) [e,f,b,c,(vN 0)] h)
def F28_28(n:Nat)(cl:CL)(a:Kt)(b:List Value)(h:PH):R:=
 u5 b fun c d e f g=>F28_27 n cl g e f a c d h
def F28_29(n:Nat)(cl:CL)(a:Value)(h:PH):R:=
 vb (xLdA 7 a h) fun b=>
 hb (fcall h (F36 n cl b (h.fzn))) fun c h=>
 vb (xFld 0 a) fun d=>
 vb (xLd d h) fun e=>
 hb (xMk (zinfo Try.prog 69) e e h) fun f h=>
 lp n (F28_28 n cl) [a,c,e,f,(vN 0)] h
def F28(n:Nat)(cl:CL)(a:Value)(h:PH):R:=
 hb (xBox a h) fun b h=>
 vb (xLdA 7 b h) fun c=>
 vb (pcall (F43 n cl c (h.fzn))) fun d=>
 vb (xNot d) fun e=>
 bite e (some (nils,h)) (F28_29 n cl b h)
theorem S28:OkF Try.prog 28 (A1 (F28 n cl)):=exA1 n ⟨[43],[36],[(7,[1,3,4,5,6]),(11,[1,3,4,5,7]),(15,[1,3,4,5,7,8,9]),(16,[1,3,4,5,7,8,9]),(19,[1,3,4,5,7,8,9,10,11]),(25,[4,5,12]),(28,[4,5,12,13]),(31,[4,5,12,13,14]),(36,[4,5,15,16])],[(23,[0,1,5,7,2,3,4,6,8,9,10,11]),(33,[0,1,2,4,5,6,7,9,3,8,10,11,12,13,14,15,17,16,18,19,20,21,22,23,25,24,26,27,28,29,30,31])],[],[],[],[]⟩ (svc_ok (S43 n hcl) (svc_ok (S36 n hcl) hcl)) hmx Try.func28 (by kernel_rfl) fun _ _=>by kernel_rfl
def F13_0(n:Nat)(cl:CL)(a:Value)(b:Kt)(c d e f:Value)(h:PH):R:=
 vb (xAri Int.add a (vN 1)) fun g=>
 b [c,d,e,f,g] h
def F13_1(n:Nat)(cl:CL)(a b c:Value)(d:Kt)(e f:Value)(h:PH):R:=
 vb (xIdxS 1 a b) fun g=>
 vb (xLd g h) fun i=>
 vb (xNot i) fun j=>
 vb (gd (isB false j) (some c)) fun k=>
 vb (gd (isB false j) (some b)) fun l=>
 vb (gd (isB false j) (xIdxS 1 k l)) fun m=>
 vb (gd (isB false j) (xLd m h)) fun o=>
 vb (gd (isB false j) (xNot o)) fun p=>
 vb (xPick j tt p) fun q=>
 bite q (some (Value.tuple ⟨[b,(vN 7)]⟩,h)) (F13_0 n cl b d e a c f h)
def F13_2(n:Nat)(cl:CL)(a:Value)(b:Kt)(c d:Value)(h:PH):R:=
 vb (xAri Int.add a (vN 1)) fun e=>
 b [c,d,e] h
def F13_3(n:Nat)(cl:CL)(a b:Value)(c:Kt)(d:Value)(h:PH):R:=
 vb (xIdxS 1 a b) fun e=>
 vb (xLd e h) fun f=>
 bite f (some (Value.tuple ⟨[b,(vN 8)]⟩,h)) (F13_2 n cl b c d a h)
def F13_4(n:Nat)(cl:CL)(a b c:Value)(d:Kt)(h:PH):R:=
 vb (xFld 0 a) fun e=>
 vb (xLd e h) fun f=>
 vb (xCmp ilt b f) fun g=>
 bite g (F13_3 n cl c b d a h) (some (Value.tuple ⟨[(vM 0),(vN 0)]⟩,h))
def F13_5(n:Nat)(cl:CL)(a:Kt)(b:List Value)(h:PH):R:=
 u3 b fun c d e=>F13_4 n cl c e d a h
def F13_6(n:Nat)(cl:CL)(a b c d:Value)(e:Kt)(f:Value)(h:PH):R:=
 vb (xFld 0 a) fun g=>
 vb (xLd g h) fun i=>
 vb (xCmp ilt b i) fun j=>
 bite j (F13_1 n cl c b d e a f h) (lp n (F13_5 n cl) [a,f,(vN 0)] h)
def F13_7(n:Nat)(cl:CL)(a:Kt)(b:List Value)(h:PH):R:=
 u5 b fun c d e f g=>F13_6 n cl c g d e a f h
def F13_8(n:Nat)(cl:CL)(a:Value)(h:PH):R:=
 vb (xLdA 7 a h) fun b=>
 hb (fcall h (F26 n cl b (h.fzn))) fun c h=>
 vb (xLdA 7 a h) fun d=>
 hb (fcall h (F27 n cl d (h.fzn))) fun e h=>
 vb (xLdA 7 a h) fun f=>
 hb (fcall h (F28 n cl f (h.fzn))) fun g h=>
 lp n (F13_7 n cl) [a,c,e,g,(vN 0)] h
def F13(n:Nat)(cl:CL)(a:Value)(h:PH):R:=
 hb (xBox a h) fun b h=>
 vb (xLdA 7 b h) fun c=>
 vb (pcall (F25 n cl c (h.fzn))) fun d=>
 vb (xExt 0 d) fun e=>
 vb (xExt 1 d) fun f=>
 vb (xCmp ine f (vN 0)) fun g=>
 bite g (some (Value.tuple ⟨[e,f]⟩,h)) (F13_8 n cl b h)
theorem S13:OkF Try.prog 13 (A1 (F13 n cl)):=exA1 n ⟨[25],[26,27,28],[(8,[1,6,7,8,9]),(13,[1,8,10])],[],[],[],[],[]⟩ (svc_ok (S25 n hcl) (svc_ok (S26 n hcl) (svc_ok (S27 n hcl) (svc_ok (S28 n hcl) hcl)))) hmx Try.func13 (by kernel_rfl) fun _ _=>by kernel_rfl
def F29_0(n:Nat)(cl:CL)(a:Value)(b:Kt)(c d e f g i j:Value)(h:PH):R:=
 vb (xAri Int.add a (vN 1)) fun k=>
 b [c,d,e,f,g,i,j,k] h
def F29_1(n:Nat)(cl:CL)(a b:Value)(c:Kt)(d e f g i j:Value)(h:PH):R:=
 vb (xAri Int.add a (vN 1)) fun k=>
 vb (xIdxS 1 b k) fun l=>
 hb (xSt1 l tt h) fun _ h=>
 c [d,e,f,g,i,j,b,a] h
def F29_2(n:Nat)(cl:CL)(a b c d e f:Value)(g:Kt)(i j:Value)(h:PH):R:=
 vb (xCmp ilt a b) fun k=>
 vb (gd (isB true k) (some c)) fun l=>
 vb (gd (isB true k) (xNil l)) fun m=>
 vb (gd (isB true k) (xFld 7 m)) fun o=>
 vb (gd (isB true k) (some a)) fun p=>
 vb (gd (isB true k) (some d)) fun q=>
 vb (gd (isB true k) (some e)) fun r=>
 vb (gd (isB true k) (xIdxS 1 q r)) fun s=>
 vb (gd (isB true k) (xLd o h)) fun t=>
 vb (gd (isB true k) (xIdxS 1 t p)) fun v=>
 vb (gd (isB true k) (xLd v h)) fun w=>
 vb (gd (isB true k) (xLd s h)) fun z=>
 vb (gd (isB true k) (xAri Int.sub (vM 0) z)) fun a1=>
 vb (gd (isB true k) (xCmp ieq w a1)) fun b1=>
 vb (xPick k b1 ff) fun c1=>
 bite c1 (F29_1 n cl a f g c d i b j e h) (g [c,d,i,b,j,e,f,a] h)
def F29_3(n:Nat)(cl:CL)(a b c d e f:Value)(g:Kt)(i j k:Value)(h:PH):R:=
 vb (xIdxS 1 a b) fun l=>
 vb (xLd l h) fun m=>
 vb (gd (isB false m) (some c)) fun o=>
 vb (gd (isB false m) (xNil o)) fun p=>
 vb (gd (isB false m) (xFld 8 p)) fun q=>
 vb (gd (isB false m) (some d)) fun r=>
 vb (gd (isB false m) (some e)) fun s=>
 vb (gd (isB false m) (xIdxS 1 r s)) fun t=>
 vb (gd (isB false m) (some f)) fun v=>
 vb (gd (isB false m) (some b)) fun w=>
 vb (gd (isB false m) (xLd q h)) fun z=>
 vb (gd (isB false m) (xLd t h)) fun a1=>
 vb (gd (isB false m) (xIdxS 1 z a1)) fun b1=>
 vb (gd (isB false m) (xLd b1 h)) fun c1=>
 vb (gd (isB false m) (xIdxS 1 c1 v)) fun d1=>
 vb (gd (isB false m) (xLd d1 h)) fun e1=>
 vb (gd (isB false m) (xIdxS 1 e1 w)) fun f1=>
 vb (gd (isB false m) (xLd f1 h)) fun g1=>
 vb (xPick m tt g1) fun i1=>
 vb (xIdxS 1 a b) fun j1=>
 hb (xSt1 j1 i1 h) fun _ h=>
 vb (xAri Int.add b (vN 1)) fun k1=>
 g [c,d,i,j,k,e,a,f,k1] h
def F29_4(n:Nat)(cl:CL)(a b c d e f g:Value)(i:Kt)(j k:Value)(l:Kt)(h:PH):R:=
 vb (xCmp ile a b) fun m=>
 bite m (F29_3 n cl c a d e f g i j b k h) (l [d,e,j,b,k,f,c,g] h)
def F29_5(n:Nat)(cl:CL)(a b:Kt)(c:List Value)(h:PH):R:=
 u9 c fun d e f g i j k l m=>F29_4 n cl m g k d e j l b f i a h
def F29_6(n:Nat)(cl:CL)(a b c d e f:Value)(g:Kt)(i j:Value)(h:PH):R:=
 vb (xIdxS 1 a b) fun k=>
 vb (xLd k h) fun l=>
 vb (xCmp ilt l (vN 0)) fun m=>
 bite m (F29_2 n cl c d e a b f g i j h) (lp n (F29_5 n cl g) [e,a,i,d,j,b,f,c,c] h)
def F29_7(n:Nat)(cl:CL)(a:Kt)(b:List Value)(h:PH):R:=
 u8 b fun c d e f g i j k=>F29_0 n cl k a c d e f g i j h
def F29_8(n:Nat)(cl:CL)(a b c d e f g i:Value)(h:PH)(j:Kt):R:=
 vb (xIdxS 1 a b) fun k=>
 vb (xLd k h) fun l=>
 vb (xNot l) fun m=>
 bite m (j [c,d,e,f,a,g,i,b] h) (F29_6 n cl d g b f c i j e a h)
def F29_9(n:Nat)(cl:CL)(a:Value)(b:Kt)(c d e f g:Value)(h:PH):R:=
 vb (xAri Int.add a (vN 1)) fun i=>
 b [c,d,e,f,g,i] h
def F29_10(n:Nat)(cl:CL)(a b:Value)(c:Kt)(d e f g i j:Value)(k:Kt)(h:PH):R:=
 vb (xCmp ile a b) fun l=>
 bite l (jn (F29_7 n cl c) (F29_8 n cl d a e f g b i j h)) (F29_9 n cl i k e f g b j h)
def F29_11(n:Nat)(cl:CL)(a b:Kt)(c:List Value)(h:PH):R:=
 u8 c fun d e f g i j k l=>F29_10 n cl l g b i d e f j k a h
def F29_12(n:Nat)(cl:CL)(a:Value)(b:Kt)(c d e f g:Value)(h:PH):R:=
 vb (xAri Int.add a (vN 1)) fun i=>
 hb (xMk (zinfo Try.prog 47) i i h) fun j h=>
 lp n (F29_11 n cl b) [c,d,e,a,f,g,j,e] h
def F29_13(n:Nat)(cl:CL)(a b c:Value)(d:Kt)(e f g:Value)(h:PH):R:=
 vb (xLenS a) fun i=>
 vb (xCmp ilt b i) fun j=>
 bite j (F29_12 n cl c d e a f g b h) (some (g,h))
def F29_14(n:Nat)(cl:CL)(a:Kt)(b:List Value)(h:PH):R:=
 u6 b fun c d e f g i=>F29_13 n cl d i f a c e g h
def F29(n:Nat)(cl:CL)(a b c:Value)(h:PH):R:=
 vb (xNil a) fun d=>
 vb (xFld 7 d) fun e=>
 vb (xLd e h) fun f=>
 vb (xLenS f) fun g=>
 vb (xAri Int.add g (vN 1)) fun i=>
 hb (xMk (zinfo Try.prog 47) i i h) fun j h=>
 vb (xIdxS 1 j c) fun k=>
 hb (xSt1 k tt h) fun _ h=>
 lp n (F29_14 n cl) [a,b,c,g,j,(vN 0)] h
theorem S29:OkF Try.prog 29 (A3 (F29 n cl)):=exA3 n ⟨[],[],[(5,[0,1,2,7,8,9]),(9,[0,1,2,7,8,9,10,11]),(10,[0,1,2,7,8,9,10,11]),(16,[0,1,2,7,8,9,10,11,12])],[(13,[0,1,2,3,4,5,6,8,11,12,13,7,9,10,14,15,16,17]),(18,[0,1,2,3,4,5,6,7,8,9,11,12,13,17,20,10,14,15,16,18,19,21,22,23,24,25])],[],[],[],[]⟩ hcl hmx Try.func29 (by kernel_rfl) fun _ _ _ _=>by kernel_rfl
def F14_0(n:Nat)(cl:CL)(a b c:Value)(d:Kt)(e f g:Value)(h:PH):R:=
 vb (xAri Int.add a (vN 1)) fun i=>
 hb (xMk (zinfo Try.prog 47) i i h) fun j h=>
 hb (xBS 1 (bsRow Try.prog 69 1 [(0,j)]) h) fun k h=>
 hb (xApp (appInfo Try.prog #[69,69]) b k h) fun l h=>
 vb (xAri Int.add c (vN 1)) fun m=>
 d [e,a,f,g,l,m] h
def F14_1(n:Nat)(cl:CL)(a b c:Value)(d:Kt)(e f:Value)(h:PH):R:=
 vb (xNil a) fun g=>
 vb (xFld 8 g) fun i=>
 vb (xLd i h) fun j=>
 hb (xBS 1 (bsRow Try.prog 66 1 [(0,b)]) h) fun k h=>
 hb (xApp (appInfo Try.prog #[66,66]) j k h) fun l h=>
 vb (xNil a) fun m=>
 vb (xFld 8 m) fun o=>
 hb (xSt1 o l h) fun _ h=>
 vb (xAri Int.add c (vN 1)) fun p=>
 d [e,f,a,p] h
def F14_2(n:Nat)(cl:CL)(a b c:Value)(d:Kt)(e f g:Value)(i:Kt)(h:PH):R:=
 vb (xCmp ile a b) fun j=>
 bite j (F14_0 n cl b c a d e f g h) (F14_1 n cl f c g i e b h)
def F14_3(n:Nat)(cl:CL)(a b:Kt)(c:List Value)(h:PH):R:=
 u6 c fun d e f g i j=>F14_2 n cl j e i b d f g a h
def F14_4(n:Nat)(cl:CL)(a:Value)(b:Kt)(c d e f g i j k:Value)(h:PH):R:=
 vb (xAri Int.add a (vN 1)) fun l=>
 b [c,d,e,f,g,i,j,k,l] h
def F14_5(n:Nat)(cl:CL)(a b:Value)(c:Kt)(d e f g i j:Value)(h:PH):R:=
 vb (xIdxS 1 a b) fun k=>
 hb (xSt1 k tt h) fun _ h=>
 c [d,e,f,tt,g,i,j,a,b] h
def F14_6(n:Nat)(cl:CL)(a:Kt)(b:List Value)(h:PH):R:=
 u9 b fun c d e f g i j k l=>F14_4 n cl l a c d e f g i j k h
def F14_7(n:Nat)(cl:CL)(a b c d e f g i j:Value)(h:PH)(k:Kt):R:=
 vb (xIdxS 1 a b) fun l=>
 vb (xLd l h) fun m=>
 vb (gd (isB true m) (some c)) fun o=>
 vb (gd (isB true m) (some b)) fun p=>
 vb (gd (isB true m) (xIdxS 1 o p)) fun q=>
 vb (gd (isB true m) (xLd q h)) fun r=>
 vb (gd (isB true m) (xNot r)) fun s=>
 vb (xPick m s ff) fun t=>
 bite t (F14_5 n cl c b k d e f g i a h) (k [d,e,f,j,g,i,a,c,b] h)
def F14_8(n:Nat)(cl:CL)(a:Value)(b:Kt)(c d e f g:Value)(h:PH):R:=
 vb (xAri Int.sub a (vN 1)) fun i=>
 b [c,d,e,f,g,i] h
def F14_9(n:Nat)(cl:CL)(a b:Value)(c:Kt)(d e f g i j k:Value)(l:Kt)(h:PH):R:=
 vb (xCmp ile a b) fun m=>
 bite m (jn (F14_6 n cl c) (F14_7 n cl d a e f b g i j k h)) (F14_8 n cl j l f b g k i h)
def F14_10(n:Nat)(cl:CL)(a b:Kt)(c:List Value)(h:PH):R:=
 u9 c fun d e f g i j k l m=>F14_9 n cl m e b k l d f i j g a h
def F14_11(n:Nat)(cl:CL)(a b c d:Value)(e:Kt)(f g:Value)(h:PH):R:=
 vb (xFld 3 a) fun i=>
 vb (xLd i h) fun j=>
 vb (xIdxS 3 j b) fun k=>
 vb (xFld 1 k) fun l=>
 vb (xLd l h) fun m=>
 hb (fcall h (F29 n cl c m d (h.fzn))) fun o h=>
 vb (xNil c) fun p=>
 vb (xFld 8 p) fun q=>
 vb (xFld 3 a) fun r=>
 vb (xLd q h) fun s=>
 vb (xLd r h) fun t=>
 vb (xIdxS 3 t b) fun v=>
 vb (xFld 0 v) fun w=>
 vb (xLd w h) fun z=>
 vb (xIdxS 1 s z) fun a1=>
 vb (xLd a1 h) fun b1=>
 vb (xIdxS 1 b1 d) fun c1=>
 vb (xLd c1 h) fun d1=>
 lp n (F14_10 n cl e) [a,f,c,g,b,d,o,d1,d] h
def F14_12(n:Nat)(cl:CL)(a:Value)(b:Kt)(c d e f:Value)(h:PH):R:=
 vb (xAri Int.add a (vN 1)) fun g=>
 b [c,d,e,f,g] h
def F14_13(n:Nat)(cl:CL)(a b c d:Value)(e:Kt)(f g:Value)(i:Kt)(h:PH):R:=
 vb (xCmp (fun x y=>ile y x) a (vN 0)) fun j=>
 bite j (F14_11 n cl b c d a e f g h) (F14_12 n cl c i b f d g h)
def F14_14(n:Nat)(cl:CL)(a b:Kt)(c:List Value)(h:PH):R:=
 u6 c fun d e f g i j=>F14_13 n cl j d i f b e g a h
def F14_15(n:Nat)(cl:CL)(a b:Value)(c:Kt)(d e f:Value)(g:Kt)(h:PH):R:=
 vb (xFld 3 a) fun i=>
 vb (xLd i h) fun j=>
 vb (xLenS j) fun k=>
 vb (xCmp ilt b k) fun l=>
 bite l (lp n (F14_14 n cl c) [a,d,e,f,b,d] h) (g [a,d,e,f] h)
def F14_16(n:Nat)(cl:CL)(a b:Kt)(c:List Value)(h:PH):R:=
 u5 c fun d e f g i=>F14_15 n cl d i b e f g a h
def F14_17(n:Nat)(cl:CL)(a:Value)(b:Kt)(c d e:Value)(h:PH):R:=
 bite a (lp n (F14_16 n cl b) [c,d,e,ff,(vN 0)] h) (some (Value.tuple ⟨[e,(vN 0)]⟩,h))
def F14_18(n:Nat)(cl:CL)(a:Kt)(b:List Value)(h:PH):R:=
 u4 b fun c d e f=>F14_17 n cl f a c d e h
def F14_19(n:Nat)(cl:CL)(a b:Value)(c:Kt)(d e:Value)(h:PH):R:=
 vb (xFld 0 a) fun f=>
 vb (xLd f h) fun g=>
 vb (xCmp ilt b g) fun i=>
 bite i (lp n (F14_3 n cl c) [a,d,e,b,nils,(vN 0)] h) (lp n (F14_18 n cl) [a,d,e,tt] h)
def F14_20(n:Nat)(cl:CL)(a:Kt)(b:List Value)(h:PH):R:=
 u4 b fun c d e f=>F14_19 n cl c f a d e h
def F14_21(n:Nat)(cl:CL)(a b:Value)(h:PH):R:=
 vb (xLenS a) fun c=>
 vb (xLdA 7 b h) fun d=>
 hb (xApp (appInfo Try.prog #[24,24]) nils a h) fun e h=>
 lchk (xLdA 7 b h) d<|
 vb (abuild Try.prog 68 [(0,d),(1,e)]) fun f=>
 hb (xBox f h) fun g h=>
 lp n (F14_20 n cl) [b,c,g,(vN 0)] h
def F14_22(n:Nat)(cl:CL)(a b:Value)(h:PH):R:=
 vb (xLenS a) fun c=>
 vb (xCmp (fun x y=>ilt y x) c (vN 2000)) fun d=>
 bite d (some (Value.tuple ⟨[(Value.pointer none),(vN 3)]⟩,h)) (F14_21 n cl a b h)
def F14(n:Nat)(cl:CL)(a b:Value)(h:PH):R:=
 hb (xBox a h) fun c h=>
 vb (xLdA 7 c h) fun d=>
 vb (pcall (F13 n cl d (h.fzn))) fun e=>
 vb (xExt 0 e) fun f=>
 vb (xExt 1 e) fun g=>
 vb (xCmp ine g (vN 0)) fun i=>
 bite i (some (Value.tuple ⟨[(Value.pointer none),g]⟩,h)) (F14_22 n cl b c h)
theorem S14:OkF Try.prog 14 (A2 (F14 n cl)):=exA2 n ⟨[13],[29],[(9,[2,8,9,10]),(13,[2,8,9,10,11,12]),(18,[2,8,9,13]),(21,[2,8,9,13,14]),(24,[2,8,9,13,14,15]),(29,[2,8,9,13,14,15,16,17,18]),(30,[2,8,9,13,14,15,16,17,18])],[(7,[1,0,2,3,4,5]),(27,[0,1,2,4,6,12,3,5,7,8,9,10,11,13,14,15])],[(7,[0,2])],[],[],[]⟩ (svc_ok (S13 n hcl) (svc_ok (S29 n hcl) hcl)) hmx Try.func14 (by kernel_rfl) fun _ _ _=>by kernel_rfl
def F15(n:Nat)(cl:CL)(a b c d:Value)(h:PH):R:=
 vb (xNil a) fun e=>
 vb (xFld 7 e) fun f=>
 vb (xLd f h) fun g=>
 vb (xLenS g) fun i=>
 vb (xCmp (fun x y=>ile y x) b (vN 0)) fun j=>
 vb (gd (isB true j) (some b)) fun k=>
 vb (gd (isB true j) (some a)) fun l=>
 vb (gd (isB true j) (xNil l)) fun m=>
 vb (gd (isB true j) (xFld 0 m)) fun o=>
 vb (gd (isB true j) (xFld 0 o)) fun p=>
 vb (gd (isB true j) (xLd p h)) fun q=>
 vb (gd (isB true j) (xCmp ilt k q)) fun r=>
 vb (xPick j r ff) fun s=>
 vb (gd (isB true s) (some c)) fun t=>
 vb (gd (isB true s) (xCmp (fun x y=>ile y x) t (vN 0))) fun v=>
 vb (xPick s v ff) fun w=>
 vb (gd (isB true w) (some c)) fun z=>
 vb (gd (isB true w) (some d)) fun a1=>
 vb (gd (isB true w) (xCmp ile z a1)) fun b1=>
 vb (xPick w b1 ff) fun c1=>
 vb (gd (isB true c1) (some d)) fun d1=>
 vb (gd (isB true c1) (some i)) fun e1=>
 vb (gd (isB true c1) (xCmp ile d1 e1)) fun f1=>
 vb (xPick c1 f1 ff) fun g1=>
 vb (gd (isB true g1) (some a)) fun i1=>
 vb (gd (isB true g1) (xNil i1)) fun j1=>
 vb (gd (isB true g1) (xFld 8 j1)) fun k1=>
 vb (gd (isB true g1) (xLd k1 h)) fun l1=>
 vb (gd (isB true g1) (some b)) fun m1=>
 vb (gd (isB true g1) (xIdxS 1 l1 m1)) fun o1=>
 vb (gd (isB true g1) (xLd o1 h)) fun p1=>
 vb (gd (isB true g1) (some c)) fun q1=>
 vb (gd (isB true g1) (xIdxS 1 p1 q1)) fun r1=>
 vb (gd (isB true g1) (xLd r1 h)) fun s1=>
 vb (gd (isB true g1) (some d)) fun t1=>
 vb (gd (isB true g1) (xIdxS 1 s1 t1)) fun v1=>
 vb (gd (isB true g1) (xLd v1 h)) fun w1=>
 vb (xPick g1 w1 ff) fun z1=>
 some (z1,h)
theorem S15:OkF Try.prog 15 (A4 (F15 n cl)):=exA4 n ⟨[],[],[],[],[],[],[],[]⟩ hcl hmx Try.func15 (by kernel_rfl) fun _ _ _ _ _=>by kernel_rfl
def F5_0(n:Nat)(cl:CL)(a:Value)(b:Kt)(c d e:Value)(h:PH):R:=
 vb (xAri Int.add a (vN 1)) fun f=>
 b [c,d,e,f] h
def F5_1(n:Nat)(cl:CL)(a b c d:Value)(e:Kt)(h:PH):R:=
 vb (acut Try.prog 24 a none (some b) none) fun f=>
 vb (xLdA 7 c h) fun g=>
 hb (fcall h (F11 n cl g f (h.fzn))) fun i h=>
 vb (xLenS i) fun j=>
 vb (xCmp (fun x y=>ilt y x) j (vN 0)) fun k=>
 vb (gd (isB true k) (some i)) fun l=>
 vb (gd (isB true k) (some i)) fun m=>
 vb (gd (isB true k) (xFld 1 c)) fun o=>
 vb (gd (isB true k) (xLenS m)) fun p=>
 vb (gd (isB true k) (xAri Int.sub p (vN 1))) fun q=>
 vb (gd (isB true k) (xIdxS 1 l q)) fun r=>
 vb (gd (isB true k) (xLd r h)) fun s=>
 vb (gd (isB true k) (xLd o h)) fun t=>
 vb (gd (isB true k) (xCmp ieq s t)) fun v=>
 vb (xPick k v ff) fun w=>
 vb (xFld 2 c) fun z=>
 vb (xLd z h) fun a1=>
 vb (pcall (F15 n cl d a1 (vN 0) b (h.fzn))) fun b1=>
 vb (abin Try.prog .neq 4 (Operand.tmp 69) (Operand.tmp 74) w b1) fun c1=>
 bite c1 (some (ff,h)) (F5_0 n cl b e a c d h)
def F5_2(n:Nat)(cl:CL)(a b c d:Value)(e:Kt)(h:PH):R:=
 vb (xLenS a) fun f=>
 vb (xCmp ile b f) fun g=>
 bite g (F5_1 n cl a b c d e h) (some (tt,h))
def F5_3(n:Nat)(cl:CL)(a:Kt)(b:List Value)(h:PH):R:=
 u4 b fun c d e f=>F5_2 n cl c f d e a h
def F5_4(n:Nat)(cl:CL)(a b:Value)(h:PH):R:=
 vb (xLdA 7 a h) fun c=>
 hb (F14 n cl c b h) fun d h=>
 vb (xExt 0 d) fun e=>
 vb (xExt 1 d) fun f=>
 vb (xCmp ine f (vN 0)) fun g=>
 bite g (some (tt,h)) (lp n (F5_3 n cl) [b,a,e,(vN 0)] h)
def F5(n:Nat)(cl:CL)(a b:Value)(h:PH):R:=
 hb (xBox a h) fun c h=>
 vb (pcall (cl 6 [] (h.fzn))) fun d=>
 vb (xLdA 7 c h) fun e=>
 vb (pcall (F13 n cl e (h.fzn))) fun f=>
 vb (xExt 0 f) fun g=>
 vb (xExt 1 f) fun i=>
 vb (xNot d) fun j=>
 vb (gd (isB false j) (xLdA 7 c h)) fun k=>
 vb (gd (isB false j) (pcall (F7 n cl k (h.fzn)))) fun l=>
 vb (gd (isB false j) (xNot l)) fun m=>
 vb (xPick j tt m) fun o=>
 vb (gd (isB false o) (some i)) fun p=>
 vb (gd (isB false o) (xCmp ine p (vN 0))) fun q=>
 vb (xPick o tt q) fun r=>
 vb (gd (isB false r) (some b)) fun s=>
 vb (gd (isB false r) (xLenS s)) fun t=>
 vb (gd (isB false r) (xCmp (fun x y=>ilt y x) t (vN 12))) fun v=>
 vb (xPick r tt v) fun w=>
 bite w (some (d,h)) (F5_4 n cl c b h)
theorem S5:OkF Try.prog 5 (A2 (F5 n cl)):=exA2 n ⟨[6,7,13,15],[11],[(9,[1,2,8,10])],[(11,[1,2,3,0,4,5]),(12,[0,1,2,3,4,5,10,6,7,8,9,11,12,13,14])],[],[],[],[]⟩ (svc_ok (S13 n hcl) (svc_ok (S7 n hcl) (svc_ok (S14 n hcl) (svc_ok (S11 n hcl) (svc_ok (S15 n hcl) hcl))))) hmx Try.func5 (by kernel_rfl) fun _ _ _=>by kernel_rfl
end
def CLs(n:Nat)(ih:CL):CL:=(svc 88 (A1 (F88 n ih)) (svc 83 (A2 (F83 n ih)) (svc 70 (A2 (F70 n ih)) (svc 39 (A4 (F39 n ih)) CNo))))
theorem CLs_ok{n:Nat}{ih:CL}(hcl:OkCL Try.prog ih):OkCL Try.prog (CLs n ih):=(svc_ok (S88 n hcl) (svc_ok (S83 n hcl) (svc_ok (S70 n hcl) (svc_ok (S39 n hcl) (CNo_ok _)))))
def CLV(n d:Nat):CL:=Nat.rec (motive:=fun _=>CL) CNo (fun _ ih=>CLs n ih) d
theorem CLV_ok(n:Nat): ∀d,OkCL Try.prog (CLV n d)
 |0=>CNo_ok _
 | .succ d=>CLs_ok (CLV_ok n d)
end
end Go.Am
