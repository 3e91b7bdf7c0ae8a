import Derived.Test.YtdobnnifjfbibaaDoorZY
import Derived.Test.YtdobnnifjfbibaaDoorProg
set_option linter.unusedVariables false
set_option maxRecDepth 100000
namespace Go.Am
open Go Go.RowKit Go.Proofs
noncomputable section
theorem hmx:Tryd.prog.follows .mixedOrders=true:=by kernel_rfl
section
variable (n:Nat){cl:CL}(hcl:OkCL Tryd.prog cl)
include hcl
def F44(n:Nat)(cl:CL)(a b:Value)(h:PH):R:=
 hb (xBox a h) fun c h=>
 vb (xCmp (fun x y=>ile y x) b (vN 0)) fun d=>
 vb (gd (isB true d) (some b)) fun e=>
 vb (gd (isB true d) (xFld 0 c)) fun f=>
 vb (gd (isB true d) (xLd f h)) fun g=>
 vb (gd (isB true d) (xCmp ilt e g)) fun i=>
 vb (xPick d i ff) fun j=>
 some (j,h)
theorem S44:OkF Tryd.prog 44 (A2 (F44 n cl)):=exA2 n ⟨[],[],[],[],[],[],[],[]⟩ hcl hmx Tryd.func44 (by kernel_rfl) fun _ _ _=>by kernel_rfl
def F68_0(n:Nat)(cl:CL)(a:Value)(b:Kt)(c d e:Value)(h:PH):R:=
 vb (xAri Int.add a (vN 1)) fun f=>
 b [c,d,e,f] h
def F68_1(n:Nat)(cl:CL)(a b c:Value)(d:Kt)(e:Value)(h:PH):R:=
 vb (xIdxS 1 a b) fun f=>
 vb (xLd f h) fun g=>
 hb (xCall cl c [g] h) fun i h=>
 bite i (some (b,h)) (F68_0 n cl b d a c e h)
def F68_2(n:Nat)(cl:CL)(a b c d:Value)(e:Kt)(h:PH):R:=
 vb (xCmp ilt a b) fun f=>
 bite f (F68_1 n cl c a d e b h) (some ((vM 0),h))
def F68_3(n:Nat)(cl:CL)(a:Kt)(b:List Value)(h:PH):R:=
 u4 b fun c d e f=>F68_2 n cl f e c d a h
def F68(n:Nat)(cl:CL)(a b:Value)(h:PH):R:=
 vb (xLenS a) fun c=>
 lp n (F68_3 n cl) [a,b,c,(vN 0)] h
theorem S68:OkF Tryd.prog 68 (A2 (F68 n cl)):=exA2 n ⟨[],[],[(2,[0,1,7,8])],[],[],[],[],[]⟩ hcl hmx Tryd.func68 (by kernel_rfl) fun _ _ _=>by kernel_rfl
def F60(n:Nat)(cl:CL)(a b:Value)(h:PH):R:=
 vb (pcall (F68 n cl a b (h.fzn))) fun c=>
 vb (xCmp (fun x y=>ile y x) c (vN 0)) fun d=>
 some (d,h)
theorem S60:OkF Tryd.prog 60 (A2 (F60 n cl)):=exA2 n ⟨[68],[],[],[],[],[],[],[]⟩ (svc_ok (S68 n hcl) hcl) hmx Tryd.func60 (by kernel_rfl) fun _ _ _=>by kernel_rfl
def F67(n:Nat)(cl:CL)(a:Value)(h:PH):R:=
 vb (xCmp ilt a (vN 0)) fun b=>
 vb (gd (isB false b) (some a)) fun c=>
 vb (gd (isB false b) (xCmp (fun x y=>ilt y x) c (vN 100))) fun d=>
 vb (xPick b tt d) fun e=>
 some (e,h)
theorem S67:OkF Tryd.prog 67 (A1 (F67 n cl)):=exA1 n ⟨[],[],[],[],[],[],[],[]⟩ hcl hmx Tryd.func67 (by kernel_rfl) fun _ _=>by kernel_rfl
def F59(n:Nat)(cl:CL)(a b:Value)(h:PH):R:=
 vb (xLenS a) fun c=>
 vb (xCmp ile c b) fun d=>
 vb (gd (isB true d) (some a)) fun e=>
 vb (gd (isB true d) (pcall (F60 n cl e (fnV 67 [] []) (h.fzn)))) fun f=>
 vb (gd (isB true d) (xNot f)) fun g=>
 vb (xPick d g ff) fun i=>
 some (i,h)
theorem S59:OkF Tryd.prog 59 (A2 (F59 n cl)):=exA2 n ⟨[60],[],[],[],[],[],[],[]⟩ (svc_ok (S60 n hcl) hcl) hmx Tryd.func59 (by kernel_rfl) fun _ _ _=>by kernel_rfl
def F46_0(n:Nat)(cl:CL)(a:Value)(h:PH):R:=
 vb (xFld 5 a) fun b=>
 vb (xLd b h) fun c=>
 vb (xFld 3 a) fun d=>
 vb (xLd d h) fun e=>
 vb (xLenS e) fun f=>
 vb (pcall (F59 n cl c f (h.fzn))) fun g=>
 vb (xNot g) fun i=>
 vb (gd (isB false i) (xFld 6 a)) fun j=>
 vb (gd (isB false i) (xLd j h)) fun k=>
 vb (gd (isB false i) (xFld 1 a)) fun l=>
 vb (gd (isB false i) (xLd l h)) fun m=>
 vb (gd (isB false i) (pcall (F59 n cl k m (h.fzn)))) fun o=>
 vb (gd (isB false i) (xNot o)) fun p=>
 vb (xPick i tt p) fun q=>
 bite q (some ((vN 1),h)) (some ((vN 0),h))
def F46_1(n:Nat)(cl:CL)(a:Value)(h:PH):R:=
 vb (xLdA 7 a h) fun b=>
 vb (xFld 2 a) fun c=>
 vb (xLd c h) fun d=>
 vb (pcall (F44 n cl b d (h.fzn))) fun e=>
 vb (xNot e) fun f=>
 bite f (some ((vN 6),h)) (F46_0 n cl a h)
def F46(n:Nat)(cl:CL)(a:Value)(h:PH):R:=
 hb (xBox a h) fun b h=>
 vb (xFld 0 b) fun c=>
 vb (xLd c h) fun d=>
 vb (xCmp ilt d (vN 1)) fun e=>
 vb (gd (isB false e) (xFld 0 b)) fun f=>
 vb (gd (isB false e) (xLd f h)) fun g=>
 vb (gd (isB false e) (xCmp (fun x y=>ilt y x) g (vN 40))) fun i=>
 vb (xPick e tt i) fun j=>
 vb (gd (isB false j) (xFld 1 b)) fun k=>
 vb (gd (isB false j) (xLd k h)) fun l=>
 vb (gd (isB false j) (xCmp ilt l (vN 0))) fun m=>
 vb (xPick j tt m) fun o=>
 vb (gd (isB false o) (xFld 1 b)) fun p=>
 vb (gd (isB false o) (xLd p h)) fun q=>
 vb (gd (isB false o) (xCmp (fun x y=>ilt y x) q (vN 40))) fun r=>
 vb (xPick o tt r) fun s=>
 vb (gd (isB false s) (xFld 3 b)) fun t=>
 vb (gd (isB false s) (xLd t h)) fun v=>
 vb (gd (isB false s) (xLenS v)) fun w=>
 vb (gd (isB false s) (xCmp (fun x y=>ilt y x) w (vN 60))) fun z=>
 vb (xPick s tt z) fun a1=>
 vb (gd (isB false a1) (xFld 4 b)) fun b1=>
 vb (gd (isB false a1) (xLd b1 h)) fun c1=>
 vb (gd (isB false a1) (xLenS c1)) fun d1=>
 vb (gd (isB false a1) (xCmp (fun x y=>ilt y x) d1 (vN 200))) fun e1=>
 vb (xPick a1 tt e1) fun f1=>
 bite f1 (some ((vN 3),h)) (F46_1 n cl b h)
theorem S46:OkF Tryd.prog 46 (A1 (F46 n cl)):=exA1 n ⟨[44,59],[],[],[],[],[],[],[]⟩ (svc_ok (S44 n hcl) (svc_ok (S59 n hcl) hcl)) hmx Tryd.func46 (by kernel_rfl) fun _ _=>by kernel_rfl
def F69(n:Nat)(cl:CL)(a b:Value)(h:PH):R:=
 hb (xBox a h) fun c h=>
 vb (xAri Int.sub (vM 0) b) fun d=>
 vb (xCmp ilt b (vN 0)) fun e=>
 vb (gd (isB true e) (some d)) fun f=>
 vb (gd (isB true e) (xFld 1 c)) fun g=>
 vb (gd (isB true e) (xLd g h)) fun i=>
 vb (gd (isB true e) (xCmp ilt f i)) fun j=>
 vb (xPick e j ff) fun k=>
 some (Value.tuple ⟨[d,k]⟩,h)
theorem S69:OkF Tryd.prog 69 (A2 (F69 n cl)):=exA2 n ⟨[],[],[],[(2,[0,1,2,3,4,5,9,6,7,8,10])],[],[],[],[]⟩ hcl hmx Tryd.func69 (by kernel_rfl) fun _ _ _=>by kernel_rfl
def F62(n:Nat)(cl:CL)(a b:Value)(h:PH):R:=
 hb (xBox a h) fun c h=>
 vb (xLdA 7 c h) fun d=>
 vb (pcall (F69 n cl d b (h.fzn))) fun e=>
 vb (xExt 0 e) fun f=>
 vb (xExt 1 e) fun g=>
 vb (gd (isB false g) (xLdA 7 c h)) fun i=>
 vb (gd (isB false g) (some b)) fun j=>
 vb (gd (isB false g) (pcall (F44 n cl i j (h.fzn)))) fun k=>
 vb (xPick g tt k) fun l=>
 some (l,h)
theorem S62:OkF Tryd.prog 62 (A2 (F62 n cl)):=exA2 n ⟨[44,69],[],[],[],[],[],[],[]⟩ (svc_ok (S69 n hcl) (svc_ok (S44 n hcl) hcl)) hmx Tryd.func62 (by kernel_rfl) fun _ _ _=>by kernel_rfl
def F61(n:Nat)(cl:CL)(a b:Value)(h:PH):R:=
 vb (xLdA 7 b h) fun c=>
 vb (pcall (F62 n cl c a (h.fzn))) fun d=>
 vb (xNot d) fun e=>
 some (e,h)
theorem S61:OkF Tryd.prog 61 (A2 (F61 n cl)):=exA2 n ⟨[62],[],[],[],[],[],[],[]⟩ (svc_ok (S62 n hcl) hcl) hmx Tryd.func61 (by kernel_rfl) fun _ _ _=>by kernel_rfl
def F47_0(n:Nat)(cl:CL)(a:Value)(h:PH):R:=
 vb (xFld 2 a) fun b=>
 vb (xLd b h) fun c=>
 vb (xCmp ilt c (vM 999)) fun d=>
 vb (gd (isB false d) (xFld 2 a)) fun e=>
 vb (gd (isB false d) (xLd e h)) fun f=>
 vb (gd (isB false d) (xCmp (fun x y=>ilt y x) f (vN 1000))) fun g=>
 vb (xPick d tt g) fun i=>
 bite i (some ((vN 1),h)) (some ((vN 0),h))
def F47_1(n:Nat)(cl:CL)(a:Value)(h:PH):R:=
 vb (xFld 1 a) fun b=>
 vb (xLd b h) fun c=>
 vb (xLenS c) fun d=>
 vb (xCmp (fun x y=>ilt y x) d (vN 8)) fun e=>
 bite e (some ((vN 3),h)) (F47_0 n cl a h)
def F47(n:Nat)(cl:CL)(a b:Value)(h:PH):R:=
 hb (xBox a h) fun c h=>
 hb (xBox b h) fun d h=>
 vb (xLdA 7 c h) fun e=>
 vb (xFld 0 d) fun f=>
 vb (xLd f h) fun g=>
 vb (pcall (F44 n cl e g (h.fzn))) fun i=>
 vb (xNot i) fun j=>
 vb (gd (isB false j) (xFld 1 d)) fun k=>
 vb (gd (isB false j) (xLd k h)) fun l=>
 vb (gd (isB false j) (some (Value.func (Fn.func 61) ⟨[]⟩ ⟨[c]⟩))) fun m=>
 vb (gd (isB false j) (pcall (F60 n cl l m (h.fzn)))) fun o=>
 vb (xPick j tt o) fun p=>
 bite p (some ((vN 6),h)) (F47_1 n cl d h)
theorem S47:OkF Tryd.prog 47 (A2 (F47 n cl)):=exA2 n ⟨[44,60],[],[],[],[],[],[],[]⟩ (svc_ok (S44 n hcl) (svc_ok (S60 n hcl) hcl)) hmx Tryd.func47 (by kernel_rfl) fun _ _ _=>by kernel_rfl
def F50_0(n:Nat)(cl:CL)(a b:Value)(h:PH):R:=
 vb (xFld 3 a) fun c=>
 vb (xLd c h) fun d=>
 vb (xIdxA 3 1 b (vN 0)) fun e=>
 vb (xLd e h) fun f=>
 vb (xIdxS 3 d f) fun g=>
 vb (xFld 1 g) fun i=>
 vb (xLd i h) fun j=>
 vb (xIdxA 3 1 b (vN 1)) fun k=>
 vb (xLd k h) fun l=>
 vb (xCmp (fun x y=>ile y x) l (vN 0)) fun m=>
 vb (gd (isB true m) (xIdxA 3 1 b (vN 1))) fun o=>
 vb (gd (isB true m) (some j)) fun p=>
 vb (gd (isB true m) (xLd o h)) fun q=>
 vb (gd (isB true m) (xLenS p)) fun r=>
 vb (gd (isB true m) (xCmp ilt q r)) fun s=>
 vb (xPick m s ff) fun t=>
 vb (gd (isB true t) (some j)) fun v=>
 vb (gd (isB true t) (xIdxA 3 1 b (vN 1))) fun w=>
 vb (gd (isB true t) (xFld 3 a)) fun z=>
 vb (gd (isB true t) (xIdxA 3 1 b (vN 2))) fun a1=>
 vb (gd (isB true t) (xLd w h)) fun b1=>
 vb (gd (isB true t) (xIdxS 1 v b1)) fun c1=>
 vb (gd (isB true t) (xLd c1 h)) fun d1=>
 vb (gd (isB true t) (xLd z h)) fun e1=>
 vb (gd (isB true t) (xLd a1 h)) fun f1=>
 vb (gd (isB true t) (xIdxS 3 e1 f1)) fun g1=>
 vb (gd (isB true t) (xFld 0 g1)) fun i1=>
 vb (gd (isB true t) (xLd i1 h)) fun j1=>
 vb (gd (isB true t) (xCmp ieq d1 j1)) fun k1=>
 vb (xPick t k1 ff) fun l1=>
 some (l1,h)
def F50(n:Nat)(cl:CL)(a b:Value)(h:PH):R:=
 hb (xBox a h) fun c h=>
 hb (xBox b h) fun d h=>
 vb (xIdxA 3 1 d (vN 0)) fun e=>
 vb (xLd e h) fun f=>
 vb (xCmp ilt f (vN 0)) fun g=>
 vb (gd (isB false g) (xIdxA 3 1 d (vN 0))) fun i=>
 vb (gd (isB false g) (xLd i h)) fun j=>
 vb (gd (isB false g) (xFld 3 c)) fun k=>
 vb (gd (isB false g) (xLd k h)) fun l=>
 vb (gd (isB false g) (xLenS l)) fun m=>
 vb (gd (isB false g) (xCmp (fun x y=>ile y x) j m)) fun o=>
 vb (xPick g tt o) fun p=>
 vb (gd (isB false p) (xIdxA 3 1 d (vN 2))) fun q=>
 vb (gd (isB false p) (xLd q h)) fun r=>
 vb (gd (isB false p) (xCmp ilt r (vN 0))) fun s=>
 vb (xPick p tt s) fun t=>
 vb (gd (isB false t) (xIdxA 3 1 d (vN 2))) fun v=>
 vb (gd (isB false t) (xLd v h)) fun w=>
 vb (gd (isB false t) (xFld 3 c)) fun z=>
 vb (gd (isB false t) (xLd z h)) fun a1=>
 vb (gd (isB false t) (xLenS a1)) fun b1=>
 vb (gd (isB false t) (xCmp (fun x y=>ile y x) w b1)) fun c1=>
 vb (xPick t tt c1) fun d1=>
 bite d1 (some (ff,h)) (F50_0 n cl c d h)
theorem S50:OkF Tryd.prog 50 (A2 (F50 n cl)):=exA2 n ⟨[],[],[],[(4,[0,1,2,3,4,6,5,7,8,9,10,11,12,16,18,13,14,15,17,19,20,21,22,23,24,25])],[],[],[],[]⟩ hcl hmx Tryd.func50 (by kernel_rfl) fun _ _ _=>by kernel_rfl
def F49(n:Nat)(cl:CL)(a b:Value)(h:PH):R:=
 hb (xBox a h) fun c h=>
 vb (xLdA 7 b h) fun d=>
 vb (xLdA 3 c h) fun e=>
 vb (pcall (F50 n cl d e (h.fzn))) fun f=>
 vb (xNot f) fun g=>
 some (g,h)
theorem S49:OkF Tryd.prog 49 (A2 (F49 n cl)):=exA2 n ⟨[50],[],[],[],[],[],[],[]⟩ (svc_ok (S50 n hcl) hcl) hmx Tryd.func49 (by kernel_rfl) fun _ _ _=>by kernel_rfl
def F63_0(n:Nat)(cl:CL)(a:Value)(b:Kt)(c d e:Value)(h:PH):R:=
 vb (xAri Int.add a (vN 1)) fun f=>
 b [c,d,e,f] h
def F63_1(n:Nat)(cl:CL)(a b c:Value)(d:Kt)(e:Value)(h:PH):R:=
 vb (xIdxS 3 a b) fun f=>
 vb (xLdA 3 f h) fun g=>
 hb (xCall cl c [g] h) fun i h=>
 bite i (some (b,h)) (F63_0 n cl b d a c e h)
def F63_2(n:Nat)(cl:CL)(a b c d:Value)(e:Kt)(h:PH):R:=
 vb (xCmp ilt a b) fun f=>
 bite f (F63_1 n cl c a d e b h) (some ((vM 0),h))
def F63_3(n:Nat)(cl:CL)(a:Kt)(b:List Value)(h:PH):R:=
 u4 b fun c d e f=>F63_2 n cl f e c d a h
def F63(n:Nat)(cl:CL)(a b:Value)(h:PH):R:=
 vb (xLenS a) fun c=>
 lp n (F63_3 n cl) [a,b,c,(vN 0)] h
theorem S63:OkF Tryd.prog 63 (A2 (F63 n cl)):=exA2 n ⟨[],[],[(2,[0,1,7,8])],[],[],[],[],[]⟩ hcl hmx Tryd.func63 (by kernel_rfl) fun _ _ _=>by kernel_rfl
def F48(n:Nat)(cl:CL)(a b:Value)(h:PH):R:=
 vb (pcall (F63 n cl a b (h.fzn))) fun c=>
 vb (xCmp (fun x y=>ile y x) c (vN 0)) fun d=>
 some (d,h)
theorem S48:OkF Tryd.prog 48 (A2 (F48 n cl)):=exA2 n ⟨[63],[],[],[],[],[],[],[]⟩ (svc_ok (S63 n hcl) hcl) hmx Tryd.func48 (by kernel_rfl) fun _ _ _=>by kernel_rfl
def F36_0(n:Nat)(cl:CL)(a:Value)(b:Kt)(c d e:Value)(h:PH):R:=
 vb (xAri Int.add a (vN 1)) fun f=>
 b [c,d,e,f] h
def F36_1(n:Nat)(cl:CL)(a b c:Value)(d:Kt)(e:Value)(h:PH):R:=
 vb (xIdxS 3 a b) fun f=>
 vb (xLdA 3 f h) fun g=>
 hb (xAlloc (zcells Tryd.prog 37) h) fun i h=>
 hb (xStA 3 i g h) fun _ h=>
 vb (xLdA 7 c h) fun j=>
 vb (xLdA 3 i h) fun k=>
 vb (pcall (F47 n cl j k (h.fzn))) fun l=>
 vb (xCmp ine l (vN 0)) fun m=>
 bite m (some (Value.tuple ⟨[b,l]⟩,h)) (F36_0 n cl b d c a e h)
def F36_2(n:Nat)(cl:CL)(a:Value)(h:PH):R:=
 vb (xFld 4 a) fun b=>
 vb (xLd b h) fun c=>
 vb (some (Value.func (Fn.func 49) ⟨[]⟩ ⟨[a]⟩)) fun d=>
 vb (pcall (F48 n cl c d (h.fzn))) fun e=>
 bite e (some (Value.tuple ⟨[(vM 0),(vN 6)]⟩,h)) (some (Value.tuple ⟨[(vM 0),(vN 0)]⟩,h))
def F36_3(n:Nat)(cl:CL)(a b c d:Value)(e:Kt)(h:PH):R:=
 vb (xCmp ilt a b) fun f=>
 bite f (F36_1 n cl c a d e b h) (F36_2 n cl d h)
def F36_4(n:Nat)(cl:CL)(a:Kt)(b:List Value)(h:PH):R:=
 u4 b fun c d e f=>F36_3 n cl f e d c a h
def F36_5(n:Nat)(cl:CL)(a:Value)(h:PH):R:=
 vb (xFld 3 a) fun b=>
 vb (xLd b h) fun c=>
 vb (xLenS c) fun d=>
 lp n (F36_4 n cl) [a,c,d,(vN 0)] h
def F36(n:Nat)(cl:CL)(a:Value)(h:PH):R:=
 hb (xBox a h) fun b h=>
 vb (xLdA 7 b h) fun c=>
 vb (pcall (F46 n cl c (h.fzn))) fun d=>
 vb (xCmp ine d (vN 0)) fun e=>
 bite e (some (Value.tuple ⟨[(vM 0),d]⟩,h)) (F36_5 n cl b h)
theorem S36:OkF Tryd.prog 36 (A1 (F36 n cl)):=exA1 n ⟨[46,47,48],[],[(5,[1,14,15,16])],[],[],[],[],[]⟩ (svc_ok (S46 n hcl) (svc_ok (S47 n hcl) (svc_ok (S48 n hcl) hcl))) hmx Tryd.func36 (by kernel_rfl) fun _ _=>by kernel_rfl
def F51(n:Nat)(cl:CL)(a:Value)(h:PH):R:=
 hb (xBox a h) fun b h=>
 vb (xLdA 7 b h) fun c=>
 vb (pcall (F36 n cl c (h.fzn))) fun d=>
 vb (xExt 0 d) fun e=>
 vb (xExt 1 d) fun f=>
 vb (xCmp ieq f (vN 0)) fun g=>
 some (g,h)
theorem S51:OkF Tryd.prog 51 (A1 (F51 n cl)):=exA1 n ⟨[36],[],[],[],[],[],[],[]⟩ (svc_ok (S36 n hcl) hcl) hmx Tryd.func51 (by kernel_rfl) fun _ _=>by kernel_rfl
def F37_0(n:Nat)(cl:CL)(a:Value)(b:Kt)(c d e f g:Value)(h:PH):R:=
 vb (xAri Int.add a (vN 1)) fun i=>
 b [c,d,e,f,g,i] h
def F37_1(n:Nat)(cl:CL)(a:Value)(b:Kt)(c d e f g i j k:Value)(h:PH):R:=
 vb (xAri Int.add a (vN 1)) fun l=>
 b [c,d,e,f,g,i,j,k,l] h
def F37_2(n:Nat)(cl:CL)(a b c:Value)(d:Kt)(e f g i j k l:Value)(h:PH):R:=
 vb (xIdxS 1 a b) fun m=>
 hb (xSt1 m tt h) fun _ h=>
 hb (xBS 1 (bsRow Tryd.prog 24 1 [(0,b)]) h) fun o h=>
 hb (xApp (appInfo Tryd.prog #[24,24]) c o h) fun p h=>
 d [e,a,p,f,g,i,j,k,l] h
def F37_3(n:Nat)(cl:CL)(a:Kt)(b:List Value)(h:PH):R:=
 u9 b fun c d e f g i j k l=>F37_1 n cl l a c d e f g i j k h
def F37_4(n:Nat)(cl:CL)(a b c d e f g i j:Value)(h:PH)(k:Kt):R:=
 vb (xIdxS 1 a b) fun l=>
 vb (xLd l h) fun m=>
 vb (xLdA 7 c h) fun o=>
 vb (pcall (F44 n cl o m (h.fzn))) fun p=>
 vb (gd (isB true p) (some d)) fun q=>
 vb (gd (isB true p) (some m)) fun r=>
 vb (gd (isB true p) (xIdxS 1 q r)) fun s=>
 vb (gd (isB true p) (xLd s h)) fun t=>
 vb (gd (isB true p) (xNot t)) fun v=>
 vb (xPick p v ff) fun w=>
 bite w (F37_2 n cl d m e k c f g i a j b h) (k [c,d,e,f,g,i,a,j,b] h)
def F37_5(n:Nat)(cl:CL)(a b:Value)(c:Kt)(d e f g i j k:Value)(l:Kt)(h:PH):R:=
 vb (xCmp ilt a b) fun m=>
 bite m (jn (F37_3 n cl c) (F37_4 n cl d a e f g i j k b h)) (l [e,f,g,i,j,k] h)
def F37_6(n:Nat)(cl:CL)(a b:Kt)(c:List Value)(h:PH):R:=
 u9 c fun d e f g i j k l m=>F37_5 n cl m l b k d e f g i j a h
def F37_7(n:Nat)(cl:CL)(a:Value)(b:Kt)(c d e f g i:Value)(h:PH):R:=
 vb (xFld 1 a) fun j=>
 vb (xLd j h) fun k=>
 vb (xLenS k) fun l=>
 lp n (F37_6 n cl b) [c,d,e,f,g,i,k,l,(vN 0)] h
def F37_8(n:Nat)(cl:CL)(a:Kt)(b:List Value)(h:PH):R:=
 u6 b fun c d e f g i=>F37_0 n cl i a c d e f g h
def F37_9(n:Nat)(cl:CL)(a b c d e f:Value)(h:PH)(g:Kt):R:=
 vb (xIdxS 3 a b) fun i=>
 vb (xLdA 3 i h) fun j=>
 hb (xAlloc (zcells Tryd.prog 37) h) fun k h=>
 hb (xStA 3 k j h) fun _ h=>
 vb (xFld 0 k) fun l=>
 vb (xIdxS 1 c (vN 0)) fun m=>
 vb (xLd l h) fun o=>
 vb (xLd m h) fun p=>
 vb (xCmp ine o p) fun q=>
 bite q (g [d,e,c,a,f,b] h) (F37_7 n cl k g d e c a f b h)
def F37_10(n:Nat)(cl:CL)(a:Value)(b:Kt)(c d:Value)(h:PH):R:=
 vb (acut Tryd.prog 24 a (some (vN 1)) none none) fun e=>
 b [c,d,e] h
def F37_11(n:Nat)(cl:CL)(a b:Value)(c:Kt)(d e f g:Value)(i:Kt)(h:PH):R:=
 vb (xCmp ilt a b) fun j=>
 bite j (jn (F37_8 n cl c) (F37_9 n cl d a e f g b h)) (F37_10 n cl e i f g h)
def F37_12(n:Nat)(cl:CL)(a b:Kt)(c:List Value)(h:PH):R:=
 u6 c fun d e f g i j=>F37_11 n cl j i b g f d e a h
def F37_13(n:Nat)(cl:CL)(a:Value)(b:Kt)(c d:Value)(h:PH):R:=
 vb (xFld 3 a) fun e=>
 vb (xLd e h) fun f=>
 vb (xLenS f) fun g=>
 lp n (F37_12 n cl b) [a,c,d,f,g,(vN 0)] h
def F37_14(n:Nat)(cl:CL)(a b:Value)(c:Kt)(d:Value)(h:PH):R:=
 vb (xLenS a) fun e=>
 vb (xCmp (fun x y=>ilt y x) e (vN 0)) fun f=>
 bite f (F37_13 n cl b c d a h) (some (d,h))
def F37_15(n:Nat)(cl:CL)(a:Kt)(b:List Value)(h:PH):R:=
 u3 b fun c d e=>F37_14 n cl e c a d h
def F37_16(n:Nat)(cl:CL)(a:Value)(h:PH):R:=
 vb (xFld 0 a) fun b=>
 vb (xLd b h) fun c=>
 hb (xMk (zinfo Tryd.prog 47) c c h) fun d h=>
 vb (xFld 2 a) fun e=>
 vb (xLd e h) fun f=>
 vb (xIdxS 1 d f) fun g=>
 hb (xSt1 g tt h) fun _ h=>
 vb (xFld 2 a) fun i=>
 vb (xLd i h) fun j=>
 hb (xBS 1 (bsRow Tryd.prog 24 1 [(0,j)]) h) fun k h=>
 lp n (F37_15 n cl) [a,d,k] h
def F37(n:Nat)(cl:CL)(a:Value)(h:PH):R:=
 hb (xBox a h) fun b h=>
 vb (xLdA 7 b h) fun c=>
 vb (pcall (F51 n cl c (h.fzn))) fun d=>
 vb (xNot d) fun e=>
 bite e (some (nils,h)) (F37_16 n cl b h)
theorem S37:OkF Tryd.prog 37 (A1 (F37 n cl)):=exA1 n ⟨[44,51],[],[(6,[1,3,4]),(9,[1,3,4,28,29,30]),(13,[1,3,4,28,29,30,41,42,43]),(18,[1,3,4,28,29,30,41,42,43]),(19,[1,3,4,28,29,30])],[(11,[0,2,3,1,4,5])],[],[],[],[]⟩ (svc_ok (S51 n hcl) (svc_ok (S44 n hcl) hcl)) hmx Tryd.func37 (by kernel_rfl) fun _ _=>by kernel_rfl
def F64_0(n:Nat)(cl:CL)(a:Value)(b:Kt)(c d e f g:Value)(h:PH):R:=
 vb (xAri Int.add a (vN 1)) fun i=>
 b [c,d,e,f,g,i] h
def F64_1(n:Nat)(cl:CL)(a:Value)(b:Kt)(c d e f g:Value)(h:PH):R:=
 vb (xAri Int.add a (vN 1)) fun i=>
 b [c,d,i,e,f,g] h
def F64_2(n:Nat)(cl:CL)(a b c:Value)(d:Kt)(e f g i:Value)(h:PH):R:=
 vb (xIdxS 1 a b) fun j=>
 vb (xLd j h) fun k=>
 vb (xAri Int.add c k) fun l=>
 d [a,e,l,f,g,i] h
def F64_3(n:Nat)(cl:CL)(a b c:Value)(d:Kt)(e f g i:Value)(h:PH):R:=
 vb (xIdxS 1 a b) fun j=>
 vb (xLd j h) fun k=>
 vb (xCmp ieq k (vM 0)) fun l=>
 bite l (some ((vM 0),h)) (F64_2 n cl a b c d e f g i h)
def F64_4(n:Nat)(cl:CL)(a:Kt)(b:List Value)(h:PH):R:=
 u6 b fun c d e f g i=>F64_0 n cl i a c d e f g h
def F64_5(n:Nat)(cl:CL)(a b c d e f:Value)(h:PH)(g:Kt):R:=
 vb (xIdxS 1 a b) fun i=>
 vb (xLd i h) fun j=>
 vb (xLdA 7 c h) fun k=>
 vb (pcall (F44 n cl k j (h.fzn))) fun l=>
 vb (xNot l) fun m=>
 bite m (F64_1 n cl d g e c a f b h) (F64_3 n cl e j d g c a f b h)
def F64_6(n:Nat)(cl:CL)(a:Value)(h:PH):R:=
 vb ((if plainV.plainVs [a,(vN 1000000000)]then prun Tryd.prog (Builtin.min_ #[3,3] 3 ⟨[a,(vN 1000000000)]⟩)else none)) fun b=>
 some (b,h)
def F64_7(n:Nat)(cl:CL)(a b:Value)(c:Kt)(d e f g:Value)(h:PH):R:=
 vb (xCmp ilt a b) fun i=>
 bite i (jn (F64_4 n cl c) (F64_5 n cl d a e f g b h)) (F64_6 n cl f h)
def F64_8(n:Nat)(cl:CL)(a:Kt)(b:List Value)(h:PH):R:=
 u6 b fun c d e f g i=>F64_7 n cl i g a f d e c h
def F64(n:Nat)(cl:CL)(a b c:Value)(h:PH):R:=
 hb (xBox a h) fun d h=>
 vb (xLenS c) fun e=>
 lp n (F64_8 n cl) [b,d,(vN 0),c,e,(vN 0)] h
theorem S64:OkF Tryd.prog 64 (A3 (F64 n cl)):=exA3 n ⟨[44],[],[(3,[1,3,7,10,11,12]),(10,[1,3,7,10,11,12])],[],[],[],[],[]⟩ (svc_ok (S44 n hcl) hcl) hmx Tryd.func64 (by kernel_rfl) fun _ _ _ _=>by kernel_rfl
def F52_0(n:Nat)(cl:CL)(a b:Value)(c:Kt)(d e:Value)(h:PH):R:=
 vb (xIdxS 1 a b) fun f=>
 hb (xSt1 f (vM 0) h) fun _ h=>
 vb (xAri Int.add b (vN 1)) fun g=>
 c [d,a,e,g] h
def F52_1(n:Nat)(cl:CL)(a:Value)(b:Kt)(c d e f g:Value)(h:PH):R:=
 vb (xAri Int.add a (vN 1)) fun i=>
 b [c,d,e,f,g,i] h
def F52_2(n:Nat)(cl:CL)(a b c:Value)(d:Kt)(e f g i:Value)(h:PH):R:=
 vb (xFld 0 a) fun j=>
 vb (xLd j h) fun k=>
 vb (xIdxS 1 b k) fun l=>
 hb (xSt1 l c h) fun _ h=>
 d [e,b,tt,f,g,i] h
def F52_3(n:Nat)(cl:CL)(a:Kt)(b:List Value)(h:PH):R:=
 u6 b fun c d e f g i=>F52_1 n cl i a c d e f g h
def F52_4(n:Nat)(cl:CL)(a b c d e f:Value)(h:PH)(g:Kt):R:=
 vb (xIdxS 3 a b) fun i=>
 vb (xLdA 3 i h) fun j=>
 hb (xAlloc (zcells Tryd.prog 37) h) fun k h=>
 hb (xStA 3 k j h) fun _ h=>
 vb (xLdA 7 c h) fun l=>
 vb (xFld 1 k) fun m=>
 vb (xLd m h) fun o=>
 vb (pcall (F64 n cl l d o (h.fzn))) fun p=>
 vb (xCmp ine p (vM 0)) fun q=>
 vb (gd (isB true q) (some d)) fun r=>
 vb (gd (isB true q) (xFld 0 k)) fun s=>
 vb (gd (isB true q) (xLd s h)) fun t=>
 vb (gd (isB true q) (xIdxS 1 r t)) fun v=>
 vb (gd (isB true q) (xLd v h)) fun w=>
 vb (gd (isB true q) (xCmp ieq w (vM 0))) fun z=>
 vb (gd (isB true q) (some z)) fun a1=>
 vb (gd (isB false a1) (some p)) fun b1=>
 vb (gd (isB false a1) (some d)) fun c1=>
 vb (gd (isB false a1) (xFld 0 k)) fun d1=>
 vb (gd (isB false a1) (xLd d1 h)) fun e1=>
 vb (gd (isB false a1) (xIdxS 1 c1 e1)) fun f1=>
 vb (gd (isB false a1) (xLd f1 h)) fun g1=>
 vb (gd (isB false a1) (xCmp ilt b1 g1)) fun i1=>
 vb (gd (isB true q) (xPick a1 tt i1)) fun j1=>
 vb (xPick q j1 ff) fun k1=>
 bite k1 (F52_2 n cl k d p g c a e b h) (g [c,d,f,a,e,b] h)
def F52_5(n:Nat)(cl:CL)(a b:Value)(c:Kt)(d e f g:Value)(i:Kt)(h:PH):R:=
 vb (xCmp ilt a b) fun j=>
 bite j (jn (F52_3 n cl c) (F52_4 n cl d a e f b g h)) (i [e,f,g] h)
def F52_6(n:Nat)(cl:CL)(a b:Kt)(c:List Value)(h:PH):R:=
 u6 c fun d e f g i j=>F52_5 n cl j i b g d e f a h
def F52_7(n:Nat)(cl:CL)(a:Value)(b:Kt)(c:Value)(h:PH):R:=
 vb (xFld 3 a) fun d=>
 vb (xLd d h) fun e=>
 vb (xLenS e) fun f=>
 lp n (F52_6 n cl b) [a,c,ff,e,f,(vN 0)] h
def F52_8(n:Nat)(cl:CL)(a:Kt)(b:List Value)(h:PH):R:=
 u3 b fun c d e=>bite e (F52_7 n cl c a d h) (some (d,h))
def F52_9(n:Nat)(cl:CL)(a b c:Value)(d:Kt)(e:Value)(h:PH):R:=
 vb (xCmp ilt a b) fun f=>
 bite f (F52_0 n cl c a d e b h) (lp n (F52_8 n cl) [e,c,tt] h)
def F52_10(n:Nat)(cl:CL)(a:Kt)(b:List Value)(h:PH):R:=
 u4 b fun c d e f=>F52_9 n cl f e d a c h
def F52_11(n:Nat)(cl:CL)(a:Value)(h:PH):R:=
 vb (xFld 0 a) fun b=>
 vb (xLd b h) fun c=>
 hb (xMk (zinfo Tryd.prog 24) c c h) fun d h=>
 vb (xLenS d) fun e=>
 lp n (F52_10 n cl) [a,d,e,(vN 0)] h
def F52(n:Nat)(cl:CL)(a:Value)(h:PH):R:=
 hb (xBox a h) fun b h=>
 vb (xLdA 7 b h) fun c=>
 vb (pcall (F51 n cl c (h.fzn))) fun d=>
 vb (xNot d) fun e=>
 bite e (some (nils,h)) (F52_11 n cl b h)
theorem S52:OkF Tryd.prog 52 (A1 (F52 n cl)):=exA1 n ⟨[51,64],[],[(5,[1,3,16,17]),(10,[1,3,5]),(13,[1,3,5,26,27,28]),(18,[1,3,5,26,27,28])],[],[],[],[],[]⟩ (svc_ok (S51 n hcl) (svc_ok (S64 n hcl) hcl)) hmx Tryd.func52 (by kernel_rfl) fun _ _=>by kernel_rfl
def F38_0(n:Nat)(cl:CL)(a b c:Value)(d:Kt)(e:Value)(h:PH):R:=
 vb (xIdxS 1 a b) fun f=>
 vb (xLd f h) fun g=>
 vb (xCmp ine g (vM 0)) fun i=>
 hb (xBS 1 (bsRow Tryd.prog 47 1 [(0,i)]) h) fun j h=>
 hb (xApp (appInfo Tryd.prog #[47,47]) c j h) fun k h=>
 vb (xAri Int.add b (vN 1)) fun l=>
 d [k,a,e,l] h
def F38_1(n:Nat)(cl:CL)(a b c d:Value)(e:Kt)(h:PH):R:=
 vb (xCmp ilt a b) fun f=>
 bite f (F38_0 n cl c a d e b h) (some (d,h))
def F38_2(n:Nat)(cl:CL)(a:Kt)(b:List Value)(h:PH):R:=
 u4 b fun c d e f=>F38_1 n cl f e d c a h
def F38(n:Nat)(cl:CL)(a:Value)(h:PH):R:=
 hb (xBox a h) fun b h=>
 vb (xLdA 7 b h) fun c=>
 hb (fcall h (F52 n cl c (h.fzn))) fun d h=>
 vb (xLenS d) fun e=>
 lp n (F38_2 n cl) [nils,d,e,(vN 0)] h
theorem S38:OkF Tryd.prog 38 (A1 (F38 n cl)):=exA1 n ⟨[],[52],[(3,[3,7,8,9])],[],[],[],[],[]⟩ (svc_ok (S52 n hcl) hcl) hmx Tryd.func38 (by kernel_rfl) fun _ _=>by kernel_rfl
def F70_0(n:Nat)(cl:CL)(a:Value)(b:Kt)(c d e f:Value)(h:PH):R:=
 vb (xAri Int.add a (vN 1)) fun g=>
 b [c,d,e,f,g] h
def F70_1(n:Nat)(cl:CL)(a b c d:Value)(e:Kt)(f:Value)(h:PH):R:=
 vb (xIdxS 1 a b) fun g=>
 vb (xLd g h) fun i=>
 vb (xLdA 7 c h) fun j=>
 vb (pcall (F44 n cl j i (h.fzn))) fun k=>
 vb (xNot k) fun l=>
 vb (gd (isB false l) (some d)) fun m=>
 vb (gd (isB false l) (some i)) fun o=>
 vb (gd (isB false l) (xIdxS 1 m o)) fun p=>
 vb (gd (isB false l) (xLd p h)) fun q=>
 vb (gd (isB false l) (xNot q)) fun r=>
 vb (xPick l tt r) fun s=>
 bite s (some (ff,h)) (F70_0 n cl b e d c a f h)
def F70_2(n:Nat)(cl:CL)(a b c d e:Value)(f:Kt)(h:PH):R:=
 vb (xCmp ilt a b) fun g=>
 bite g (F70_1 n cl c a d e f b h) (some (tt,h))
def F70_3(n:Nat)(cl:CL)(a:Kt)(b:List Value)(h:PH):R:=
 u5 b fun c d e f g=>F70_2 n cl g f e d c a h
def F70(n:Nat)(cl:CL)(a b c:Value)(h:PH):R:=
 hb (xBox a h) fun d h=>
 vb (xLenS c) fun e=>
 lp n (F70_3 n cl) [b,d,c,e,(vN 0)] h
theorem S70:OkF Tryd.prog 70 (A3 (F70 n cl)):=exA3 n ⟨[44],[],[(2,[1,3,9,10,11])],[],[],[],[],[]⟩ (svc_ok (S44 n hcl) hcl) hmx Tryd.func70 (by kernel_rfl) fun _ _ _ _=>by kernel_rfl
def F65_0(n:Nat)(cl:CL)(a:Value)(b:Kt)(c d e f g:Value)(h:PH):R:=
 vb (xAri Int.add a (vN 1)) fun i=>
 b [c,d,e,f,g,i] h
def F65_1(n:Nat)(cl:CL)(a b:Value)(c:Kt)(d e f g:Value)(h:PH):R:=
 vb (xFld 0 a) fun i=>
 vb (xLd i h) fun j=>
 vb (xIdxS 1 b j) fun k=>
 hb (xSt1 k tt h) fun _ h=>
 c [d,b,tt,e,f,g] h
def F65_2(n:Nat)(cl:CL)(a:Kt)(b:List Value)(h:PH):R:=
 u6 b fun c d e f g i=>F65_0 n cl i a c d e f g h
def F65_3(n:Nat)(cl:CL)(a b c d e f:Value)(h:PH)(g:Kt):R:=
 vb (xIdxS 3 a b) fun i=>
 vb (xLdA 3 i h) fun j=>
 hb (xAlloc (zcells Tryd.prog 37) h) fun k h=>
 hb (xStA 3 k j h) fun _ h=>
 vb (xFld 0 k) fun l=>
 vb (xLd l h) fun m=>
 vb (xIdxS 1 c m) fun o=>
 vb (xLd o h) fun p=>
 vb (xNot p) fun q=>
 vb (gd (isB true q) (xLdA 7 d h)) fun r=>
 vb (gd (isB true q) (some c)) fun s=>
 vb (gd (isB true q) (xFld 1 k)) fun t=>
 vb (gd (isB true q) (xLd t h)) fun v=>
 vb (gd (isB true q) (pcall (F70 n cl r s v (h.fzn)))) fun w=>
 vb (xPick q w ff) fun z=>
 bite z (F65_1 n cl k c g d a e b h) (g [d,c,f,a,e,b] h)
def F65_4(n:Nat)(cl:CL)(a b:Value)(c:Kt)(d e f g:Value)(i:Kt)(h:PH):R:=
 vb (xCmp ilt a b) fun j=>
 bite j (jn (F65_2 n cl c) (F65_3 n cl d a e f b g h)) (i [f,e,g] h)
def F65_5(n:Nat)(cl:CL)(a b:Kt)(c:List Value)(h:PH):R:=
 u6 c fun d e f g i j=>F65_4 n cl j i b g e d f a h
def F65_6(n:Nat)(cl:CL)(a:Value)(b:Kt)(c:Value)(h:PH):R:=
 vb (xFld 3 a) fun d=>
 vb (xLd d h) fun e=>
 vb (xLenS e) fun f=>
 lp n (F65_5 n cl b) [a,c,ff,e,f,(vN 0)] h
def F65_7(n:Nat)(cl:CL)(a:Kt)(b:List Value)(h:PH):R:=
 u3 b fun c d e=>bite e (F65_6 n cl c a d h) (some (d,h))
def F65(n:Nat)(cl:CL)(a:Value)(h:PH):R:=
 hb (xBox a h) fun b h=>
 vb (xFld 0 b) fun c=>
 vb (xLd c h) fun d=>
 hb (xMk (zinfo Tryd.prog 47) d d h) fun e h=>
 lp n (F65_7 n cl) [b,e,tt] h
theorem S65:OkF Tryd.prog 65 (A1 (F65 n cl)):=exA1 n ⟨[70],[],[(3,[1,3,4]),(6,[1,3,4,12,13,14]),(10,[1,3,4,12,13,14])],[],[],[],[],[]⟩ (svc_ok (S70 n hcl) hcl) hmx Tryd.func65 (by kernel_rfl) fun _ _=>by kernel_rfl
def F53_0(n:Nat)(cl:CL)(a:Value)(h:PH):R:=
 vb (xLdA 7 a h) fun b=>
 hb (fcall h (F65 n cl b (h.fzn))) fun c h=>
 some (c,h)
def F53(n:Nat)(cl:CL)(a:Value)(h:PH):R:=
 hb (xBox a h) fun b h=>
 vb (xLdA 7 b h) fun c=>
 vb (pcall (F51 n cl c (h.fzn))) fun d=>
 vb (xNot d) fun e=>
 bite e (some (nils,h)) (F53_0 n cl b h)
theorem S53:OkF Tryd.prog 53 (A1 (F53 n cl)):=exA1 n ⟨[51],[65],[],[],[],[],[],[]⟩ (svc_ok (S51 n hcl) (svc_ok (S65 n hcl) hcl)) hmx Tryd.func53 (by kernel_rfl) fun _ _=>by kernel_rfl
def F54_0(n:Nat)(cl:CL)(a:Value)(b:Kt)(c d e f g i:Value)(h:PH):R:=
 vb (xAri Int.add a (vN 1)) fun j=>
 b [c,d,e,f,g,i,j] h
def F54_1(n:Nat)(cl:CL)(a b c d e f:Value)(g:Kt)(i j k l m o p:Value)(h:PH):R:=
 vb (xIdxS 1 a b) fun q=>
 vb (xLd q h) fun r=>
 vb (gd (isB true c) (some b)) fun s=>
 vb (gd (isB true c) (some d)) fun t=>
 vb (gd (isB true c) (xCmp ieq s t)) fun v=>
 vb (gd (isB true c) (some v)) fun w=>
 vb (gd (isB false w) (xLdA 7 e h)) fun z=>
 vb (gd (isB false w) (some r)) fun a1=>
 vb (gd (isB false w) (pcall (F44 n cl z a1 (h.fzn)))) fun b1=>
 vb (gd (isB false w) (some b1)) fun c1=>
 vb (gd (isB true c1) (some f)) fun d1=>
 vb (gd (isB true c1) (some r)) fun e1=>
 vb (gd (isB true c1) (xIdxS 1 d1 e1)) fun f1=>
 vb (gd (isB true c1) (xLd f1 h)) fun g1=>
 vb (gd (isB false w) (xPick c1 g1 ff)) fun i1=>
 vb (gd (isB true c) (xPick w tt i1)) fun j1=>
 vb (xPick c j1 ff) fun k1=>
 vb (xAri Int.add b (vN 1)) fun l1=>
 g [f,e,i,j,d,k,k1,l,m,o,a,p,l1] h
def F54_2(n:Nat)(cl:CL)(a b:Value)(c:Kt)(d e f g i j:Value)(h:PH):R:=
 hb (xBS 1 (bsRow Tryd.prog 24 1 [(0,a)]) h) fun k h=>
 hb (xApp (appInfo Tryd.prog #[24,24]) b k h) fun l h=>
 c [d,e,f,l,g,i,j] h
def F54_3(n:Nat)(cl:CL)(a b c:Value)(d:Kt)(e f g i j k:Value)(h:PH):R:=
 bite a (F54_2 n cl b c d e f g i j k h) (d [e,f,g,c,i,j,k] h)
def F54_4(n:Nat)(cl:CL)(a b c d e f g:Value)(i:Kt)(j k l m o p:Value)(q:Kt)(h:PH):R:=
 vb (xCmp ilt a b) fun r=>
 bite r (F54_1 n cl c a d e f g i j k l m o p b h) (F54_3 n cl d l k q g f j m o p h)
def F54_5(n:Nat)(cl:CL)(a b:Kt)(c:List Value)(h:PH):R:=
 u13 c fun d e f g i j k l m o p q r=>F54_4 n cl r q p k i e d b f g j l m o a h
def F54_6(n:Nat)(cl:CL)(a:Kt)(b:List Value)(h:PH):R:=
 u7 b fun c d e f g i j=>F54_0 n cl j a c d e f g i h
def F54_7(n:Nat)(cl:CL)(a b c d e f g:Value)(h:PH)(i:Kt):R:=
 vb (xIdxS 1 a b) fun j=>
 vb (xLd j h) fun k=>
 vb (xLdA 7 c h) fun l=>
 vb (pcall (F44 n cl l k (h.fzn))) fun m=>
 vb (xFld 1 d) fun o=>
 vb (xLd o h) fun p=>
 vb (xLenS p) fun q=>
 lp n (F54_5 n cl i) [e,c,d,f,b,k,m,a,g,b,p,q,(vN 0)] h
def F54_8(n:Nat)(cl:CL)(a b:Value)(c:Kt)(d e f g i:Value)(h:PH):R:=
 vb (xCmp ilt a b) fun j=>
 bite j (jn (F54_6 n cl c) (F54_7 n cl d a e f g i b h)) (some (i,h))
def F54_9(n:Nat)(cl:CL)(a:Kt)(b:List Value)(h:PH):R:=
 u7 b fun c d e f g i j=>F54_8 n cl j i a g d e c f h
def F54(n:Nat)(cl:CL)(a b c:Value)(h:PH):R:=
 hb (xBox a h) fun d h=>
 hb (xBox c h) fun e h=>
 vb (xFld 1 e) fun f=>
 vb (xLd f h) fun g=>
 vb (xLenS g) fun i=>
 lp n (F54_9 n cl) [b,d,e,nils,g,i,(vN 0)] h
theorem S54:OkF Tryd.prog 54 (A3 (F54 n cl)):=exA3 n ⟨[44],[],[(3,[1,3,5,7,14,15,16]),(7,[1,3,5,7,8,9,10,14,15,16,25,26,27]),(13,[1,3,5,7,14,15,16])],[],[],[],[],[]⟩ (svc_ok (S44 n hcl) hcl) hmx Tryd.func54 (by kernel_rfl) fun _ _ _ _=>by kernel_rfl
def F39_0(n:Nat)(cl:CL)(a b c:Value)(d:Kt)(e f:Value)(h:PH):R:=
 vb (xFld 0 a) fun g=>
 vb (xLd g h) fun i=>
 hb (xMk (zinfo Tryd.prog 47) i i h) fun j h=>
 vb (xIdxS 1 b c) fun k=>
 hb (xSt1 k j h) fun _ h=>
 vb (xAri Int.add c (vN 1)) fun l=>
 d [a,e,b,f,l] h
def F39_1(n:Nat)(cl:CL)(a b c d:Value)(e:Kt)(f g i j k l:Value)(h:PH):R:=
 vb (xIdxS 1 a b) fun m=>
 vb (xLd m h) fun o=>
 vb (xFld 0 c) fun p=>
 vb (xLd p h) fun q=>
 vb (xIdxS 1 d q) fun r=>
 vb (xLd r h) fun s=>
 vb (xIdxS 1 s o) fun t=>
 hb (xSt1 t tt h) fun _ h=>
 vb (xAri Int.add b (vN 1)) fun v=>
 e [f,g,d,c,i,j,k,a,l,v] h
def F39_2(n:Nat)(cl:CL)(a:Value)(b:Kt)(c d e f g:Value)(h:PH):R:=
 vb (xAri Int.add a (vN 1)) fun i=>
 b [c,d,e,f,g,i] h
def F39_3(n:Nat)(cl:CL)(a b c d e:Value)(f:Kt)(g i j k l:Value)(m:Kt)(h:PH):R:=
 vb (xCmp ilt a b) fun o=>
 bite o (F39_1 n cl c a d e f g i j k l b h) (F39_2 n cl l m g i e j k h)
def F39_4(n:Nat)(cl:CL)(a b:Kt)(c:List Value)(h:PH):R:=
 u10 c fun d e f g i j k l m o=>F39_3 n cl o m l g f b d e i j k a h
def F39_5(n:Nat)(cl:CL)(a b c d:Value)(e:Kt)(f g:Value)(h:PH):R:=
 vb (xIdxS 3 a b) fun i=>
 vb (xLdA 3 i h) fun j=>
 hb (xAlloc (zcells Tryd.prog 37) h) fun k h=>
 hb (xStA 3 k j h) fun _ h=>
 vb (xLdA 7 c h) fun l=>
 vb (xLdA 3 k h) fun m=>
 hb (fcall h (F54 n cl l d m (h.fzn))) fun o h=>
 vb (xLenS o) fun p=>
 lp n (F39_4 n cl e) [c,d,f,k,a,g,b,o,p,(vN 0)] h
def F39_6(n:Nat)(cl:CL)(a b c d:Value)(e:Kt)(f g i j k l:Value)(h:PH):R:=
 vb (xIdxS 1 a b) fun m=>
 vb (xIdxS 1 a b) fun o=>
 vb (xLd m h) fun p=>
 vb (xLd o h) fun q=>
 vb (xIdxS 1 q c) fun r=>
 vb (xLd r h) fun s=>
 vb (gd (isB false s) (some a)) fun t=>
 vb (gd (isB false s) (some b)) fun v=>
 vb (gd (isB false s) (xIdxS 1 t v)) fun w=>
 vb (gd (isB false s) (some d)) fun z=>
 vb (gd (isB false s) (xLd w h)) fun a1=>
 vb (gd (isB false s) (xIdxS 1 a1 z)) fun b1=>
 vb (gd (isB false s) (xLd b1 h)) fun c1=>
 vb (gd (isB false s) (some c1)) fun d1=>
 vb (gd (isB true d1) (some a)) fun e1=>
 vb (gd (isB true d1) (some d)) fun f1=>
 vb (gd (isB true d1) (xIdxS 1 e1 f1)) fun g1=>
 vb (gd (isB true d1) (some c)) fun i1=>
 vb (gd (isB true d1) (xLd g1 h)) fun j1=>
 vb (gd (isB true d1) (xIdxS 1 j1 i1)) fun k1=>
 vb (gd (isB true d1) (xLd k1 h)) fun l1=>
 vb (gd (isB false s) (xPick d1 l1 ff)) fun m1=>
 vb (xPick s tt m1) fun o1=>
 vb (xIdxS 1 p c) fun p1=>
 hb (xSt1 p1 o1 h) fun _ h=>
 vb (xAri Int.add c (vN 1)) fun q1=>
 e [f,a,d,b,g,i,j,k,l,q1] h
def F39_7(n:Nat)(cl:CL)(a:Value)(b:Kt)(c d e f g i:Value)(h:PH):R:=
 vb (xAri Int.add a (vN 1)) fun j=>
 b [c,d,e,f,g,i,j] h
def F39_8(n:Nat)(cl:CL)(a b c d e:Value)(f:Kt)(g i j k l:Value)(m:Kt)(h:PH):R:=
 vb (xCmp ilt a b) fun o=>
 bite o (F39_6 n cl c d a e f g i j k l b h) (F39_7 n cl l m g c e i j k h)
def F39_9(n:Nat)(cl:CL)(a b:Kt)(c:List Value)(h:PH):R:=
 u10 c fun d e f g i j k l m o=>F39_8 n cl o m e g f b d i j k l a h
def F39_10(n:Nat)(cl:CL)(a:Value)(b:Kt)(c d e f g i:Value)(h:PH):R:=
 vb (xLenS a) fun j=>
 lp n (F39_9 n cl b) [c,a,d,e,f,g,i,e,j,(vN 0)] h
def F39_11(n:Nat)(cl:CL)(a:Value)(b:Kt)(c d e:Value)(h:PH):R:=
 vb (xAri Int.add a (vN 1)) fun f=>
 b [c,d,e,f] h
def F39_12(n:Nat)(cl:CL)(a b c:Value)(d:Kt)(e f g i:Value)(j:Kt)(h:PH):R:=
 vb (xCmp ilt a b) fun k=>
 bite k (F39_10 n cl c d e f a g i b h) (F39_11 n cl i j e c g h)
def F39_13(n:Nat)(cl:CL)(a b:Kt)(c:List Value)(h:PH):R:=
 u7 c fun d e f g i j k=>F39_12 n cl k j e b d f g i a h
def F39_14(n:Nat)(cl:CL)(a:Value)(b:Kt)(c d e:Value)(h:PH):R:=
 vb (xLenS a) fun f=>
 lp n (F39_13 n cl b) [c,a,d,e,d,f,(vN 0)] h
def F39_15(n:Nat)(cl:CL)(a b c:Value)(d:Kt)(e:Value)(h:PH):R:=
 vb (xIdxS 1 a b) fun f=>
 vb (xLd f h) fun g=>
 vb (xIdxS 1 g b) fun i=>
 vb (xLd i h) fun j=>
 vb (xIdxS 1 c b) fun k=>
 hb (xSt1 k j h) fun _ h=>
 vb (xAri Int.add b (vN 1)) fun l=>
 d [a,c,e,l] h
def F39_16(n:Nat)(cl:CL)(a b c d:Value)(e:Kt)(h:PH):R:=
 vb (xCmp ilt a b) fun f=>
 bite f (F39_15 n cl c a d e b h) (some (d,h))
def F39_17(n:Nat)(cl:CL)(a:Kt)(b:List Value)(h:PH):R:=
 u4 b fun c d e f=>F39_16 n cl f e c d a h
def F39_18(n:Nat)(cl:CL)(a b:Value)(h:PH):R:=
 vb (xFld 0 a) fun c=>
 vb (xLd c h) fun d=>
 hb (xMk (zinfo Tryd.prog 47) d d h) fun e h=>
 vb (xLenS e) fun f=>
 lp n (F39_17 n cl) [b,e,f,(vN 0)] h
def F39_19(n:Nat)(cl:CL)(a b c:Value)(d:Kt)(e:Value)(h:PH):R:=
 vb (xCmp ilt a b) fun f=>
 bite f (F39_14 n cl c d e a b h) (F39_18 n cl e c h)
def F39_20(n:Nat)(cl:CL)(a:Kt)(b:List Value)(h:PH):R:=
 u4 b fun c d e f=>F39_19 n cl f e d a c h
def F39_21(n:Nat)(cl:CL)(a b:Value)(h:PH):R:=
 vb (xLenS a) fun c=>
 lp n (F39_20 n cl) [b,a,c,(vN 0)] h
def F39_22(n:Nat)(cl:CL)(a b c d e:Value)(f:Kt)(g:Value)(h:PH):R:=
 vb (xCmp ilt a b) fun i=>
 bite i (F39_5 n cl c a d e f g b h) (F39_21 n cl g d h)
def F39_23(n:Nat)(cl:CL)(a:Kt)(b:List Value)(h:PH):R:=
 u6 b fun c d e f g i=>F39_22 n cl i g f c d a e h
def F39_24(n:Nat)(cl:CL)(a b c:Value)(h:PH):R:=
 vb (xFld 3 a) fun d=>
 vb (xLd d h) fun e=>
 vb (xLenS e) fun f=>
 lp n (F39_23 n cl) [a,b,c,e,f,(vN 0)] h
def F39_25(n:Nat)(cl:CL)(a b c d:Value)(e:Kt)(f:Value)(h:PH):R:=
 vb (xCmp ilt a b) fun g=>
 bite g (F39_0 n cl c d a e f b h) (F39_24 n cl c f d h)
def F39_26(n:Nat)(cl:CL)(a:Kt)(b:List Value)(h:PH):R:=
 u5 b fun c d e f g=>F39_25 n cl g f c e a d h
def F39_27(n:Nat)(cl:CL)(a:Value)(h:PH):R:=
 vb (xLdA 7 a h) fun b=>
 hb (fcall h (F53 n cl b (h.fzn))) fun c h=>
 vb (xFld 0 a) fun d=>
 vb (xLd d h) fun e=>
 hb (xMk (zinfo Tryd.prog 71) e e h) fun f h=>
 vb (xLenS f) fun g=>
 lp n (F39_26 n cl) [a,c,f,g,(vN 0)] h
def F39(n:Nat)(cl:CL)(a:Value)(h:PH):R:=
 hb (xBox a h) fun b h=>
 vb (xLdA 7 b h) fun c=>
 vb (pcall (F51 n cl c (h.fzn))) fun d=>
 vb (xNot d) fun e=>
 bite e (some (nils,h)) (F39_27 n cl b h)
theorem S39:OkF Tryd.prog 39 (A1 (F39 n cl)):=exA1 n ⟨[51],[53,54],[(6,[1,3,4,24,25]),(11,[1,3,4,36,37,38]),(14,[1,3,4,7,36,37,38,45,46,47]),(20,[1,4,61,62]),(23,[1,4,10,61,62,66,67]),(26,[1,4,10,11,61,62,66,67,71,72]),(34,[4,13,113,114])],[(28,[0,1,2,4,5,6,7,9,3,8,10,11,12,13,14,15,17,16,18,19,20,21,22,23,25,24,26,27,28,29,30,31])],[],[],[],[]⟩ (svc_ok (S51 n hcl) (svc_ok (S53 n hcl) (svc_ok (S54 n hcl) hcl))) hmx Tryd.func39 (by kernel_rfl) fun _ _=>by kernel_rfl
def F22_0(n:Nat)(cl:CL)(a:Value)(b:Kt)(c d e f:Value)(h:PH):R:=
 vb (xAri Int.add a (vN 1)) fun g=>
 b [c,d,e,f,g] h
def F22_1(n:Nat)(cl:CL)(a b c:Value)(d:Kt)(e f:Value)(h:PH):R:=
 vb (xIdxS 1 a b) fun g=>
 vb (xLd g h) fun i=>
 vb (xNot i) fun j=>
 vb (gd (isB false j) (some c)) fun k=>
 vb (gd (isB false j) (some b)) fun l=>
 vb (gd (isB false j) (xIdxS 1 k l)) fun m=>
 vb (gd (isB false j) (xLd m h)) fun o=>
 vb (gd (isB false j) (xNot o)) fun p=>
 vb (xPick j tt p) fun q=>
 bite q (some (Value.tuple ⟨[b,(vN 7)]⟩,h)) (F22_0 n cl b d e a c f h)
def F22_2(n:Nat)(cl:CL)(a:Value)(b:Kt)(c d:Value)(h:PH):R:=
 vb (xAri Int.add a (vN 1)) fun e=>
 b [c,d,e] h
def F22_3(n:Nat)(cl:CL)(a b:Value)(c:Kt)(d:Value)(h:PH):R:=
 vb (xIdxS 1 a b) fun e=>
 vb (xLd e h) fun f=>
 bite f (some (Value.tuple ⟨[b,(vN 8)]⟩,h)) (F22_2 n cl b c a d h)
def F22_4(n:Nat)(cl:CL)(a b c:Value)(d:Kt)(h:PH):R:=
 vb (xCmp ilt a b) fun e=>
 bite e (F22_3 n cl c a d b h) (some (Value.tuple ⟨[(vM 0),(vN 0)]⟩,h))
def F22_5(n:Nat)(cl:CL)(a:Kt)(b:List Value)(h:PH):R:=
 u3 b fun c d e=>F22_4 n cl e d c a h
def F22_6(n:Nat)(cl:CL)(a:Value)(h:PH):R:=
 vb (xLdA 7 a h) fun b=>
 hb (fcall h (F39 n cl b (h.fzn))) fun c h=>
 vb (xLenS c) fun d=>
 lp n (F22_5 n cl) [c,d,(vN 0)] h
def F22_7(n:Nat)(cl:CL)(a b c d:Value)(e:Kt)(f:Value)(h:PH):R:=
 vb (xCmp ilt a b) fun g=>
 bite g (F22_1 n cl c a d e f b h) (F22_6 n cl f h)
def F22_8(n:Nat)(cl:CL)(a:Kt)(b:List Value)(h:PH):R:=
 u5 b fun c d e f g=>F22_7 n cl g f d e a c h
def F22_9(n:Nat)(cl:CL)(a:Value)(h:PH):R:=
 vb (xLdA 7 a h) fun b=>
 vb (xLdA 7 a h) fun c=>
 hb (fcall h (F37 n cl b (h.fzn))) fun d h=>
 lchk (xLdA 7 a h) c<|
 hb (fcall h (F38 n cl c (h.fzn))) fun e h=>
 vb (xLenS d) fun f=>
 lp n (F22_8 n cl) [a,d,e,f,(vN 0)] h
def F22(n:Nat)(cl:CL)(a:Value)(h:PH):R:=
 hb (xBox a h) fun b h=>
 vb (xLdA 7 b h) fun c=>
 vb (pcall (F36 n cl c (h.fzn))) fun d=>
 vb (xExt 0 d) fun e=>
 vb (xExt 1 d) fun f=>
 vb (xCmp ine f (vN 0)) fun g=>
 bite g (some (Value.tuple ⟨[e,f]⟩,h)) (F22_9 n cl b h)
theorem S22:OkF Tryd.prog 22 (A1 (F22 n cl)):=exA1 n ⟨[36],[37,38,39],[(6,[1,6,7,25,26]),(12,[44,45,46])],[(4,[0,2,1,3,4,5])],[(4,[1,2])],[],[],[]⟩ (svc_ok (S36 n hcl) (svc_ok (S37 n hcl) (svc_ok (S38 n hcl) (svc_ok (S39 n hcl) hcl)))) hmx Tryd.func22 (by kernel_rfl) fun _ _=>by kernel_rfl
def F40_0(n:Nat)(cl:CL)(a:Value)(h:PH):R:=
 hb (xBS 0 (bsRow Tryd.prog 22 0 []) h) fun b h=>
 hb (xApp (appInfo Tryd.prog #[22,22]) b a h) fun c h=>
 some (c,h)
def F40(n:Nat)(cl:CL)(a:Value)(h:PH):R:=
 vb (abin Tryd.prog .eql 22 (Operand.tmp 3) (Operand.const (Value.slice none 0 0)) a nils) fun b=>
 bite b (some (nils,h)) (F40_0 n cl a h)
theorem S40:OkF Tryd.prog 40 (A1 (F40 n cl)):=exA1 n ⟨[],[],[],[],[],[],[],[]⟩ hcl hmx Tryd.func40 (by kernel_rfl) fun _ _=>by kernel_rfl
def F24_0(n:Nat)(cl:CL)(a:Value)(h:PH):R:=
 hb (xBS 0 (bsRow Tryd.prog 24 0 []) h) fun b h=>
 hb (xApp (appInfo Tryd.prog #[24,24]) b a h) fun c h=>
 some (c,h)
def F24(n:Nat)(cl:CL)(a:Value)(h:PH):R:=
 vb (abin Tryd.prog .eql 24 (Operand.tmp 3) (Operand.const (Value.slice none 0 0)) a nils) fun b=>
 bite b (some (nils,h)) (F24_0 n cl a h)
theorem S24:OkF Tryd.prog 24 (A1 (F24 n cl)):=exA1 n ⟨[],[],[],[],[],[],[],[]⟩ hcl hmx Tryd.func24 (by kernel_rfl) fun _ _=>by kernel_rfl
def F41_0(n:Nat)(cl:CL)(a:Value)(h:PH):R:=
 hb (xBS 0 (bsRow Tryd.prog 23 0 []) h) fun b h=>
 hb (xApp (appInfo Tryd.prog #[23,23]) b a h) fun c h=>
 some (c,h)
def F41(n:Nat)(cl:CL)(a:Value)(h:PH):R:=
 vb (abin Tryd.prog .eql 23 (Operand.tmp 3) (Operand.const (Value.slice none 0 0)) a nils) fun b=>
 bite b (some (nils,h)) (F41_0 n cl a h)
theorem S41:OkF Tryd.prog 41 (A1 (F41 n cl)):=exA1 n ⟨[],[],[],[],[],[],[],[]⟩ hcl hmx Tryd.func41 (by kernel_rfl) fun _ _=>by kernel_rfl
def F23_0(n:Nat)(cl:CL)(a b:Value)(c:Kt)(d e:Value)(h:PH):R:=
 vb (xFld 3 a) fun f=>
 vb (xFld 3 a) fun g=>
 vb (xLd f h) fun i=>
 vb (xLd g h) fun j=>
 vb (xIdxS 3 j b) fun k=>
 vb (xFld 1 k) fun l=>
 vb (xLd l h) fun m=>
 hb (fcall h (F24 n cl m (h.fzn))) fun o h=>
 lchk (xLd f h) i<|
 vb (xIdxS 3 i b) fun p=>
 vb (xFld 1 p) fun q=>
 hb (xSt1 q o h) fun _ h=>
 vb (xAri Int.add b (vN 1)) fun r=>
 c [a,d,e,r] h
def F23_1(n:Nat)(cl:CL)(a b:Value)(h:PH):R:=
 vb (xFld 4 a) fun c=>
 vb (xFld 5 a) fun d=>
 vb (xFld 6 a) fun e=>
 vb (xLd c h) fun f=>
 vb (xLd d h) fun g=>
 vb (xLd e h) fun i=>
 hb (fcall h (F41 n cl f (h.fzn))) fun j h=>
 lchk (xLd d h) g<|
 lchk (xLd e h) i<|
 vb (xFld 4 a) fun k=>
 hb (fcall h (F24 n cl g (h.fzn))) fun l h=>
 lchk (xLd d h) g<|
 lchk (xLd e h) i<|
 hb (fcall h (F24 n cl i (h.fzn))) fun m h=>
 hb (xSt1 k j h) fun _ h=>
 vb (xFld 5 a) fun o=>
 hb (xSt1 o l h) fun _ h=>
 vb (xFld 6 a) fun p=>
 hb (xSt1 p m h) fun _ h=>
 vb (xLdA 7 a h) fun q=>
 hb (xStA 7 b q h) fun _ h=>
 vb (xLdA 7 b h) fun r=>some (r,h)
def F23_2(n:Nat)(cl:CL)(a b c:Value)(d:Kt)(e:Value)(h:PH):R:=
 vb (xCmp ilt a b) fun f=>
 bite f (F23_0 n cl c a d e b h) (F23_1 n cl c e h)
def F23_3(n:Nat)(cl:CL)(a:Kt)(b:List Value)(h:PH):R:=
 u4 b fun c d e f=>F23_2 n cl f e c a d h
def F23(n:Nat)(cl:CL)(a:Value)(h:PH):R:=
 hb (xBox a h) fun b h=>
 hb (xAlloc (zcells Tryd.prog 26) h) fun c h=>
 vb (xFld 3 b) fun d=>
 vb (xLd d h) fun e=>
 hb (fcall h (F40 n cl e (h.fzn))) fun f h=>
 vb (xFld 3 b) fun g=>
 hb (xSt1 g f h) fun _ h=>
 vb (xFld 3 b) fun i=>
 vb (xLd i h) fun j=>
 vb (xLenS j) fun k=>
 lp n (F23_3 n cl) [b,c,k,(vN 0)] h
theorem S23:OkF Tryd.prog 23 (A1 (F23 n cl)):=exA1 n ⟨[],[24,40,41],[(3,[1,2,10,11])],[(5,[0,2,3,5,1,4,6,7,8,9,10,11,12]),(7,[0,3,6,1,4,7,2,9,5,8,10,11,12,13,14])],[(5,[1,9]),(7,[2,4,5,7])],[],[],[]⟩ (svc_ok (S40 n hcl) (svc_ok (S24 n hcl) (svc_ok (S41 n hcl) hcl))) hmx Tryd.func23 (by kernel_rfl) fun _ _=>by kernel_rfl
def F25(n:Nat)(cl:CL)(a:Value)(h:PH):R:=
 vb (xNil a) fun b=>
 vb (xFld 7 b) fun c=>
 vb (xLd c h) fun d=>
 vb (xLenS d) fun e=>
 vb (xAri Int.add e (vN 1)) fun f=>
 vb (xQuo f (vN 64)) fun g=>
 vb (xAri Int.add g (vN 1)) fun i=>
 hb (xMk (zinfo Tryd.prog 63) i i h) fun j h=>
 some (j,h)
theorem S25:OkF Tryd.prog 25 (A1 (F25 n cl)):=exA1 n ⟨[],[],[],[],[],[],[],[]⟩ hcl hmx Tryd.func25 (by kernel_rfl) fun _ _=>by kernel_rfl
def F28(n:Nat)(cl:CL)(a b:Value)(h:PH):R:=
 vb (xQuo b (vN 64)) fun c=>
 vb (xIdxS 1 a c) fun d=>
 vb (xLd d h) fun e=>
 vb (xRem b (vN 64)) fun f=>
 vb (xShr e f) fun g=>
 vb (xBit Nat.land g (Value.int .u64 (.ofNat 1))) fun i=>
 vb (xCmp ieq i (Value.int .u64 (.ofNat 1))) fun j=>
 some (j,h)
theorem S28:OkF Tryd.prog 28 (A2 (F28 n cl)):=exA2 n ⟨[],[],[],[],[],[],[],[]⟩ hcl hmx Tryd.func28 (by kernel_rfl) fun _ _ _=>by kernel_rfl
def F55(n:Nat)(cl:CL)(a b:Value)(h:PH):R:=
 vb (xQuo b (vN 64)) fun c=>
 vb (xIdxS 1 a c) fun d=>
 vb (xRem b (vN 64)) fun e=>
 vb (xShl (Value.int .u64 (.ofNat 1)) e) fun f=>
 vb (xLd d h) fun g=>
 vb (xBit Nat.lor g f) fun i=>
 vb (xIdxS 1 a c) fun j=>
 hb (xSt1 j i h) fun _ h=>
 some (Value.tuple ⟨[]⟩,h)
theorem S55:OkF Tryd.prog 55 (A2 (F55 n cl)):=exA2 n ⟨[],[],[],[(0,[0,1,2,3,5,6,7,4,8,9,10])],[],[],[],[]⟩ hcl hmx Tryd.func55 (by kernel_rfl) fun _ _ _=>by kernel_rfl
def F42_0(n:Nat)(cl:CL)(a b c:Value)(h:PH):R:=
 vb (xFld 2 a) fun d=>
 vb (xLd d h) fun e=>
 hb (F55 n cl b e h) fun f h=>
 vb (xNil c) fun g=>
 vb (xFld 4 g) fun i=>
 vb (xLd i h) fun j=>
 vb (xLdA 3 a h) fun k=>
 hb (xBS 1 (bsRow Tryd.prog 82 1 [(0,k)]) h) fun l h=>
 hb (xApp (appInfo Tryd.prog #[82,82]) j l h) fun m h=>
 vb (xNil c) fun o=>
 vb (xFld 4 o) fun p=>
 hb (xSt1 p m h) fun _ h=>
 some (Value.tuple ⟨[]⟩,h)
def F42(n:Nat)(cl:CL)(a b:Value)(h:PH):R:=
 hb (xBox b h) fun c h=>
 vb (xNil a) fun d=>
 vb (xFld 2 d) fun e=>
 vb (xFld 0 c) fun f=>
 vb (xFld 1 c) fun g=>
 vb (xLd e h) fun i=>
 vb (xLd f h) fun j=>
 vb (xIdxS 1 i j) fun k=>
 vb (xLd k h) fun l=>
 vb (xLd g h) fun m=>
 vb (xIdxS 1 l m) fun o=>
 vb (xLd o h) fun p=>
 vb (xFld 2 c) fun q=>
 vb (xLd q h) fun r=>
 vb (pcall (F28 n cl p r (h.fzn))) fun s=>
 vb (xNot s) fun t=>
 bite t (F42_0 n cl c p a h) (some (Value.tuple ⟨[]⟩,h))
theorem S42:OkF Tryd.prog 42 (A2 (F42 n cl)):=exA2 n ⟨[28],[],[],[(1,[0,1,2,4,8,3,5,6,7,9,10,11,12]),(4,[0,1,2,3,4,5,6,7,8,9,10])],[],[],[],[]⟩ (svc_ok (S28 n hcl) (svc_ok (S55 n hcl) hcl)) hmx Tryd.func42 (by kernel_rfl) fun _ _ _=>by kernel_rfl
def F56(n:Nat)(cl:CL)(a b:Value)(h:PH):R:=
 vb (xNil a) fun c=>
 vb (xFld 0 c) fun d=>
 hb (xAdd64 [d,b] h) fun e h=>
 some (e,h)
theorem S56:OkF Tryd.prog 56 (A2 (F56 n cl)):=exA2 n ⟨[],[],[],[],[],[],[],[66]⟩ hcl hmx Tryd.func56 (by kernel_rfl) fun _ _ _=>by kernel_rfl
def F57_0(n:Nat)(cl:CL)(a b c d:Value)(e:Kt)(f:Value)(h:PH):R:=
 vb (xIdxS 3 a b) fun g=>
 vb (xLdA 3 g h) fun i=>
 hb (xAlloc (zcells Tryd.prog 87) h) fun j h=>
 hb (xStA 3 j i h) fun _ h=>
 vb (xFld 0 j) fun k=>
 vb (xLd k h) fun l=>
 vb (xFld 1 j) fun m=>
 vb (xLd m h) fun o=>
 vb (xAri Int.add o (vN 1)) fun p=>
 vb (abuild Tryd.prog 87 [(0,l),(1,p),(2,c)]) fun q=>
 hb (F42 n cl d q h) fun r h=>
 vb (xAri Int.add b (vN 1)) fun s=>
 e [d,c,a,f,s] h
def F57_1(n:Nat)(cl:CL)(a b c d e:Value)(f:Kt)(h:PH):R:=
 vb (xCmp ilt a b) fun g=>
 bite g (F57_0 n cl c a d e f b h) (some (Value.tuple ⟨[]⟩,h))
def F57_2(n:Nat)(cl:CL)(a:Kt)(b:List Value)(h:PH):R:=
 u5 b fun c d e f g=>F57_1 n cl g f e d c a h
def F57_3(n:Nat)(cl:CL)(a b c d:Value)(h:PH):R:=
 hb (F55 n cl a b h) fun e h=>
 vb (xNil c) fun f=>
 vb (xFld 3 f) fun g=>
 vb (xLd g h) fun i=>
 vb (xLkp Tryd.prog 3 82 false i d h) fun j=>
 vb (xLenS j) fun k=>
 lp n (F57_2 n cl) [c,b,j,k,(vN 0)] h
def F57(n:Nat)(cl:CL)(a b c:Value)(h:PH):R:=
 vb (xNil a) fun d=>
 vb (xFld 0 d) fun e=>
 vb (xNil a) fun f=>
 vb (xFld 1 f) fun g=>
 vb (xLd e h) fun i=>
 vb (xNil i) fun j=>
 vb (xFld 8 j) fun k=>
 vb (xLd k h) fun l=>
 vb (xLd g h) fun m=>
 vb (xIdxS 1 l m) fun o=>
 vb (xLd o h) fun p=>
 vb (xIdxS 1 p b) fun q=>
 vb (xLd q h) fun r=>
 vb (pcall (F28 n cl r c (h.fzn))) fun s=>
 bite s (some (Value.tuple ⟨[]⟩,h)) (F57_3 n cl r c a b h)
theorem S57:OkF Tryd.prog 57 (A3 (F57 n cl)):=exA3 n ⟨[28],[],[(4,[0,2,36,37,38])],[(0,[0,1,2,7,8,9,13,3,4,5,6,10,11,12,14,15,16])],[],[],[],[]⟩ (svc_ok (S28 n hcl) (svc_ok (S55 n hcl) (svc_ok (S42 n hcl) hcl))) hmx Tryd.func57 (by kernel_rfl) fun _ _ _ _=>by kernel_rfl
def F58_0(n:Nat)(cl:CL)(a b c d:Value)(e:Kt)(f g i j:Value)(h:PH):R:=
 vb (xFld 0 a) fun k=>
 vb (xFld 1 a) fun l=>
 vb (xAri Int.mul b (vN 64)) fun m=>
 vb (xLd k h) fun o=>
 vb (xLd l h) fun p=>
 vb (xAri Int.add p (vN 1)) fun q=>
 vb (pcall (cl 45 [c] (h.fzn))) fun r=>
 lchk (xLd k h) o<|
 lchk (xLd l h) p<|
 vb (xAri Int.add m r) fun s=>
 vb (abuild Tryd.prog 87 [(0,o),(1,q),(2,s)]) fun t=>
 hb (F42 n cl d t h) fun v h=>
 vb (xAri Int.sub c (Value.int .u64 (.ofNat 1))) fun w=>
 vb (xBit Nat.land c w) fun z=>
 e [d,a,f,b,z,g,i,j] h
def F58_1(n:Nat)(cl:CL)(a:Value)(b:Kt)(c d e f g:Value)(h:PH):R:=
 vb (xAri Int.add a (vN 1)) fun i=>
 b [c,d,e,f,g,i] h
def F58_2(n:Nat)(cl:CL)(a b c d:Value)(e:Kt)(f g i j:Value)(k:Kt)(h:PH):R:=
 vb (xCmp ine a (Value.int .u64 (.ofNat 0))) fun l=>
 bite l (F58_0 n cl b c a d e f g i j h) (F58_1 n cl j k d b f g i h)
def F58_3(n:Nat)(cl:CL)(a b:Kt)(c:List Value)(h:PH):R:=
 u8 c fun d e f g i j k l=>F58_2 n cl i e g d b f j k l a h
def F58_4(n:Nat)(cl:CL)(a b c:Value)(d:Kt)(e f g:Value)(h:PH):R:=
 vb (xIdxS 1 a b) fun i=>
 vb (xLd i h) fun j=>
 vb (xIdxS 1 c b) fun k=>
 vb (xLd k h) fun l=>
 vb (abin Tryd.prog .andNot 88 (Operand.tmp 29) (Operand.tmp 33) j l) fun m=>
 lp n (F58_3 n cl d) [e,f,c,b,m,a,g,b] h
def F58_5(n:Nat)(cl:CL)(a b c d:Value)(e:Kt)(f g:Value)(h:PH):R:=
 vb (xCmp ilt a b) fun i=>
 bite i (F58_4 n cl c a d e f g b h) (some (Value.tuple ⟨[]⟩,h))
def F58_6(n:Nat)(cl:CL)(a:Kt)(b:List Value)(h:PH):R:=
 u6 b fun c d e f g i=>F58_5 n cl i g f e a c d h
def F58(n:Nat)(cl:CL)(a b c:Value)(h:PH):R:=
 hb (xBox b h) fun d h=>
 vb (xNil a) fun e=>
 vb (xFld 2 e) fun f=>
 vb (xFld 0 d) fun g=>
 vb (xFld 1 d) fun i=>
 vb (xLd f h) fun j=>
 vb (xLd g h) fun k=>
 vb (xIdxS 1 j k) fun l=>
 vb (xLd l h) fun m=>
 vb (xLd i h) fun o=>
 vb (xAri Int.add o (vN 1)) fun p=>
 vb (xIdxS 1 m p) fun q=>
 vb (xLd q h) fun r=>
 vb (xLenS c) fun s=>
 lp n (F58_6 n cl) [a,d,r,c,s,(vN 0)] h
theorem S58:OkF Tryd.prog 58 (A3 (F58 n cl)):=exA3 n ⟨[45],[],[(3,[0,4,6,22,23,24]),(6,[0,4,6,7,8,22,23,24])],[(1,[0,1,2,4,8,3,5,6,7,9,10,11,12,13]),(8,[0,1,3,6,7,8,2,4,5,9,10,11,12])],[(8,[2,4,9])],[],[],[]⟩ (svc_ok (S42 n hcl) hcl) hmx Tryd.func58 (by kernel_rfl) fun _ _ _ _=>by kernel_rfl
def F43_0(n:Nat)(cl:CL)(a b c:Value)(h:PH):R:=
 vb (xFld 0 a) fun d=>
 vb (xLd d h) fun e=>
 vb (xFld 2 b) fun f=>
 vb (xLd f h) fun g=>
 hb (F57 n cl c e g h) fun i h=>
 some (Value.tuple ⟨[]⟩,h)
def F43_1(n:Nat)(cl:CL)(a b c:Value)(h:PH):R:=
 vb (xNil a) fun d=>
 vb (xFld 0 d) fun e=>
 vb (xFld 2 b) fun f=>
 vb (xLdA 3 b h) fun g=>
 vb (xLd e h) fun i=>
 vb (xNil i) fun j=>
 vb (xFld 8 j) fun k=>
 vb (xLd k h) fun l=>
 vb (xLd f h) fun m=>
 vb (xIdxS 1 l m) fun o=>
 vb (xLd o h) fun p=>
 vb (xIdxS 1 p c) fun q=>
 vb (xLd q h) fun r=>
 hb (F58 n cl a g r h) fun s h=>
 some (Value.tuple ⟨[]⟩,h)
def F43_2(n:Nat)(cl:CL)(a b c:Value)(d:Kt)(h:PH):R:=
 vb (xNil a) fun e=>
 vb (xFld 3 e) fun f=>
 vb (xNil a) fun g=>
 vb (xFld 3 g) fun i=>
 vb (xLd f h) fun j=>
 vb (xLd i h) fun k=>
 vb (xLkp Tryd.prog 3 82 false k b h) fun l=>
 vb (xLdA 3 c h) fun m=>
 hb (xBS 1 (bsRow Tryd.prog 82 1 [(0,m)]) h) fun o h=>
 hb (xApp (appInfo Tryd.prog #[82,82]) l o h) fun p h=>
 lchk (xLd f h) j<|
 hb (xMUpd Tryd.prog 3 j b p h) fun _ h=>
 d [a,c,b] h
def F43_3(n:Nat)(cl:CL)(a:List Value)(h:PH):R:=
 u3 a fun b c d=>F43_1 n cl b c d h
def F43_4(n:Nat)(cl:CL)(a b c:Value)(h:PH)(d:Kt):R:=
 vb (xFld 2 a) fun e=>
 vb (xNil b) fun f=>
 vb (xFld 1 f) fun g=>
 vb (xLd e h) fun i=>
 vb (xLd g h) fun j=>
 vb (xCmp ieq i j) fun k=>
 bite k (F43_2 n cl b c a d h) (d [b,a,c] h)
def F43_5(n:Nat)(cl:CL)(a b:Value)(h:PH):R:=
 vb (xFld 0 a) fun c=>
 vb (xLd c h) fun d=>
 vb (xFld 1 a) fun e=>
 vb (xLd e h) fun f=>
 vb (xAri Int.add f (vN 1)) fun g=>
 vb (xFld 2 a) fun i=>
 vb (xLd i h) fun j=>
 vb (xAri Int.add j (vN 1)) fun k=>
 vb (abuild Tryd.prog 87 [(0,d),(1,g),(2,k)]) fun l=>
 hb (F42 n cl b l h) fun m h=>
 some (Value.tuple ⟨[]⟩,h)
def F43_6(n:Nat)(cl:CL)(a b c:Value)(h:PH):R:=
 vb (xFld 2 a) fun d=>
 vb (xNil b) fun e=>
 vb (xFld 0 e) fun f=>
 vb (xLd d h) fun g=>
 vb (xLd f h) fun i=>
 vb (xNil i) fun j=>
 vb (xFld 7 j) fun k=>
 vb (xLd k h) fun l=>
 vb (xLenS l) fun m=>
 vb (xCmp ilt g m) fun o=>
 vb (gd (isB true o) (some b)) fun p=>
 vb (gd (isB true o) (xNil p)) fun q=>
 vb (gd (isB true o) (xFld 0 q)) fun r=>
 vb (gd (isB true o) (xFld 2 a)) fun s=>
 vb (gd (isB true o) (some c)) fun t=>
 vb (gd (isB true o) (xAri Int.sub (vM 0) t)) fun v=>
 vb (gd (isB true o) (xLd r h)) fun w=>
 vb (gd (isB true o) (xNil w)) fun z=>
 vb (gd (isB true o) (xFld 7 z)) fun a1=>
 vb (gd (isB true o) (xLd a1 h)) fun b1=>
 vb (gd (isB true o) (xLd s h)) fun c1=>
 vb (gd (isB true o) (xIdxS 1 b1 c1)) fun d1=>
 vb (gd (isB true o) (xLd d1 h)) fun e1=>
 vb (gd (isB true o) (xCmp ieq e1 v)) fun f1=>
 vb (xPick o f1 ff) fun g1=>
 bite g1 (F43_5 n cl a b h) (some (Value.tuple ⟨[]⟩,h))
def F43_7(n:Nat)(cl:CL)(a b c:Value)(h:PH):R:=
 vb (xFld 1 a) fun d=>
 vb (xLd d h) fun e=>
 vb (xFld 1 b) fun f=>
 vb (xLd f h) fun g=>
 vb (xIdxS 1 e g) fun i=>
 vb (xLd i h) fun j=>
 vb (xNil c) fun k=>
 vb (xFld 0 k) fun l=>
 vb (xLd l h) fun m=>
 vb (xNil m) fun o=>
 vb (xFld 0 o) fun p=>
 vb (xLdA 7 p h) fun q=>
 vb (pcall (F44 n cl q j (h.fzn))) fun r=>
 bite r (jn (F43_3 n cl) (F43_4 n cl b c j h)) (F43_6 n cl b c j h)
def F43(n:Nat)(cl:CL)(a b:Value)(h:PH):R:=
 hb (xBox b h) fun c h=>
 vb (xNil a) fun d=>
 vb (xFld 0 d) fun e=>
 vb (xLd e h) fun f=>
 vb (xNil f) fun g=>
 vb (xFld 9 g) fun i=>
 hb (F56 n cl i (vN 1) h) fun j h=>
 vb (xNil a) fun k=>
 vb (xFld 0 k) fun l=>
 vb (xFld 0 c) fun m=>
 vb (xLd l h) fun o=>
 vb (xNil o) fun p=>
 vb (xFld 0 p) fun q=>
 vb (xFld 3 q) fun r=>
 vb (xLd r h) fun s=>
 vb (xLd m h) fun t=>
 vb (xIdxS 3 s t) fun v=>
 vb (xLdA 3 v h) fun w=>
 hb (xAlloc (zcells Tryd.prog 37) h) fun z h=>
 hb (xStA 3 z w h) fun _ h=>
 vb (xFld 1 c) fun a1=>
 vb (xLd a1 h) fun b1=>
 vb (xFld 1 z) fun c1=>
 vb (xLd c1 h) fun d1=>
 vb (xLenS d1) fun e1=>
 vb (xCmp ieq b1 e1) fun f1=>
 bite f1 (F43_0 n cl z c a h) (F43_7 n cl z c a h)
theorem S43:OkF Tryd.prog 43 (A2 (F43 n cl)):=exA2 n ⟨[44],[],[(9,[0,3,5])],[(2,[0,1,2,8,3,4,5,6,7,9,10,11,12,13]),(7,[0,2,3,4,1,5,6]),(8,[0,1,2,4,5,6,7,9,3,8,10,11,12,13,14]),(9,[0,2,3,4,9,13,1,5,6,7,8,10,11,12,14,15,16]),(10,[0,2,3,4,1,5,6,7,8,9,10,11,12,13,14,19,23,24,15,16,17,18,20,21,22,25,26])],[(8,[3,13])],[],[],[]⟩ (svc_ok (S56 n hcl) (svc_ok (S57 n hcl) (svc_ok (S44 n hcl) (svc_ok (S58 n hcl) (svc_ok (S42 n hcl) hcl))))) hmx Tryd.func43 (by kernel_rfl) fun _ _ _=>by kernel_rfl
def F26_0(n:Nat)(cl:CL)(a b c:Value)(d:Kt)(e f g i j k:Value)(h:PH):R:=
 hb (fcall h (F25 n cl a (h.fzn))) fun l h=>
 hb (xBS 1 (bsRow Tryd.prog 61 1 [(0,l)]) h) fun m h=>
 hb (xApp (appInfo Tryd.prog #[61,61]) b m h) fun o h=>
 vb (xAri Int.add c (vN 1)) fun p=>
 d [a,e,f,o,g,i,j,k,p] h
def F26_1(n:Nat)(cl:CL)(a b c:Value)(d:Kt)(e f g i:Value)(h:PH):R:=
 vb (xNil a) fun j=>
 vb (xFld 2 j) fun k=>
 vb (xLd k h) fun l=>
 hb (xBS 1 (bsRow Tryd.prog 53 1 [(0,b)]) h) fun m h=>
 hb (xApp (appInfo Tryd.prog #[53,53]) l m h) fun o h=>
 vb (xNil a) fun p=>
 vb (xFld 2 p) fun q=>
 hb (xSt1 q o h) fun _ h=>
 vb (xAri Int.add c (vN 1)) fun r=>
 d [e,f,a,g,i,r] h
def F26_2(n:Nat)(cl:CL)(a b c d:Value)(e:Kt)(f g i j k:Value)(l:Kt)(h:PH):R:=
 vb (xCmp ilt a b) fun m=>
 bite m (F26_0 n cl c d a e f g i j k b h) (F26_1 n cl g d k l c f i j h)
def F26_3(n:Nat)(cl:CL)(a b:Kt)(c:List Value)(h:PH):R:=
 u9 c fun d e f g i j k l m=>F26_2 n cl m l d g b e f i j k a h
def F26_4(n:Nat)(cl:CL)(a b:Value)(c:Kt)(d e f g:Value)(h:PH):R:=
 vb (xIdxS 3 a b) fun i=>
 vb (xLdA 3 i h) fun j=>
 hb (xAlloc (zcells Tryd.prog 37) h) fun k h=>
 hb (xStA 3 k j h) fun _ h=>
 vb (xFld 1 k) fun l=>
 vb (xLd l h) fun m=>
 vb (xLenS m) fun o=>
 vb (xAri Int.add o (vN 1)) fun p=>
 lp n (F26_3 n cl c) [d,e,f,nils,a,g,b,p,(vN 0)] h
def F26_5(n:Nat)(cl:CL)(a b c:Value)(d:Kt)(e:Value)(h:PH):R:=
 vb (abuild Tryd.prog 87 [(0,a),(1,(vN 0)),(2,b)]) fun f=>
 hb (F42 n cl c f h) fun g h=>
 vb (xAri Int.add a (vN 1)) fun i=>
 d [b,c,e,i] h
def F26_6(n:Nat)(cl:CL)(a:Value)(b:Kt)(h:PH):R:=
 vb (xNil a) fun c=>
 vb (xFld 4 c) fun d=>
 vb (xNil a) fun e=>
 vb (xFld 4 e) fun f=>
 vb (xLd d h) fun g=>
 vb (xLd f h) fun i=>
 vb (xLenS i) fun j=>
 vb (xAri Int.sub j (vN 1)) fun k=>
 vb (xIdxS 3 g k) fun l=>
 vb (xLdA 3 l h) fun m=>
 hb (xAlloc (zcells Tryd.prog 87) h) fun o h=>
 hb (xStA 3 o m h) fun _ h=>
 vb (xNil a) fun p=>
 vb (xFld 4 p) fun q=>
 vb (xNil a) fun r=>
 vb (xFld 4 r) fun s=>
 vb (xLd q h) fun t=>
 vb (xLd s h) fun v=>
 vb (xLenS v) fun w=>
 vb (xAri Int.sub w (vN 1)) fun z=>
 vb (acut Tryd.prog 82 t none (some z) none) fun a1=>
 vb (xNil a) fun b1=>
 vb (xFld 4 b1) fun c1=>
 hb (xSt1 c1 a1 h) fun _ h=>
 vb (xLdA 3 o h) fun d1=>
 hb (F43 n cl a d1 h) fun e1 h=>
 b [a] h
def F26_7(n:Nat)(cl:CL)(a:Value)(b:Kt)(h:PH):R:=
 vb (xNil a) fun c=>
 vb (xFld 4 c) fun d=>
 vb (xLd d h) fun e=>
 vb (xLenS e) fun f=>
 vb (xCmp (fun x y=>ilt y x) f (vN 0)) fun g=>
 bite g (F26_6 n cl a b h) (some (Value.tuple ⟨[]⟩,h))
def F26_8(n:Nat)(cl:CL)(a b c d:Value)(e:Kt)(h:PH):R:=
 vb (xCmp ilt a b) fun f=>
 bite f (F26_5 n cl a c d e b h) (lp n (fun g i h=>ucons i fun j k=>F26_7 n cl j g h) [d] h)
def F26_9(n:Nat)(cl:CL)(a:Kt)(b:List Value)(h:PH):R:=
 u4 b fun c d e f=>F26_8 n cl f e c d a h
def F26_10(n:Nat)(cl:CL)(a b c:Value)(h:PH):R:=
 vb (xNil a) fun d=>
 vb (xFld 0 d) fun e=>
 vb (xFld 3 e) fun f=>
 vb (xLd f h) fun g=>
 vb (xLenS g) fun i=>
 lp n (F26_9 n cl) [b,c,i,(vN 0)] h
def F26_11(n:Nat)(cl:CL)(a b c:Value)(d:Kt)(e f g:Value)(h:PH):R:=
 vb (xCmp ilt a b) fun i=>
 bite i (F26_4 n cl c a d e f g b h) (F26_10 n cl e f g h)
def F26_12(n:Nat)(cl:CL)(a:Kt)(b:List Value)(h:PH):R:=
 u6 b fun c d e f g i=>F26_11 n cl i g f a c d e h
def F26(n:Nat)(cl:CL)(a b:Value)(h:PH):R:=
 hb (xMMk h) fun c h=>
 vb (abuild Tryd.prog 84 [(0,a),(1,b),(3,c)]) fun d=>
 hb (xBox d h) fun e h=>
 vb (xNil a) fun f=>
 vb (xFld 0 f) fun g=>
 vb (xFld 3 g) fun i=>
 vb (xLd i h) fun j=>
 vb (xLenS j) fun k=>
 lp n (F26_12 n cl) [a,b,e,j,k,(vN 0)] h
theorem S26:OkF Tryd.prog 26 (A2 (F26 n cl)):=exA2 n ⟨[],[25],[(2,[0,1,4,19,20,21]),(6,[0,1,4,7,19,20,21,28,29]),(12,[1,4,53,54]),(16,[4])],[(17,[0,1,2,4,5,6,3,7,8,9,10,11,12,13]),(18,[0,1,2,3,5,6,7,4,8,9,10,11,12,13,14])],[],[],[],[]⟩ (svc_ok (S25 n hcl) (svc_ok (S42 n hcl) (svc_ok (S43 n hcl) hcl))) hmx Tryd.func26 (by kernel_rfl) fun _ _ _=>by kernel_rfl
def F9_0(n:Nat)(cl:CL)(a b c:Value)(d:Kt)(e f g i j:Value)(h:PH):R:=
 hb (fcall h (F25 n cl a (h.fzn))) fun k h=>
 hb (xBS 1 (bsRow Tryd.prog 61 1 [(0,k)]) h) fun l h=>
 hb (xApp (appInfo Tryd.prog #[61,61]) b l h) fun m h=>
 vb (xAri Int.add c (vN 1)) fun o=>
 d [e,f,a,m,g,i,j,o] h
def F9_1(n:Nat)(cl:CL)(a b c:Value)(d:Kt)(e f g:Value)(h:PH):R:=
 vb (xNil a) fun i=>
 vb (xFld 8 i) fun j=>
 vb (xLd j h) fun k=>
 hb (xBS 1 (bsRow Tryd.prog 53 1 [(0,b)]) h) fun l h=>
 hb (xApp (appInfo Tryd.prog #[53,53]) k l h) fun m h=>
 vb (xNil a) fun o=>
 vb (xFld 8 o) fun p=>
 hb (xSt1 p m h) fun _ h=>
 vb (xAri Int.add c (vN 1)) fun q=>
 d [e,f,a,g,q] h
def F9_2(n:Nat)(cl:CL)(a b c d:Value)(e:Kt)(f g i j:Value)(k:Kt)(h:PH):R:=
 vb (xCmp ilt a b) fun l=>
 bite l (F9_0 n cl c d a e f g i j b h) (F9_1 n cl c d j k f g i h)
def F9_3(n:Nat)(cl:CL)(a b:Kt)(c:List Value)(h:PH):R:=
 u8 c fun d e f g i j k l=>F9_2 n cl l k f g b d e i j a h
def F9_4(n:Nat)(cl:CL)(a:Value)(b:Kt)(c d e f:Value)(h:PH):R:=
 vb (xFld 0 a) fun g=>
 vb (xLd g h) fun i=>
 lp n (F9_3 n cl b) [c,a,d,nils,e,f,i,(vN 0)] h
def F9_5(n:Nat)(cl:CL)(a b:Value)(c:Kt)(h:PH):R:=
 hb (F26 n cl a b h) fun d h=>
 vb (xAri Int.sub b (vN 1)) fun e=>
 c [a,e] h
def F9_6(n:Nat)(cl:CL)(a b:Value)(c:Kt)(h:PH):R:=
 vb (xCmp (fun x y=>ile y x) a (vN 0)) fun d=>
 bite d (F9_5 n cl b a c h) (some (Value.tuple ⟨[b,(vN 0)]⟩,h))
def F9_7(n:Nat)(cl:CL)(a b:Value)(h:PH):R:=
 vb (xLenS a) fun c=>
 lp n (fun d e h=>ucons e fun f g=>ucons g fun i j=>F9_6 n cl i f d h) [b,c] h
def F9_8(n:Nat)(cl:CL)(a b c:Value)(d:Kt)(e f:Value)(h:PH):R:=
 vb (xCmp ilt a b) fun g=>
 bite g (F9_4 n cl c d e f b a h) (F9_7 n cl e f h)
def F9_9(n:Nat)(cl:CL)(a:Kt)(b:List Value)(h:PH):R:=
 u5 b fun c d e f g=>F9_8 n cl g f d a c e h
def F9_10(n:Nat)(cl:CL)(a b:Value)(h:PH):R:=
 vb (xLdA 7 a h) fun c=>
 hb (F23 n cl c h) fun d h=>
 hb (fcall h (F24 n cl b (h.fzn))) fun e h=>
 vb (abuild Tryd.prog 60 [(0,d),(1,e)]) fun f=>
 hb (xBox f h) fun g h=>
 vb (xLenS b) fun i=>
 vb (xAri Int.add i (vN 1)) fun j=>
 lp n (F9_9 n cl) [b,a,g,j,(vN 0)] h
def F9_11(n:Nat)(cl:CL)(a b:Value)(h:PH):R:=
 vb (xLenS a) fun c=>
 vb (xCmp (fun x y=>ilt y x) c (vN 2000)) fun d=>
 bite d (some (Value.tuple ⟨[(Value.pointer none),(vN 3)]⟩,h)) (F9_10 n cl b a h)
def F9(n:Nat)(cl:CL)(a b:Value)(h:PH):R:=
 hb (xBox a h) fun c h=>
 vb (xLdA 7 c h) fun d=>
 vb (pcall (F22 n cl d (h.fzn))) fun e=>
 vb (xExt 0 e) fun f=>
 vb (xExt 1 e) fun g=>
 vb (xCmp ine g (vN 0)) fun i=>
 bite i (some (Value.tuple ⟨[(Value.pointer none),g]⟩,h)) (F9_11 n cl b c h)
theorem S9:OkF Tryd.prog 9 (A2 (F9 n cl)):=exA2 n ⟨[22],[24,25],[(8,[1,2,8,30,31]),(11,[1,2,8,9,30,31,34,35]),(17,[8,10])],[],[],[],[],[]⟩ (svc_ok (S22 n hcl) (svc_ok (S23 n hcl) (svc_ok (S24 n hcl) (svc_ok (S25 n hcl) (svc_ok (S26 n hcl) hcl))))) hmx Tryd.func9 (by kernel_rfl) fun _ _ _=>by kernel_rfl
def F13_0(n:Nat)(cl:CL)(a:Value)(h:PH):R:=
 vb (xNil a) fun b=>
 vb (xFld 7 b) fun c=>
 vb (xLd c h) fun d=>
 vb (xLenS d) fun e=>
 some (e,h)
def F13(n:Nat)(cl:CL)(a:Value)(h:PH):R:=
 vb (abin Tryd.prog .eql 31 (Operand.tmp 3) (Operand.const (Value.pointer none)) a (Value.pointer none)) fun b=>
 bite b (some ((vN 0),h)) (F13_0 n cl a h)
theorem S13:OkF Tryd.prog 13 (A1 (F13 n cl)):=exA1 n ⟨[],[],[],[],[],[],[],[]⟩ hcl hmx Tryd.func13 (by kernel_rfl) fun _ _=>by kernel_rfl
def F10(n:Nat)(cl:CL)(a:Value)(h:PH):R:=
 some (a,h)
theorem S10:OkF Tryd.prog 10 (A1 (F10 n cl)):=exA1 n ⟨[],[],[],[],[],[],[],[]⟩ hcl hmx Tryd.func10 (by kernel_rfl) fun _ _=>by kernel_rfl
def F27(n:Nat)(cl:CL)(a b c:Value)(h:PH):R:=
 vb (abin Tryd.prog .neq 31 (Operand.tmp 7) (Operand.const (Value.pointer none)) a (Value.pointer none)) fun d=>
 vb (gd (isB true d) (some a)) fun e=>
 vb (gd (isB true d) (xNil e)) fun f=>
 vb (gd (isB true d) (xFld 0 f)) fun g=>
 vb (gd (isB true d) (xLdA 7 g h)) fun i=>
 vb (gd (isB true d) (some b)) fun j=>
 vb (gd (isB true d) (pcall (F44 n cl i j (h.fzn)))) fun k=>
 vb (xPick d k ff) fun l=>
 vb (gd (isB true l) (some c)) fun m=>
 vb (gd (isB true l) (xCmp (fun x y=>ile y x) m (vN 0))) fun o=>
 vb (xPick l o ff) fun p=>
 vb (gd (isB true p) (some c)) fun q=>
 vb (gd (isB true p) (some a)) fun r=>
 vb (gd (isB true p) (xNil r)) fun s=>
 vb (gd (isB true p) (xFld 7 s)) fun t=>
 vb (gd (isB true p) (xLd t h)) fun v=>
 vb (gd (isB true p) (xLenS v)) fun w=>
 vb (gd (isB true p) (xCmp ile q w)) fun z=>
 vb (xPick p z ff) fun a1=>
 some (a1,h)
theorem S27:OkF Tryd.prog 27 (A3 (F27 n cl)):=exA3 n ⟨[44],[],[],[],[],[],[],[]⟩ (svc_ok (S44 n hcl) hcl) hmx Tryd.func27 (by kernel_rfl) fun _ _ _ _=>by kernel_rfl
def F11(n:Nat)(cl:CL)(a b c d:Value)(h:PH):R:=
 vb (pcall (F27 n cl a b c (h.fzn))) fun e=>
 vb (gd (isB true e) (some a)) fun f=>
 vb (gd (isB true e) (some b)) fun g=>
 vb (gd (isB true e) (some d)) fun i=>
 vb (gd (isB true e) (pcall (F27 n cl f g i (h.fzn)))) fun j=>
 vb (xPick e j ff) fun k=>
 vb (gd (isB true k) (some a)) fun l=>
 vb (gd (isB true k) (xNil l)) fun m=>
 vb (gd (isB true k) (xFld 8 m)) fun o=>
 vb (gd (isB true k) (xLd o h)) fun p=>
 vb (gd (isB true k) (some c)) fun q=>
 vb (gd (isB true k) (xIdxS 1 p q)) fun r=>
 vb (gd (isB true k) (xLd r h)) fun s=>
 vb (gd (isB true k) (some b)) fun t=>
 vb (gd (isB true k) (xIdxS 1 s t)) fun v=>
 vb (gd (isB true k) (xLd v h)) fun w=>
 vb (gd (isB true k) (some d)) fun z=>
 vb (gd (isB true k) (pcall (F28 n cl w z (h.fzn)))) fun a1=>
 vb (xPick k a1 ff) fun b1=>
 some (b1,h)
theorem S11:OkF Tryd.prog 11 (A4 (F11 n cl)):=exA4 n ⟨[27,28],[],[],[],[],[],[],[]⟩ (svc_ok (S27 n hcl) (svc_ok (S28 n hcl) hcl)) hmx Tryd.func11 (by kernel_rfl) fun _ _ _ _ _=>by kernel_rfl
def F6(n:Nat)(cl:CL)(h:PH):R:=
 hb (xBS 1 (bsRow Tryd.prog 24 1 [(0,(vM 0))]) h) fun a h=>
 vb (abuild Tryd.prog 37 [(1,a)]) fun b=>
 hb (xBS 1 (bsRow Tryd.prog 22 1 [(0,b)]) h) fun c h=>
 vb (abuild Tryd.prog 26 [(0,(vN 1)),(1,(vN 1)),(3,c)]) fun d=>
 hb (xBS 1 (bsRow Tryd.prog 24 1 [(0,(vN 0))]) h) fun e h=>
 hb (F9 n cl d e h) fun f h=>
 vb (xExt 0 f) fun g=>
 vb (xExt 1 f) fun i=>
 vb (pcall (F13 n cl (Value.pointer none) (h.fzn))) fun j=>
 vb (xCmp ieq j (vN 0)) fun k=>
 vb (gd (isB true k) (some i)) fun l=>
 vb (gd (isB true k) (pcall (F10 n cl l (h.fzn)))) fun m=>
 vb (gd (isB true k) (xCmp ieq m (vN 0))) fun o=>
 vb (xPick k o ff) fun p=>
 vb (gd (isB true p) (some g)) fun q=>
 vb (gd (isB true p) (abin Tryd.prog .neq 31 (Operand.tmp 22) (Operand.const (Value.pointer none)) q (Value.pointer none))) fun r=>
 vb (xPick p r ff) fun s=>
 vb (gd (isB true s) (some g)) fun t=>
 vb (gd (isB true s) (pcall (F11 n cl t (vN 0) (vN 0) (vN 1) (h.fzn)))) fun v=>
 vb (xPick s v ff) fun w=>
 vb (gd (isB true w) (some g)) fun z=>
 vb (gd (isB true w) (pcall (F11 n cl z (vN 0) (vN 0) (vN 0) (h.fzn)))) fun a1=>
 vb (gd (isB true w) (xNot a1)) fun b1=>
 vb (xPick w b1 ff) fun c1=>
 vb (gd (isB true c1) (some g)) fun d1=>
 vb (gd (isB true c1) (pcall (F13 n cl d1 (h.fzn)))) fun e1=>
 vb (gd (isB true c1) (xCmp ieq e1 (vN 1))) fun f1=>
 vb (xPick c1 f1 ff) fun g1=>
 some (g1,h)
theorem S6:OkF Tryd.prog 6 (A0 (F6 n cl)):=exA0 n ⟨[10,11,13],[],[],[],[],[],[],[]⟩ (svc_ok (S9 n hcl) (svc_ok (S13 n hcl) (svc_ok (S10 n hcl) (svc_ok (S11 n hcl) hcl)))) hmx Tryd.func6 (by kernel_rfl) fun _=>by kernel_rfl
def F32_0(n:Nat)(cl:CL)(a b:Value)(h:PH):R:=
 vb (xAri Int.sub (vM 0) a) fun c=>
 vb (xFld 1 b) fun d=>
 vb (xLd d h) fun e=>
 vb (xCmp ilt c e) fun f=>
 some (f,h)
def F32_1(n:Nat)(cl:CL)(a b:Value)(h:PH):R:=
 vb (xFld 0 a) fun c=>
 vb (xLd c h) fun d=>
 vb (xCmp ilt b d) fun e=>
 some (e,h)
def F32(n:Nat)(cl:CL)(a b:Value)(h:PH):R:=
 hb (xBox a h) fun c h=>
 vb (xCmp ilt b (vN 0)) fun d=>
 bite d (F32_0 n cl b c h) (F32_1 n cl c b h)
def F18_0(n:Nat)(cl:CL)(a b c:Value)(d:Kt)(e:Value)(h:PH):R:=
 vb (xFld 1 a) fun f=>
 vb (xLdA 7 b h) fun g=>
 vb (xLd f h) fun i=>
 vb (xIdxS 1 i c) fun j=>
 vb (xLd j h) fun k=>
 vb (pcall (F32 n cl g k (h.fzn))) fun l=>
 vb (xAri Int.add c (vN 1)) fun m=>
 d [b,e,a,l,m] h
def F18_1(n:Nat)(cl:CL)(a:Value)(b:Kt)(c:Value)(h:PH):R:=
 vb (xAri Int.add a (vN 1)) fun d=>
 b [c,d] h
def F18_2(n:Nat)(cl:CL)(a b:Value)(c:Kt)(d:Value)(h:PH):R:=
 vb (xFld 2 a) fun e=>
 vb (xLd e h) fun f=>
 vb (xCmp ilt f (vM 999)) fun g=>
 vb (gd (isB false g) (xFld 2 a)) fun i=>
 vb (gd (isB false g) (xLd i h)) fun j=>
 vb (gd (isB false g) (xCmp (fun x y=>ilt y x) j (vN 1000))) fun k=>
 vb (xPick g tt k) fun l=>
 bite l (some (Value.tuple ⟨[b,(vN 1)]⟩,h)) (F18_1 n cl b c d h)
def F18_3(n:Nat)(cl:CL)(a b:Value)(c:Kt)(d:Value)(h:PH):R:=
 vb (xFld 1 a) fun e=>
 vb (xLd e h) fun f=>
 vb (xLenS f) fun g=>
 vb (xCmp (fun x y=>ilt y x) g (vN 8)) fun i=>
 bite i (some (Value.tuple ⟨[b,(vN 3)]⟩,h)) (F18_2 n cl a b c d h)
def F18_4(n:Nat)(cl:CL)(a b c:Value)(d:Kt)(e:Value)(h:PH):R:=
 vb (xNot a) fun f=>
 bite f (some (Value.tuple ⟨[b,(vN 6)]⟩,h)) (F18_3 n cl c b d e h)
def F18_5(n:Nat)(cl:CL)(a b c d:Value)(e:Kt)(f:Value)(g:Kt)(h:PH):R:=
 vb (xFld 1 a) fun i=>
 vb (xLd i h) fun j=>
 vb (xLenS j) fun k=>
 vb (xCmp ilt b k) fun l=>
 vb (gd (isB true l) (some c)) fun m=>
 vb (xPick l m ff) fun o=>
 bite o (F18_0 n cl a d b e f h) (F18_4 n cl c f a g d h)
def F18_6(n:Nat)(cl:CL)(a b:Kt)(c:List Value)(h:PH):R:=
 u5 c fun d e f g i=>F18_5 n cl f i g d b e a h
def F18_7(n:Nat)(cl:CL)(a b:Value)(c:Kt)(h:PH):R:=
 vb (xFld 3 a) fun d=>
 vb (xLd d h) fun e=>
 vb (xIdxS 3 e b) fun f=>
 vb (xLdA 3 f h) fun g=>
 hb (xAlloc (zcells Tryd.prog 37) h) fun i h=>
 hb (xStA 3 i g h) fun _ h=>
 vb (xFld 0 i) fun j=>
 vb (xLd j h) fun k=>
 vb (xCmp (fun x y=>ile y x) k (vN 0)) fun l=>
 vb (gd (isB true l) (xFld 0 i)) fun m=>
 vb (gd (isB true l) (xLd m h)) fun o=>
 vb (gd (isB true l) (xFld 0 a)) fun p=>
 vb (gd (isB true l) (xLd p h)) fun q=>
 vb (gd (isB true l) (xCmp ilt o q)) fun r=>
 vb (xPick l r ff) fun s=>
 lp n (F18_6 n cl c) [a,b,i,s,(vN 0)] h
def F18_8(n:Nat)(cl:CL)(a:Value)(b:Kt)(c:Value)(h:PH):R:=
 vb (xAri Int.add a (vN 1)) fun d=>
 b [c,d] h
def F18_9(n:Nat)(cl:CL)(a b:Value)(c:Kt)(h:PH):R:=
 vb (xFld 4 a) fun d=>
 vb (xLd d h) fun e=>
 vb (xIdxS 3 e b) fun f=>
 vb (xLdA 3 f h) fun g=>
 hb (xAlloc (zcells Tryd.prog 76) h) fun i h=>
 hb (xStA 3 i g h) fun _ h=>
 vb (xIdxA 3 1 i (vN 0)) fun j=>
 vb (xLd j h) fun k=>
 vb (xCmp ilt k (vN 0)) fun l=>
 vb (gd (isB false l) (xIdxA 3 1 i (vN 0))) fun m=>
 vb (gd (isB false l) (xFld 3 a)) fun o=>
 vb (gd (isB false l) (xLd m h)) fun p=>
 vb (gd (isB false l) (xLd o h)) fun q=>
 vb (gd (isB false l) (xLenS q)) fun r=>
 vb (gd (isB false l) (xCmp (fun x y=>ile y x) p r)) fun s=>
 vb (xPick l tt s) fun t=>
 vb (gd (isB false t) (xIdxA 3 1 i (vN 2))) fun v=>
 vb (gd (isB false t) (xLd v h)) fun w=>
 vb (gd (isB false t) (xCmp ilt w (vN 0))) fun z=>
 vb (xPick t tt z) fun a1=>
 vb (gd (isB false a1) (xIdxA 3 1 i (vN 2))) fun b1=>
 vb (gd (isB false a1) (xFld 3 a)) fun c1=>
 vb (gd (isB false a1) (xLd b1 h)) fun d1=>
 vb (gd (isB false a1) (xLd c1 h)) fun e1=>
 vb (gd (isB false a1) (xLenS e1)) fun f1=>
 vb (gd (isB false a1) (xCmp (fun x y=>ile y x) d1 f1)) fun g1=>
 vb (xPick a1 tt g1) fun i1=>
 vb (gd (isB false i1) (xIdxA 3 1 i (vN 1))) fun j1=>
 vb (gd (isB false i1) (xLd j1 h)) fun k1=>
 vb (gd (isB false i1) (xCmp ilt k1 (vN 0))) fun l1=>
 vb (xPick i1 tt l1) fun m1=>
 vb (gd (isB false m1) (xIdxA 3 1 i (vN 1))) fun o1=>
 vb (gd (isB false m1) (xFld 3 a)) fun p1=>
 vb (gd (isB false m1) (xIdxA 3 1 i (vN 0))) fun q1=>
 vb (gd (isB false m1) (xLd o1 h)) fun r1=>
 vb (gd (isB false m1) (xLd p1 h)) fun s1=>
 vb (gd (isB false m1) (xLd q1 h)) fun t1=>
 vb (gd (isB false m1) (xIdxS 3 s1 t1)) fun v1=>
 vb (gd (isB false m1) (xFld 1 v1)) fun w1=>
 vb (gd (isB false m1) (xLd w1 h)) fun z1=>
 vb (gd (isB false m1) (xLenS z1)) fun a2=>
 vb (gd (isB false m1) (xCmp (fun x y=>ile y x) r1 a2)) fun b2=>
 vb (xPick m1 tt b2) fun c2=>
 vb (gd (isB false c2) (xFld 3 a)) fun d2=>
 vb (gd (isB false c2) (xIdxA 3 1 i (vN 0))) fun e2=>
 vb (gd (isB false c2) (xIdxA 3 1 i (vN 1))) fun f2=>
 vb (gd (isB false c2) (xFld 3 a)) fun g2=>
 vb (gd (isB false c2) (xIdxA 3 1 i (vN 2))) fun i2=>
 vb (gd (isB false c2) (xLd d2 h)) fun j2=>
 vb (gd (isB false c2) (xLd e2 h)) fun k2=>
 vb (gd (isB false c2) (xIdxS 3 j2 k2)) fun l2=>
 vb (gd (isB false c2) (xFld 1 l2)) fun m2=>
 vb (gd (isB false c2) (xLd m2 h)) fun o2=>
 vb (gd (isB false c2) (xLd f2 h)) fun p2=>
 vb (gd (isB false c2) (xIdxS 1 o2 p2)) fun q2=>
 vb (gd (isB false c2) (xLd q2 h)) fun r2=>
 vb (gd (isB false c2) (xLd g2 h)) fun s2=>
 vb (gd (isB false c2) (xLd i2 h)) fun t2=>
 vb (gd (isB false c2) (xIdxS 3 s2 t2)) fun v2=>
 vb (gd (isB false c2) (xFld 0 v2)) fun w2=>
 vb (gd (isB false c2) (xLd w2 h)) fun z2=>
 vb (gd (isB false c2) (xCmp ine r2 z2)) fun a3=>
 vb (xPick c2 tt a3) fun b3=>
 bite b3 (some (Value.tuple ⟨[(vM 0),(vN 6)]⟩,h)) (F18_8 n cl b c a h)
def F18_10(n:Nat)(cl:CL)(a b:Value)(c:Kt)(h:PH):R:=
 vb (xFld 4 a) fun d=>
 vb (xLd d h) fun e=>
 vb (xLenS e) fun f=>
 vb (xCmp ilt b f) fun g=>
 bite g (F18_9 n cl a b c h) (some (Value.tuple ⟨[(vM 0),(vN 0)]⟩,h))
def F18_11(n:Nat)(cl:CL)(a:Value)(h:PH):R:=
 lp n (fun b c h=>ucons c fun d e=>ucons e fun f g=>F18_10 n cl d f b h) [a,(vN 0)] h
def F18_12(n:Nat)(cl:CL)(a b:Value)(c:Kt)(h:PH):R:=
 vb (xFld 3 a) fun d=>
 vb (xLd d h) fun e=>
 vb (xLenS e) fun f=>
 vb (xCmp ilt b f) fun g=>
 bite g (F18_7 n cl a b c h) (F18_11 n cl a h)
def F4_0(n:Nat)(cl:CL)(a b:Value)(c:Kt)(d e f:Value)(h:PH):R:=
 vb (xFld 3 a) fun g=>
 vb (xFld 3 a) fun i=>
 vb (xLd g h) fun j=>
 vb (xLd i h) fun k=>
 vb (xIdxS 3 k (vN 0)) fun l=>
 vb (xFld 1 l) fun m=>
 vb (xLd m h) fun o=>
 hb (xBS 1 (bsRow Tryd.prog 24 1 [(0,(vM 0))]) h) fun p h=>
 hb (xApp (appInfo Tryd.prog #[24,24]) o p h) fun q h=>
 lchk (xLd g h) j<|
 vb (xIdxS 3 j (vN 0)) fun r=>
 vb (xFld 1 r) fun s=>
 hb (xSt1 s q h) fun _ h=>
 vb (xAri Int.add b (vN 1)) fun t=>
 c [d,e,f,a,t] h
def F4_1(n:Nat)(cl:CL)(a b:Value)(c:Kt)(d e f:Value)(h:PH):R:=
 vb (xFld 3 a) fun g=>
 vb (xFld 3 a) fun i=>
 vb (xLd g h) fun j=>
 vb (xLd i h) fun k=>
 vb (xIdxS 3 k (vN 1)) fun l=>
 vb (xFld 1 l) fun m=>
 vb (xLd m h) fun o=>
 hb (xBS 1 (bsRow Tryd.prog 24 1 [(0,(vM 0))]) h) fun p h=>
 hb (xApp (appInfo Tryd.prog #[24,24]) o p h) fun q h=>
 lchk (xLd g h) j<|
 vb (xIdxS 3 j (vN 1)) fun r=>
 vb (xFld 1 r) fun s=>
 hb (xSt1 s q h) fun _ h=>
 vb (xAri Int.add b (vN 1)) fun t=>
 c [d,e,f,a,t] h
def F4_2(n:Nat)(cl:CL)(a:Value)(b:Kt)(c d e f:Value)(h:PH):R:=
 vb (xAri Int.add a (vN 1)) fun g=>
 b [c,d,e,f,g] h
def F4_3(n:Nat)(cl:CL)(a b c d e:Value)(f:Kt)(h:PH):R:=
 vb (xCmp (fun x y=>ile y x) a b) fun g=>
 vb (gd (isB true g) (some a)) fun i=>
 vb (gd (isB true g) (some b)) fun j=>
 vb (gd (isB true g) (xAri Int.sub i j)) fun k=>
 vb (gd (isB true g) (some c)) fun l=>
 vb (gd (isB true g) (xRem k l)) fun m=>
 vb (gd (isB true g) (xCmp ieq m (vN 0))) fun o=>
 vb (xPick g o ff) fun p=>
 vb (pcall (F11 n cl d (vN 0) (vN 0) a (h.fzn))) fun q=>
 vb (abin Tryd.prog .neq 4 (Operand.tmp 112) (Operand.tmp 113) q p) fun r=>
 vb (gd (isB false r) (some d)) fun s=>
 vb (gd (isB false r) (some e)) fun t=>
 vb (gd (isB false r) (some a)) fun v=>
 vb (gd (isB false r) (xAri Int.sub t v)) fun w=>
 vb (gd (isB false r) (some e)) fun z=>
 vb (gd (isB false r) (pcall (F11 n cl s (vN 0) w z (h.fzn)))) fun a1=>
 vb (gd (isB false r) (some p)) fun b1=>
 vb (gd (isB false r) (abin Tryd.prog .neq 4 (Operand.tmp 121) (Operand.tmp 122) a1 b1)) fun c1=>
 vb (xPick r tt c1) fun d1=>
 bite d1 (some (ff,h)) (F4_2 n cl a f e b c d h)
def F4_4(n:Nat)(cl:CL)(a b c d e:Value)(f:Kt)(h:PH):R:=
 vb (xCmp ile a b) fun g=>
 bite g (F4_3 n cl a c d e b f h) (some (tt,h))
def F4_5(n:Nat)(cl:CL)(a:Kt)(b:List Value)(h:PH):R:=
 u5 b fun c d e f g=>F4_4 n cl g c d e f a h
def F4_6(n:Nat)(cl:CL)(a b c d:Value)(h:PH):R:=
 vb (xLdA 7 a h) fun e=>
 hb (xMk (zinfo Tryd.prog 24) b b h) fun f h=>
 hb (F9 n cl e f h) fun g h=>
 vb (xExt 0 g) fun i=>
 vb (xExt 1 g) fun j=>
 vb (pcall (F10 n cl j (h.fzn))) fun k=>
 vb (xCmp ine k (vN 0)) fun l=>
 vb (gd (isB false l) (some i)) fun m=>
 vb (gd (isB false l) (abin Tryd.prog .eql 31 (Operand.tmp 91) (Operand.const (Value.pointer none)) m (Value.pointer none))) fun o=>
 vb (xPick l tt o) fun p=>
 bite p (some (ff,h)) (lp n (F4_5 n cl) [b,c,d,i,(vN 0)] h)
def F4_7(n:Nat)(cl:CL)(a b c:Value)(d:Kt)(e f:Value)(h:PH):R:=
 vb (xCmp ilt a b) fun g=>
 bite g (F4_1 n cl c a d e f b h) (F4_6 n cl c e f b h)
def F4_8(n:Nat)(cl:CL)(a:Kt)(b:List Value)(h:PH):R:=
 u5 b fun c d e f g=>F4_7 n cl g e f a c d h
def F4_9(n:Nat)(cl:CL)(a b c:Value)(d:Kt)(e f:Value)(h:PH):R:=
 vb (xCmp ilt a b) fun g=>
 bite g (F4_0 n cl c a d e b f h) (lp n (F4_8 n cl) [e,b,f,c,(vN 0)] h)
def F4_10(n:Nat)(cl:CL)(a:Kt)(b:List Value)(h:PH):R:=
 u5 b fun c d e f g=>F4_9 n cl g d f a c e h
def F4_11(n:Nat)(cl:CL)(a b c:Value)(h:PH):R:=
 vb (abuild Tryd.prog 37 []) fun d=>
 hb (xBS 1 (bsRow Tryd.prog 24 1 [(0,(vN 0))]) h) fun e h=>
 vb (abuild Tryd.prog 37 [(1,e)]) fun f=>
 hb (xBS 2 (bsRow Tryd.prog 22 2 [(0,d),(1,f)]) h) fun g h=>
 vb (abuild Tryd.prog 26 [(0,(vN 1)),(1,(vN 1)),(3,g)]) fun i=>
 hb (xAlloc (zcells Tryd.prog 26) h) fun j h=>
 hb (xStA 7 j i h) fun _ h=>
 lp n (F4_10 n cl) [a,b,c,j,(vN 0)] h
def F4(n:Nat)(cl:CL)(a b c:Value)(h:PH):R:=
 vb (pcall (cl 6 [] (h.fzn))) fun d=>
 vb (xNot d) fun e=>
 vb (gd (isB false e) (some a)) fun f=>
 vb (gd (isB false e) (xCmp ilt f (vN 0))) fun g=>
 vb (xPick e tt g) fun i=>
 vb (gd (isB false i) (some a)) fun j=>
 vb (gd (isB false i) (xCmp (fun x y=>ilt y x) j (vN 30))) fun k=>
 vb (xPick i tt k) fun l=>
 vb (gd (isB false l) (some b)) fun m=>
 vb (gd (isB false l) (xCmp ilt m (vN 1))) fun o=>
 vb (xPick l tt o) fun p=>
 vb (gd (isB false p) (some b)) fun q=>
 vb (gd (isB false p) (xCmp (fun x y=>ilt y x) q (vN 8))) fun r=>
 vb (xPick p tt r) fun s=>
 vb (gd (isB false s) (some c)) fun t=>
 vb (gd (isB false s) (xCmp ilt t (vN 1))) fun v=>
 vb (xPick s tt v) fun w=>
 vb (gd (isB false w) (some c)) fun z=>
 vb (gd (isB false w) (xCmp (fun x y=>ilt y x) z (vN 7))) fun a1=>
 vb (xPick w tt a1) fun b1=>
 bite b1 (some (d,h)) (F4_11 n cl a b c h)
theorem S4:OkF Tryd.prog 4 (A3 (F4 n cl)):=exA3 n ⟨[6,10,11],[],[(6,[0,1,2,8,9]),(10,[0,1,2,8,10]),(17,[0,1,2,11,13])],[(8,[0,2,1,3,4,5,6,7,8,9,10,11]),(12,[0,2,1,3,4,5,6,7,8,9,10,11]),(13,[1,0,2,3,4,5,6,7,8])],[(8,[1,8]),(12,[1,8])],[],[],[]⟩ (svc_ok (S9 n hcl) (svc_ok (S10 n hcl) (svc_ok (S11 n hcl) hcl))) hmx Tryd.func4 (by kernel_rfl) fun _ _ _ _=>by kernel_rfl
end
def CLs(n:Nat)(ih:CL):CL:=(svc 67 (A1 (F67 n ih)) (svc 61 (A2 (F61 n ih)) (svc 49 (A2 (F49 n ih)) CNo)))
theorem CLs_ok{n:Nat}{ih:CL}(hcl:OkCL Tryd.prog ih):OkCL Tryd.prog (CLs n ih):=(svc_ok (S67 n hcl) (svc_ok (S61 n hcl) (svc_ok (S49 n hcl) (CNo_ok _))))
def CLV(n d:Nat):CL:=Nat.rec (motive:=fun _=>CL) CNo (fun _ ih=>CLs n ih) d
theorem CLV_ok(n:Nat): ∀d,OkCL Tryd.prog (CLV n d)
 |0=>CNo_ok _
 | .succ d=>CLs_ok (CLV_ok n d)
end
end Go.Am
