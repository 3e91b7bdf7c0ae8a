import Derived.Test.YtdmfanikejcgjaaB6
import Derived.Laws.Cells
import Derived.Laws.BytesString
import Derived.Laws.IdiomCopy
set_option linter.unusedSimpArgs false
set_option linter.unusedVariables false
namespace Go.Am
open Go Go.RowKit

/-! ### what is read from memory -/
def aload (P : Program) (T : TypeId) (x : Value) (h : Heap) : Option Value :=
  match x with
  | .pointer (some ⟨b, o, none⟩) => match h[b]? with
    | some (.row _ _ cs) => apart P T cs o
    | _ => none
  | _ => none

def findAskA (P : Program) (kt : TypeId) (k : Value) : List MapEntry → Nat → Option (Option (Nat × Value))
  | [], _ => some none
  | e :: es, i => match pureRun P (Op.equal kt k e.key) with
    | some true => some (some (i, e.val))
    | some false => findAskA P kt k es (i + 1)
    | none => none

def keysPlain (es : List MapEntry) : Bool := es.all fun e => plainV e.key

def afind (P : Program) (kt : TypeId) (k : Value) (es : List MapEntry) : Option (Option (Nat × Value)) :=
  match P.underlying kt with
  | some d => match Instr.findNow d k es 0 with
    | some r => some r
    | none => findAskA P kt k es 0
  | none => none

def alookup (P : Program) (T : TypeId) (x k : Value) (ok : Bool) (h : Heap) : Option Value :=
  match P.underlying T with
  | some (.map kt et) =>
    let es? : Option (List MapEntry) := match x with
      | .map none => some []
      | .map (some b) => match h[b]? with
        | some (.map es _) => some es
        | _ => none
      | _ => none
    match es? with
    | none => none
    | some es =>
      if plainV k && keysPlain es then
        match pureRun P (Instr.checkKey es.isEmpty 10000 kt k) with
        | none => none
        | some _ => match afind P kt k es with
          | none => none
          | some (some (_, v)) => some (if ok then .tuple ⟨[v, .bool true]⟩ else v)
          | some none => match P.info? et with
            | some i => match i.zero with
              | some z => if plainV z then some (if ok then .tuple ⟨[z, .bool false]⟩ else z) else none
              | none => none
            | none => none
      else none
  | _ => none

def bytesOf : List Value → Option (List Int)
  | [] => some []
  | .int .u8 n :: xs => match bytesOf xs with
    | some ns => some (n :: ns)
    | none => none
  | _ => none

def abytesStr (P : Program) (s d : TypeId) (x : Value) (h : Heap) : Option Value :=
  match P.underlying s, P.underlying d, x with
  | some (.slice e), some .string, .slice (some ⟨b, o, none⟩) n _ => match P.underlying e, P.info? e with
    | some (.int .u8), some _ => match h[b]? with
      | some (.row _ _ cs) => if o + n ≤ cs.length then match bytesOf ((cs.drop o).take n) with
          | some ns => some (.string (ns.foldl (fun r n => r.push (UInt8.ofNat n.toNat)) ByteArray.empty))
          | none => none
        else none
      | _ => none
    | _, _ => none
  | _, _, _ => none

def amapLen (P : Program) (ats : Array TypeId) (vs : List Value) (h : Heap) : Option Value :=
  match ats[0]?, vs with
  | some T, [.map (some b)] => match P.underlying T, h[b]? with
    | some (.map _ _), some (.map es _) => some (.int .i64 es.length)
    | _, _ => none
  | _, _ => none

/-- An operation that reads memory and leaves it. -/
def aread (P : Program) (o : Oper) (t : Tm) (h : Heap) : Option Value :=
  match o.op with
  | .load T x => match ev t x with
    | some v => aload P T v h
    | none => none
  | .lookup T x k ok => match ev t x, ev t k with
    | some v, some k => alookup P T v k ok h
    | _, _ => none
  | .convert s d x => match ev t x with
    | some v => abytesStr P s d v h
    | none => none
  | .call ⟨.builtin .len, args, ats⟩ => match evs t args.toList with
    | some vs => amapLen P ats vs h
    | none => none
  | _ => none

section
variable {P : Program} {B : Nat} {w0 : World} {ρ : RMap} {h : Heap} {w : World} {t : Tm} {ts : List Value}

theorem cells_ex {cs : List Value} {f : Nat → Option Value} (hf : ∀ (i : Nat) v, cs[i]? = some v → ∃ v', f i = some v' ∧ VR ρ v v') :
    ∃ vs, VRs ρ cs vs ∧ ∀ (i : Nat) v, vs[i]? = some v → f i = some v := by
  induction cs generalizing f with
  | nil => exact ⟨[], .nil, by simp⟩
  | cons c cs ih =>
    obtain ⟨v', h1, h2⟩ := hf 0 c (by simp)
    obtain ⟨vs, h3, h4⟩ := ih (f := fun i => f (i + 1)) (fun i v hi => hf (i + 1) v (by simpa using hi))
    refine ⟨v' :: vs, .cons h2 h3, fun i v hi => ?_⟩
    cases i with
    | zero => simp at hi; subst hi; exact h1
    | succ i => exact h4 i v (by simpa using hi)

/-- Cells of a row, from a place on, read. -/
theorem Rel.cells (hr : Rel B w0 ρ h w) {b : Nat} {m : Mode} {esz : Nat} {cs : List Value} (ho : h[b]? = some (.row m esz cs)) {L : RLoc} (hL : ρ b = some L) (o n : Nat) :
    ∃ vs, VRs ρ ((cs.drop o).take n) vs ∧ ∀ (j : Nat) v, vs[j]? = some v → w.cell? ((Addr.mk L.blk (L.off + o) none).add j) = some v := by
  apply cells_ex
  intro i v hi
  have hi' : cs[o + i]? = some v := by
    rw [List.getElem?_take] at hi
    split at hi
    · simpa using hi
    · cases hi
  obtain ⟨v', h1, h2⟩ := hr.cell ho hL hi'
  exact ⟨v', by rw [addr_add, Nat.add_assoc]; exact h1, h2⟩

theorem aload_ok (hr : Rel B w0 ρ h w) {T : TypeId} {x x' v : Value} (hv : aload P T x h = some v) (hx : VR ρ x x') : ∃ v', VR ρ v v' ∧ (Instr.loadAt T x').run P w = .ok v' w := by
  unfold aload at hv
  split at hv
  · rename_i b o
    split at hv
    · rename_i m esz cs hb
      cases hx with
      | @ptr b o L hL =>
        unfold apart at hv
        have agg : ∀ (i : TypeInfo) (d : TypeDesc), P.underlying T = some d → aggT P T = true → P.info? T = some i → o + i.size ≤ cs.length → v = .agg ⟨(cs.drop o).take i.size⟩ →
            ∃ v', VR ρ v v' ∧ (Instr.loadAt T (.pointer (some ⟨L.blk, L.off + o, none⟩))).run P w = .ok v' w := by
          rintro i d hu ha hi hle rfl
          obtain ⟨vs, h1, h2⟩ := hr.cells hb hL o i.size
          refine ⟨_, .agg h1, ?_⟩
          have hlen : vs.length = i.size := by rw [← h1.length]; simp; omega
          have := run_loadCells_list (P := P) w _ vs h2
          rw [hlen] at this
          simp only [Instr.loadAt, Instr.sureAddr, Sem.run_bind, Sem.run_pure, Result.andThen_ok, loadVar, run_isAgg' hu, ha, if_true, run_sizeOf' hi, this]
        split at hv
        · rename_i fs hu
          split at hv
          · rename_i i hi
            split at hv <;> simp at hv
            exact agg i _ hu (by simp [aggT, hu]) hi ‹_› hv.symm
          · cases hv
        · rename_i n e hu
          split at hv
          · rename_i i hi
            split at hv <;> simp at hv
            exact agg i _ hu (by simp [aggT, hu]) hi ‹_› hv.symm
          · cases hv
        · rename_i d hu1 hu2 hu
          obtain ⟨v', h1, h2⟩ := hr.cell hb hL hv
          refine ⟨v', h2, ?_⟩
          have hn : aggT P T = false := by
            unfold aggT
            rw [hu]
            cases d <;> first | rfl | (exact (hu1 _ rfl).elim) | (exact (hu2 _ _ rfl).elim)
          simp only [Instr.loadAt, Instr.sureAddr, Sem.run_bind, Sem.run_pure, Result.andThen_ok, loadVar, run_isAgg' hu, hn, Bool.false_eq_true, if_false]
          rw [run_load]
          simp [h1]
        · cases hv
    · cases hv
  · cases hv

/-- What was found in a map. -/
def FR (ρ : RMap) : Option (Nat × Value) → Option (Nat × Value) → Prop
  | none, none => True
  | some (j, v), some (j', v') => j = j' ∧ VR ρ v v'
  | _, _ => False

theorem findNow_ok {d : TypeDesc} {k : Value} {es es' : List MapEntry} (he : ERs ρ es es') (hp : keysPlain es = true) {i : Nat} :
    (∀ r, Instr.findNow d k es i = some r → ∃ r', Instr.findNow d k es' i = some r' ∧ FR ρ r r') ∧ (Instr.findNow d k es i = none → Instr.findNow d k es' i = none) := by
  induction he generalizing i with
  | nil => refine ⟨fun r hr => ?_, fun hn => ?_⟩ <;> simp [Instr.findNow] at *; subst hr; trivial
  | @cons k1 k2 v1 v2 b xs ys hk hv _ ih =>
    simp only [keysPlain, List.all_cons, Bool.and_eq_true] at hp
    obtain rfl := hk.plain_eq hp.1
    have ih' := @ih hp.2 (i + 1)
    simp only [Instr.findNow]
    cases Instr.sameNow d k k2 with
    | none => simp
    | some q => cases q with
      | true => simp [FR, hv]
      | false => exact ih'

theorem findAskA_ok {kt : TypeId} {k : Value} {es es' : List MapEntry} (he : ERs ρ es es') (hp : keysPlain es = true) {i : Nat} {r : Option (Nat × Value)} (hr : findAskA P kt k es i = some r) :
    ∃ r' : Option (Nat × Value), (∀ w, (Instr.findAsking kt k es' i).run P w = .ok r' w) ∧ FR ρ r r' := by
  induction he generalizing i with
  | nil => simp [findAskA] at hr; subst hr; exact ⟨none, fun w => rfl, trivial⟩
  | @cons k1 k2 v1 v2 b xs ys hk hv _ ih =>
    simp only [keysPlain, List.all_cons, Bool.and_eq_true] at hp
    obtain rfl := hk.plain_eq hp.1
    simp only [findAskA] at hr
    split at hr
    · rename_i hq
      simp at hr; subst hr
      refine ⟨some (i, v2), fun w => ?_, rfl, hv⟩
      simp only [Instr.findAsking, Sem.run_bind, pureRun_ok hq, Result.andThen_ok, if_true, Sem.run_pure]
    · rename_i hq
      obtain ⟨r', h1, h2⟩ := ih hp.2 hr
      refine ⟨r', fun w => ?_, h2⟩
      simp only [Instr.findAsking, Sem.run_bind, pureRun_ok hq, Result.andThen_ok, Bool.false_eq_true, if_false, h1]
    · cases hr

theorem afind_ok {kt : TypeId} {k : Value} {es es' : List MapEntry} (he : ERs ρ es es') (hp : keysPlain es = true) {r : Option (Nat × Value)} (hr : afind P kt k es = some r) :
    ∃ r' : Option (Nat × Value), (∀ w, (Instr.findKey kt k es').run P w = .ok r' w) ∧ FR ρ r r' := by
  unfold afind at hr
  split at hr
  · rename_i d hd
    split at hr
    · rename_i r1 hn
      simp at hr; subst hr
      obtain ⟨r', h1, h2⟩ := (findNow_ok he hp).1 _ hn
      refine ⟨r', fun w => ?_, h2⟩
      simp only [Instr.findKey, Sem.run_bind, run_underlying' hd, Result.andThen_ok, h1, Sem.run_pure]
    · rename_i hn
      obtain ⟨r', h1, h2⟩ := findAskA_ok he hp hr
      refine ⟨r', fun w => ?_, h2⟩
      simp only [Instr.findKey, Sem.run_bind, run_underlying' hd, Result.andThen_ok, (findNow_ok he hp).2 hn, h1]
  · cases hr

theorem ERs.length {es es' : List MapEntry} (he : ERs ρ es es') : es.length = es'.length := by induction he <;> simp_all

theorem run_getObj_map {b clock : Nat} {es : List MapEntry} (hb : w.heap[b]? = some (.map ⟨es⟩ clock)) : (getObj b).run P w = .ok (.map ⟨es⟩ clock) w := by
  simp [getObj, Sem.run, hb]

theorem alookup_ok (hr : Rel B w0 ρ h w) {T : TypeId} {x x' k k' v : Value} {ok : Bool} (hv : alookup P T x k ok h = some v) (hx : VR ρ x x') (hk : VR ρ k k') :
    ∃ v', VR ρ v v' ∧ (Instr.lookup T x' k' ok).run P w = .ok v' w := by
  unfold alookup at hv
  split at hv
  rotate_left
  · cases hv
  rename_i kt et hu
  dsimp only at hv
  split at hv
  · cases hv
  rename_i es hes
  split at hv
  rotate_left
  · cases hv
  rename_i hp
  simp only [Bool.and_eq_true] at hp
  obtain rfl := hk.plain_eq hp.1
  -- the true entries
  have real : ∃ es', ERs ρ es es' ∧ (x' = .map none ∧ es' = [] ∨ ∃ r clock, x' = .map (some r) ∧ w.heap[r]? = some (.map ⟨es'⟩ clock)) := by
    split at hes
    · simp at hes; subst hes
      cases hx
      exact ⟨[], .nil, .inl ⟨rfl, rfl⟩⟩
    · rename_i b
      split at hes
      · rename_i es2 clock hb
        simp at hes; subst hes
        cases hx with
        | @map b L hL =>
          obtain ⟨L', hL', hO⟩ := hr.obj b _ hb
          obtain rfl : L = L' := by rw [hL] at hL'; exact Option.some.inj hL'
          obtain ⟨_, es', h1, h2⟩ := hO
          exact ⟨es', h2, .inr ⟨_, _, rfl, h1⟩⟩
      · cases hes
    · cases hes
  obtain ⟨es', he, hrun⟩ := real
  split at hv
  · cases hv
  rename_i hck
  have hem : (Array.mk es').isEmpty = es.isEmpty := by
    have := he.length
    cases es <;> cases es' <;> simp_all
  have hck' : ∀ w, (Instr.checkKey (Array.mk es').isEmpty 10000 kt k').run P w = .ok () w := fun w => by rw [hem]; exact pureRun_ok hck w
  split at hv
  · cases hv
  · rename_i i u hf
    obtain ⟨r', h1, h2⟩ := afind_ok he hp.2 hf
    simp at hv; subst hv
    cases r' with
    | none => exact h2.elim
    | some p =>
      obtain ⟨j', u'⟩ := p
      have hv : VR ρ (if ok then .tuple ⟨[u, .bool true]⟩ else u) (if ok then .tuple ⟨[u', .bool true]⟩ else u') := by
        cases ok
        · exact h2.2
        · exact .tuple (.cons h2.2 (.cons (.bool _) .nil))
      refine ⟨_, hv, ?_⟩
      rcases hrun with ⟨rfl, rfl⟩ | ⟨r, clock, rfl, hb⟩
      · simp only [Instr.lookup, Sem.run_bind, run_underlying' hu, Result.andThen_ok, Sem.run_pure, hck', h1]
      · simp only [Instr.lookup, Sem.run_bind, run_underlying' hu, Result.andThen_ok, Sem.run_pure, run_getObj_map hb, hck', h1]
  · rename_i hf
    obtain ⟨r', h1, h2⟩ := afind_ok he hp.2 hf
    split at hv
    · rename_i inf hinf
      split at hv
      · rename_i z hz
        split at hv <;> simp at hv
        subst hv
        rename_i hpz
        cases r' with
        | some p => exact h2.elim
        | none =>
          have hv : VR ρ (if ok then .tuple ⟨[z, .bool false]⟩ else z) (if ok then .tuple ⟨[z, .bool false]⟩ else z) := by
            cases ok
            · exact VR.plain hpz
            · exact .tuple (.cons (VR.plain hpz) (.cons (.bool _) .nil))
          refine ⟨_, hv, ?_⟩
          rcases hrun with ⟨rfl, rfl⟩ | ⟨r, clock, rfl, hb⟩
          · simp only [Instr.lookup, Sem.run_bind, run_underlying' hu, Result.andThen_ok, Sem.run_pure, hck', h1, run_zeroValue' hinf hz]
          · simp only [Instr.lookup, Sem.run_bind, run_underlying' hu, Result.andThen_ok, Sem.run_pure, run_getObj_map hb, hck', h1, run_zeroValue' hinf hz]
      · cases hv
    · cases hv

theorem bytesOf_ok {xs ys : List Value} (hx : VRs ρ xs ys) {ns : List Int} (hb : bytesOf xs = some ns) : ys = ns.map (Value.int .u8) := by
  induction xs generalizing ys ns with
  | nil => cases hx; simp [bytesOf] at hb; subst hb; rfl
  | cons x xs ih =>
    cases hx with
    | cons h1 h2 =>
      unfold bytesOf at hb
      split at hb
      · rename_i heq; cases heq
      · rename_i n xs' heq
        cases heq
        split at hb
        · rename_i ns' hn
          simp at hb; subst hb
          cases h1
          rw [ih h2 hn]; rfl
        · cases hb
      · cases hb

theorem abytesStr_ok (hr : Rel B w0 ρ h w) {s d : TypeId} {x x' v : Value} (hv : abytesStr P s d x h = some v) (hx : VR ρ x x') : ∃ v', VR ρ v v' ∧ (convert s d x').run P w = .ok v' w := by
  unfold abytesStr at hv
  split at hv
  · rename_i e b o n c hs hd
    split at hv
    · rename_i inf he hinf
      split at hv
      · rename_i m esz cs hb
        split at hv
        · rename_i hle
          split at hv
          · rename_i ns hns
            simp at hv; subst hv
            refine ⟨_, .string _, ?_⟩
            have fin : ∀ (L : RLoc) (c' : Nat), ρ b = some L → (convert s d (.slice (some ⟨L.blk, L.off + o, none⟩) n c')).run P w = .ok (.string (ns.foldl (fun r n => r.push (UInt8.ofNat n.toNat)) ByteArray.empty)) w := by
              intro L c' hL
              obtain ⟨vs, h1, h2⟩ := hr.cells hb hL o n
              have hlen : vs.length = n := by rw [← h1.length]; simp; omega
              have hvs := bytesOf_ok h1 hns
              have := run_loadCells_list (P := P) w _ vs h2
              rw [hlen, hvs] at this
              rw [run_convert_bytes_string w s d e _ _ _ hs he hd, run_bytesToString w _ n c' ns this]
            cases hx with
            | sl hL hc => exact fin _ _ hL
            | slo hL hc hcc hn => exact fin _ _ hL
            | @slz b o c L a' hL hc hcz =>
              simp [bytesOf] at hns
              subst hns
              rw [run_convert_bytes_string w s d e _ _ _ hs he hd]
              have : (loadCells a' 0).run P w = .ok (([] : List Int).map (Value.int .u8)).toArray w := rfl
              exact run_bytesToString w a' 0 0 [] this
            | @sl0 b o L a' hL =>
              simp [bytesOf] at hns
              subst hns
              rw [run_convert_bytes_string w s d e _ _ _ hs he hd]
              have : (loadCells a' 0).run P w = .ok (([] : List Int).map (Value.int .u8)).toArray w := rfl
              exact run_bytesToString w a' 0 0 [] this
          · cases hv
        · cases hv
      · cases hv
    · cases hv
  · cases hv

theorem amapLen_ok (hr : Rel B w0 ρ h w) {ats : Array TypeId} {ty : TypeId} {vs us : List Value} {v : Value} (hv : amapLen P ats vs h = some v) (hx : VRs ρ vs us) : ∃ v', VR ρ v v' ∧ (Builtin.len_ ats ty ⟨us⟩).run P w = .ok v' w := by
  unfold amapLen at hv
  split at hv
  · rename_i T b hT
    split at hv
    · rename_i kt et es clock hu hb
      simp at hv; subst hv
      cases hx with
      | cons hx hn =>
        cases hn
        cases hx with
        | @map b L hL =>
          obtain ⟨L', hL', hO⟩ := hr.obj b _ hb
          obtain rfl : L = L' := by rw [hL] at hL'; exact Option.some.inj hL'
          obtain ⟨_, es', h1, h2⟩ := hO
          refine ⟨_, .int _ _, ?_⟩
          simp only [Builtin.len_, hT, List.getElem?_toArray, List.getElem?_cons_zero, Sem.run_bind, run_underlying' hu, Result.andThen_ok, Sem.run_pure, goInt, run_getObj_map h1]
          simp [h2.length]
    · cases hv
  · cases hv

/-- Soundness of the operations that read. -/
theorem aread_ok (hr : Rel B w0 ρ h w) {o : Oper} {v : Value} (hv : aread P o t h = some v) (ht : TRs ρ t ts) :
    ∃ v', VR ρ v v' ∧ (execOp (tev ts) o).run P w = .ok (.value v') w := by
  obtain ⟨dst, op, ty, pos, aft, grd⟩ := o
  unfold aread at hv
  split at hv
  · rename_i T x hop; dsimp only at hop; subst hop
    split at hv
    · rename_i v0 hx
      obtain ⟨v', h1, h2⟩ := aload_ok hr hv (ev_ok ht hx)
      exact ⟨v', h1, by simp only [execOp, Sem.run_bind, h2]; rfl⟩
    · cases hv
  · rename_i T x k ok hop; dsimp only at hop; subst hop
    split at hv
    · rename_i v0 k0 hx hk
      obtain ⟨v', h1, h2⟩ := alookup_ok hr hv (ev_ok ht hx) (ev_ok ht hk)
      exact ⟨v', h1, by simp only [execOp, Sem.run_bind, h2]; rfl⟩
    · cases hv
  · rename_i s d x hop; dsimp only at hop; subst hop
    split at hv
    · rename_i v0 hx
      obtain ⟨v', h1, h2⟩ := abytesStr_ok hr hv (ev_ok ht hx)
      exact ⟨v', h1, by simp only [execOp, Sem.run_bind, h2]; rfl⟩
    · cases hv
  · rename_i args ats hop; dsimp only at hop; subst hop
    split at hv
    · rename_i vs hvs
      have e : args.map (tev ts) = ⟨args.toList.map (tev ts)⟩ := by apply Array.ext'; simp
      obtain ⟨v', h1, h2⟩ := amapLen_ok (ty := ty) hr hv (evs_ok ht hvs)
      exact ⟨v', h1, by simp only [execOp, resolve, Sem.run_bind, Sem.run_pure, Result.andThen_ok, invoke, builtin, e, h2]⟩
    · cases hv
  · cases hv
end
end Go.Am
