import Derived.Test.YtdmfanikejcgjaaX4
set_option linter.unusedSimpArgs false
set_option linter.unusedVariables false
namespace Go.Am
open Go Go.RowKit

abbrev CL := FuncId → List Value → PH → R
/-- The calls that are told are true. -/
def OkCL (P : Program) (cl : CL) : Prop := ∀ f args h v h', cl f args h = some (v, h') → (enterable P f = true ∧ ACall P f args h.abs (fun u k => u = v ∧ k = h'.abs)) ∧ Inv h h'

def xUn (P : Program) (op : UnOp) (a : Value) : Option Value := if plainV a then prun P (Op.unary op a) else none
def xConv (P : Program) (s d : TypeId) (a : Value) : Option Value := if plainV a then prun P (convert s d a) else none
def xExt (i : Nat) (v : Value) : Option Value := match v with
  | .tuple ⟨vs⟩ => vs[i]?
  | _ => none
def xNil (v : Value) : Option Value := match v with
  | .pointer (some a) => some (.pointer (some a))
  | .func (.func f) a b => some (.func (.func f) a b)
  | _ => none
def xLenS (v : Value) : Option Value := match v with
  | .slice _ n _ => seqN n fun n => some (.int .i64 (.ofNat n))
  | _ => none
def xLenT (v : Value) : Option Value := match v with
  | .string s => seqN s.size fun n => some (.int .i64 (.ofNat n))
  | _ => none
noncomputable def xB2S (x : Value) (h : PH) : Option Value := match x with
  | .slice (some ⟨b, o, none⟩) n _ => match h.raw b with
    | some (.row _ _ cs) => match Nat.ble (Nat.add o n) cs.length with
      | true => match bytesOf ((cs.drop o).take n) with
        | some ns => some (.string (ns.foldl (fun r n => r.push (UInt8.ofNat n.toNat)) ByteArray.empty))
        | none => none
      | false => none
    | _ => none
  | _ => none
noncomputable def xS2B (x : Value) (h : PH) : R := match x with
  | .string str => match h.push (.row .opn 1 (str.data.toList.map fun b => .int .u8 b.toNat)) with
    | some h' => some (.slice (some ⟨h.n, 0, none⟩) str.size openCap, h')
    | none => none
  | _ => none
/-- bytes to a string: 1; a string to bytes: 2. -/
def convK (P : Program) (s d : TypeId) : Nat := match P.underlying s, P.underlying d with
  | some (.slice e), some .string => match P.underlying e, P.info? e with
    | some (.int .u8), some _ => 1
    | _, _ => 0
  | some .string, some (.slice e) => match P.underlying e with
    | some (.int .u8) => 2
    | _ => 0
  | _, _ => 0

/-! ### maps -/
noncomputable def phMap (x : Value) (h : PH) : Option (Nat × List MapEntry × Nat) := match x with
  | .map (some b) => match h.get b with
    | some (.map es c) => some (b, es, c)
    | _ => none
  | _ => none
def lkE (P : Program) (kt et : TypeId) (k : Value) (ok : Bool) (es : List MapEntry) : Option Value :=
  if plainV k && keysPlain es then
    match pureRun P (Instr.checkKey es.isEmpty 10000 kt k) with
    | none => none
    | some _ => match afind P kt k es with
      | none => none
      | some (some (_, v)) => some (if ok then .tuple ⟨[v, .bool true]⟩ else v)
      | some none => match P.info? et with
        | some i => match i.zero with
          | some z => if plainV z then some (if ok then .tuple ⟨[z, .bool false]⟩ else z) else none
          | none => none
        | none => none
  else none
def mapT (P : Program) (T : TypeId) : Option (TypeId × TypeId) := match P.underlying T with
  | some (.map kt et) => some (kt, et)
  | _ => none
noncomputable def xLkp (P : Program) (kt et : TypeId) (ok : Bool) (x k : Value) (h : PH) : Option Value := match x with
  | .map none => lkE P kt et k ok []
  | _ => match phMap x h with
    | some (_, es, _) => lkE P kt et k ok es
    | none => none
noncomputable def xMLen (x : Value) (h : PH) : Option Value := match x with
  | .map none => some (.int .i64 0)
  | _ => match phMap x h with
    | some (_, es, _) => seqN es.length fun n => some (.int .i64 (.ofNat n))
    | none => none
noncomputable def pset (h : PH) (b : Nat) (o : AObj) (v : Value) : R := match h.set b o with
  | some h' => some (v, h')
  | none => none
noncomputable def xMUpd (P : Program) (kt : TypeId) (x k v : Value) (h : PH) : R := match phMap x h with
  | some (b, es, clock) =>
    if plainV k && keysPlain es then
      match pureRun P (Instr.checkKey false 10000 kt k) with
      | none => none
      | some _ => match afind P kt k es with
        | none => none
        | some (some (i, _)) => if Instr.sameBits 10000 (((es[i]?).map (·.key)).getD k) k then pset h b (.map (es.modify i fun e => { e with key := k, val := v }) clock) undef else none
        | some none => pset h b (.map (es ++ [⟨k, v, clock⟩]) (clock + 1)) undef
    else none
  | none => none
noncomputable def xMDel (P : Program) (kt : TypeId) (x k : Value) (h : PH) : R := match phMap x h with
  | some (b, es, clock) =>
    if plainV k && keysPlain es then
      match pureRun P (Instr.checkKey es.isEmpty 10000 kt k) with
      | none => none
      | some _ => match afind P kt k es with
        | none => none
        | some (some (i, _)) => pset h b (.map (es.eraseIdx i) clock) (.tuple #[])
        | some none => pset h b (.map es clock) (.tuple #[])
    else none
  | none => none
noncomputable def xMMk (h : PH) : R := match h.push (.map [] 0) with
  | some h' => some (.map (some h.n), h')
  | none => none

theorem phMap_ok {x : Value} {h : PH} {b c : Nat} {es : List MapEntry} (hp : phMap x h = some (b, es, c)) : x = .map (some b) ∧ h.abs[b]? = some (.map es c) := by
  unfold phMap at hp
  split at hp <;> try (cases hp; done)
  split at hp <;> try (cases hp; done)
  rename_i hg
  cases hp
  exact ⟨rfl, PH.get_abs hg⟩
theorem pset_ok {h h' : PH} {b : Nat} {o : AObj} {v u : Value} (hp : pset h b o v = some (u, h')) : u = v ∧ h'.abs = h.abs.set b o := by
  unfold pset at hp
  split at hp <;> try (cases hp; done)
  rename_i hs
  cases hp
  exact ⟨rfl, PH.set_abs hs⟩
theorem mapT_ok {P : Program} {T kt et : TypeId} (h : mapT P T = some (kt, et)) : P.underlying T = some (.map kt et) := by
  unfold mapT at h
  split at h <;> (cases h; try assumption)
theorem xLkp_ok {P : Program} {T kt et : TypeId} {ok : Bool} {x k v : Value} {h : PH} (hT : mapT P T = some (kt, et)) (hx : xLkp P kt et ok x k h = some v) : alookup P T x k ok h.abs = some v := by
  unfold xLkp at hx
  unfold alookup
  simp only [mapT_ok hT]
  split at hx
  · exact hx
  · split at hx <;> try (cases hx; done)
    rename_i hp
    obtain ⟨rfl, h2⟩ := phMap_ok hp
    simp only [h2]
    exact hx
theorem xMUpd_ok {P : Program} {T kt et : TypeId} {x k v u : Value} {h h' : PH} (hT : mapT P T = some (kt, et)) (hx : xMUpd P kt x k v h = some (u, h')) : u = undef ∧ amapUpdate P T x k v h.abs = some h'.abs := by
  unfold xMUpd at hx
  split at hx <;> try (cases hx; done)
  rename_i b es clock hp
  obtain ⟨rfl, h2⟩ := phMap_ok hp
  unfold amapUpdate
  simp only [mapT_ok hT, h2]
  split at hx
  rotate_left
  · cases hx
  rename_i hc
  rw [if_pos hc]
  split at hx
  · cases hx
  rename_i hk
  simp only [hk]
  split at hx
  · cases hx
  · rename_i hf
    simp only [hf]
    split at hx
    · rename_i hsb
      rw [if_pos hsb]
      obtain ⟨rfl, h3⟩ := pset_ok hx
      exact ⟨rfl, by rw [h3]⟩
    · cases hx
  · rename_i hf
    simp only [hf]
    obtain ⟨rfl, h3⟩ := pset_ok hx
    exact ⟨rfl, by rw [h3]⟩
theorem xMDel_ok {P : Program} {T kt et : TypeId} {ats : Array TypeId} (h0 : ats[0]? = some T) {x k u : Value} {h h' : PH} (hT : mapT P T = some (kt, et)) (hx : xMDel P kt x k h = some (u, h')) : adelete P ats [x, k] h.abs = some (u, h'.abs) := by
  unfold xMDel at hx
  split at hx <;> try (cases hx; done)
  rename_i b es clock hp
  obtain ⟨rfl, h2⟩ := phMap_ok hp
  unfold adelete
  simp only [h0, mapT_ok hT, h2]
  split at hx
  rotate_left
  · cases hx
  rename_i hc
  rw [if_pos hc]
  split at hx
  · cases hx
  rename_i hk
  simp only [hk]
  split at hx
  · cases hx
  · rename_i hf
    simp only [hf]
    obtain ⟨rfl, h3⟩ := pset_ok hx
    rw [h3]
  · rename_i hf
    simp only [hf]
    obtain ⟨rfl, h3⟩ := pset_ok hx
    rw [h3]

/-! ### one operation -/
/-- Asks, and turns nothing. -/
noncomputable def opV (P : Program) (pu : List Nat) (cl : CL) (o : Op) (ty : TypeId) (t : Tm) (h : PH) : Option Value :=
  match o with
  | .move x => ev t x
  | .assign x => ev t x
  | .pick c a b => match ev t c, ev t a, ev t b with
    | some c, some a, some b => xPick c a b
    | _, _, _ => none
  | .build T parts => match evp t parts.toList with
    | some ps => abuild P T ps
    | none => none
  | .nilCheck x => match ev t x with
    | some a => xNil a
    | none => none
  | .binOp op T x y _ => match ev t x, ev t y with
    | some a, some b => match intT P T, ibin op with
      | true, some f => f a b
      | _, _ => abin P op T x y a b
    | _, _ => none
  | .unOp op _ x => match ev t x with
    | some a => match op with
      | .not => xNot a
      | op => xUn P op a
    | none => none
  | .convert s d x => match ev t x with
    | some a => match convK P s d with
      | 0 => xConv P s d a
      | 1 => xB2S a h
      | _ => none
    | none => none
  | .makeFunc fn first captured => match evs t first.toList, evs t captured.toList with
    | some f, some c => some (.func fn ⟨f⟩ ⟨c⟩)
    | _, _ => none
  | .slice T x lo hi mx => match ev t x, evo t lo, evo t hi, evo t mx with
    | some v, some l, some h, some m => acut P T v l h m
    | _, _, _, _ => none
  | .fieldAddr S x f => match ev t x, fieldOff P S f with
    | some v, some n => xFld n v
    | _, _ => none
  | .field S x f => match ev t x with
    | some v => afield P S v f
    | none => none
  | .indexAddr T x ix => match ev t x, ev t ix with
    | some v, some i => match sliceSz P T with
      | some sz => xIdxS sz v i
      | none => match arrSz P T with
        | some (n, sz) => xIdxA n sz v i
        | none => none
    | _, _ => none
  | .index T x ix => match ev t x, ev t ix with
    | some v, some i => aindex P T v i
    | _, _ => none
  | .extract x i => match ev t x with
    | some v => xExt i v
    | none => none
  | .load T x => match ev t x with
    | some v => match scal P T with
      | true => xLd v h
      | false => match aggSz P T with
        | some (.succ n) => xLdA (.succ n) v h
        | _ => none
    | none => none
  | .lookup T x k ok => match ev t x, ev t k with
    | some v, some k => match mapT P T with
      | some (kt, et) => xLkp P kt et ok v k h
      | none => none
    | _, _ => none
  | .call ⟨.builtin .len, args, ats⟩ => match evs t args.toList, ats[0]? with
    | some [v], some T => match sliceSz P T with
      | some _ => xLenS v
      | none => match strT P T with
        | true => xLenT v
        | false => match mapT P T with
          | some _ => xMLen v h
          | none => alen P ats [v]
    | _, _ => none
  | .call ⟨.builtin .cap, args, ats⟩ => match evs t args.toList with
    | some vs => acap P ats vs
    | none => none
  | .call ⟨.builtin .min, args, ats⟩ => match evs t args.toList with
    | some vs => if plainV.plainVs vs then prun P (Builtin.min_ ats ty ⟨vs⟩) else none
    | none => none
  | .call ⟨.builtin .max, args, ats⟩ => match evs t args.toList with
    | some vs => if plainV.plainVs vs then prun P (Builtin.max_ ats ty ⟨vs⟩) else none
    | none => none
  | .call ⟨.value (.func g), args, _⟩ => match evs t args.toList with
    | some as => pcall (cl g as h.fzn)
    | none => none
  | _ => none

/-- Does it ask alone? -/
def memN : List Nat → Nat → Bool
  | [], _ => false
  | x :: xs, g => match Nat.beq x g with
    | true => true
    | false => memN xs g
def isV (P : Program) (pu : List Nat) (o : Op) : Bool := match o with
  | .box .. | .alloc .. | .buildSlice .. | .makeSlice .. | .makeMap .. | .store .. | .mapUpdate .. | .insert .. => false
  | .convert s d _ => match convK P s d with
    | 2 => false
    | _ => true
  | .call ⟨.builtin .len, _, _⟩ | .call ⟨.builtin .cap, _, _⟩ | .call ⟨.builtin .min, _, _⟩ | .call ⟨.builtin .max, _, _⟩ => true
  | .call ⟨.value (.func g), _, _⟩ => memN pu g
  | .call _ => false
  | _ => true

def xCall (cl : CL) (f : Value) (args : List Value) (h : PH) : R := match f with
  | .func (.func g) ⟨first⟩ ⟨captured⟩ => cl g (first ++ args ++ captured) h
  | _ => none

/-- Turns memory, or calls. -/
noncomputable def opH (P : Program) (fr : List Nat) (cl : CL) (o : Op) (t : Tm) (h : PH) : R :=
  match o with
  | .box _ x => match ev t x with
    | some v => xBox v h
    | none => none
  | .alloc T => xAlloc (zcells P T) h
  | .buildSlice T len parts => match evp t parts.toList with
    | some ps => xBS len (bsRow P T len ps) h
    | none => none
  | .makeSlice T l c => match ev t l, ev t c with
    | some l, some c => xMk (zinfo P T) l c h
    | _, _ => none
  | .makeMap T r => match r with
    | none => xMMk h
    | some _ => none
  | .store T a x => match ev t a, ev t x with
    | some a, some v => match infoSz P T with
      | some (.succ 0) => match scal P T with
        | true => xSt1 a v h
        | false => xStA 1 a v h
      | some (.succ (.succ n)) => xStA (.succ (.succ n)) a v h
      | _ => none
    | _, _ => none
  | .mapUpdate T m k x => match ev t m, ev t k, ev t x with
    | some m, some k, some v => match mapT P T with
      | some (kt, _) => xMUpd P kt m k v h
      | none => none
    | _, _, _ => none
  | .insert T m k x => match ev t m, ev t k, ev t x with
    | some m, some k, some v => match mapT P T with
      | some (kt, _) => xMUpd P kt m k v h
      | none => none
    | _, _, _ => none
  | .convert s d x => match ev t x with
    | some v => match convK P s d with
      | 2 => xS2B v h
      | _ => none
    | none => none
  | .call ⟨.builtin .append, args, ats⟩ => match evs t args.toList with
    | some [s, x] => xApp (appInfo P ats) s x h
    | _ => none
  | .call ⟨.builtin .delete, args, ats⟩ => match evs t args.toList, ats[0]? with
    | some [m, k], some T => match mapT P T with
      | some (kt, _) => xMDel P kt m k h
      | none => none
    | _, _ => none
  | .call ⟨.value (.func g), args, _⟩ => match evs t args.toList with
    | some as => match memN fr g with
      | true => fcall h (cl g as h.fzn)
      | false => cl g as h
    | none => none
  | .call ⟨.value f, args, _⟩ => match ev t f, evs t args.toList with
    | some f, some as => xCall cl f as h
    | _, _ => none
  | _ => none

theorem opV_ok {P : Program} {pu : List Nat} {cl : CL} (hcl : OkCL P cl) {d : Option Tmp} {op : Op} {ty : TypeId} {pos : String} {aft : Array Edge} {g : Option (Nat × Bool)} {t : Tm} {h : PH} {v : Value} (hx : opV P pu cl op ty t h = some v) :
    (apure P ⟨d, op, ty, pos, aft, g⟩ t = some v ∨ aread P ⟨d, op, ty, pos, aft, g⟩ t h.abs = some v) ∨ ∃ f args, acallee P ⟨d, op, ty, pos, aft, g⟩ t = some (f, args) ∧ ACall P f args h.abs (fun u k => u = v ∧ k = h.abs) := by
  unfold opV at hx
  split at hx
  · exact .inl (.inl hx)
  · exact .inl (.inl hx)
  · left; left
    split at hx <;> try (cases hx; done)
    rename_i hc ha hb
    rcases xPick_ok hx with ⟨rfl, rfl⟩ | ⟨rfl, rfl⟩ <;> simp [apure, hc, ha, hb]
  · exact .inl (.inl hx)
  · left; left
    split at hx <;> try (cases hx; done)
    rename_i ha
    unfold xNil at hx
    split at hx <;> (try (cases hx; done)) <;> (cases hx; simp [apure, ha])
  · left; left
    split at hx <;> try (cases hx; done)
    rename_i ha hb
    simp only [apure, ha, hb]
    split at hx
    · rename_i hf
      exact ibin_ok hf hx
    · exact hx
  · left; left
    split at hx <;> try (cases hx; done)
    rename_i ha
    simp only [apure, ha]
    split at hx
    · obtain ⟨b, rfl, rfl⟩ := xNot_ok hx
      cases b <;> rfl
    · exact hx
  · split at hx <;> try (cases hx; done)
    rename_i a ha
    split at hx
    · left; left; simp only [apure, ha]; exact hx
    · left; right
      rename_i hk
      unfold xB2S at hx
      split at hx <;> try (cases hx; done)
      split at hx <;> try (cases hx; done)
      split at hx <;> try (cases hx; done)
      split at hx <;> try (cases hx; done)
      rename_i hg _ hle _ ns hns
      cases hx
      unfold convK at hk
      split at hk <;> try (cases hk; done)
      · rename_i e hs hd
        split at hk <;> try (cases hk; done)
        rename_i he hi
        obtain ⟨m', hg⟩ := PH.raw_row hg
        simp only [aread, ha, abytesStr, hs, hd, he, hi, hg]
        refine (if_pos (Nat.le_of_ble_eq_true hle)).trans ?_
        rw [hns]
      · split at hk <;> cases hk
    · cases hx
  · exact .inl (.inl hx)
  · exact .inl (.inl hx)
  · left; left
    split at hx <;> try (cases hx; done)
    rename_i ha hf
    simp only [apure, ha]
    exact xFld_ok hf hx
  · exact .inl (.inl hx)
  · left; left
    split at hx <;> try (cases hx; done)
    rename_i ha hi
    simp only [apure, ha, hi]
    split at hx
    · rename_i hs; exact xIdxS_ok hs hx
    · split at hx <;> try (cases hx; done)
      rename_i hs; exact xIdxA_ok hs hx
  · exact .inl (.inl hx)
  · left; left
    split at hx <;> try (cases hx; done)
    rename_i ha
    unfold xExt at hx
    split at hx <;> try (cases hx; done)
    simp only [apure, ha]; exact hx
  · left; right
    split at hx <;> try (cases hx; done)
    rename_i ha
    simp only [aread, ha]
    split at hx
    · rename_i hs; exact xLd_ok hs hx
    · split at hx <;> try (cases hx; done)
      rename_i hs; exact xLdA_ok hs (Nat.succ_pos _) hx
  · left; right
    split at hx <;> try (cases hx; done)
    rename_i ha hk
    simp only [aread, ha, hk]
    split at hx <;> try (cases hx; done)
    rename_i hT
    exact xLkp_ok hT hx
  · split at hx <;> try (cases hx; done)
    rename_i args ats v0 T ha hT
    split at hx
    · left; left
      rename_i hs
      unfold xLenS at hx
      split at hx <;> try (cases hx; done)
      rw [seqN_eq] at hx
      cases hx
      unfold sliceSz at hs
      split at hs <;> try (cases hs; done)
      rename_i hu
      simp [apure, ha, alen, hT, hu]
    · split at hx
      · left; left
        rename_i hs
        unfold xLenT at hx
        split at hx <;> try (cases hx; done)
        rw [seqN_eq] at hx
        cases hx
        unfold strT at hs
        split at hs <;> try (cases hs; done)
        rename_i hu
        simp [apure, ha, alen, hT, hu]
      · split at hx
        · rename_i hm
          have hm := mapT_ok hm
          unfold xMLen at hx
          split at hx
          · left; left
            cases hx
            simp [apure, ha, alen, hT, hm]
          · left; right
            split at hx <;> try (cases hx; done)
            rename_i hp
            rw [seqN_eq] at hx
            cases hx
            obtain ⟨rfl, h2⟩ := phMap_ok hp
            simp [aread, ha, amapLen, hT, hm, h2]
        · left; left
          simp only [apure, ha]
          exact hx
  · exact .inl (.inl hx)
  · exact .inl (.inl hx)
  · exact .inl (.inl hx)
  · right
    split at hx <;> try (cases hx; done)
    rename_i ha
    obtain ⟨h', hx, hp⟩ := pcall_ok hx
    obtain ⟨⟨h1, h2⟩, hinv⟩ := hcl _ _ _ _ _ hx
    rw [PH.fzn_abs] at h2
    have h3 := ACall.frozen (h2.mono fun _ _ hq => hq.1) hp
    exact ⟨_, _, by simp only [acallee, ev, ha, h1]; simp, h3⟩
  · cases hx

theorem notro_ok {o : AObj} (h : notro o = true) : notroA o := by
  cases o with
  | row m a b => cases m <;> first | trivial | cases h
  | _ => trivial
theorem opH_ok {P : Program} {fr : List Nat} {cl : CL} (hcl : OkCL P cl) {d : Option Tmp} {op : Op} {ty : TypeId} {pos : String} {aft : Array Edge} {g : Option (Nat × Bool)} {t : Tm} {h h' : PH} {v : Value} (hx : opH P fr cl op t h = some (v, h')) :
    aeff P ⟨d, op, ty, pos, aft, g⟩ t h.abs = some (v, h'.abs) ∨ ∃ f args, acallee P ⟨d, op, ty, pos, aft, g⟩ t = some (f, args) ∧ ACall P f args h.abs (fun u k => u = v ∧ k = h'.abs) := by
  unfold opH at hx
  split at hx
  · left
    split at hx <;> try (cases hx; done)
    rename_i ha
    simp only [aeff, ha]; exact xBox_ok hx
  · left; simp only [aeff]; exact xAlloc_ok hx
  · left
    split at hx <;> try (cases hx; done)
    rename_i ha
    simp only [aeff, ha]; exact xBS_ok hx
  · left
    split at hx <;> try (cases hx; done)
    rename_i ha hb
    simp only [aeff, ha, hb]; exact xMk_ok hx
  · left
    split at hx <;> try (cases hx; done)
    unfold xMMk at hx
    split at hx <;> try (cases hx; done)
    rename_i hp
    cases hx
    simp [aeff, evo, amakeMap, PH.push_abs hp, PH.length]
  · left
    split at hx <;> try (cases hx; done)
    rename_i ha hb
    simp only [aeff, ha, hb]
    split at hx
    · split at hx
      · rename_i hs _ _
        obtain ⟨rfl, h2⟩ := xSt1_ok hs hx
        simp [h2]
      · rename_i hs _ _
        obtain ⟨rfl, h2⟩ := xStA_ok hs (by omega) hx
        simp [h2]
    · rename_i hs
      obtain ⟨rfl, h2⟩ := xStA_ok hs (by omega) hx
      simp [h2]
    · cases hx
  · left
    split at hx <;> try (cases hx; done)
    rename_i ha hb hc
    simp only [aeff, ha, hb, hc]
    split at hx <;> try (cases hx; done)
    rename_i hT
    obtain ⟨rfl, h2⟩ := xMUpd_ok hT hx
    simp [h2]
  · left
    split at hx <;> try (cases hx; done)
    rename_i ha hb hc
    simp only [aeff, ha, hb, hc]
    split at hx <;> try (cases hx; done)
    rename_i hT
    obtain ⟨rfl, h2⟩ := xMUpd_ok hT hx
    simp [h2]
  · left
    split at hx <;> try (cases hx; done)
    rename_i ha
    split at hx <;> try (cases hx; done)
    rename_i hk
    unfold xS2B at hx
    split at hx <;> try (cases hx; done)
    split at hx <;> try (cases hx; done)
    rename_i hp
    cases hx
    unfold convK at hk
    split at hk
    · split at hk <;> cases hk
    · rename_i e hs hd
      split at hk <;> try (cases hk; done)
      rename_i he
      simp [aeff, ha, astrBytes, hs, hd, he, PH.push_abs hp, PH.length]
    · cases hk
  · left
    split at hx <;> try (cases hx; done)
    rename_i ha
    simp only [aeff, ha]; exact xApp_ok hx
  · left
    split at hx <;> try (cases hx; done)
    rename_i ha h0
    split at hx <;> try (cases hx; done)
    rename_i hT
    simp only [aeff, ha]; exact xMDel_ok h0 hT hx
  · right
    split at hx <;> try (cases hx; done)
    rename_i ha
    split at hx
    · obtain ⟨k1, hx1, rfl, hz⟩ := fcall_ok hx
      obtain ⟨⟨h1, h2⟩, hinv⟩ := hcl _ _ _ _ _ hx1
      obtain ⟨news, e1, e2, e3⟩ := PH.back_abs hinv hz
      rw [PH.fzn_abs, e1] at h2
      have h3 := ACall.frozenNew h2 (fun o ho => notro_ok (e3 o ho))
      rw [← e2] at h3
      exact ⟨_, _, by simp only [acallee, ev, ha, h1]; simp, h3⟩
    · obtain ⟨⟨h1, h2⟩, hinv⟩ := hcl _ _ _ _ _ hx
      exact ⟨_, _, by simp only [acallee, ev, ha, h1]; simp, h2⟩
  · right
    split at hx <;> try (cases hx; done)
    rename_i hf ha
    unfold xCall at hx
    split at hx <;> try (cases hx; done)
    obtain ⟨⟨h1, h2⟩, hinv⟩ := hcl _ _ _ _ _ hx
    exact ⟨_, _, by simp only [acallee, hf, ha, h1]; simp, h2⟩
  · cases hx

/-! ### what an operation leaves -/
theorem xNewP_inv {cs : List Value} {h h' : PH} {v : Value} (hx : xNewP cs h = some (v, h')) : Inv h h' := by
  unfold xNewP at hx
  split at hx <;> try (cases hx; done)
  rename_i hp
  cases hx
  exact PH.push_inv hp rfl
theorem xBS_inv {n : Nat} {row : Option (Nat × List Value)} {h h' : PH} {v : Value} (hx : xBS n row h = some (v, h')) : Inv h h' := by
  unfold xBS at hx
  split at hx <;> try (cases hx; done)
  split at hx <;> try (cases hx; done)
  rename_i hp
  cases hx
  exact PH.push_inv hp rfl
theorem xMk_inv {zi : Option (Nat × Nat × List Value)} {l c : Value} {h h' : PH} {v : Value} (hx : xMk zi l c h = some (v, h')) : Inv h h' := by
  unfold xMk at hx
  split at hx <;> try (cases hx; done)
  split at hx <;> try (cases hx; done)
  split at hx <;> try (cases hx; done)
  split at hx <;> try (cases hx; done)
  split at hx <;> try (cases hx; done)
  split at hx <;> try (cases hx; done)
  split at hx <;> try (cases hx; done)
  rename_i hp
  cases hx
  exact PH.push_inv hp rfl
theorem mro_notro {m : Mode} {esz : Nat} {cs : List Value} (h : mro m = false) : notro (.row m esz cs) = true := by cases m <;> first | rfl | cases h
theorem xSt1_inv {x v u : Value} {h h' : PH} (hx : xSt1 x v h = some (u, h')) : Inv h h' := by
  unfold xSt1 at hx
  split at hx <;> try (cases hx; done)
  split at hx <;> try (cases hx; done)
  split at hx <;> try (cases hx; done)
  split at hx <;> try (cases hx; done)
  rename_i hm
  obtain ⟨_, h3⟩ := stK_ok hx
  split at h3 <;> try (cases h3; done)
  rename_i hs
  cases h3
  exact PH.set_inv hs (mro_notro hm)
theorem xStA_inv {sz : Nat} {x v u : Value} {h h' : PH} (hx : xStA sz x v h = some (u, h')) : Inv h h' := by
  unfold xStA at hx
  split at hx <;> try (cases hx; done)
  split at hx <;> try (cases hx; done)
  split at hx <;> try (cases hx; done)
  split at hx <;> try (cases hx; done)
  split at hx <;> try (cases hx; done)
  split at hx <;> try (cases hx; done)
  rename_i hm
  obtain ⟨_, h3⟩ := stsK_ok hx
  split at h3 <;> try (cases h3; done)
  rename_i hs
  cases h3
  exact PH.set_inv hs (mro_notro hm)
theorem growR_inv {sz b k o n : Nat} {kill : Bool} {cs new : List Value} {h h' : PH} {v : Value} (hx : growR sz b k o kill cs new n h = some (v, h')) : Inv h h' := by
  unfold growR at hx
  obtain ⟨_, h2⟩ := tkA_ok hx
  split at h2 <;> try (cases h2; done)
  rename_i hp
  cases kill with
  | true =>
    dsimp only at h2
    split at h2 <;> try (cases h2; done)
    rename_i hs
    rw [seqN_eq] at h2
    cases h2
    exact (PH.push_inv hp rfl).trans (PH.set_inv hs rfl)
  | false =>
    dsimp only at h2
    rw [seqN_eq] at h2
    cases h2
    exact PH.push_inv hp rfl
theorem stayR_inv {b o sz sLen sCap n esz : Nat} {m : Mode} {cs new : List Value} {h h' : PH} {v : Value} (hm : notro (.row m esz []) = true) (hx : stayR b o sz sLen sCap n m esz cs new h = some (v, h')) : Inv h h' := by
  unfold stayR at hx
  obtain ⟨_, h2⟩ := stsK_ok hx
  split at h2 <;> try (cases h2; done)
  rename_i hs
  rw [seqN_eq] at h2
  cases h2
  exact PH.set_inv hs (by cases m <;> first | rfl | cases hm)
theorem xApp_inv {ai : Option (Nat × Nat)} {s x u : Value} {h h' : PH} (hx : xApp ai s x h = some (u, h')) : Inv h h' := by
  unfold xApp at hx
  split at hx <;> try (cases hx; done)
  split at hx <;> try (cases hx; done)
  split at hx <;> try (cases hx; done)
  split at hx
  · split at hx
    · cases hx; exact Inv.refl _
    · split at hx <;> try (cases hx; done)
      split at hx <;> try (cases hx; done)
      rename_i hp
      cases hx
      exact PH.push_inv hp rfl
  · split at hx
    · split at hx <;> try (cases hx; done)
      cases hx; exact Inv.refl _
    · split at hx <;> try (cases hx; done)
      split at hx <;> try (cases hx; done)
      split at hx <;> try (cases hx; done)
      split at hx
      · split at hx
        · split at hx <;> try (cases hx; done)
          rename_i hm
          split at hx <;> try (cases hx; done)
          exact stayR_inv (mro_notro hm) hx
        · exact growR_inv hx
      · split at hx <;> try (cases hx; done)
        rename_i hm
        split at hx <;> try (cases hx; done)
        split at hx <;> try (cases hx; done)
        split at hx <;> try (cases hx; done)
        split at hx
        · exact stayR_inv (by unfold modn at hm; split at hm <;> first | rfl | cases hm) hx
        · exact growR_inv hx
  · cases hx
theorem pset_inv {h h' : PH} {b : Nat} {o : AObj} {v u : Value} (ho : notro o = true) (hx : pset h b o v = some (u, h')) : Inv h h' := by
  unfold pset at hx
  split at hx <;> try (cases hx; done)
  rename_i hs
  cases hx
  exact PH.set_inv hs ho
theorem xMUpd_inv {P : Program} {kt : TypeId} {x k v u : Value} {h h' : PH} (hx : xMUpd P kt x k v h = some (u, h')) : Inv h h' := by
  unfold xMUpd at hx
  split at hx <;> try (cases hx; done)
  split at hx <;> try (cases hx; done)
  split at hx <;> try (cases hx; done)
  split at hx <;> try (cases hx; done)
  · split at hx <;> try (cases hx; done)
    exact pset_inv rfl hx
  · exact pset_inv rfl hx
theorem xMDel_inv {P : Program} {kt : TypeId} {x k u : Value} {h h' : PH} (hx : xMDel P kt x k h = some (u, h')) : Inv h h' := by
  unfold xMDel at hx
  split at hx <;> try (cases hx; done)
  split at hx <;> try (cases hx; done)
  split at hx <;> try (cases hx; done)
  split at hx <;> try (cases hx; done)
  · exact pset_inv rfl hx
  · exact pset_inv rfl hx
theorem opH_inv {P : Program} {fr : List Nat} {cl : CL} (hcl : OkCL P cl) {op : Op} {t : Tm} {h h' : PH} {v : Value} (hx : opH P fr cl op t h = some (v, h')) : Inv h h' := by
  unfold opH at hx
  split at hx
  · split at hx <;> try (cases hx; done)
    exact xNewP_inv hx
  · unfold xAlloc at hx
    split at hx <;> try (cases hx; done)
    exact xNewP_inv hx
  · split at hx <;> try (cases hx; done)
    exact xBS_inv hx
  · split at hx <;> try (cases hx; done)
    exact xMk_inv hx
  · split at hx <;> try (cases hx; done)
    unfold xMMk at hx
    split at hx <;> try (cases hx; done)
    rename_i hp
    cases hx
    exact PH.push_inv hp rfl
  · split at hx <;> try (cases hx; done)
    split at hx
    · split at hx
      · exact xSt1_inv hx
      · exact xStA_inv hx
    · exact xStA_inv hx
    · cases hx
  · split at hx <;> try (cases hx; done)
    split at hx <;> try (cases hx; done)
    exact xMUpd_inv hx
  · split at hx <;> try (cases hx; done)
    split at hx <;> try (cases hx; done)
    exact xMUpd_inv hx
  · split at hx <;> try (cases hx; done)
    split at hx <;> try (cases hx; done)
    unfold xS2B at hx
    split at hx <;> try (cases hx; done)
    split at hx <;> try (cases hx; done)
    rename_i hp
    cases hx
    exact PH.push_inv hp rfl
  · split at hx <;> try (cases hx; done)
    exact xApp_inv hx
  · split at hx <;> try (cases hx; done)
    split at hx <;> try (cases hx; done)
    exact xMDel_inv hx
  · split at hx <;> try (cases hx; done)
    split at hx
    · obtain ⟨k1, hx1, rfl, hz⟩ := fcall_ok hx
      exact PH.back_inv (hcl _ _ _ _ _ hx1).2 hz
    · exact (hcl _ _ _ _ _ hx).2
  · split at hx <;> try (cases hx; done)
    unfold xCall at hx
    split at hx <;> try (cases hx; done)
    exact (hcl _ _ _ _ _ hx).2
  · cases hx
end Go.Am
