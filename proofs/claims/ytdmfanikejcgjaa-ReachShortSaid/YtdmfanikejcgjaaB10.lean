import Derived.Test.YtdmfanikejcgjaaB9
set_option linter.unusedSimpArgs false
set_option linter.unusedVariables false
namespace Go.Am
open Go Go.RowKit

def acopy (P : Program) (ats : Array TypeId) (vs : List Value) (h : Heap) : Option (Value × Heap) :=
  match ats[0]?, vs with
  | some dT, [.slice db dLen _, .slice sb sLen _] =>
    match P.underlying dT with
    | some (.slice e) => match P.info? e with
      | none => none
      | some i =>
        let n := Nat.min sLen dLen
        match db, sb with
        | none, none => if n = 0 then some (.int .i64 0, h) else none
        | none, some _ => if n = 0 then some (.int .i64 0, h) else none
        | some _, none => if n = 0 then some (.int .i64 0, h) else none
        | some ⟨b, o, none⟩, some ⟨b2, o2, none⟩ =>
          if n = 0 then some (.int .i64 0, h) else
          match h[b]?, h[b2]? with
          | some (.row m esz cs), some (.row _ _ cs2) =>
            let new := (cs2.drop o2).take (n * i.size)
            if m ≠ .ro ∧ o + n * i.size ≤ cs.length ∧ o2 + n * i.size ≤ cs2.length ∧ oneCells new = true then some (.int .i64 n, h.set b (.row m esz (setsL cs o new))) else none
          | _, _ => none
        | _, _ => none
    | _ => none
  | _, _ => none

def aclear (P : Program) (ats : Array TypeId) (vs : List Value) (h : Heap) : Option (Value × Heap) :=
  match ats[0]?, vs with
  | some T, [x] => match P.underlying T, x with
    | some (.slice _), .slice none _ _ => some (.tuple #[], h)
    | some (.slice _), .slice (some _) 0 _ => some (.tuple #[], h)
    | some (.slice e), .slice (some ⟨b, o, none⟩) n _ => match P.info? e with
      | some i => match i.zero, h[b]? with
        | some z, some (.row m esz cs) =>
          let new := zrow (cellsL z) (n * (cellsL z).length)
          if plainV z = true ∧ m ≠ .ro ∧ o + n * (cellsL z).length ≤ cs.length ∧ oneCells new = true ∧ (cellsL z) ≠ [] then some (.tuple #[], h.set b (.row m esz (setsL cs o new))) else none
        | _, _ => none
      | none => none
    | some (.map _ _), .map (some b) => match h[b]? with
      | some (.map _ clock) => some (.tuple #[], h.set b (.map [] clock))
      | _ => none
    | _, _ => none
  | _, _ => none

def adelete (P : Program) (ats : Array TypeId) (vs : List Value) (h : Heap) : Option (Value × Heap) :=
  match ats[0]?, vs with
  | some T, [.map (some b), k] => match P.underlying T, h[b]? with
    | some (.map kt _), some (.map es clock) =>
      if plainV k && keysPlain es then
        match pureRun P (Instr.checkKey es.isEmpty 10000 kt k) with
        | none => none
        | some _ => match afind P kt k es with
          | none => none
          | some (some (i, _)) => some (.tuple #[], h.set b (.map (es.eraseIdx i) clock))
          | some none => some (.tuple #[], h.set b (.map es clock))
      else none
    | _, _ => none
  | _, _ => none

def astrBytes (P : Program) (s d : TypeId) (x : Value) (h : Heap) : Option (Value × Heap) :=
  match P.underlying s, P.underlying d, x with
  | some .string, some (.slice e), .string str => match P.underlying e with
    | some (.int .u8) => some (.slice (some ⟨h.length, 0, none⟩) str.size openCap, h ++ [.row .opn 1 (str.data.toList.map fun b => .int .u8 b.toNat)])
    | _ => none
  | _, _, _ => none

/-- An operation that makes or writes memory. -/
def aeff (P : Program) (o : Oper) (t : Tm) (h : Heap) : Option (Value × Heap) :=
  match o.op with
  | .box _ x => match ev t x with
    | some v => abox v h
    | none => none
  | .alloc T => aalloc P T h
  | .buildSlice T len parts => match evp t parts.toList with
    | some ps => abuildSlice P T len ps h
    | none => none
  | .makeSlice T l c => match ev t l, ev t c with
    | some l, some c => amakeSlice P T l c h
    | _, _ => none
  | .makeMap T r => match evo t r with
    | some r => amakeMap P T r h
    | none => none
  | .store T a x => match ev t a, ev t x with
    | some a, some v => match astore P T a v h with
      | some h' => some (undef, h')
      | none => none
    | _, _ => none
  | .mapUpdate T m k x => match ev t m, ev t k, ev t x with
    | some m, some k, some v => match amapUpdate P T m k v h with
      | some h' => some (undef, h')
      | none => none
    | _, _, _ => none
  | .insert T m k x => match ev t m, ev t k, ev t x with
    | some m, some k, some v => match amapUpdate P T m k v h with
      | some h' => some (undef, h')
      | none => none
    | _, _, _ => none
  | .convert s d x => match ev t x with
    | some v => astrBytes P s d v h
    | none => none
  | .call ⟨.builtin .append, args, ats⟩ => match evs t args.toList with
    | some vs => aappend P ats vs h
    | none => none
  | .call ⟨.builtin .copy, args, ats⟩ => match evs t args.toList with
    | some vs => acopy P ats vs h
    | none => none
  | .call ⟨.builtin .clear, args, ats⟩ => match evs t args.toList with
    | some vs => aclear P ats vs h
    | none => none
  | .call ⟨.builtin .delete, args, ats⟩ => match evs t args.toList with
    | some vs => adelete P ats vs h
    | none => none
  | _ => none

/-- What an operation ends in. -/
def NR (ρ : RMap) (v : Value) : Next → Prop
  | .value v' => VR ρ v v'
  | .skip => v = undef
  | _ => False

section
variable {P : Program} {B : Nat} {w0 : World} {ρ : RMap} {h : Heap} {w : World} {t : Tm} {ts : List Value}

theorem oneV {vs us : List Value} (hv : VRs ρ vs us) (ho : oneCells vs = true) : ∀ v ∈ us, v.oneCell' = true := by
  intro v hm
  obtain ⟨j, hj⟩ := List.getElem?_of_mem hm
  obtain ⟨v0, h5, h6⟩ := hv.getBack hj
  exact h6.oneCell (oneCells_mem ho v0 (List.mem_of_getElem? h5))

theorem acopy_ok (hr : Rel B w0 ρ h w) {ats : Array TypeId} {ty : TypeId} {vs us : List Value} {u : Value} {h' : Heap} (hb : acopy P ats vs h = some (u, h')) (hv : VRs ρ vs us) :
    ∃ w' u', (Builtin.copy_ ats ty ⟨us⟩).run P w = .ok u' w' ∧ VR ρ u u' ∧ Rel B w0 ρ h' w' := by
  unfold acopy at hb
  split at hb
  rotate_left
  · cases hb
  rename_i dT db dLen dc sb sLen sc h0
  split at hb
  rotate_left
  · cases hb
  rename_i e hu
  split at hb
  · cases hb
  rename_i i hi
  dsimp only at hb
  cases hv with
  | @cons _ d' _ us hd hv =>
  cases hv with
  | @cons _ s' _ us hs hv =>
  cases hv
  have hmin : Nat.min sLen dLen = min sLen dLen := rfl
  -- both are slices of these lengths
  have shape : ∀ {b : Option Addr} {n c : Nat} {x : Value}, VR ρ (.slice b n c) x → ∃ b' c', x = .slice b' n c' ∧ (b = none → b' = none) := by
    intro b n c x hx
    cases hx with
    | snil n c => exact ⟨_, _, rfl, fun _ => rfl⟩
    | sl hL hc => exact ⟨_, _, rfl, fun h => by cases h⟩
    | slo hL hc he hn => exact ⟨_, _, rfl, fun h => by cases h⟩
    | slz hL hc he => exact ⟨_, _, rfl, fun h => by cases h⟩
    | sl0 hL => exact ⟨_, _, rfl, fun h => by cases h⟩
  obtain ⟨db', dc', rfl, hdn⟩ := shape hd
  obtain ⟨sb', sc', rfl, hsn⟩ := shape hs
  have zero : Nat.min sLen dLen = 0 → (Builtin.copy_ ats ty ⟨[.slice db' dLen dc', .slice sb' sLen sc']⟩).run P w = .ok (.int .i64 0) w := by
    intro hz
    simp only [Builtin.copy_, h0, List.getElem?_toArray, List.getElem?_cons_zero, List.getElem?_cons_succ, Sem.run_bind, run_underlying' hu, Result.andThen_ok, Builtin.lenOf, Sem.run_pure, run_sizeOf' hi, hz]
    have hf : (Builtin.firstCells i.size 0 (.slice sb' sLen sc')).run P w = .ok #[] w := by
      cases sb' with
      | none => rfl
      | some a => simp only [Builtin.firstCells, Nat.zero_mul]; rfl
    rw [hf]
    cases db' <;> rfl
  split at hb
  · split at hb <;> simp at hb
    obtain ⟨rfl, rfl⟩ := hb
    exact ⟨w, _, zero ‹_›, .int _ _, hr⟩
  · split at hb <;> simp at hb
    obtain ⟨rfl, rfl⟩ := hb
    exact ⟨w, _, zero ‹_›, .int _ _, hr⟩
  · split at hb <;> simp at hb
    obtain ⟨rfl, rfl⟩ := hb
    exact ⟨w, _, zero ‹_›, .int _ _, hr⟩
  · rename_i b o b2 o2
    split at hb
    · simp at hb
      obtain ⟨rfl, rfl⟩ := hb
      exact ⟨w, _, zero ‹_›, .int _ _, hr⟩
    rename_i hnz
    split at hb
    rotate_left
    · cases hb
    rename_i m esz cs m2 esz2 cs2 hrow hrow2
    split at hb <;> simp at hb
    obtain ⟨rfl, rfl⟩ := hb
    rename_i hc
    obtain ⟨hm, hle, hle2, hone⟩ := hc
    have hnz' : dLen ≠ 0 ∧ sLen ≠ 0 := by
      constructor <;> rintro rfl <;> simp at hnz
    have dst : ∃ L c, ρ b = some L ∧ db' = some ⟨L.blk, L.off + o, none⟩ ∧ c = dc' := by
      cases hd with
      | sl hL hc => exact ⟨_, _, hL, rfl, rfl⟩
      | slo hL hc he hn => exact ⟨_, _, hL, rfl, rfl⟩
      | slz hL hc he => exact absurd rfl hnz'.1
      | sl0 hL => exact absurd rfl hnz'.1
    have src : ∃ L c, ρ b2 = some L ∧ sb' = some ⟨L.blk, L.off + o2, none⟩ ∧ c = sc' := by
      cases hs with
      | sl hL hc => exact ⟨_, _, hL, rfl, rfl⟩
      | slo hL hc he hn => exact ⟨_, _, hL, rfl, rfl⟩
      | slz hL hc he => exact absurd rfl hnz'.2
      | sl0 hL => exact absurd rfl hnz'.2
    obtain ⟨L, _, hL, rfl, _⟩ := dst
    obtain ⟨L2, _, hL2, rfl, _⟩ := src
    obtain ⟨ns, h2, h3⟩ := hr.cells hrow2 hL2 o2 (Nat.min sLen dLen * i.size)
    have hlen : ns.length = Nat.min sLen dLen * i.size := by rw [← h2.length]; simp; omega
    have hload := run_loadCells_list (P := P) w _ ns h3
    rw [hlen] at hload
    obtain ⟨w', r1, r2⟩ := hr.stores (P := P) h2 (oneCells_mem hone) hrow hm hL (o := o) (k := 0) (by rw [h2.length, hlen]; omega)
    refine ⟨w', .int .i64 (Nat.min sLen dLen), ?_, .int _ _, by simpa using r2⟩
    simp only [Builtin.copy_, h0, List.getElem?_toArray, List.getElem?_cons_zero, List.getElem?_cons_succ, Sem.run_bind, run_underlying' hu, Result.andThen_ok, Builtin.lenOf, Sem.run_pure, run_sizeOf' hi, Builtin.firstCells, hload]
    rw [r1]
    rfl
  · cases hb

theorem aclear_ok (hr : Rel B w0 ρ h w) {ats : Array TypeId} {ty : TypeId} {vs us : List Value} {u : Value} {h' : Heap} (hb : aclear P ats vs h = some (u, h')) (hv : VRs ρ vs us) :
    ∃ w' u', (Builtin.clear_ ats ty ⟨us⟩).run P w = .ok u' w' ∧ VR ρ u u' ∧ Rel B w0 ρ h' w' := by
  unfold aclear at hb
  split at hb
  rotate_left
  · cases hb
  rename_i T x h0
  cases hv with
  | @cons _ x' _ us hx hv =>
  cases hv
  split at hb
  · rename_i e n c hu
    simp at hb; obtain ⟨rfl, rfl⟩ := hb
    cases hx
    refine ⟨w, _, ?_, VR.undef, hr⟩
    simp only [Builtin.clear_, h0, List.getElem?_toArray, List.getElem?_cons_zero, Sem.run_bind, run_underlying' hu, Result.andThen_ok, Sem.run_pure]
    rfl
  · rename_i e a c hu
    simp at hb; obtain ⟨rfl, rfl⟩ := hb
    have : ∃ a' c', x' = .slice (some a') 0 c' := by
      cases hx <;> exact ⟨_, _, rfl⟩
    obtain ⟨a', c', rfl⟩ := this
    refine ⟨w, _, ?_, VR.undef, hr⟩
    simp only [Builtin.clear_, h0, List.getElem?_toArray, List.getElem?_cons_zero, Sem.run_bind, run_underlying' hu, Result.andThen_ok, Sem.run_pure]
    rfl
  · rename_i e b o n c hn0 hu
    split at hb
    rotate_left
    · cases hb
    rename_i i hi
    split at hb
    rotate_left
    · cases hb
    rename_i z m esz cs hz hrow
    dsimp only at hb
    split at hb <;> simp at hb
    obtain ⟨rfl, rfl⟩ := hb
    rename_i hc
    obtain ⟨hp, hm, hle, hone, hne⟩ := hc
    have hlz : (zrow (cellsL z) (n * (cellsL z).length)).length = n * (cellsL z).length := by simp [zrow]
    have fin : ∀ (L : RLoc) (c' : Nat), ρ b = some L → n ≠ 0 → ∃ w' u', (Builtin.clear_ ats ty ⟨[.slice (some ⟨L.blk, L.off + o, none⟩) n c']⟩).run P w = .ok u' w' ∧ VR ρ (.tuple #[]) u' ∧ Rel B w0 ρ (h.set b (.row m esz (setsL cs o (zrow (cellsL z) (n * (cellsL z).length))))) w' := by
      intro L c' hL hn
      obtain ⟨w', r1, r2⟩ := hr.stores (P := P) (zrow_ok hp (n * (cellsL z).length)) (oneCells_mem hone) hrow hm hL (o := o) (k := 0) (by rw [hlz]; omega)
      refine ⟨w', .tuple #[], ?_, VR.undef, by simpa using r2⟩
      have hzc : z.cells = ⟨cellsL z⟩ := by rw [cellsL_eq]
      have hzero : (Builtin.zeroCells z.cells n).toList = zrow (cellsL z) (n * (cellsL z).length) := by
        simp only [Builtin.zeroCells, hzc]
        have := zrow_eq (cellsL z) (n * (cellsL z).length) (.inr (by cases hq : cellsL z <;> simp_all))
        simp only [List.size_toArray] at this ⊢
        rw [this]
      cases n with
      | zero => exact absurd rfl hn
      | succ n =>
        simp only [Builtin.clear_, h0, List.getElem?_toArray, List.getElem?_cons_zero, Sem.run_bind, run_underlying' hu, Result.andThen_ok, Sem.run_pure, run_zeroValue' hi hz, hzero, r1]
    cases hx with
    | sl hL hc => exact fin _ _ hL hn0
    | slo hL hc he hn => exact fin _ _ hL hn0
    | slz hL hc he => exact (hn0 rfl).elim
    | sl0 hL => exact (hn0 rfl).elim
  · rename_i kt et b hu
    split at hb
    · rename_i es clock hm
      simp at hb; obtain ⟨rfl, rfl⟩ := hb
      cases hx with
      | @map b L hL =>
        obtain ⟨L', hL', hO⟩ := hr.obj b _ hm
        obtain rfl : L = L' := by rw [hL] at hL'; exact Option.some.inj hL'
        obtain ⟨hB, es', h1, h2⟩ := hO
        refine ⟨{ w with heap := w.heap.setIfInBounds L.blk (.map #[] clock) }, .tuple #[], ?_, VR.undef, hr.write hm rfl hL hB (fun w' hw' => ⟨hB, [], hw', .nil⟩)⟩
        have hset : (setObj L.blk (.map #[] clock)).run P w = .ok () { w with heap := w.heap.setIfInBounds L.blk (.map #[] clock) } := by
          simp [setObj, Sem.run, h1]
        simp only [Builtin.clear_, h0, List.getElem?_toArray, List.getElem?_cons_zero, Sem.run_bind, run_underlying' hu, Result.andThen_ok, Sem.run_pure, run_getObj_map h1, hset]
    · cases hb
  · cases hb

theorem ERs.eraseIdx {xs ys : List MapEntry} (h1 : ERs ρ xs ys) (i : Nat) : ERs ρ (xs.eraseIdx i) (ys.eraseIdx i) := by
  induction h1 generalizing i with
  | nil => simp; exact .nil
  | cons a b c ih =>
    cases i with
    | zero => simpa using c
    | succ i => simpa using .cons a b (ih i)

theorem adelete_ok (hr : Rel B w0 ρ h w) {ats : Array TypeId} {ty : TypeId} {vs us : List Value} {u : Value} {h' : Heap} (hb : adelete P ats vs h = some (u, h')) (hv : VRs ρ vs us) :
    ∃ w' u', (Builtin.delete_ ats ty ⟨us⟩).run P w = .ok u' w' ∧ VR ρ u u' ∧ Rel B w0 ρ h' w' := by
  unfold adelete at hb
  split at hb
  rotate_left
  · cases hb
  rename_i T b k h0
  split at hb
  rotate_left
  · cases hb
  rename_i kt et es clock hu hm
  split at hb
  rotate_left
  · cases hb
  rename_i hp
  simp only [Bool.and_eq_true] at hp
  cases hv with
  | @cons _ x' _ us hx hv =>
  cases hv with
  | @cons _ k' _ us hk hv =>
  cases hv
  obtain rfl := hk.plain_eq hp.1
  split at hb
  · cases hb
  rename_i hck
  cases hx with
  | @map b L hL =>
    obtain ⟨L', hL', hO⟩ := hr.obj b _ hm
    obtain rfl : L = L' := by rw [hL] at hL'; exact Option.some.inj hL'
    obtain ⟨hB, es', h1, h2⟩ := hO
    have hem : (Array.mk es').isEmpty = es.isEmpty := by
      have := h2.length
      cases es <;> cases es' <;> simp_all
    have fin : ∀ (es2 es2' : List MapEntry), ERs ρ es2 es2' → Rel B w0 ρ (h.set b (.map es2 clock)) { w with heap := w.heap.setIfInBounds L.blk (.map ⟨es2'⟩ clock) } :=
      fun es2 es2' he => hr.write hm rfl hL hB (fun w' hw' => ⟨hB, es2', hw', he⟩)
    have hset : ∀ o : Obj, (setObj L.blk o).run P w = .ok () { w with heap := w.heap.setIfInBounds L.blk o } := by
      intro o; simp [setObj, Sem.run, h1]
    split at hb
    · cases hb
    · rename_i i u' hf
      obtain ⟨r', h3, h4⟩ := afind_ok h2 hp.2 hf
      cases r' with
      | none => exact h4.elim
      | some p =>
        obtain ⟨j, u2⟩ := p
        obtain ⟨rfl, _⟩ := h4
        simp at hb; obtain ⟨rfl, rfl⟩ := hb
        refine ⟨_, .tuple #[], ?_, VR.undef, fin _ _ (h2.eraseIdx i)⟩
        have her : (Array.mk es').eraseIdxIfInBounds i = ⟨es'.eraseIdx i⟩ := by
          apply Array.ext'
          simp
        simp only [Builtin.delete_, h0, List.getElem?_toArray, List.getElem?_cons_zero, List.getElem?_cons_succ, Sem.run_bind, run_underlying' hu, Result.andThen_ok, run_getObj_map h1, hem, pureRun_ok hck, h3, her, hset, Sem.run_pure]
    · rename_i hf
      obtain ⟨r', h3, h4⟩ := afind_ok h2 hp.2 hf
      cases r' with
      | some p => exact h4.elim
      | none =>
        simp at hb; obtain ⟨rfl, rfl⟩ := hb
        refine ⟨_, .tuple #[], ?_, VR.undef, fin _ _ h2⟩
        simp only [Builtin.delete_, h0, List.getElem?_toArray, List.getElem?_cons_zero, List.getElem?_cons_succ, Sem.run_bind, run_underlying' hu, Result.andThen_ok, run_getObj_map h1, hem, pureRun_ok hck, h3, hset, Sem.run_pure]

theorem astrBytes_ok (hr : Rel B w0 ρ h w) {s d : TypeId} {x x' u : Value} {h' : Heap} (hb : astrBytes P s d x h = some (u, h')) (hx : VR ρ x x') :
    ∃ ρ' w' u', ρ.le ρ' ∧ (convert s d x').run P w = .ok u' w' ∧ VR ρ' u u' ∧ Rel B w0 ρ' h' w' := by
  unfold astrBytes at hb
  split at hb
  rotate_left
  · cases hb
  rename_i e str hs hd
  split at hb
  rotate_left
  · cases hb
  rename_i he
  simp only [Option.some.injEq, Prod.mk.injEq] at hb
  obtain ⟨rfl, rfl⟩ := hb
  cases hx
  let cap := str.size + (w.tape w.drawn (.appendCap str.size 0 e)) % (2 ^ 63 - str.size)
  let elems : List Value := str.data.toList.map fun b => .int .u8 b.toNat
  let rest : List Value := List.replicate (cap - str.size) (.int .u8 0)
  have hel : elems.length = str.size := by simp [elems]
  have hlen : elems.length + rest.length = cap * 1 := by
    have : str.size ≤ cap := Nat.le_add_right _ _
    simp [rest, hel]; omega
  have hr' : Rel B w0 ρ h { w with drawn := w.drawn + 1 } := hr.draw
  obtain ⟨ρ', r1, r2, r3⟩ := hr'.push (o := .row .opn 1 elems) (obj := .cells ⟨elems ++ rest⟩ e ((elems ++ rest).length, (elems ++ rest).length + 1)) (cap := cap)
    (fun ρ' w' hle hw' => ⟨hr.base, [], elems, rest, e, (elems ++ rest).length, (elems ++ rest).length + 1, by simpa using hw', rfl, VRs.ofPlain (fun x hx => by simp [elems] at hx; obtain ⟨b, _, rfl⟩ := hx; rfl), .inr (by simp), hlen⟩)
  refine ⟨ρ', { w with drawn := w.drawn + 1, heap := w.heap.push (.cells ⟨elems ++ rest⟩ e ((elems ++ rest).length, (elems ++ rest).length + 1)) }, .slice (some ⟨w.heap.size, 0, none⟩) str.size cap, r1, ?_, ?_, r3⟩
  · simp only [convert, Sem.run_bind, run_underlying' hs, run_underlying' hd, run_underlying' he, Result.andThen_ok, Conv.stringToBytes]
    have hnc : (choose (.appendCap str.size 0 e)).run P w = .ok cap { w with drawn := w.drawn + 1 } := rfl
    have hrow : (str.data.map fun b => Value.int .u8 (b.toNat : Int)) ++ Array.replicate (cap - str.size) (.int .u8 0) = ⟨elems ++ rest⟩ := by
      apply Array.ext'; simp [elems, rest]
    simp only [hnc, Result.andThen_ok, hrow, newRow, Sem.run_bind, run_newObj, Sem.run_pure, markStringish, run_shape]
    have hsh : World.shape? { heap := w.heap.push (Obj.cells ⟨elems ++ rest⟩ e), tape := w.tape, drawn := w.drawn + 1, os := w.os, output := w.output } w.heap.size = some (e, (elems ++ rest).length) := by
      simp [World.shape?]
    simp only [hsh, run_freeze, Result.andThen_ok]
    congr 1
    simp only [World.freeze]
    rw [if_neg (by simp)]
    congr 1
    apply Array.ext_getElem?
    intro j
    rw [Array.getElem?_modify, Array.getElem?_push, Array.getElem?_push]
    by_cases hj : w.heap.size = j
    · subst hj; simp
    · have hj' : ¬ j = w.heap.size := fun h => hj h.symm
      simp [hj, hj']
  · have := VR.slo (ρ := ρ') (b := h.length) (o := 0) (n := str.size) (c := openCap) (c' := cap) r2 (by decide) (by simp [Nat.add_comm]) (Nat.le_add_right _ _)
    simpa using this

/-- Soundness of the operations that make or write memory. -/
theorem aeff_ok (hr : Rel B w0 ρ h w) {o : Oper} {v : Value} {h' : Heap} (hb : aeff P o t h = some (v, h')) (ht : TRs ρ t ts) :
    ∃ ρ' w' n, ρ.le ρ' ∧ (execOp (tev ts) o).run P w = .ok n w' ∧ NR ρ' v n ∧ Rel B w0 ρ' h' w' := by
  obtain ⟨dst, op, ty, pos, aft, grd⟩ := o
  unfold aeff at hb
  split at hb
  · rename_i T x hop; dsimp only at hop; subst hop
    split at hb
    · rename_i v0 hx
      obtain ⟨ρ', w', u', h1, h2, h3, h4⟩ := abox_ok (P := P) (T := T) hr hb (ev_ok ht hx)
      exact ⟨ρ', w', .value u', h1, by simp only [execOp, Sem.run_bind, h2]; rfl, h3, h4⟩
    · cases hb
  · rename_i T hop; dsimp only at hop; subst hop
    obtain ⟨ρ', w', u', h1, h2, h3, h4⟩ := aalloc_ok hr hb
    exact ⟨ρ', w', .value u', h1, by simp only [execOp, Sem.run_bind, h2]; rfl, h3, h4⟩
  · rename_i T len parts hop; dsimp only at hop; subst hop
    split at hb
    · rename_i ps hps
      obtain ⟨ρ', w', u', h1, h2, h3, h4⟩ := abuildSlice_ok hr hb (evp_ok ht hps)
      have : (parts.map fun x : Nat × Operand => (x.1, tev ts x.2)) = ⟨parts.toList.map fun p => (p.1, tev ts p.2)⟩ := by
        apply Array.ext'; simp
      refine ⟨ρ', w', .value u', h1, ?_, h3, h4⟩
      simp only [execOp, Sem.run_bind]
      rw [this, h2]; rfl
    · cases hb
  · rename_i T l c hop; dsimp only at hop; subst hop
    split at hb
    · rename_i l0 c0 hl hc
      obtain ⟨ρ', w', u', h1, h2, h3, h4⟩ := amakeSlice_ok hr hb (ev_ok ht hl) (ev_ok ht hc)
      exact ⟨ρ', w', .value u', h1, by simp only [execOp, Sem.run_bind, h2]; rfl, h3, h4⟩
    · cases hb
  · rename_i T r hop; dsimp only at hop; subst hop
    split at hb
    · rename_i r0 hrr
      obtain ⟨ρ', w', u', h1, h2, h3, h4⟩ := amakeMap_ok hr hb (evo_ok ht hrr)
      exact ⟨ρ', w', .value u', h1, by simp only [execOp, Sem.run_bind, h2]; rfl, h3, h4⟩
    · cases hb
  · rename_i T a x hop; dsimp only at hop; subst hop
    split at hb
    · rename_i a0 x0 ha hx
      split at hb <;> simp at hb
      obtain ⟨rfl, rfl⟩ := hb
      obtain ⟨w', h1, h2⟩ := astore_ok hr ‹_› (ev_ok ht ha) (ev_ok ht hx)
      exact ⟨ρ, w', .skip, ρ.le_refl, by simp only [execOp, Sem.run_bind, h1]; rfl, rfl, h2⟩
    · cases hb
  · rename_i T m k x hop; dsimp only at hop; subst hop
    split at hb
    · rename_i m0 k0 x0 hm hk hx
      split at hb <;> simp at hb
      obtain ⟨rfl, rfl⟩ := hb
      obtain ⟨w', h1, h2⟩ := amapUpdate_ok hr ‹_› (ev_ok ht hm) (ev_ok ht hk) (ev_ok ht hx)
      exact ⟨ρ, w', .skip, ρ.le_refl, by simp only [execOp, Sem.run_bind, h1]; rfl, rfl, h2⟩
    · cases hb
  · rename_i T m k x hop; dsimp only at hop; subst hop
    split at hb
    · rename_i m0 k0 x0 hm hk hx
      split at hb <;> simp at hb
      obtain ⟨rfl, rfl⟩ := hb
      obtain ⟨w', h1, h2⟩ := amapUpdate_ok hr ‹_› (ev_ok ht hm) (ev_ok ht hk) (ev_ok ht hx)
      exact ⟨ρ, w', .skip, ρ.le_refl, by simp only [execOp, Sem.run_bind, h1]; rfl, rfl, h2⟩
    · cases hb
  · rename_i s d x hop; dsimp only at hop; subst hop
    split at hb
    · rename_i v0 hx
      obtain ⟨ρ', w', u', h1, h2, h3, h4⟩ := astrBytes_ok hr hb (ev_ok ht hx)
      exact ⟨ρ', w', .value u', h1, by simp only [execOp, Sem.run_bind, h2]; rfl, h3, h4⟩
    · cases hb
  all_goals (try (cases hb; done))
  all_goals
    rename_i args ats hop; dsimp only at hop; subst hop
    split at hb
    rotate_left
    · cases hb
    rename_i vs hvs
    have e : args.map (tev ts) = ⟨args.toList.map (tev ts)⟩ := by apply Array.ext'; simp
  · obtain ⟨ρ', w', u', h1, h2, h3, h4⟩ := aappend_ok (ty := ty) hr hb (evs_ok ht hvs)
    exact ⟨ρ', w', .value u', h1, by simp only [execOp, resolve, Sem.run_bind, Sem.run_pure, Result.andThen_ok, invoke, builtin, e, h2], h3, h4⟩
  · obtain ⟨w', u', h2, h3, h4⟩ := acopy_ok (ty := ty) hr hb (evs_ok ht hvs)
    exact ⟨ρ, w', .value u', ρ.le_refl, by simp only [execOp, resolve, Sem.run_bind, Sem.run_pure, Result.andThen_ok, invoke, builtin, e, h2], h3, h4⟩
  · obtain ⟨w', u', h2, h3, h4⟩ := aclear_ok (ty := ty) hr hb (evs_ok ht hvs)
    exact ⟨ρ, w', .value u', ρ.le_refl, by simp only [execOp, resolve, Sem.run_bind, Sem.run_pure, Result.andThen_ok, invoke, builtin, e, h2], h3, h4⟩
  · obtain ⟨w', u', h2, h3, h4⟩ := adelete_ok (ty := ty) hr hb (evs_ok ht hvs)
    exact ⟨ρ, w', .value u', ρ.le_refl, by simp only [execOp, resolve, Sem.run_bind, Sem.run_pure, Result.andThen_ok, invoke, builtin, e, h2], h3, h4⟩
end
end Go.Am
