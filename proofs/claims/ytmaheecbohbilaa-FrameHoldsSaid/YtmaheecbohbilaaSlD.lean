/-
  The operations that ask no memory, reckoned by a function; the others, a rule each.
-/
import Derived.Test.YtmaheecbohbilaaSlC
import Derived.Laws.Tables
namespace Go.Proofs.Ytmaheecbohbilaa.Sl
open Go Go.RowKit
set_option linter.unusedVariables false
set_option linter.unusedSimpArgs false

/-! ### Operations that ask no memory -/
def binI (op : BinOp) (k : IntKind) (a b : Int) : Option Value :=
  match op with
  | .add => some (.int k (k.wrap (a + b)))
  | .sub => some (.int k (k.wrap (a - b)))
  | .mul => some (.int k (k.wrap (a * b)))
  | .and => some (.int k (k.wrap (BitVec.ofInt k.bits a &&& BitVec.ofInt k.bits b).toNat))
  | .or => some (.int k (k.wrap (BitVec.ofInt k.bits a ||| BitVec.ofInt k.bits b).toNat))
  | .xor => some (.int k (k.wrap (BitVec.ofInt k.bits a ^^^ BitVec.ofInt k.bits b).toNat))
  | .andNot => some (.int k (k.wrap (BitVec.ofInt k.bits a &&& ~~~BitVec.ofInt k.bits b).toNat))
  | .eql => some (.bool (a == b))
  | .neq => some (.bool (a != b))
  | .lss => some (.bool (decide (a < b)))
  | .leq => some (.bool (decide (a ≤ b)))
  | .gtr => some (.bool (decide (a > b)))
  | .geq => some (.bool (decide (a ≥ b)))
  | _ => none
def kindEq : IntKind → IntKind → Bool
  | .i8, .i8 | .i16, .i16 | .i32, .i32 | .i64, .i64 | .u8, .u8 | .u16, .u16 | .u32, .u32 | .u64, .u64 => true
  | _, _ => false
theorem kindEq_eq {j k : IntKind} (h : kindEq j k = true) : j = k := by cases j <;> cases k <;> first | rfl | cases h
/-- A number that is no negative one, as a natural one: of numerals. -/
def litNat : Int → Option Nat
  | .ofNat n => some n
  | .negSucc _ => none
theorem litNat_eq {a : Int} {n : Nat} (h : litNat a = some n) : a = n := by cases a <;> simp [litNat] at h; simp [h]
def binV (T : TT) (op : BinOp) (t : Nat) (u v : Value) : Option Value :=
  match u, v with
  | .int j a, .int k b =>
    match op with
    | .shl => match litNat b with | some n => some (.int j (j.wrap (a * 2 ^ min n j.bits))) | none => none
    | .shr => match litNat b with | some n => some (.int j (a.fdiv (2 ^ min n j.bits))) | none => none
    | .quo => bif kindEq j k then match litNat b with | some (n + 1) => some (.int j (j.wrap (a.tdiv b))) | _ => none else none
    | .rem => bif kindEq j k then match litNat b with | some (n + 1) => some (.int j (a.tmod b)) | _ => none else none
    | op => bif kindEq j k then binI op j a b else none
  | .string a, .string b =>
    match op with
    | .eql => some (.bool (a.toList == b.toList))
    | .neq => some (.bool (!(a.toList == b.toList)))
    | _ => none
  | .bool a, .bool b =>
    match T.get t with
    | some i => match i.desc, op with
      | .bool, .eql => some (.bool (a == b))
      | .bool, .neq => some (.bool (!(a == b)))
      | _, _ => none
    | none => none
  | .pointer a, .pointer none =>
    match T.get t with
    | some i => match i.desc, op with
      | .pointer _, .eql => some (.bool a.isNone)
      | .pointer _, .neq => some (.bool (!a.isNone))
      | _, _ => none
    | none => none
  | .slice a _ _, .slice none _ _ =>
    match T.get t with
    | some i => match i.desc, op with
      | .slice _, .eql => some (.bool a.isNone)
      | .slice _, .neq => some (.bool (!a.isNone))
      | _, _ => none
    | none => none
  | _, _ => none
theorem run_eqGuard_plain {P : Program} {op : BinOp} {t : Nat} {x y : Operand} {u v : Value} (h : (match u, v with | .nilIface, .nilIface => false | .agg _, .agg _ => false | _, _ => true) = true) (w : World) :
    (eqGuard op t x y u v).run P w = .ok () w := by
  unfold eqGuard
  cases op <;> cases u <;> cases v <;> first | rfl | (simp at h; done) | simp
theorem binI_run {P : Program} {op : BinOp} {k : IntKind} {a b : Int} {v : Value} (h : binI op k a b = some v) (t : Nat) (w : World) : (binOp op t (.int k a) (.int k b)).run P w = .ok v w := by
  cases op <;> simp [binI] at h <;> subst h <;> simp [binOp, Op.intArith, Op.intBits, Op.intCmp]
theorem eq_bool {P : Program} {t : Nat} (h : P.underlying t = some .bool) {a b : Bool} (d : Nat) (w : World) : (Op.equalIn (d + 1) t (.bool a) (.bool b)).run P w = .ok (a == b) w := by
  simp [Op.equalIn, run_underlying h]
theorem eq_ptr {P : Program} {t e : Nat} (h : P.underlying t = some (.pointer e)) {a : Option Addr} (d : Nat) (w : World) : (Op.equalIn (d + 1) t (.pointer a) (.pointer none)).run P w = .ok a.isNone w := by
  cases a <;> simp [Op.equalIn, run_underlying h]
theorem eq_slice {P : Program} {t e : Nat} (h : P.underlying t = some (.slice e)) {a : Option Addr} {l c l' c' : Nat} (d : Nat) (w : World) : (Op.equalIn (d + 1) t (.slice a l c) (.slice none l' c')).run P w = .ok a.isNone w := by
  cases a <;> simp [Op.equalIn, run_underlying h]
theorem eqV_run {P : Program} {t : Nat} {u v : Value} {r : Bool} {w : World} (h : (Op.equalIn 10000 t u v).run P w = .ok r w) : (do pure (.bool (← Op.equal t u v)) : Sem Value).run P w = .ok (.bool r) w := by
  have h2 : (Op.equal t u v).run P w = .ok r w := h
  simp only [Sem.run_bind, h2, Result.andThen, Sem.run_pure]
theorem neV_run {P : Program} {t : Nat} {u v : Value} {r : Bool} {w : World} (h : (Op.equalIn 10000 t u v).run P w = .ok r w) : (do pure (.bool (!(← Op.equal t u v))) : Sem Value).run P w = .ok (.bool (!r)) w := by
  have h2 : (Op.equal t u v).run P w = .ok r w := h
  simp only [Sem.run_bind, h2, Result.andThen, Sem.run_pure]
theorem binV_run {P : Program} {T : TT} (hT : TTok P T) {op : BinOp} {t : Nat} {u v r : Value} (h : binV T op t u v = some r) (x y : Operand) (w : World) :
    (do eqGuard op t x y u v; binOp op t u v).run P w = .ok r w := by
  have hg : (eqGuard op t x y u v).run P w = .ok () w := run_eqGuard_plain (by
    cases u <;> first | (cases v <;> first | rfl | (simp [binV] at h; done)) ) w
  simp only [Sem.run_bind, hg, Result.andThen]
  unfold binV at h
  split at h
  · rename_i j a k b
    split at h
    · split at h
      · rename_i n hn; have := litNat_eq hn; subst this; simp at h; subst h; have h0 : ¬ ((n : Int) < 0) := by omega
        simp [binOp, Op.shift, h0]
      · cases h
    · split at h
      · rename_i n hn; have := litNat_eq hn; subst this; simp at h; subst h; have h0 : ¬ ((n : Int) < 0) := by omega
        simp [binOp, Op.shift, h0]
      · cases h
    · cases hk : kindEq j k with
      | false => rw [hk] at h; cases h
      | true =>
        have := kindEq_eq hk; subst this
        rw [hk] at h; simp only [cond_true] at h
        split at h
        · rename_i n hn
          have e := litNat_eq hn
          simp at h; subst h
          have e2 : b = (n : Int) + 1 := by rw [e]; simp
          subst e2
          have hne : ((n : Int) + 1 = 0) = False := by simp; omega
          simp [binOp, Op.intDiv, hne]
        · cases h
    · cases hk : kindEq j k with
      | false => rw [hk] at h; cases h
      | true =>
        have := kindEq_eq hk; subst this
        rw [hk] at h; simp only [cond_true] at h
        split at h
        · rename_i n hn
          have e := litNat_eq hn
          simp at h; subst h
          have e2 : b = (n : Int) + 1 := by rw [e]; simp
          subst e2
          have hne : ((n : Int) + 1 = 0) = False := by simp; omega
          simp [binOp, Op.intDiv, hne]
        · cases h
    · cases hk : kindEq j k with
      | false => rw [hk] at h; cases h
      | true =>
        have := kindEq_eq hk; subst this
        rw [hk] at h
        exact binI_run h t w
  · split at h <;> first | (simp at h; subst h; simp [binOp, Op.stringOp]; done) | cases h
  · split at h
    · rename_i a b i hi
      have hu := (hT.get hi).1.1
      split at h
      · rename_i hd; rw [hd] at hu; cases h; exact eqV_run (eq_bool hu 9999 w)
      · rename_i hd; rw [hd] at hu; cases h; exact neV_run (eq_bool hu 9999 w)
      · cases h
    · cases h
  · split at h
    · rename_i a i hi
      have hu := (hT.get hi).1.1
      split at h
      · rename_i hd; rw [hd] at hu; cases h; exact eqV_run (eq_ptr hu 9999 w)
      · rename_i hd; rw [hd] at hu; cases h; exact neV_run (eq_ptr hu 9999 w)
      · cases h
    · cases h
  · split at h
    · rename_i a _ _ _ _ i hi
      have hu := (hT.get hi).1.1
      split at h
      · rename_i hd; rw [hd] at hu; cases h; exact eqV_run (eq_slice hu 9999 w)
      · rename_i hd; rw [hd] at hu; cases h; exact neV_run (eq_slice hu 9999 w)
      · cases h
    · cases h
  · cases h

def unV (op : UnOp) (u : Value) : Option Value :=
  match op, u with
  | .not, .bool b => some (.bool !b)
  | .neg, .int k n => some (.int k (k.wrap (0 - n)))
  | .xor, .int k n => binI .xor k (if k.signed then -1 else k.max) n
  | _, _ => none
theorem unV_run {P : Program} {op : UnOp} {u r : Value} (h : unV op u = some r) (w : World) : (Op.unary op u).run P w = .ok r w := by
  unfold unV at h
  split at h
  · cases h; rfl
  · cases h; rfl
  · rename_i k n
    simp [binI] at h; subst h; simp [Op.unary, Op.intBits]
  · cases h
/-- Of a list, the place n. -/
def nth {α : Type} : List α → Nat → Option α
  | [], _ => none
  | x :: _, 0 => some x
  | _ :: r, n + 1 => nth r n
theorem nth_eq {α : Type} : ∀ (l : List α) (n : Nat), nth l n = l[n]?
  | [], _ => by simp [nth]
  | _ :: _, 0 => by simp [nth]
  | _ :: r, n + 1 => by simp [nth, nth_eq r n]
def evs (env : Env) : List Operand → Option (List Value)
  | [] => some []
  | x :: r => match ev env x with
    | some v => match evs env r with
      | some vs => some (v :: vs)
      | none => none
    | none => none
/-- The same, the list's spine reckoned. -/
def evsK {β : Type} (env : Env) : List Operand → (List Value → Option β) → Option β
  | [], k => k []
  | x :: r, k => match ev env x with
    | some v => evsK env r fun vs => k (v :: vs)
    | none => none
theorem evsK_eq {β : Type} {env : Env} : ∀ {l : List Operand} {k : List Value → Option β} {r : β}, evsK env l k = some r → ∃ vs, evs env l = some vs ∧ k vs = some r
  | [], k, r, h => ⟨[], rfl, h⟩
  | x :: l, k, r, h => by
    simp only [evsK] at h
    cases e : ev env x with
    | none => rw [e] at h; cases h
    | some v =>
      rw [e] at h
      obtain ⟨vs, h1, h2⟩ := evsK_eq h
      exact ⟨v :: vs, by simp [evs, e, h1], h2⟩
theorem evs_map {env : Env} {ρ : Operand → Value} (hρ : ∀ x v, ev env x = some v → ρ x = v) : ∀ {l : List Operand} {vs : List Value}, evs env l = some vs → l.map ρ = vs
  | [], vs, h => by simp [evs] at h; simp [h]
  | x :: l, vs, h => by
    simp only [evs] at h
    cases e : ev env x with
    | none => rw [e] at h; cases h
    | some v =>
      rw [e] at h
      cases e2 : evs env l with
      | none => rw [e2] at h; cases h
      | some us => rw [e2] at h; cases h; simp [hρ x v e, evs_map hρ e2]
/-- A struct's cells, its parts laid over its zero's. -/
def fillN {β : Type} (env : Env) (places : List (Nat × Nat)) : List (Nat × Operand) → List Value → (List Value → Option β) → Option β
  | [], cs, k => k cs
  | (i, x) :: r, cs, k => match nth places i with
    | some (off, size) => match ev env x with
      | some v => bif Nat.beq (vcells v).length size then wrAt off (vcells v) cs fun cs => fillN env places r cs k else none
      | none => none
    | none => none
theorem fill_step {cells : Array Value} {off : Nat} {v : Value} (h : off + (vcells v).length ≤ cells.size) :
    (v.cells.zipIdx.foldl (fun cs (x : Value × Nat) => cs.setIfInBounds (off + x.2) x.1) cells).toList = cells.toList.take off ++ vcells v ++ cells.toList.drop (off + (vcells v).length) := by
  have key : ∀ (vs : List Value) (j : Nat) (cs : Array Value), off + j + vs.length ≤ cs.size →
      ((vs.zipIdx j).foldl (fun cs (x : Value × Nat) => cs.setIfInBounds (off + x.2) x.1) cs).toList = cs.toList.take (off + j) ++ vs ++ cs.toList.drop (off + j + vs.length) := by
    intro vs
    induction vs with
    | nil => intro j cs _; simp
    | cons v vs ih =>
      intro j cs hle
      simp only [List.length_cons] at hle
      have hlt : off + j < cs.toList.length := by rw [Array.length_toList]; omega
      simp only [List.zipIdx_cons, List.foldl_cons]
      rw [ih (j + 1) (cs.setIfInBounds (off + j) v) (by simp; omega)]
      simp only [Array.toList_setIfInBounds, List.length_cons]
      rw [show off + (j + 1) = (off + j) + 1 from by omega, List.take_set, List.take_add_one, List.getElem?_eq_getElem hlt, List.drop_set_of_lt (by omega)]
      rw [List.set_append_right _ _ (by simp; omega)]
      have e : off + j - (List.take (off + j) cs.toList).length = 0 := by simp; omega
      rw [e]
      simp
      omega
  have := key (vcells v) 0 cells (by simpa using h)
  rw [← Array.foldl_toList, Array.toList_zipIdx, vcells_eq]
  simpa using this

theorem fillN_eq {env : Env} {ρ : Operand → Value} (hρ : ∀ x v, ev env x = some v → ρ x = v) {places : List (Nat × Nat)} {β : Type} {k : List Value → Option β} {r : β} :
    ∀ {parts : List (Nat × Operand)} {cs : List Value}, fillN env places parts cs k = some r → ∃ cs', Instr.fill (places.toArray[·]?) cs.toArray (parts.map fun (i, x) => (i, ρ x)) = some cs'.toArray ∧ k cs' = some r
  | [], cs, h => ⟨cs, rfl, h⟩
  | (i, x) :: parts, cs, h => by
    simp only [fillN] at h
    cases e1 : nth places i with
    | none => rw [e1] at h; cases h
    | some os =>
      obtain ⟨off, size⟩ := os
      rw [e1] at h
      simp only at h
      cases e2 : ev env x with
      | none => rw [e2] at h; cases h
      | some v =>
        rw [e2] at h
        simp only at h
        cases e3 : Nat.beq (vcells v).length size with
        | false => rw [e3] at h; cases h
        | true =>
          have e4 := Nat.eq_of_beq_eq_true e3
          rw [e3] at h
          simp only [cond_true] at h
          by_cases hle : off ≤ cs.length
          · rw [wrAt_eq _ _ _ _ hle] at h
            split at h
            · rename_i h2
              obtain ⟨cs', h3, h4⟩ := fillN_eq hρ h
              refine ⟨cs', ?_, h4⟩
              rw [nth_eq] at e1
              simp only [List.map_cons, Instr.fill, List.getElem?_toArray, e1, hρ x v e2]
              have e5 : v.cells.size = size := by rw [← Array.length_toList, vcells_eq]; exact e4
              have e6 : ¬ (v.cells.size ≠ size || decide (off + v.cells.size > cs.toArray.size)) = true := by simp; exact ⟨e5, by rw [e5, ← e4]; exact h2⟩
              rw [if_neg e6]
              have e7 := fill_step (cells := cs.toArray) (off := off) (v := v) (by simpa using h2)
              have e8 : v.cells.zipIdx.foldl (fun cs (x : Value × Nat) => cs.setIfInBounds (off + x.2) x.1) cs.toArray = (cs.take off ++ vcells v ++ cs.drop (off + (vcells v).length)).toArray := Array.toList_inj.1 (by rw [e7])
              simp only [List.getElem?_toArray] at h3
              rw [← e8] at h3
              exact h3
            · cases h
          · rw [wrAt_len _ _ _ _ (by omega)] at h; cases h

/-- The operations that are reckoned without memory. -/
def pureOp (T : TT) (env : Env) : Op → Option Value
  | .move x => ev env x
  | .assign x => ev env x
  | .pick c a b => match ev env c with
    | some (.bool true) => ev env a
    | some (.bool false) => ev env b
    | _ => none
  | .binOp op t x y _ => match ev env x with
    | some u => match ev env y with
      | some v => binV T op t u v
      | none => none
    | none => none
  | .unOp op _ x => match ev env x with
    | some u => unV op u
    | none => none
  | .convert src dst x => match T.get src, T.get dst, ev env x with
    | some _, some i, some (.int _ n) => match i.desc with
      | .int k => some (.int k (k.wrap n))
      | _ => none
    | some _, some i, some (.string s) => match i.desc with
      | .string => some (.string s)
      | _ => none
    | _, _, _ => none
  | .build t parts => match T.get t with
    | some i => match i.desc with
      | .struct _ => fillN env i.places parts.toList (vcells i.zero) fun cs => some (.agg cs.toArray)
      | _ => none
    | none => none
  | .makeFunc fn first captured => evsK env first.toList fun a => evsK env captured.toList fun b => some (.func fn a.toArray b.toArray)
  | .extract x n => match ev env x with
    | some (.tuple vs) => nth vs.toList n
    | _ => none
  | .field t x n => match T.get t, ev env x with
    | some i, some (.agg cs) => match i.desc, nth i.places n with
      | .struct fs, some (off, size) => match nth fs.toList n with
        | some f => match T.get f.type with
          | some j => rdv j cs.toList off
          | none => none
        | none => none
      | _, _ => none
    | _, _ => none
  | .fieldAddr t x n => match T.get t, ev env x with
    | some i, some (.pointer (some ⟨b, o, none⟩)) => match i.desc, nth i.places n with
      | .struct _, some (off, size + 1) => some (.pointer (some ⟨b, bif Nat.beq off 0 then o else bif Nat.beq o 0 then off else o + off, none⟩))
      | _, _ => none
    | _, _ => none
  | .nilCheck x => match ev env x with
    | some (.pointer (some a)) => some (.pointer (some a))
    | _ => none
  | .call c => match c.callee, c.args.toList, c.argTypes.toList with
    | .builtin .len, [x], [t] => match T.get t, ev env x with
      | some i, some (.slice _ n _) => match i.desc with
        | .slice _ => some (.int .i64 n)
        | _ => none
      | some i, some (.string s) => match i.desc with
        | .string => some (.int .i64 s.size)
        | _ => none
      | some i, some (.agg _) => match i.desc with
        | .array n _ => some (.int .i64 n)
        | _ => none
      | _, _ => none
    | .builtin .min, [x, y], _ => match ev env x, ev env y with
      | some (.int k a), some (.int _ b) => some (.int k (if b < a then b else a))
      | _, _ => none
    | .builtin .max, [x, y], _ => match ev env x, ev env y with
      | some (.int k a), some (.int _ b) => some (.int k (if a < b then b else a))
      | _, _ => none
    | _, _, _ => none
  | _ => none

theorem run_part_of {P : Program} {t : Nat} {j : TI} (hj : TIok P t j) {cs : Array Value} {off : Nat} {v : Value} (hv : rdv j cs.toList off = some v) (w : World) : (part t cs off).run P w = .ok v w := by
  unfold part
  simp only [Sem.run_bind, hj.run_isAgg w, Result.andThen]
  cases ha : aggD j.desc with
  | true =>
    obtain ⟨hl, rfl⟩ := rdv_agg ha hv
    simp only [if_true, Sem.run_bind, hj.run_sizeOf w, Result.andThen, Sem.run_pure]
    congr 2
    apply Array.toList_inj.1
    simp [Array.toList_extract, List.extract_eq_take_drop]
  | false =>
    have := rdv_one ha hv
    simp only [Bool.false_eq_true, if_false]
    have e : cs[off]? = some v := by simpa using this
    simp [e]
theorem placesOf_get {P : Program} {fs : List Field} {places : List (Nat × Nat)} (h : fs.mapM (fun f => (P.info? f.type).map fun i => (f.offset, i.size)) = some places) {n : Nat} {f : Field} (hf : fs[n]? = some f) :
    ∃ i, P.info? f.type = some i ∧ places[n]? = some (f.offset, i.size) := by
  induction fs generalizing places n with
  | nil => simp at hf
  | cons g fs ih =>
    simp only [List.mapM_cons, Option.bind_eq_bind, Option.pure_def] at h
    cases hi : P.info? g.type with
    | none => simp [hi] at h
    | some i =>
      cases hr : fs.mapM (fun f => (P.info? f.type).map fun i => (f.offset, i.size)) with
      | none => simp [hi, hr] at h
      | some rest =>
        simp [hi, hr] at h
        subst h
        cases n with
        | zero => simp at hf; subst hf; exact ⟨i, hi, by simp⟩
        | succ n => simp at hf; obtain ⟨j, h1, h2⟩ := ih hr hf; exact ⟨j, h1, by simpa using h2⟩
theorem placesOf_len {P : Program} {fs : List Field} {places : List (Nat × Nat)} (h : fs.mapM (fun f => (P.info? f.type).map fun i => (f.offset, i.size)) = some places) : places.length = fs.length := by
  induction fs generalizing places with
  | nil => simp at h; simp [← h]
  | cons g fs ih =>
    simp only [List.mapM_cons, Option.bind_eq_bind, Option.pure_def] at h
    cases hi : P.info? g.type with
    | none => simp [hi] at h
    | some i =>
      cases hr : fs.mapM (fun f => (P.info? f.type).map fun i => (f.offset, i.size)) with
      | none => simp [hi, hr] at h
      | some rest => simp [hi, hr] at h; subst h; simp [ih hr]

/-- **WHAT 'pureOp' RECKONS IS WHAT THE OPERATION YIELDS.** -/
theorem pureOp_run {P : Program} {T : TT} (hT : TTok P T) {env : Env} {ρ : Operand → Value} (hρ : ∀ x v, ev env x = some v → ρ x = v) {o : Oper} {v : Value} (h : pureOp T env o.op = some v) (w : World) :
    (execOp ρ o).run P w = .ok (.value v) w := by
  obtain ⟨dst, op, type, pos, after, guard⟩ := o
  simp only at h
  have vv : ∀ (s : Sem Value), s.run P w = .ok v w → (do pure (Next.value (← s)) : Sem Next).run P w = .ok (.value v) w := fun s hs => by
    simp only [Sem.run_bind, hs, Result.andThen, Sem.run_pure]
  unfold pureOp at h
  split at h
  · simp only [execOp, hρ _ _ h, Sem.run_pure]
  · simp only [execOp, hρ _ _ h, Sem.run_pure]
  · split at h
    · rename_i e; simp [execOp, hρ _ _ e, hρ _ _ h, asBool]
    · rename_i e; simp [execOp, hρ _ _ e, hρ _ _ h, asBool]
    · cases h
  · split at h
    · rename_i e1
      split at h
      · rename_i e2; exact vv _ (by rw [hρ _ _ e1, hρ _ _ e2]; exact binV_run hT h _ _ w)
      · cases h
    · cases h
  · split at h
    · rename_i e1; exact vv _ (by rw [hρ _ _ e1]; exact unV_run h w)
    · cases h
  · split at h
    · rename_i i1 i2 k n e1 e2 e3
      have u1 := (hT.get e1).1.1
      have u2 := (hT.get e2).1.1
      split at h
      · rename_i hd; rw [hd] at u2; cases h
        exact vv _ (by rw [hρ _ _ e3]; simp [convert, run_underlying u1, run_underlying u2, Conv.intToInt])
      · cases h
    · rename_i i1 i2 s e1 e2 e3
      have u1 := (hT.get e1).1.1
      have u2 := (hT.get e2).1.1
      split at h
      · rename_i hd; rw [hd] at u2; cases h
        exact vv _ (by rw [hρ _ _ e3]; simp [convert, run_underlying u1, run_underlying u2])
      · cases h
    · cases h
  · rename_i t parts
    split at h
    · rename_i i hi
      split at h
      · rename_i fs hd
        have hti := hT.get hi
        have hu := hti.1.1
        obtain ⟨j, hj, _, _, hz⟩ := hti.info
        have hp := hti.2
        rw [hd] at hu hp
        simp only [placesOf] at hp
        obtain ⟨cs', h1, h2⟩ := fillN_eq hρ h
        cases h2
        refine vv _ (run_build w _ _ _ ?_)
        simp only [Program.built, hj, hu, hz, hp]
        rw [← vcells_eq] at h1
        simpa using h1
      · cases h
    · cases h
  · obtain ⟨as_, h1, h2⟩ := evsK_eq h
    obtain ⟨bs, h3, h4⟩ := evsK_eq h2
    cases h4
    rename_i fn first captured
    have e1 := evs_map hρ h1
    have e2 := evs_map hρ h3
    refine vv _ ?_
    simp only [Instr.makeFunc, Sem.run_pure]
    have a1 : first.map ρ = as_.toArray := Array.toList_inj.1 (by simpa using e1)
    have a2 : captured.map ρ = bs.toArray := Array.toList_inj.1 (by simpa using e2)
    rw [a1, a2]
  · rename_i x n
    split at h
    · rename_i vs e
      rw [nth_eq] at h
      refine vv _ ?_
      rw [hρ _ _ e]
      have e2 : vs[n]? = some v := by simpa using h
      simp only [Instr.extract, e2, Sem.run_pure]
    · cases h
  · rename_i t x n
    split at h
    · rename_i i cs hi e
      split at h
      · rename_i fs off size hd hp
        split at h
        · rename_i f hf
          split at h
          · rename_i j hj
            have hti := hT.get hi
            have hu := hti.1.1
            have hpl := hti.2
            rw [hd] at hu hpl
            simp only [placesOf] at hpl
            rw [nth_eq] at hp hf
            obtain ⟨jj, _, hq⟩ := placesOf_get hpl hf
            rw [hq] at hp
            cases hp
            have hf2 : fs[n]? = some f := by simpa using hf
            refine vv _ ?_
            rw [hρ _ _ e]
            simp [Instr.field, run_underlying hu, hf2, asAgg, run_part_of (hT.get hj) h w]
          · cases h
        · cases h
      · cases h
    · cases h
  · rename_i t x n
    split at h
    · rename_i i b o hi e
      split at h
      · rename_i fs off size hd hp
        have hti := hT.get hi
        have hu := hti.1.1
        have hpl := hti.2
        rw [hd] at hu hpl
        simp only [placesOf] at hpl
        rw [nth_eq] at hp
        have hlen := placesOf_len hpl
        have hlt : n < fs.toList.length := by rw [← hlen]; exact (List.getElem?_eq_some_iff.1 hp).1
        have hf : fs.toList[n]? = some fs.toList[n] := List.getElem?_eq_getElem hlt
        obtain ⟨jj, hjj, hq⟩ := placesOf_get hpl hf
        rw [hq] at hp
        simp only [Option.some.injEq, Prod.mk.injEq] at hp
        obtain ⟨ho, hs⟩ := hp
        have hf2 : fs[n]? = some fs.toList[n] := by rw [← Array.getElem?_toList]; exact hf
        cases h
        refine vv _ ?_
        rw [hρ _ _ e]
        have hsz : (sizeOf fs.toList[n].type).run P w = .ok (size + 1) w := by
          unfold sizeOf; simp only [Sem.run_bind, Go.run_typeInfo w hjj, Result.andThen, Sem.run_pure, hs]
        simp only [Instr.fieldAt, Sem.run_bind, run_underlying hu, Result.andThen, hf2, Instr.sureAddr, Sem.run_pure, fieldPlace, hsz, Nat.add_eq_zero_iff, Nat.one_ne_zero, and_false, if_false]
        rw [ho]
        congr 3
        unfold Addr.add
        by_cases h0 : off = 0
        · subst h0; simp
        · have hb : Nat.beq off 0 = false := by
            cases hbb : Nat.beq off 0 with
            | false => rfl
            | true => exact absurd (Nat.eq_of_beq_eq_true hbb) h0
          rw [if_neg h0, hb]
          by_cases ho2 : o = 0
          · subst ho2; simp
          · have hb2 : Nat.beq o 0 = false := by
              cases hbb : Nat.beq o 0 with
              | false => rfl
              | true => exact absurd (Nat.eq_of_beq_eq_true hbb) ho2
            rw [hb2]; simp
      · cases h
    · cases h
  · split at h
    · rename_i e; cases h; simp [execOp, hρ _ _ e]
    · cases h
  · rename_i c
    obtain ⟨callee, args, argTypes⟩ := c
    simp only at h
    split at h
    · rename_i x t ha hat
      obtain rfl : args = #[x] := Array.toList_inj.1 (by simpa using ha)
      obtain rfl : argTypes = #[t] := Array.toList_inj.1 (by simpa using hat)
      split at h
      · rename_i i _ n _ hi e
        have hu := (hT.get hi).1.1
        split at h
        · rename_i hd; rw [hd] at hu; cases h
          simp [execOp, resolve, invoke, builtin, hρ _ _ e, Builtin.len_, run_underlying hu, goInt]
        · cases h
      · rename_i i s hi e
        have hu := (hT.get hi).1.1
        split at h
        · rename_i hd; rw [hd] at hu; cases h
          simp [execOp, resolve, invoke, builtin, hρ _ _ e, Builtin.len_, run_underlying hu, goInt]
        · cases h
      · rename_i i s hi e
        have hu := (hT.get hi).1.1
        split at h
        · rename_i hd; rw [hd] at hu; cases h
          simp [execOp, resolve, invoke, builtin, hρ _ _ e, Builtin.len_, run_underlying hu, goInt]
        · cases h
      · cases h
    · rename_i _ x y ha
      obtain rfl : args = #[x, y] := Array.toList_inj.1 (by simpa using ha)
      split at h
      · rename_i e1 e2; cases h
        simp [execOp, resolve, invoke, builtin, hρ _ _ e1, hρ _ _ e2, Builtin.min_, Builtin.min2]
      · cases h
    · rename_i _ x y ha
      obtain rfl : args = #[x, y] := Array.toList_inj.1 (by simpa using ha)
      split at h
      · rename_i e1 e2; cases h
        simp [execOp, resolve, invoke, builtin, hρ _ _ e1, hρ _ _ e2, Builtin.max_, Builtin.max2]
      · cases h
    · cases h
  · cases h
end Go.Proofs.Ytmaheecbohbilaa.Sl
