import Derived.Test.YtakkogdmlbkdaaaGreatDoorL1
import Derived.Laws.Tables
namespace Go.Proofs.YtakkogdmlbkdaaaGreatDoor.Sl
open Go Go.RowKit
set_option linter.unusedVariables false
set_option linter.unusedSimpArgs false

def binI (op : BinOp) (k : IntKind) (a b : Int) : Option Value :=
 match op with
 | .add => some (.int k (k.wrap (a + b)))
 | .sub => some (.int k (k.wrap (a - b)))
 | .mul => some (.int k (k.wrap (a * b)))
 | .and => some (.int k (k.wrap (BitVec.ofInt k.bits a &&& BitVec.ofInt k.bits b).toNat))
 | .or => some (.int k (k.wrap (BitVec.ofInt k.bits a ||| BitVec.ofInt k.bits b).toNat))
 | .xor => some (.int k (k.wrap (BitVec.ofInt k.bits a ^^^ BitVec.ofInt k.bits b).toNat))
 | .andNot => some (.int k (k.wrap (BitVec.ofInt k.bits a &&& ~~~BitVec.ofInt k.bits b).toNat))
 | .eql => some (.bool (a == b))
 | .neq => some (.bool (a != b))
 | .lss => some (.bool (decide (a < b)))
 | .leq => some (.bool (decide (a ≤ b)))
 | .gtr => some (.bool (decide (a > b)))
 | .geq => some (.bool (decide (a ≥ b)))
 | _ => none
def kindEq : IntKind → IntKind → Bool
 | .i8, .i8 | .i16, .i16 | .i32, .i32 | .i64, .i64 | .u8, .u8 | .u16, .u16 | .u32, .u32 | .u64, .u64 => true
 | _, _ => false
theorem kindEq_eq {j k : IntKind} (h : kindEq j k = true) : j = k := by cases j <;> cases k <;> first | rfl | cases h
def litNat : Int → Option Nat
 | .ofNat n => some n
 | .negSucc _ => none
theorem litNat_eq {a : Int} {n : Nat} (h : litNat a = some n) : a = n := by cases a <;> simp [litNat] at h; simp [h]
def binV (T : TT) (op : BinOp) (t : Nat) (u v : Value) : Option Value :=
 match u, v with
 | .int j a, .int k b =>
  match op with
  | .shl => match litNat b with | some n => some (.int j (j.wrap (a * 2 ^ min n j.bits))) | none => none
  | .shr => match litNat b with | some n => some (.int j (a.fdiv (2 ^ min n j.bits))) | none => none
  | .quo => bif kindEq j k then match litNat b with | some (n + 1) => some (.int j (j.wrap (a.tdiv b))) | _ => none else none
  | .rem => bif kindEq j k then match litNat b with | some (n + 1) => some (.int j (a.tmod b)) | _ => none else none
  | op => bif kindEq j k then binI op j a b else none
 | .string a, .string b =>
  match op with
  | .eql => some (.bool (a.toList == b.toList))
  | .neq => some (.bool (!(a.toList == b.toList)))
  | _ => none
 | .bool a, .bool b =>
  match T.get t with
  | some i => match i.desc, op with
   | .bool, .eql => some (.bool (a == b))
   | .bool, .neq => some (.bool (!(a == b)))
   | _, _ => none
  | none => none
 | .pointer a, .pointer none =>
  match T.get t with
  | some i => match i.desc, op with
   | .pointer _, .eql => some (.bool a.isNone)
   | .pointer _, .neq => some (.bool (!a.isNone))
   | _, _ => none
  | none => none
 | .slice a _ _, .slice none _ _ =>
  match T.get t with
  | some i => match i.desc, op with
   | .slice _, .eql => some (.bool a.isNone)
   | .slice _, .neq => some (.bool (!a.isNone))
   | _, _ => none
  | none => none
 | _, _ => none
theorem run_eqGuard_plain {P : Program} {op : BinOp} {t : Nat} {x y : Operand} {u v : Value} (h : (match u, v with | .nilIface, .nilIface => false | .agg _, .agg _ => false | _, _ => true) = true) (w : World) :
  (eqGuard op t x y u v).run P w = .ok () w := by
 unfold eqGuard
 cases op <;> cases u <;> cases v <;> first | rfl | (simp at h; done) | simp
theorem binI_run {P : Program} {op : BinOp} {k : IntKind} {a b : Int} {v : Value} (h : binI op k a b = some v) (t : Nat) (w : World) : (binOp op t (.int k a) (.int k b)).run P w = .ok v w := by
 cases op <;> simp [binI] at h <;> subst h <;> simp [binOp, Op.intArith, Op.intBits, Op.intCmp]
theorem eq_bool {P : Program} {t : Nat} (h : P.underlying t = some .bool) {a b : Bool} (d : Nat) (w : World) : (Op.equalIn (d + 1) t (.bool a) (.bool b)).run P w = .ok (a == b) w := by
 simp [Op.equalIn, run_underlying h]
theorem eq_ptr {P : Program} {t e : Nat} (h : P.underlying t = some (.pointer e)) {a : Option Addr} (d : Nat) (w : World) : (Op.equalIn (d + 1) t (.pointer a) (.pointer none)).run P w = .ok a.isNone w := by
 cases a <;> simp [Op.equalIn, run_underlying h]
theorem eq_slice {P : Program} {t e : Nat} (h : P.underlying t = some (.slice e)) {a : Option Addr} {l c l' c' : Nat} (d : Nat) (w : World) : (Op.equalIn (d + 1) t (.slice a l c) (.slice none l' c')).run P w = .ok a.isNone w := by
 cases a <;> simp [Op.equalIn, run_underlying h]
theorem eqV_run {P : Program} {t : Nat} {u v : Value} {r : Bool} {w : World} (h : (Op.equalIn 10000 t u v).run P w = .ok r w) : (do pure (.bool (← Op.equal t u v)) : Sem Value).run P w = .ok (.bool r) w := by
 have h2 : (Op.equal t u v).run P w = .ok r w := h
 simp only [Sem.run_bind, h2, Result.andThen, Sem.run_pure]
theorem neV_run {P : Program} {t : Nat} {u v : Value} {r : Bool} {w : World} (h : (Op.equalIn 10000 t u v).run P w = .ok r w) : (do pure (.bool (!(← Op.equal t u v))) : Sem Value).run P w = .ok (.bool (!r)) w := by
 have h2 : (Op.equal t u v).run P w = .ok r w := h
 simp only [Sem.run_bind, h2, Result.andThen, Sem.run_pure]
theorem binV_run {P : Program} {T : TT} (hT : TTok P T) {op : BinOp} {t : Nat} {u v r : Value} (h : binV T op t u v = some r) (x y : Operand) (w : World) :
  (do eqGuard op t x y u v; binOp op t u v).run P w = .ok r w := by
 have hg : (eqGuard op t x y u v).run P w = .ok () w := run_eqGuard_plain (by
  cases u <;> first | (cases v <;> first | rfl | (simp [binV] at h; done)) ) w
 simp only [Sem.run_bind, hg, Result.andThen]
 unfold binV at h
 split at h
 ·rename_i j a k b
  split at h
  ·split at h
   ·rename_i n hn; have := litNat_eq hn; subst this; simp at h; subst h; have h0 : ¬ ((n : Int) < 0) := by omega
    simp [binOp, Op.shift, h0]
   ·cases h
  ·split at h
   ·rename_i n hn; have := litNat_eq hn; subst this; simp at h; subst h; have h0 : ¬ ((n : Int) < 0) := by omega
    simp [binOp, Op.shift, h0]
   ·cases h
  ·cases hk : kindEq j k with
   | false => rw [hk] at h; cases h
   | true =>
    have := kindEq_eq hk; subst this
    rw [hk] at h; simp only [cond_true] at h
    split at h
    ·rename_i n hn
     have e := litNat_eq hn
     simp at h; subst h
     have e2 : b = (n : Int) + 1 := by rw [e]; simp
     subst e2
     have hne : ((n : Int) + 1 = 0) = False := by simp; omega
     simp [binOp, Op.intDiv, hne]
    ·cases h
  ·cases hk : kindEq j k with
   | false => rw [hk] at h; cases h
   | true =>
    have := kindEq_eq hk; subst this
    rw [hk] at h; simp only [cond_true] at h
    split at h
    ·rename_i n hn
     have e := litNat_eq hn
     simp at h; subst h
     have e2 : b = (n : Int) + 1 := by rw [e]; simp
     subst e2
     have hne : ((n : Int) + 1 = 0) = False := by simp; omega
     simp [binOp, Op.intDiv, hne]
    ·cases h
  ·cases hk : kindEq j k with
   | false => rw [hk] at h; cases h
   | true =>
    have := kindEq_eq hk; subst this
    rw [hk] at h
    exact binI_run h t w
 ·split at h <;> first | (simp at h; subst h; simp [binOp, Op.stringOp]; done) | cases h
 ·split at h
  ·rename_i a b i hi
   have hu := (hT.get hi).1.1
   split at h
   ·rename_i hd; rw [hd] at hu; cases h; exact eqV_run (eq_bool hu 9999 w)
   ·rename_i hd; rw [hd] at hu; cases h; exact neV_run (eq_bool hu 9999 w)
   ·cases h
  ·cases h
 ·split at h
  ·rename_i a i hi
   have hu := (hT.get hi).1.1
   split at h
   ·rename_i hd; rw [hd] at hu; cases h; exact eqV_run (eq_ptr hu 9999 w)
   ·rename_i hd; rw [hd] at hu; cases h; exact neV_run (eq_ptr hu 9999 w)
   ·cases h
  ·cases h
 ·split at h
  ·rename_i a _ _ _ _ i hi
   have hu := (hT.get hi).1.1
   split at h
   ·rename_i hd; rw [hd] at hu; cases h; exact eqV_run (eq_slice hu 9999 w)
   ·rename_i hd; rw [hd] at hu; cases h; exact neV_run (eq_slice hu 9999 w)
   ·cases h
  ·cases h
 ·cases h

def unV (op : UnOp) (u : Value) : Option Value :=
 match op, u with
 | .not, .bool b => some (.bool !b)
 | .neg, .int k n => some (.int k (k.wrap (0 - n)))
 | .xor, .int k n => binI .xor k (if k.signed then -1 else k.max) n
 | _, _ => none
theorem unV_run {P : Program} {op : UnOp} {u r : Value} (h : unV op u = some r) (w : World) : (Op.unary op u).run P w = .ok r w := by
 unfold unV at h
 split at h
 ·cases h; rfl
 ·cases h; rfl
 ·rename_i k n
  simp [binI] at h; subst h; simp [Op.unary, Op.intBits]
 ·cases h
def nth {α : Type} : List α → Nat → Option α
 | [], _ => none
 | x :: _, 0 => some x
 | _ :: r, n + 1 => nth r n
theorem nth_eq {α : Type} : ∀ (l : List α) (n : Nat), nth l n = l[n]?
 | [], _ => by simp [nth]
 | _ :: _, 0 => by simp [nth]
 | _ :: r, n + 1 => by simp [nth, nth_eq r n]
def evs (env : Env) : List Operand → Option (List Value)
 | [] => some []
 | x :: r => match ev env x with
  | some v => match evs env r with
   | some vs => some (v :: vs)
   | none => none
  | none => none
def evsK {β : Type} (env : Env) : List Operand → (List Value → Option β) → Option β
 | [], k => k []
 | x :: r, k => match ev env x with
  | some v => evsK env r fun vs => k (v :: vs)
  | none => none
theorem evsK_eq {β : Type} {env : Env} : ∀ {l : List Operand} {k : List Value → Option β} {r : β}, evsK env l k = some r → ∃ vs, evs env l = some vs ∧ k vs = some r
 | [], k, r, h => ⟨[], rfl, h⟩
 | x :: l, k, r, h => by
  simp only [evsK] at h
  cases e : ev env x with
  | none => rw [e] at h; cases h
  | some v =>
   rw [e] at h
   obtain ⟨vs, h1, h2⟩ := evsK_eq h
   exact ⟨v :: vs, by simp [evs, e, h1], h2⟩
theorem evs_map {env : Env} {ρ : Operand → Value} (hρ : ∀ x v, ev env x = some v → ρ x = v) : ∀ {l : List Operand} {vs : List Value}, evs env l = some vs → l.map ρ = vs
 | [], vs, h => by simp [evs] at h; simp [h]
 | x :: l, vs, h => by
  simp only [evs] at h
  cases e : ev env x with
  | none => rw [e] at h; cases h
  | some v =>
   rw [e] at h
   cases e2 : evs env l with
   | none => rw [e2] at h; cases h
   | some us => rw [e2] at h; cases h; simp [hρ x v e, evs_map hρ e2]
def fillN {β : Type} (env : Env) (places : List (Nat × Nat)) : List (Nat × Operand) → List Value → (List Value → Option β) → Option β
 | [], cs, k => k cs
 | (i, x) :: r, cs, k => match nth places i with
  | some (off, size) => match ev env x with
   | some v => bif Nat.beq (vcells v).length size then wrAt off (vcells v) cs fun cs => fillN env places r cs k else none
   | none => none
  | none => none
theorem fill_step {cells : Array Value} {off : Nat} {v : Value} (h : off + (vcells v).length ≤ cells.size) :
  (v.cells.zipIdx.foldl (fun cs (x : Value × Nat) => cs.setIfInBounds (off + x.2) x.1) cells).toList = cells.toList.take off ++ vcells v ++ cells.toList.drop (off + (vcells v).length) := by
 have key : ∀ (vs : List Value) (j : Nat) (cs : Array Value), off + j + vs.length ≤ cs.size →
   ((vs.zipIdx j).foldl (fun cs (x : Value × Nat) => cs.setIfInBounds (off + x.2) x.1) cs).toList = cs.toList.take (off + j) ++ vs ++ cs.toList.drop (off + j + vs.length) := by
  intro vs
  induction vs with
  | nil => intro j cs _; simp
  | cons v vs ih =>
   intro j cs hle
   simp only [List.length_cons] at hle
   have hlt : off + j < cs.toList.length := by rw [Array.length_toList]; omega
   simp only [List.zipIdx_cons, List.foldl_cons]
   rw [ih (j + 1) (cs.setIfInBounds (off + j) v) (by simp; omega)]
   simp only [Array.toList_setIfInBounds, List.length_cons]
   rw [show off + (j + 1) = (off + j) + 1 from by omega, List.take_set, List.take_add_one, List.getElem?_eq_getElem hlt, List.drop_set_of_lt (by omega)]
   rw [List.set_append_right _ _ (by simp; omega)]
   have e : off + j - (List.take (off + j) cs.toList).length = 0 := by simp; omega
   rw [e]
   simp
   omega
 have := key (vcells v) 0 cells (by simpa using h)
 rw [← Array.foldl_toList, Array.toList_zipIdx, vcells_eq]
 simpa using this

theorem fillN_eq {env : Env} {ρ : Operand → Value} (hρ : ∀ x v, ev env x = some v → ρ x = v) {places : List (Nat × Nat)} {β : Type} {k : List Value → Option β} {r : β} :
  ∀ {parts : List (Nat × Operand)} {cs : List Value}, fillN env places parts cs k = some r → ∃ cs', Instr.fill (places.toArray[·]?) cs.toArray (parts.map fun (i, x) => (i, ρ x)) = some cs'.toArray ∧ k cs' = some r
 | [], cs, h => ⟨cs, rfl, h⟩
 | (i, x) :: parts, cs, h => by
  simp only [fillN] at h
  cases e1 : nth places i with
  | none => rw [e1] at h; cases h
  | some os =>
   obtain ⟨off, size⟩ := os
   rw [e1] at h
   simp only at h
   cases e2 : ev env x with
   | none => rw [e2] at h; cases h
   | some v =>
    rw [e2] at h
    simp only at h
    cases e3 : Nat.beq (vcells v).length size with
    | false => rw [e3] at h; cases h
    | true =>
     have e4 := Nat.eq_of_beq_eq_true e3
     rw [e3] at h
     simp only [cond_true] at h
     by_cases hle : off ≤ cs.length
     ·rw [wrAt_eq _ _ _ _ hle] at h
      split at h
      ·rename_i h2
       obtain ⟨cs', h3, h4⟩ := fillN_eq hρ h
       refine ⟨cs', ?_, h4⟩
       rw [nth_eq] at e1
       simp only [List.map_cons, Instr.fill, List.getElem?_toArray, e1, hρ x v e2]
       have e5 : v.cells.size = size := by rw [← Array.length_toList, vcells_eq]; exact e4
       have e6 : ¬ (v.cells.size ≠ size || decide (off + v.cells.size > cs.toArray.size)) = true := by simp; exact ⟨e5, by rw [e5, ← e4]; exact h2⟩
       rw [if_neg e6]
       have e7 := fill_step (cells := cs.toArray) (off := off) (v := v) (by simpa using h2)
       have e8 : v.cells.zipIdx.foldl (fun cs (x : Value × Nat) => cs.setIfInBounds (off + x.2) x.1) cs.toArray = (cs.take off ++ vcells v ++ cs.drop (off + (vcells v).length)).toArray := Array.toList_inj.1 (by rw [e7])
       simp only [List.getElem?_toArray] at h3
       rw [← e8] at h3
       exact h3
      ·cases h
     ·rw [wrAt_len _ _ _ _ (by omega)] at h; cases h

def pureOp (T : TT) (env : Env) : Op → Option Value
 | .move x => ev env x
 | .assign x => ev env x
 | .pick c a b => match ev env c with
  | some (.bool true) => ev env a
  | some (.bool false) => ev env b
  | _ => none
 | .binOp op t x y _ => match ev env x with
  | some u => match ev env y with
   | some v => binV T op t u v
   | none => none
  | none => none
 | .unOp op _ x => match ev env x with
  | some u => unV op u
  | none => none
 | .convert src dst x => match T.get src, T.get dst, ev env x with
  | some _, some i, some (.int _ n) => match i.desc with
   | .int k => some (.int k (k.wrap n))
   | _ => none
  | some _, some i, some (.string s) => match i.desc with
   | .string => some (.string s)
   | _ => none
  | _, _, _ => none
 | .build t parts => match T.get t with
  | some i => match i.desc with
   | .struct _ => fillN env i.places parts.toList (vcells i.zero) fun cs => some (.agg cs.toArray)
   | _ => none
  | none => none
 | .makeFunc fn first captured => evsK env first.toList fun a => evsK env captured.toList fun b => some (.func fn a.toArray b.toArray)
 | .extract x n => match ev env x with
  | some (.tuple vs) => nth vs.toList n
  | _ => none
 | .field t x n => match T.get t, ev env x with
  | some i, some (.agg cs) => match i.desc, nth i.places n with
   | .struct fs, some (off, size) => match nth fs.toList n with
    | some f => match T.get f.type with
     | some j => rdv j cs.toList off
     | none => none
    | none => none
   | _, _ => none
  | _, _ => none
 | .fieldAddr t x n => match T.get t, ev env x with
  | some i, some (.pointer (some ⟨b, o, none⟩)) => match i.desc, nth i.places n with
   | .struct _, some (off, size + 1) => some (.pointer (some ⟨b, bif Nat.beq off 0 then o else bif Nat.beq o 0 then off else o + off, none⟩))
   | _, _ => none
  | _, _ => none
 | .nilCheck x => match ev env x with
  | some (.pointer (some a)) => some (.pointer (some a))
  | _ => none
 | .call c => match c.callee, c.args.toList, c.argTypes.toList with
  | .builtin .len, [x], [t] => match T.get t, ev env x with
   | some i, some (.slice _ n _) => match i.desc with
    | .slice _ => some (.int .i64 n)
    | _ => none
   | some i, some (.string s) => match i.desc with
    | .string => some (.int .i64 s.size)
    | _ => none
   | some i, some (.agg _) => match i.desc with
    | .array n _ => some (.int .i64 n)
    | _ => none
   | _, _ => none
  | .builtin .min, [x, y], _ => match ev env x, ev env y with
   | some (.int k a), some (.int _ b) => some (.int k (if b < a then b else a))
   | _, _ => none
  | .builtin .max, [x, y], _ => match ev env x, ev env y with
   | some (.int k a), some (.int _ b) => some (.int k (if a < b then b else a))
   | _, _ => none
  | _, _, _ => none
 | _ => none

theorem run_part_of {P : Program} {t : Nat} {j : TI} (hj : TIok P t j) {cs : Array Value} {off : Nat} {v : Value} (hv : rdv j cs.toList off = some v) (w : World) : (part t cs off).run P w = .ok v w := by
 unfold part
 simp only [Sem.run_bind, hj.run_isAgg w, Result.andThen]
 cases ha : aggD j.desc with
 | true =>
  obtain ⟨hl, rfl⟩ := rdv_agg ha hv
  simp only [if_true, Sem.run_bind, hj.run_sizeOf w, Result.andThen, Sem.run_pure]
  congr 2
  apply Array.toList_inj.1
  simp [Array.toList_extract, List.extract_eq_take_drop]
 | false =>
  have := rdv_one ha hv
  simp only [Bool.false_eq_true, if_false]
  have e : cs[off]? = some v := by simpa using this
  simp [e]
theorem placesOf_get {P : Program} {fs : List Field} {places : List (Nat × Nat)} (h : fs.mapM (fun f => (P.info? f.type).map fun i => (f.offset, i.size)) = some places) {n : Nat} {f : Field} (hf : fs[n]? = some f) :
  ∃ i, P.info? f.type = some i ∧ places[n]? = some (f.offset, i.size) := by
 induction fs generalizing places n with
 | nil => simp at hf
 | cons g fs ih =>
  simp only [List.mapM_cons, Option.bind_eq_bind, Option.pure_def] at h
  cases hi : P.info? g.type with
  | none => simp [hi] at h
  | some i =>
   cases hr : fs.mapM (fun f => (P.info? f.type).map fun i => (f.offset, i.size)) with
   | none => simp [hi, hr] at h
   | some rest =>
    simp [hi, hr] at h
    subst h
    cases n with
    | zero => simp at hf; subst hf; exact ⟨i, hi, by simp⟩
    | succ n => simp at hf; obtain ⟨j, h1, h2⟩ := ih hr hf; exact ⟨j, h1, by simpa using h2⟩
theorem placesOf_len {P : Program} {fs : List Field} {places : List (Nat × Nat)} (h : fs.mapM (fun f => (P.info? f.type).map fun i => (f.offset, i.size)) = some places) : places.length = fs.length := by
 induction fs generalizing places with
 | nil => simp at h; simp [← h]
 | cons g fs ih =>
  simp only [List.mapM_cons, Option.bind_eq_bind, Option.pure_def] at h
  cases hi : P.info? g.type with
  | none => simp [hi] at h
  | some i =>
   cases hr : fs.mapM (fun f => (P.info? f.type).map fun i => (f.offset, i.size)) with
   | none => simp [hi, hr] at h
   | some rest => simp [hi, hr] at h; subst h; simp [ih hr]

theorem pureOp_run {P : Program} {T : TT} (hT : TTok P T) {env : Env} {ρ : Operand → Value} (hρ : ∀ x v, ev env x = some v → ρ x = v) {o : Oper} {v : Value} (h : pureOp T env o.op = some v) (w : World) :
  (execOp ρ o).run P w = .ok (.value v) w := by
 obtain ⟨dst, op, type, pos, after, guard⟩ := o
 simp only at h
 have vv : ∀ (s : Sem Value), s.run P w = .ok v w → (do pure (Next.value (← s)) : Sem Next).run P w = .ok (.value v) w := fun s hs => by
  simp only [Sem.run_bind, hs, Result.andThen, Sem.run_pure]
 unfold pureOp at h
 split at h
 ·simp only [execOp, hρ _ _ h, Sem.run_pure]
 ·simp only [execOp, hρ _ _ h, Sem.run_pure]
 ·split at h
  ·rename_i e; simp [execOp, hρ _ _ e, hρ _ _ h, asBool]
  ·rename_i e; simp [execOp, hρ _ _ e, hρ _ _ h, asBool]
  ·cases h
 ·split at h
  ·rename_i e1
   split at h
   ·rename_i e2; exact vv _ (by rw [hρ _ _ e1, hρ _ _ e2]; exact binV_run hT h _ _ w)
   ·cases h
  ·cases h
 ·split at h
  ·rename_i e1; exact vv _ (by rw [hρ _ _ e1]; exact unV_run h w)
  ·cases h
 ·split at h
  ·rename_i i1 i2 k n e1 e2 e3
   have u1 := (hT.get e1).1.1
   have u2 := (hT.get e2).1.1
   split at h
   ·rename_i hd; rw [hd] at u2; cases h
    exact vv _ (by rw [hρ _ _ e3]; simp [convert, run_underlying u1, run_underlying u2, Conv.intToInt])
   ·cases h
  ·rename_i i1 i2 s e1 e2 e3
   have u1 := (hT.get e1).1.1
   have u2 := (hT.get e2).1.1
   split at h
   ·rename_i hd; rw [hd] at u2; cases h
    exact vv _ (by rw [hρ _ _ e3]; simp [convert, run_underlying u1, run_underlying u2])
   ·cases h
  ·cases h
 ·rename_i t parts
  split at h
  ·rename_i i hi
   split at h
   ·rename_i fs hd
    have hti := hT.get hi
    have hu := hti.1.1
    obtain ⟨j, hj, _, _, hz⟩ := hti.info
    have hp := hti.2
    rw [hd] at hu hp
    simp only [placesOf] at hp
    obtain ⟨cs', h1, h2⟩ := fillN_eq hρ h
    cases h2
    refine vv _ (run_build w _ _ _ ?_)
    simp only [Program.built, hj, hu, hz, hp]
    rw [← vcells_eq] at h1
    simpa using h1
   ·cases h
  ·cases h
 ·obtain ⟨as_, h1, h2⟩ := evsK_eq h
  obtain ⟨bs, h3, h4⟩ := evsK_eq h2
  cases h4
  rename_i fn first captured
  have e1 := evs_map hρ h1
  have e2 := evs_map hρ h3
  refine vv _ ?_
  simp only [Instr.makeFunc, Sem.run_pure]
  have a1 : first.map ρ = as_.toArray := Array.toList_inj.1 (by simpa using e1)
  have a2 : captured.map ρ = bs.toArray := Array.toList_inj.1 (by simpa using e2)
  rw [a1, a2]
 ·rename_i x n
  split at h
  ·rename_i vs e
   rw [nth_eq] at h
   refine vv _ ?_
   rw [hρ _ _ e]
   have e2 : vs[n]? = some v := by simpa using h
   simp only [Instr.extract, e2, Sem.run_pure]
  ·cases h
 ·rename_i t x n
  split at h
  ·rename_i i cs hi e
   split at h
   ·rename_i fs off size hd hp
    split at h
    ·rename_i f hf
     split at h
     ·rename_i j hj
      have hti := hT.get hi
      have hu := hti.1.1
      have hpl := hti.2
      rw [hd] at hu hpl
      simp only [placesOf] at hpl
      rw [nth_eq] at hp hf
      obtain ⟨jj, _, hq⟩ := placesOf_get hpl hf
      rw [hq] at hp
      cases hp
      have hf2 : fs[n]? = some f := by simpa using hf
      refine vv _ ?_
      rw [hρ _ _ e]
      simp [Instr.field, run_underlying hu, hf2, asAgg, run_part_of (hT.get hj) h w]
     ·cases h
    ·cases h
   ·cases h
  ·cases h
 ·rename_i t x n
  split at h
  ·rename_i i b o hi e
   split at h
   ·rename_i fs off size hd hp
    have hti := hT.get hi
    have hu := hti.1.1
    have hpl := hti.2
    rw [hd] at hu hpl
    simp only [placesOf] at hpl
    rw [nth_eq] at hp
    have hlen := placesOf_len hpl
    have hlt : n < fs.toList.length := by rw [← hlen]; exact (List.getElem?_eq_some_iff.1 hp).1
    have hf : fs.toList[n]? = some fs.toList[n] := List.getElem?_eq_getElem hlt
    obtain ⟨jj, hjj, hq⟩ := placesOf_get hpl hf
    rw [hq] at hp
    simp only [Option.some.injEq, Prod.mk.injEq] at hp
    obtain ⟨ho, hs⟩ := hp
    have hf2 : fs[n]? = some fs.toList[n] := by rw [← Array.getElem?_toList]; exact hf
    cases h
    refine vv _ ?_
    rw [hρ _ _ e]
    have hsz : (sizeOf fs.toList[n].type).run P w = .ok (size + 1) w := by
     unfold sizeOf; simp only [Sem.run_bind, Go.run_typeInfo w hjj, Result.andThen, Sem.run_pure, hs]
    simp only [Instr.fieldAt, Sem.run_bind, run_underlying hu, Result.andThen, hf2, Instr.sureAddr, Sem.run_pure, fieldPlace, hsz, Nat.add_eq_zero_iff, Nat.one_ne_zero, and_false, if_false]
    rw [ho]
    congr 3
    unfold Addr.add
    by_cases h0 : off = 0
    ·subst h0; simp
    ·have hb : Nat.beq off 0 = false := by
      cases hbb : Nat.beq off 0 with
      | false => rfl
      | true => exact absurd (Nat.eq_of_beq_eq_true hbb) h0
     rw [if_neg h0, hb]
     by_cases ho2 : o = 0
     ·subst ho2; simp
     ·have hb2 : Nat.beq o 0 = false := by
       cases hbb : Nat.beq o 0 with
       | false => rfl
       | true => exact absurd (Nat.eq_of_beq_eq_true hbb) ho2
      rw [hb2]; simp
   ·cases h
  ·cases h
 ·split at h
  ·rename_i e; cases h; simp [execOp, hρ _ _ e]
  ·cases h
 ·rename_i c
  obtain ⟨callee, args, argTypes⟩ := c
  simp only at h
  split at h
  ·rename_i x t ha hat
   obtain rfl : args = #[x] := Array.toList_inj.1 (by simpa using ha)
   obtain rfl : argTypes = #[t] := Array.toList_inj.1 (by simpa using hat)
   split at h
   ·rename_i i _ n _ hi e
    have hu := (hT.get hi).1.1
    split at h
    ·rename_i hd; rw [hd] at hu; cases h
     simp [execOp, resolve, invoke, builtin, hρ _ _ e, Builtin.len_, run_underlying hu, goInt]
    ·cases h
   ·rename_i i s hi e
    have hu := (hT.get hi).1.1
    split at h
    ·rename_i hd; rw [hd] at hu; cases h
     simp [execOp, resolve, invoke, builtin, hρ _ _ e, Builtin.len_, run_underlying hu, goInt]
    ·cases h
   ·rename_i i s hi e
    have hu := (hT.get hi).1.1
    split at h
    ·rename_i hd; rw [hd] at hu; cases h
     simp [execOp, resolve, invoke, builtin, hρ _ _ e, Builtin.len_, run_underlying hu, goInt]
    ·cases h
   ·cases h
  ·rename_i _ x y ha
   obtain rfl : args = #[x, y] := Array.toList_inj.1 (by simpa using ha)
   split at h
   ·rename_i e1 e2; cases h
    simp [execOp, resolve, invoke, builtin, hρ _ _ e1, hρ _ _ e2, Builtin.min_, Builtin.min2]
   ·cases h
  ·rename_i _ x y ha
   obtain rfl : args = #[x, y] := Array.toList_inj.1 (by simpa using ha)
   split at h
   ·rename_i e1 e2; cases h
    simp [execOp, resolve, invoke, builtin, hρ _ _ e1, hρ _ _ e2, Builtin.max_, Builtin.max2]
   ·cases h
  ·cases h
 ·cases h
end Go.Proofs.YtakkogdmlbkdaaaGreatDoor.Sl
namespace Go.Proofs.YtakkogdmlbkdaaaGreatDoor.Sl
open Go Go.RowKit
set_option linter.unusedVariables false
set_option linter.unusedSimpArgs false

section
variable {P : Program} {β : Base} {cx : Cx} {rnd : Option (Nat × Loop)} {N : Nat} {env : Env} {L : List Atom} {K : Env → List Atom → Prop} {ops : Array Oper} {T : TT}

theorem Fr_semAt (cx : Cx) {o : Oper} (ρ : Operand → Value) (h : ∀ c, o.op ≠ .defer c) : o.semAt (Fr cx).round ρ = execOp ρ o := Oper.semAt_eq _ _ _ h
theorem wpIn_of_run {n : Nat} {o : Oper} {a : Act} {w : World} {next : Act → World → Prop} {Qx : Exit → Act → World → Prop} (hd : ∀ c, o.op ≠ .defer c)
  (h : o.uponIn (Fr cx) n P a next Qx ((execOp a.eval o).run P w)) : o.wpIn (Fr cx) n P a w next Qx :=
 ⟨fun f _ => Fr_fn cx f, by rw [Fr_semAt cx _ hd]; exact h⟩
def OW (P : Program) (β : Base) (cx : Cx) (N : Nat) (o : Oper) (env : Env) (L : List Atom) (K : Env → List Atom → Prop) : Prop :=
 ∀ n Qx a w, St β cx N env L a w → o.uponIn (Fr cx) n P a (fun a w => ∃ env L, St β cx N env L a w ∧ K env L) Qx ((execOp a.eval o).run P w)
def RdAt (β : Base) (L : List Atom) (b off : Nat) (i : TI) (v : Value) : Prop := ∀ H w, Sat β w (H ++ L) → Ob.holds ⟨b, off, i, v⟩ w
def watchOk (β : Base) (obs : Obs) (L : List Atom) : List Nat → Prop
 | [] => True
 | i :: r => (match lookO obs i with
  | some x => RdAt β L x.b x.off x.ti x.v
  | none => True) ∧ watchOk β obs L r
theorem hid_at {Ds : List Nat} {i : Nat} {A : Atom} (h : L[i]? = some A) : (hid Ds cx ++ L)[(hid Ds cx).length + i]? = some A := by
 rw [List.getElem?_append_right (by omega)]
 simpa using h
theorem watchOk.holds {obs : Obs} : ∀ {ws : List Nat}, watchOk β obs L ws → ∀ {a : Act} {w : World}, St β cx N env L a w → ∀ i ∈ ws, ∀ x, lookO obs i = some x → x.holds w
 | [], _, _, _, _, i, hi, _, _ => by cases hi
 | k :: r, h, a, w, s, i, hi, x, hx => by
  rcases List.mem_cons.1 hi with rfl | hi
  ·have h1 := h.1
   rw [hx] at h1
   obtain ⟨_, Ds, _, st⟩ := s
   exact h1 _ _ st
  ·exact h.2.holds s i hi x hx
theorem uponIn_mono {F : Fence} {n : Nat} {o : Oper} {a : Act} {K K' : Act → World → Prop} {Qx : Exit → Act → World → Prop} (h : ∀ a w, K a w → K' a w) {r : Result Next} (hh : o.uponIn F n P a K Qx r) : o.uponIn F n P a K' Qx r := by
 cases r with
 | ok x w' =>
  cases x <;> simp only [Oper.uponIn] at hh ⊢ <;>
   first
    | exact h _ _ hh
    | exact ⟨hh.1, CallsIn.mono hh.2 (fun e w'' he => by cases e <;> first | exact h _ _ he | exact he)⟩
    | exact ⟨hh.1, RowsIn.mono hh.2 (fun _ _ he => h _ _ he)⟩
    | exact ⟨hh.1, RoundIn.mono hh.2 (fun e w'' he => by cases e <;> first | exact h _ _ he | exact he)⟩
 | halt x w' => cases x <;> simp only [Oper.uponIn] at hh ⊢ <;> exact hh
def dstE (N : Nat) (ops : Array Oper) (env : Env) (o : Oper) : Option Nat :=
 match wants ops env o with
 | some true => match o.dst with
  | some d => match Nat.blt d N with
   | true => some d
   | false => none
  | none => none
 | _ => none
theorem dstE_eq {o : Oper} {d : Nat} (h : dstE N ops env o = some d) : wants ops env o = some true ∧ o.dst = some d ∧ d < N := by
 unfold dstE at h
 split at h <;> try (cases h; done)
 rename_i hw
 split at h <;> try (cases h; done)
 rename_i d' hd
 split at h <;> try (cases h; done)
 rename_i hb
 cases h
 exact ⟨hw, hd, by simpa [Nat.blt_eq] using hb⟩
def alE (T : TT) (N : Nat) (ops : Array Oper) (env : Env) (o : Oper) : Option (Nat × List Value) :=
 match dstE N ops env o with
 | some d => match o.op with
  | .alloc t => match T.get t with
   | some i => force (vcells i.zero) fun cs => some (d, cs)
   | none => none
  | .box t x => match ev env x with
   | some v => force (vcells v) fun cs => some (d, cs)
   | none => none
  | _ => none
 | none => none
inductive SQ (P : Program) (β : Base) (rnd : Option (Nat × Loop)) (N : Nat) (T : TT) (ops : Array Oper) (K : Env → List Atom → Prop) : List Stp → Obs → Env → List Atom → Prop
 | nil {obs env L} : K env L → SQ P β rnd N T ops K [] obs env L
 | ent {todo obs env L} (L' : List Atom) : Ent L L' → SQ P β rnd N T ops K todo obs env L' → SQ P β rnd N T ops K todo obs env L
 | env_ {todo obs env L} (env' : Env) : (∀ t v, look env' t = some v → look env t = some v) → SQ P β rnd N T ops K todo obs env' L → SQ P β rnd N T ops K todo obs env L
 | open_ {todo obs env L} {α : Type} {f : α → List Atom} : (∀ x, SQ P β rnd N T ops K todo obs env (f x ++ L)) → SQ P β rnd N T ops K todo obs env (exA f :: L)
 | pure_ {todo obs env L} {p : Prop} : (p → SQ P β rnd N T ops K todo obs env L) → SQ P β rnd N T ops K todo obs env (pureA p :: L)
 | val {s r obs env L} (v : Value) : Nat.ble s.k 1 = true → wants ops env s.o = some true → dstOk N s.o.dst = true → (∀ ρ : Operand → Value, (∀ x u, ev env x = some u → ρ x = u) → ∀ w, (execOp ρ s.o).run P w = .ok (.value v) w) →
   SQ P β rnd N T ops K r obs (bind_ s.o.dst v env) L → SQ P β rnd N T ops K (s :: r) obs env L
 | passed {s r obs env L} : Nat.ble s.k 1 = true → wants ops env s.o = some false → dstOk N s.o.dst = true → SQ P β rnd N T ops K r obs (bind_ s.o.dst undef env) L → SQ P β rnd N T ops K (s :: r) obs env L
 | ld {s r obs env L} (x : Ob) : Nat.ble s.k 1 = true → wants ops env s.o = some true → dstOk N s.o.dst = true → isLd s.o = true →
   (∀ ρ : Operand → Value, (∀ x u, ev env x = some u → ρ x = u) → ∀ w, x.holds w → (execOp ρ s.o).run P w = .ok (.value x.v) w) → (∀ H w, Sat β w (H ++ L) → x.holds w) →
   SQ P β rnd N T ops K r ((s.i, x) :: obs) (bind_ s.o.dst x.v env) L → SQ P β rnd N T ops K (s :: r) obs env L
 | new {s r obs env L} (d : Nat) (cs : List Value) : Nat.beq s.k 0 = false → alE T N ops env s.o = some (d, cs) → (∀ b, SQ P β rnd N T ops K r obs ((d, .pointer (some ⟨b, 0, none⟩)) :: env) (pt b cs :: L)) → SQ P β rnd N T ops K (s :: r) obs env L
 | act_ {s r obs env L} (R : Env → List Atom → Prop) : s.k = 1 → wants ops env s.o = some true → (∀ fm, OW P β ⟨rnd, fm⟩ N s.o env L R) → (∀ env' L', R env' L' → watchOk β obs L' s.watch) →
   (∀ env' L', R env' L' → SQ P β rnd N T ops K r obs env' L') → SQ P β rnd N T ops K (s :: r) obs env L
theorem SQ.act {rnd : Option (Nat × Loop)} {s : Stp} {r : List Stp} {obs : Obs} (he : s.k = 1) (hw : wants ops env s.o = some true)
  (h : ∀ fm, OW P β ⟨rnd, fm⟩ N s.o env L fun env L => watchOk β obs L s.watch ∧ SQ P β rnd N T ops K r obs env L) : SQ P β rnd N T ops K (s :: r) obs env L :=
 .act_ _ he hw h (fun _ _ h => h.1) (fun _ _ h => h.2)

theorem St.put {a : Act} {w : World} {dst : Option Tmp} {v : Value} (s : St β cx N env L a w) (hd : dstOk N dst = true) : St β cx N (bind_ dst v env) L (a.put dst v) w := by
 obtain ⟨h1, Ds, hds, st⟩ := s
 exact ⟨h1.bind hd v, Ds, by cases dst <;> exact hds, st⟩
theorem St.ent {L' : List Atom} {a : Act} {w : World} (s : St β cx N env L a w) (e : Ent L L') : St β cx N env L' a w := by
 obtain ⟨h1, Ds, hds, st⟩ := s
 exact ⟨h1, Ds, hds, st.ent (Ent.append (Ent.refl _) e)⟩
theorem St.env_ {env' : Env} {a : Act} {w : World} (s : St β cx N env L a w) (h : ∀ t v, look env' t = some v → look env t = some v) : St β cx N env' L a w := ⟨look_covers s.1 h, s.2⟩
theorem St.open_ {α : Type} {f : α → List Atom} {a : Act} {w : World} (s : St β cx N env (exA f :: L) a w) : ∃ x, St β cx N env (f x ++ L) a w := by
 obtain ⟨h1, Ds, hds, st⟩ := s
 obtain ⟨x, s1⟩ := (st.perm (List.perm_middle)).exA
 exact ⟨x, h1, Ds, hds, s1.perm (by simpa [List.append_assoc] using (List.perm_append_comm_assoc (f x) (hid Ds cx) L))⟩
theorem St.pure_ {p : Prop} {a : Act} {w : World} (s : St β cx N env (pureA p :: L) a w) : p ∧ St β cx N env L a w := by
 obtain ⟨h1, Ds, hds, st⟩ := s
 obtain ⟨hp, s1⟩ := (st.perm (List.perm_middle)).pureA
 exact ⟨hp, h1, Ds, hds, s1⟩
theorem Sat.alloc {w : World} {H : List Atom} (s : Sat β w (H ++ L)) (cs : List Value) (t : Nat) : Sat β (w.alloc (.cells cs.toArray t)) (H ++ pt w.heap.size cs :: L) :=
 (s.new (.cells cs.toArray t) (A := pt w.heap.size cs) ⟨t, rfl⟩).perm List.perm_middle.symm
theorem alE_run (hT : TTok P T) {o : Oper} {d : Nat} {cs : List Value} (h : alE T N ops env o = some (d, cs)) : wants ops env o = some true ∧ o.dst = some d ∧ d < N ∧ (∀ c, o.op ≠ .defer c) ∧
  ∃ t, ∀ ρ : Operand → Value, (∀ x u, ev env x = some u → ρ x = u) → ∀ w, (execOp ρ o).run P w = .ok (.value (.pointer (some ⟨w.heap.size, 0, none⟩))) (w.alloc (.cells cs.toArray t)) := by
 unfold alE at h
 split at h <;> try (cases h; done)
 rename_i d' hde
 obtain ⟨hw, hd, hdl⟩ := dstE_eq hde
 obtain ⟨dst, op, type, pos, after, guard⟩ := o
 simp only at h
 split at h
 ·rename_i t
  split at h
  ·rename_i i hi
   rw [force_eq] at h
   simp only [Option.some.injEq, Prod.mk.injEq] at h
   obtain ⟨rfl, rfl⟩ := h
   refine ⟨hw, hd, hdl, by simp, t, fun ρ hρ w => ?_⟩
   have hz := (hT.get hi).run_zeroValue w
   simp only [execOp, Instr.alloc, newVar, newRow, Sem.run_bind, hz, Result.andThen, Sem.run_pure, newObj, Sem.run, World.alloc_eq]
   rw [← vcells_eq]
  ·cases h
 ·rename_i t x
  split at h
  ·rename_i v hx
   rw [force_eq] at h
   simp only [Option.some.injEq, Prod.mk.injEq] at h
   obtain ⟨rfl, rfl⟩ := h
   refine ⟨hw, hd, hdl, by simp, t, fun ρ hρ w => ?_⟩
   simp only [execOp, hρ _ _ hx, Instr.box, newVar, newRow, Sem.run_bind, Result.andThen, Sem.run_pure, newObj, Sem.run, World.alloc_eq]
   rw [← vcells_eq]
  ·cases h
 ·cases h
theorem SQ.sound0 (hT : TTok P T) {cx : Cx} {todo : List Stp} {obs : Obs} (hq : SQ P β cx.rnd N T ops K todo obs env L) : ∀ (k : Nat) (n : Nat) (Q : Exit → Act → World → Prop) (a : Act) (w : World), (∀ j, j < todo.length → ops[k + j]? = (todo[j]?).map (·.o)) → (∀ s ∈ todo, noSD s.o = true) →
  (∀ a w, (∃ env L, St β cx N env L a w ∧ K env L) → Q .normal a w) → St β cx N env L a w → wpOpsIn (Fr cx) n P ops Q (List.range' k todo.length) a w := by
 induction hq with
 | nil h => exact fun k n Q a w _ _ hK s => hK a w ⟨_, _, s, h⟩
 | ent L' e _ ih => exact fun k n Q a w h1 h2 hK s => ih k n Q a w h1 h2 hK (s.ent e)
 | env_ env' e _ ih => exact fun k n Q a w h1 h2 hK s => ih k n Q a w h1 h2 hK (s.env_ e)
 | open_ _ ih => exact fun k n Q a w h1 h2 hK s => let ⟨x, s1⟩ := s.open_; ih x k n Q a w h1 h2 hK s1
 | pure_ _ ih => exact fun k n Q a w h1 h2 hK s => let ⟨hp, s1⟩ := s.pure_; ih hp k n Q a w h1 h2 hK s1
 | @val s r obs env L v _ hw hd hv _ ih =>
  intro k n Q a w h1 h2 hK st
  have h0 : ops[k]? = some s.o := by have := h1 0 (by simp); simpa using this
  simp only [List.length_cons, List.range'_succ]
  rw [wpOpsIn_cons]
  refine YI.wpOpIn (H := fun _ => True) (Fr_fn cx) h0 (h2 s List.mem_cons_self) (.inl ⟨wants_ok hw st.1, fun w' _ => hv a.eval (fun x u hx => st.1.eval hx) w'⟩) trivial ?_
  exact ih (k + 1) n Q _ w (fun j hj => by have := h1 (j + 1) (by simp; omega); rw [show k + 1 + j = k + (j + 1) from by omega]; simpa using this) (fun s hs => h2 s (List.mem_cons_of_mem _ hs)) hK (st.put hd)
 | @passed s r obs env L _ hw hd _ ih =>
  intro k n Q a w h1 h2 hK st
  have h0 : ops[k]? = some s.o := by have := h1 0 (by simp); simpa using this
  simp only [List.length_cons, List.range'_succ]
  rw [wpOpsIn_cons]
  refine YI.wpOpIn (H := fun _ => True) (v := undef) (Fr_fn cx) h0 (h2 s List.mem_cons_self) (.inr ⟨wants_ok hw st.1, rfl⟩) trivial ?_
  exact ih (k + 1) n Q _ w (fun j hj => by have := h1 (j + 1) (by simp; omega); rw [show k + 1 + j = k + (j + 1) from by omega]; simpa using this) (fun s hs => h2 s (List.mem_cons_of_mem _ hs)) hK (st.put hd)
 | @ld s r obs env L x _ hw hd _ hv hx _ ih =>
  intro k n Q a w h1 h2 hK st
  have h0 : ops[k]? = some s.o := by have := h1 0 (by simp); simpa using this
  simp only [List.length_cons, List.range'_succ]
  rw [wpOpsIn_cons]
  refine YI.wpOpIn (H := x.holds) (Fr_fn cx) h0 (h2 s List.mem_cons_self) (.inl ⟨wants_ok hw st.1, fun w' hw' => hv a.eval (fun x u hx => st.1.eval hx) w' hw'⟩) (by obtain ⟨_, Ds, _, s1⟩ := st; exact hx _ w s1) ?_
  exact ih (k + 1) n Q _ w (fun j hj => by have := h1 (j + 1) (by simp; omega); rw [show k + 1 + j = k + (j + 1) from by omega]; simpa using this) (fun s hs => h2 s (List.mem_cons_of_mem _ hs)) hK (st.put hd)
 | @new s r obs env L d cs _ hal _ ih =>
  intro k n Q a w h1 h2 hK st
  have h0 : ops[k]? = some s.o := by have := h1 0 (by simp); simpa using this
  obtain ⟨hw, hd, hlt, hdef, t, hrun⟩ := alE_run (P := P) hT hal
  simp only [List.length_cons, List.range'_succ]
  rw [wpOpsIn_cons]
  unfold wpOpIn
  rw [h0]
  show if Region.wanted s.o (yielded ops a.tmps) = true then _ else _
  rw [if_pos (by rw [wants_ok hw st.1])]
  refine wpIn_of_run hdef ?_
  rw [hrun a.eval (fun x u hx => st.1.eval hx) w]
  refine ih w.heap.size (k + 1) n Q _ _ (fun j hj => by have := h1 (j + 1) (by simp; omega); rw [show k + 1 + j = k + (j + 1) from by omega]; simpa using this) (fun s hs => h2 s (List.mem_cons_of_mem _ hs)) hK ?_
  obtain ⟨h3, Ds, hds, s1⟩ := st
  exact ⟨by rw [hd]; exact h3.put hlt _, Ds, by rw [hd]; exact hds, s1.alloc cs t⟩
 | @act_ s r obs env L R _ hw how _ _ ih =>
  intro k n Q a w h1 h2 hK st
  have h0 : ops[k]? = some s.o := by have := h1 0 (by simp); simpa using this
  simp only [List.length_cons, List.range'_succ]
  rw [wpOpsIn_cons]
  unfold wpOpIn
  rw [h0]
  show if Region.wanted s.o (yielded ops a.tmps) = true then _ else _
  rw [if_pos (by rw [wants_ok hw st.1])]
  refine wpIn_of_run (noSD_defer (h2 s List.mem_cons_self)) (uponIn_mono ?_ (how cx.fm n Q a w st))
  rintro a' w' ⟨env', L', st', hr⟩
  exact ih env' L' hr (k + 1) n Q a' w' (fun j hj => by have := h1 (j + 1) (by simp; omega); rw [show k + 1 + j = k + (j + 1) from by omega]; simpa using this) (fun s hs => h2 s (List.mem_cons_of_mem _ hs)) hK st'

def zsOf (T : TT) (ops : Array Oper) (i : Nat) : List Value :=
 match ops[i]? with
 | some o => match o.op with
  | .alloc t => match T.get t with
   | some ti => vcells ti.zero
   | none => []
  | _ => []
 | none => []
def eatoms (T : TT) (ops : Array Oper) (e : Early) : List Atom := e.map fun x => pt x.2 (zsOf T ops x.1)
def allT (T : TT) (ops : Array Oper) (A : Nat → Bool) : Bool := (List.range ops.size).all fun i => !A i || match ops[i]? with
 | some o => (match o.op with | .alloc t => (T.get t).isSome | _ => false)
 | none => false
theorem alloc_run (hT : TTok P T) {A : Nat → Bool} (ha : allT T ops A = true) {i : Nat} (hi : A i = true) {o : Oper} (ho : ops[i]? = some o) :
  ∃ t, ∀ (ρ : Operand → Value) w, (execOp ρ o).run P w = .ok (.value (.pointer (some ⟨w.heap.size, 0, none⟩))) (w.alloc (.cells (zsOf T ops i).toArray t)) := by
 have hlt : i < ops.size := (Array.getElem?_eq_some_iff.1 ho).1
 have h1 := List.all_eq_true.1 ha i (List.mem_range.2 hlt)
 simp only [hi, Bool.not_true, Bool.false_or, ho] at h1
 split at h1
 ·rename_i t ht
  obtain ⟨ti, hti⟩ := Option.isSome_iff_exists.1 h1
  refine ⟨t, fun ρ w => ?_⟩
  have hz := (hT.get hti).run_zeroValue w
  have e1 : zsOf T ops i = vcells ti.zero := by simp only [zsOf, ho, ht, hti]
  obtain ⟨dst, op, type, pos, after, guard⟩ := o
  simp only at ht
  subst ht
  simp only [execOp, Instr.alloc, newVar, newRow, Sem.run_bind, hz, Result.andThen, Sem.run_pure, newObj, Sem.run, World.alloc_eq]
  rw [e1, ← vcells_eq]
 ·cases h1
theorem stps_head {p : Plan} {s : Stp} {r : List Stp} (h : s :: r = stps ops p) : ∃ p', p = (s.i, s.k, s.watch) :: p' ∧ ops[s.i]? = some s.o ∧ r = stps ops p' := by
 cases p with
 | nil => simp [stps] at h
 | cons x p' =>
  obtain ⟨i, k, ws⟩ := x
  simp only [stps] at h
  cases hi : ops[i]? with
  | none => rw [hi] at h; cases h
  | some o =>
   rw [hi] at h
   simp only [List.cons.injEq] at h
   obtain ⟨rfl, rfl⟩ := h
   exact ⟨p', rfl, hi, rfl⟩
theorem stps_nil {E A : Nat → Bool} {p : Plan} {listed : Array Bool} {tk : List Nat} (h : [] = stps ops p) (hp : planOk ops E A p listed tk = true) : p = [] := by
 cases p with
 | nil => rfl
 | cons x p' =>
  obtain ⟨i, k, ws⟩ := x
  simp only [stps] at h
  cases hi : ops[i]? with
  | none => unfold planOk at hp; rw [hi] at hp; cases hp
  | some o => rw [hi] at h; cases h
theorem tk_more {o : Oper} {i : Nat} {tk : List Nat} {j : Nat} (h : j ∈ tk) : j ∈ (match o.op with | .load _ _ => i :: tk | _ => tk) := by
 split
 ·exact List.mem_cons_of_mem _ h
 ·exact h
theorem SQ.soundD (hT : TTok P T) {rnd : Option (Nat × Loop)} (hsd : ∀ (j : Nat) (o : Oper), ops[j]? = some o → noSD o = true) {E A : Nat → Bool} (hA : allocOk ops A = true) (haT : allT T ops A = true) (n : Nat) (Q : Exit → Act → World → Prop)
  (hQ : ∀ c a w, ¬ Q (.panic c) a w) (fm : List Atom) (hK : ∀ a w, (∃ env L, St β ⟨rnd, fm⟩ N env L a w ∧ K env L) → Q .normal a w) :
  ∀ (fuel : Nat) {todo : List Stp} {obs : Obs} {env : Env} {L : List Atom}, SQ P β rnd N T ops K todo obs env L → ∀ (p : Plan) (listed : Array Bool) (tk : List Nat) (early : Early) (a0 : Act) (w : World),
   todo = stps ops p → planOk ops E A p listed tk = true → Closed ops listed → (∀ i x, lookO obs i = some x → listed.getD i false = true ∧ i ∈ tk) →
   (∀ x ∈ early, A x.1 = true ∧ listed.getD x.1 true = false ∧ ∃ o, ops[x.1]? = some o) → (early.map (·.1)).Nodup → fuel = cnt (lstE early listed) → Inv ops E obs (lstE early listed) w →
   St β ⟨rnd, eatoms T ops early ++ fm⟩ N env L a0 w → wpI (Fr ⟨rnd, fm⟩) n P ops Q E obs fuel (lstE early listed) (putsE ops early a0) w := by
 intro fuel
 induction fuel using Nat.strongRecOn with
 | _ fuel ihF =>
 intro todo obs env L hq
 have hFf : ∀ f, (Fr ⟨rnd, fm⟩ : Fence).fn f := Fr_fn _
 -- a variable is made ahead of its time
 have ahead : ∀ {todo : List Stp} {obs : Obs} {env : Env} {L : List Atom}, SQ P β rnd N T ops K todo obs env L → ∀ (p : Plan) (listed : Array Bool) (tk : List Nat) (early : Early) (a0 : Act) (w : World) (fuel' : Nat), fuel = fuel' + 1 →
   todo = stps ops p → planOk ops E A p listed tk = true → Closed ops listed → (∀ i x, lookO obs i = some x → listed.getD i false = true ∧ i ∈ tk) →
   (∀ x ∈ early, A x.1 = true ∧ listed.getD x.1 true = false ∧ ∃ o, ops[x.1]? = some o) → (early.map (·.1)).Nodup → fuel = cnt (lstE early listed) → Inv ops E obs (lstE early listed) w →
   St β ⟨rnd, eatoms T ops early ++ fm⟩ N env L a0 w → ∀ j ∈ Region.ready .any ops (lstE early listed), A j = true →
   wpOpIn (Fr ⟨rnd, fm⟩) n P ops Q j (wpI (Fr ⟨rnd, fm⟩) n P ops Q E obs fuel' ((lstE early listed).setIfInBounds j true)) (putsE ops early a0) w := by
  intro todo obs env L hq p listed tk early a0 w fuel' hf htd hp hc ho hea hnd hfu hv st j hj hAj
  obtain ⟨hjun, oj, hoj, _⟩ := mem_ready.1 hj
  obtain ⟨hg, _, _, _⟩ := allocOk_spec hA hAj hoj
  obtain ⟨t, hrun⟩ := alloc_run (P := P) hT haT hAj hoj
  obtain ⟨hj1, hj2⟩ := lstE_mem hjun
  unfold wpOpIn
  rw [hoj]
  show if Region.wanted oj (yielded ops (putsE ops early a0).tmps) = true then _ else _
  rw [if_pos (by simp [Region.wanted, hg])]
  refine wpIn_of_run (noSD_defer (hsd j oj hoj)) ?_
  rw [hrun]
  have := ihF fuel' (by omega) hq p listed tk ((j, w.heap.size) :: early) a0 (w.alloc (.cells (zsOf T ops j).toArray t)) htd hp hc ho
   (fun x hx => (List.mem_cons.1 hx).elim (fun e => by rw [e]; exact ⟨hAj, hj1, oj, hoj⟩) (hea x))
   (by simp only [List.map_cons, List.nodup_cons]; exact ⟨fun hm => by obtain ⟨x, hx, e⟩ := List.mem_map.1 hm; exact hj2 x hx e, hnd⟩)
   (by simp only [lstE]; have := cnt_set hjun; omega)
   (fun l x hl hlv => Ob.alloc (hv.more j l x hl hlv) _)
   (by
    obtain ⟨h1, Ds, hds, s1⟩ := st
    refine ⟨h1, Ds, hds, ?_⟩
    have s2 := s1.new (.cells (zsOf T ops j).toArray t) (A := pt w.heap.size (zsOf T ops j)) ⟨t, rfl⟩
    refine s2.perm ?_
    simp only [hid, eatoms, List.map_cons, List.cons_append, List.append_assoc]
    have := List.perm_middle (a := pt w.heap.size (zsOf T ops j)) (l₁ := Ds.map dfA ++ rndA rnd) (l₂ := (early.map fun x => pt x.2 (zsOf T ops x.1)) ++ (fm ++ L))
    simpa only [List.append_assoc] using this.symm)
  simp only [lstE, putsE, dstOf, hoj, Option.bind_some] at this
  exact this
 have rests : ∀ {s : Stp} {obs : Obs} {x : Option Ob} {v : Value} {early : Early} {listed : Array Bool} {tk : List Nat}, (x.isSome = true → isLd s.o = true) → ops[s.i]? = some s.o → listed.getD s.i true = false → s.i < listed.size → (∀ i x, lookO obs i = some x → listed.getD i false = true ∧ i ∈ tk) →
   ∀ i y, lookO (addO s.i x obs) i = some y → (listed.setIfInBounds s.i true).getD i false = true ∧ i ∈ (match s.o.op with | .load _ _ => s.i :: tk | _ => tk) := by
  intro s obs x v early listed tk hx hi hun hlt ho i y hl
  cases x with
  | none => exact ⟨getD_set_true (ho i y hl).1, tk_more (ho i y hl).2⟩
  | some x =>
   by_cases hii : s.i = i
   ·subst hii
    refine ⟨by simp [Array.getD_eq_getD_getElem?, hlt], ?_⟩
    have := hx rfl
    unfold isLd at this
    split at this
    ·rename_i h1; rw [h1]; exact List.mem_cons_self
    ·cases this
   ·rw [addO, lookO_ne hii] at hl
    exact ⟨getD_set_true (ho i y hl).1, tk_more (ho i y hl).2⟩
 have ready_lt : ∀ {l : Array Bool} {i : Nat}, l.getD i true = false → i < l.size := fun {l i} h => by
  rcases Nat.lt_or_ge i l.size with h' | h'
  ·exact h'
  ·simp [Array.getD_eq_getD_getElem?, Array.getElem?_eq_none h'] at h
 have farOf : ∀ {early : Early} {listed : Array Bool} {i : Nat} {oi : Oper}, (∀ x ∈ early, A x.1 = true ∧ listed.getD x.1 true = false ∧ ∃ o, ops[x.1]? = some o) → A i = false → ops[i]? = some oi → (∀ e ∈ oi.after, Region.binds .any e = true → listed.getD e.on false = true) → farE ops early oi := by
  intro early listed i oi hea hAi hi hall x hx
  obtain ⟨h1, h2, o, h3⟩ := hea x hx
  refine ⟨o, h3, (allocOk_spec hA h1 h3).2.2.2 i oi hi (fun e => by rw [← e, hAi] at h1; cases h1) fun e he hb heq => ?_⟩
  have := hall e he hb
  rw [heq] at this
  have h4 := getD_true_of this
  rw [h2] at h4; cases h4
 -- one that floats, or acts but asks nothing
 have step : ∀ {s : Stp} {r : List Stp} {obs : Obs} {env : Env} {L : List Atom} {v : Value} {x : Option Ob}, SQ P β rnd N T ops K (s :: r) obs env L → SQ P β rnd N T ops K r (addO s.i x obs) (bind_ s.o.dst v env) L → Nat.ble s.k 1 = true → dstOk N s.o.dst = true →
   (x.isSome = true → isLd s.o = true) → (∀ a, EnvOk N a env → YI P ops (holdsO x) s.o v a) → (∀ H w, Sat β w (H ++ L) → holdsO x w) →
   ∀ (p : Plan) (listed : Array Bool) (tk : List Nat) (early : Early) (a0 : Act) (w : World),
   s :: r = stps ops p → planOk ops E A p listed tk = true → Closed ops listed → (∀ i x, lookO obs i = some x → listed.getD i false = true ∧ i ∈ tk) →
   (∀ x ∈ early, A x.1 = true ∧ listed.getD x.1 true = false ∧ ∃ o, ops[x.1]? = some o) → (early.map (·.1)).Nodup → fuel = cnt (lstE early listed) → Inv ops E obs (lstE early listed) w →
   St β ⟨rnd, eatoms T ops early ++ fm⟩ N env L a0 w → wpI (Fr ⟨rnd, fm⟩) n P ops Q E obs fuel (lstE early listed) (putsE ops early a0) w := by
  intro s r obs env L v x hq hr hk hd hxl hyi hhold p listed tk early a0 w htd hp hc ho hea hnd hfu hv st
  have htd0 := htd
  have hp0 := hp
  obtain ⟨p', rfl, hi, hr'⟩ := stps_head htd
  unfold planOk at hp
  rw [hi] at hp
  simp only [Bool.and_eq_true] at hp
  obtain ⟨hp1, hp2⟩ := hp
  have hk1 : s.k = 0 ∨ s.k = 1 := by have := Nat.le_of_ble_eq_true hk; omega
  have hrdy : s.i ∈ Region.ready .any ops listed ∧ A s.i = false := by
   rcases hk1 with e | e
   ·rw [e] at hp1
    simp only [Bool.and_eq_true, Bool.not_eq_true', List.contains_iff_mem] at hp1
    exact ⟨hp1.1.1.1, hp1.1.2⟩
   ·rw [e] at hp1
    simp only [Bool.and_eq_true, Bool.not_eq_true', List.contains_iff_mem] at hp1
    exact ⟨hp1.1.1.1, hp1.1.2⟩
  obtain ⟨hrdy, hAi⟩ := hrdy
  obtain ⟨hun, _, hi', hall⟩ := mem_ready.1 hrdy
  rw [hi] at hi'; cases hi'
  have hfar : farE ops early s.o := farOf hea hAi hi hall
  have hne : ∀ y ∈ early, y.1 ≠ s.i := fun y hy e => by have := (hea y hy).1; rw [e, hAi] at this; cases this
  have hun2 : (lstE early listed).getD s.i true = false := lstE_false hun hne
  have hcnt := cnt_set hun2
  obtain ⟨fuel', rfl⟩ : ∃ f, fuel = f + 1 := ⟨fuel - 1, by omega⟩
  have hob : lookO obs s.i = none := by
   cases e : lookO obs s.i with
   | none => rfl
   | some y => have := (ho _ _ e).1; have := getD_true_of this; rw [hun] at this; cases this
  have hea' : ∀ x ∈ early, A x.1 = true ∧ (listed.setIfInBounds s.i true).getD x.1 true = false ∧ ∃ o, ops[x.1]? = some o := fun y hy => by
   obtain ⟨h1, h2, h3⟩ := hea y hy
   exact ⟨h1, by rw [getD_set_ne true (Ne.symm (hne y hy))]; exact h2, h3⟩
  have hyi' : YI P ops (holdsO x) s.o v (putsE ops early a0) := (hyi a0 st.1).putsE (hsd _ _ hi) hfar
  have hh : holdsO x w := by obtain ⟨_, Ds, _, s1⟩ := st; exact hhold _ w s1
  have next : (∀ l y, lookO obs l = some y → live ops E l (lstE early (listed.setIfInBounds s.i true)) → y.holds w) → wpI (Fr ⟨rnd, fm⟩) n P ops Q E (addO s.i x obs) fuel' ((lstE early listed).setIfInBounds s.i true) ((putsE ops early a0).put s.o.dst v) w := fun hinv => by
   rw [putsE_put v hfar, lstE_set]
   refine ihF fuel' (by omega) hr p' _ _ early _ w hr' hp2 (hc.set hrdy) (rests (v := v) (early := early) hxl hi hun (ready_lt hun) ho) hea' hnd (by rw [← lstE_set]; omega) ?_ (st.put hd)
   intro l y hl hlv
   cases x with
   | none => exact hinv l y hl hlv
   | some x =>
    by_cases hil : s.i = l
    ·subst hil; rw [addO, lookO_eq] at hl; cases hl; exact hh
    ·rw [addO, lookO_ne hil] at hl; exact hinv l y hl hlv
  rcases hk1 with e | e
  ·rw [e] at hp1
   simp only [Bool.and_eq_true, Bool.not_eq_true', List.contains_iff_mem] at hp1
   obtain ⟨⟨⟨_, hEi⟩, _⟩, hfree⟩ := hp1
   refine wpI_take hFf hi hsd (fun c a w h => absurd h (hQ c _ w)) hEi hob fuel' _ _ _ (fun j oj hj hji hjl hno => Region.free_spec hi hfree j oj hj hji (lstE_mem hjl).1 hno) (closed_lstE hA hc hea hnd) (ready_lstE hne hrdy) hyi' hh (next fun l y hl hlv => ?_)
   rw [← lstE_set] at hlv
   exact hv l y hl ((live_set hEi).1 hlv)
  ·rw [e] at hp1
   simp only [Bool.and_eq_true, Bool.not_eq_true', List.contains_iff_mem, beq_iff_eq] at hp1
   obtain ⟨⟨⟨_, hsole⟩, _⟩, _⟩ := hp1
   refine wpI_each (fun h => by have := ready_lstE hne hrdy; rw [h] at this; cases this) hv fun j hj => ?_
   cases hAj : A j with
   | true => exact ahead hq _ listed tk early a0 w fuel' rfl htd0 hp0 hc ho hea hnd hfu hv st j hj hAj
   | false =>
    have := ready_markA (fun y hy => (hea y hy).1) hj hAj
    rw [hsole] at this
    obtain rfl : j = s.i := by simpa using this
    refine hyi'.wpOpIn hFf hi (hsd _ _ hi) hh ?_
    have weaken : ∀ (fuel : Nat) (listed : Array Bool) (a : Act) (w : World), wpI (Fr ⟨rnd, fm⟩) n P ops Q E (addO s.i x obs) fuel listed a w → wpI (Fr ⟨rnd, fm⟩) n P ops Q E obs fuel listed a w := by
     have hi2 : ∀ (listed : Array Bool) (w : World), Inv ops E (addO s.i x obs) listed w → Inv ops E obs listed w := fun listed w hv l y hl hlv => by
      refine hv l y ?_ hlv
      have hne : s.i ≠ l := fun e => by rw [← e, hob] at hl; cases hl
      cases x with
      | none => exact hl
      | some x => rw [addO, lookO_ne hne]; exact hl
     intro fuel
     induction fuel with
     | zero => exact fun listed a w h => ⟨hi2 _ _ h.1, h.2⟩
     | succ fuel ih2 => exact fun listed a w h => ⟨hi2 _ _ h.1, h.2.1, fun k hk => wpOpIn_mono (fun a' w' h' => ih2 _ _ _ h') (h.2.2 k hk)⟩
    refine weaken _ _ _ _ (next fun l y hl hlv => ?_)
    rw [← lstE_set] at hlv
    exact hv l y hl fun k hk he => hlv k (getD_set_true hk) he
 induction hq with
 | nil h =>
  intro p listed tk early a0 w htd hp hc ho hea hnd hfu hv st
  obtain rfl := stps_nil htd hp
  have hr : Region.ready .any ops listed = [] := by simpa [planOk] using hp
  obtain rfl : early = [] := by
   cases early with
   | nil => rfl
   | cons x r =>
    obtain ⟨h1, h2, o, h3⟩ := hea x List.mem_cons_self
    have := alloc_ready hA h1 h3 h2
    rw [hr] at this; cases this
  exact wpI_done hr hv (hK _ _ ⟨_, _, st, h⟩) _
 | ent L' e _ ih => exact fun p listed tk early a0 w htd hp hc ho hea hnd hfu hv st => ih p listed tk early a0 w htd hp hc ho hea hnd hfu hv (st.ent e)
 | env_ env' e _ ih => exact fun p listed tk early a0 w htd hp hc ho hea hnd hfu hv st => ih p listed tk early a0 w htd hp hc ho hea hnd hfu hv (st.env_ e)
 | open_ _ ih => exact fun p listed tk early a0 w htd hp hc ho hea hnd hfu hv st => let ⟨x, s1⟩ := st.open_; ih x p listed tk early a0 w htd hp hc ho hea hnd hfu hv s1
 | pure_ _ ih => exact fun p listed tk early a0 w htd hp hc ho hea hnd hfu hv st => let ⟨hp', s1⟩ := st.pure_; ih hp' p listed tk early a0 w htd hp hc ho hea hnd hfu hv s1
 | @val s r obs env L v hk hw hd hv0 hr _ =>
  exact step (x := none) (SQ.val v hk hw hd hv0 hr) hr hk hd (fun h => by cases h) (fun a he => .inl ⟨wants_ok hw he, fun w' _ => hv0 a.eval (fun x u hx => he.eval hx) w'⟩) (fun _ _ _ => trivial)
 | @passed s r obs env L hk hw hd hr _ =>
  exact step (x := none) (v := undef) (SQ.passed hk hw hd hr) hr hk hd (fun h => by cases h) (fun a he => .inr ⟨wants_ok hw he, rfl⟩) (fun _ _ _ => trivial)
 | @ld s r obs env L x hk hw hd hl hv0 hx hr _ =>
  exact step (x := some x) (SQ.ld x hk hw hd hl hv0 hx hr) hr hk hd (fun _ => hl) (fun a he => .inl ⟨wants_ok hw he, fun w' hw' => hv0 a.eval (fun x u hx => he.eval hx) w' hw'⟩) hx
 | @new s r obs env L d cs hk hal hr ih =>
  intro p listed tk early a0 w htd hp hc ho hea hnd hfu hv st
  have htd0 := htd
  have hp0 := hp
  obtain ⟨p', rfl, hi, hr'⟩ := stps_head htd
  unfold planOk at hp
  rw [hi] at hp
  simp only [Bool.and_eq_true] at hp
  obtain ⟨hp1, hp2⟩ := hp
  obtain ⟨hw, hd, hlt, hdef, t, hrun⟩ := alE_run (P := P) hT hal
  have obsOk : ∀ {i : Nat}, ∀ j x, lookO obs j = some x → (listed.setIfInBounds i true).getD j false = true ∧ j ∈ (match s.o.op with | .load _ _ => s.i :: tk | _ => tk) := fun j x hl => ⟨getD_set_true (ho j x hl).1, tk_more (ho j x hl).2⟩
  have hk' : s.k = 1 ∨ ∃ m, s.k = m + 2 := by
   rcases e : s.k with _ | _ | m
   ·rw [e] at hk; cases hk
   ·exact .inl rfl
   ·exact .inr ⟨m, rfl⟩
  rcases hk' with e | ⟨m, e⟩
  ·rw [e] at hp1
   simp only [Bool.and_eq_true, Bool.not_eq_true', List.contains_iff_mem, beq_iff_eq] at hp1
   obtain ⟨⟨⟨hrdy, hsole⟩, hAi⟩, _⟩ := hp1
   obtain ⟨hun, _, hi', hall⟩ := mem_ready.1 hrdy
   rw [hi] at hi'; cases hi'
   have hfar : farE ops early s.o := farOf hea hAi hi hall
   have hne : ∀ y ∈ early, y.1 ≠ s.i := fun y hy e => by have := (hea y hy).1; rw [e, hAi] at this; cases this
   have hcnt := cnt_set (lstE_false hun hne)
   obtain ⟨fuel', rfl⟩ : ∃ f, fuel = f + 1 := ⟨fuel - 1, by omega⟩
   refine wpI_each (fun h => by have := ready_lstE hne hrdy; rw [h] at this; cases this) hv fun j hj => ?_
   cases hAj : A j with
   | true => exact ahead (SQ.new d cs hk hal hr) _ listed tk early a0 w fuel' rfl htd0 hp0 hc ho hea hnd hfu hv st j hj hAj
   | false =>
    have := ready_markA (fun y hy => (hea y hy).1) hj hAj
    rw [hsole] at this
    obtain rfl : j = s.i := by simpa using this
    unfold wpOpIn
    rw [hi]
    show if Region.wanted s.o (yielded ops (putsE ops early a0).tmps) = true then _ else _
    rw [putsE_wanted hfar, if_pos (by rw [wants_ok hw st.1])]
    refine wpIn_of_run hdef ?_
    rw [putsE_exec (hsd _ _ hi) hfar, hrun a0.eval (fun x u hx => st.1.eval hx) w]
    show wpI _ _ _ _ _ _ _ _ _ _ _
    rw [putsE_put _ hfar, lstE_set]
    refine ihF fuel' (by omega) (hr w.heap.size) p' _ _ early _ _ hr' hp2 (hc.set hrdy) obsOk (fun y hy => ?_) hnd (by rw [← lstE_set]; omega) (fun l y hl hlv => ?_) ?_
    ·obtain ⟨h1, h2, h3⟩ := hea y hy
     exact ⟨h1, by rw [getD_set_ne true (Ne.symm (hne y hy))]; exact h2, h3⟩
    ·rw [← lstE_set] at hlv
     exact Ob.alloc (hv l y hl fun k hk he => hlv k (getD_set_true hk) he) _
    ·obtain ⟨h3, Ds, hds, s1⟩ := st
     exact ⟨by rw [hd]; exact h3.put hlt _, Ds, by rw [hd]; exact hds, s1.alloc cs t⟩
  ·rw [e] at hp1
   simp only [Bool.and_eq_true, Bool.not_eq_true', List.contains_iff_mem, beq_iff_eq] at hp1
   obtain ⟨⟨hrdy, hsole⟩, hAi⟩ := hp1
   obtain ⟨hun, _, hi', hall⟩ := mem_ready.1 hrdy
   rw [hi] at hi'; cases hi'
   have hcs : cs = zsOf T ops s.i := by
    obtain ⟨_, ⟨t0, hop⟩, _, _⟩ := allocOk_spec hA hAi hi
    have h1 := List.all_eq_true.1 haT s.i (List.mem_range.2 (Array.getElem?_eq_some_iff.1 hi).1)
    unfold alE at hal
    split at hal <;> try (cases hal; done)
    rw [hop] at hal
    simp only at hal
    split at hal <;> try (cases hal; done)
    rename_i ti hti
    rw [force_eq] at hal
    simp only [Option.some.injEq, Prod.mk.injEq] at hal
    simp only [zsOf, hi, hop, hti]
    exact hal.2.symm
   by_cases hin : ∃ b, (s.i, b) ∈ early
   ·obtain ⟨b, hin⟩ := hin
    obtain ⟨e', hperm, hput, hlst⟩ := pull hA hi hAi hin hnd fun y hy => ⟨(hea y hy).1, (hea y hy).2.2⟩
    have hnd' : s.i ∉ e'.map (·.1) ∧ (e'.map (·.1)).Nodup := by
     have := (hperm.map (·.1)).nodup_iff.1 hnd
     simpa only [List.map_cons, List.nodup_cons] using this
    rw [hput, hlst]
    refine ih b p' _ _ e' _ w hr' hp2 (hc.set hrdy) obsOk (fun y hy => ?_) hnd'.2 (by rw [hfu, hlst]) (by rw [← hlst]; exact hv) ?_
    ·obtain ⟨h1, h2, h3⟩ := hea y (hperm.mem_iff.2 (List.mem_cons_of_mem _ hy))
     refine ⟨h1, ?_, h3⟩
     rw [getD_set_ne true (fun e => hnd'.1 (List.mem_map.2 ⟨y, hy, e.symm⟩))]
     exact h2
    ·obtain ⟨h3, Ds, hds, s1⟩ := st
     refine ⟨by rw [hd]; exact h3.put hlt _, Ds, by rw [hd]; exact hds, s1.perm ?_⟩
     have hp3 : (eatoms T ops early).Perm (pt b cs :: eatoms T ops e') := by
      have := hperm.map fun x : Nat × Nat => pt x.2 (zsOf T ops x.1)
      simpa only [eatoms, List.map_cons, hcs] using this
     simp only [hid, List.append_assoc]
     refine List.Perm.append_left _ (List.Perm.append_left _ ?_)
     refine (hp3.append_right (fm ++ L)).trans ?_
     simpa only [List.append_assoc, List.cons_append] using (List.perm_middle (a := pt b cs) (l₁ := eatoms T ops e' ++ fm) (l₂ := L)).symm
   ·have hne : ∀ y ∈ early, y.1 ≠ s.i := fun y hy e => hin ⟨y.2, by rw [← e]; exact hy⟩
    have hcnt := cnt_set (lstE_false hun hne)
    obtain ⟨fuel', rfl⟩ : ∃ f, fuel = f + 1 := ⟨fuel - 1, by omega⟩
    refine wpI_each (fun h => by have := ready_lstE hne hrdy; rw [h] at this; cases this) hv fun j hj => ?_
    cases hAj : A j with
    | true => exact ahead (SQ.new d cs hk hal hr) _ listed tk early a0 w fuel' rfl htd0 hp0 hc ho hea hnd hfu hv st j hj hAj
    | false =>
     have := ready_markA (A := fun j => A j && !(j == s.i)) (fun y hy => by simp [(hea y hy).1, hne y hy]) hj (by simp [hAj])
     rw [hsole] at this
     obtain rfl : j = s.i := by simpa using this
     rw [hAi] at hAj; cases hAj
 | @act_ s r obs env L R hk hw how hwt hr _ =>
  intro p listed tk early a0 w htd hp hc ho hea hnd hfu hv st
  have htd0 := htd
  have hp0 := hp
  obtain ⟨p', rfl, hi, hr'⟩ := stps_head htd
  unfold planOk at hp
  rw [hi] at hp
  simp only [Bool.and_eq_true] at hp
  obtain ⟨hp1, hp2⟩ := hp
  rw [hk] at hp1
  simp only [Bool.and_eq_true, Bool.not_eq_true', List.contains_iff_mem, beq_iff_eq] at hp1
  obtain ⟨⟨⟨hrdy, hsole⟩, hAi⟩, htk⟩ := hp1
  obtain ⟨hun, _, hi', hall⟩ := mem_ready.1 hrdy
  rw [hi] at hi'; cases hi'
  have hfar : farE ops early s.o := farOf hea hAi hi hall
  have hne : ∀ y ∈ early, y.1 ≠ s.i := fun y hy e => by have := (hea y hy).1; rw [e, hAi] at this; cases this
  have hcnt := cnt_set (lstE_false hun hne)
  obtain ⟨fuel', rfl⟩ : ∃ f, fuel = f + 1 := ⟨fuel - 1, by omega⟩
  refine wpI_each (fun h => by have := ready_lstE hne hrdy; rw [h] at this; cases this) hv fun j hj => ?_
  cases hAj : A j with
  | true => exact ahead (SQ.act_ R hk hw how hwt hr) _ listed tk early a0 w fuel' rfl htd0 hp0 hc ho hea hnd hfu hv st j hj hAj
  | false =>
   have := ready_markA (fun y hy => (hea y hy).1) hj hAj
   rw [hsole] at this
   obtain rfl : j = s.i := by simpa using this
   unfold wpOpIn
   rw [hi]
   show if Region.wanted s.o (yielded ops (putsE ops early a0).tmps) = true then _ else _
   rw [putsE_wanted hfar, if_pos (by rw [wants_ok hw st.1])]
   refine wpIn_of_run (noSD_defer (hsd _ _ hi)) ?_
   rw [putsE_exec (hsd _ _ hi) hfar]
   refine uponIn_putsE hfar (K := fun a w => ∃ env L, St β ⟨rnd, eatoms T ops early ++ fm⟩ N env L a w ∧ R env L) (fun a' w' hex => ?_) (how (eatoms T ops early ++ fm) n (fun _ _ _ => False) a0 w st)
   obtain ⟨env', L', st', hR⟩ := hex
   rw [lstE_set]
   refine ihF fuel' (by omega) (hr env' L' hR) p' _ _ early a' w' hr' hp2 (hc.set hrdy) (fun j x hl => ⟨getD_set_true (ho j x hl).1, tk_more (ho j x hl).2⟩) (fun y hy => ?_) hnd (by rw [← lstE_set]; omega) (fun l y hl hlv => ?_) st'
   ·obtain ⟨h1, h2, h3⟩ := hea y hy
    exact ⟨h1, by rw [getD_set_ne true (Ne.symm (hne y hy))]; exact h2, h3⟩
   ·have h1 := List.all_eq_true.1 htk l (ho l y hl).2
    simp only [Bool.or_eq_true, List.contains_iff_mem] at h1
    rcases h1 with h1 | h1
    ·exact (hwt env' L' hR).holds st' l h1 y hl
    ·exfalso
     obtain ⟨k, _, h2⟩ := List.any_eq_true.1 h1
     simp only [Bool.and_eq_true] at h2
     exact hlv k (lstE_true h2.1.1) h2.1.2 (reachB_spec _ _ h2.2)

def runP (T : TT) (N : Nat) (ops : Array Oper) : List Stp → Env → Bool → Option (Env × List Stp)
 | [], env, p => match p with
  | true => some (env, [])
  | false => none
 | s :: r, env, p => match Nat.ble s.k 1 with
  | false => match p with
   | true => some (env, s :: r)
   | false => none
  | true => match wants ops env s.o with
   | some true => match pureOp T env s.o.op with
    | some v => match s.o.dst with
     | some d => match Nat.blt d N with
      | true => runP T N ops r ((d, v) :: env) true
      | false => none
     | none => runP T N ops r env true
    | none => match p with
     | true => some (env, s :: r)
     | false => none
   | some false => match s.o.dst with
    | some d => match Nat.blt d N with
     | true => runP T N ops r ((d, undef) :: env) true
     | false => none
    | none => runP T N ops r env true
   | none => match p with
    | true => some (env, s :: r)
    | false => none
theorem SQ.value (hT : TTok P T) {s : Stp} {r : List Stp} {obs : Obs} {v : Value} (hk : Nat.ble s.k 1 = true) (hw : wants ops env s.o = some true) (hv : pureOp T env s.o.op = some v) (hd : dstOk N s.o.dst = true) (k : SQ P β rnd N T ops K r obs (bind_ s.o.dst v env) L) : SQ P β rnd N T ops K (s :: r) obs env L :=
 .val v hk hw hd (fun ρ hρ w' => pureOp_run hT hρ hv w') k
theorem SQ.pures_ (hT : TTok P T) : ∀ {todo : List Stp} {obs : Obs} {env env' : Env} {todo' : List Stp} {p : Bool}, runP T N ops todo env p = some (env', todo') → SQ P β rnd N T ops K todo' obs env' L → SQ P β rnd N T ops K todo obs env L
 | [], obs, env, env', todo', p, h, k => by
  cases p with
  | true => simp only [runP, Option.some.injEq, Prod.mk.injEq] at h; obtain ⟨rfl, rfl⟩ := h; exact k
  | false => simp [runP] at h
 | s :: r, obs, env, env', todo', p, h, k => by
  unfold runP at h
  split at h
  ·split at h
   ·simp only [Option.some.injEq, Prod.mk.injEq] at h; obtain ⟨rfl, rfl⟩ := h; exact k
   ·cases h
  rename_i hk
  split at h
  ·rename_i hw
   split at h
   ·rename_i v hv
    split at h
    ·rename_i d hd
     split at h
     ·rename_i hb
      exact SQ.value hT hk hw hv (by simp [dstOk, hd, hb]) (by rw [hd]; exact SQ.pures_ hT h k)
     ·cases h
    ·rename_i hd
     exact SQ.value hT hk hw hv (by simp [dstOk, hd]) (by rw [hd]; exact SQ.pures_ hT h k)
   ·split at h
    ·simp only [Option.some.injEq, Prod.mk.injEq] at h; obtain ⟨rfl, rfl⟩ := h; exact k
    ·cases h
  ·rename_i hw
   split at h
   ·rename_i d hd
    split at h
    ·rename_i hb
     exact SQ.passed hk hw (by simp [dstOk, hd, hb]) (by rw [hd]; exact SQ.pures_ hT h k)
    ·cases h
   ·rename_i hd
    exact SQ.passed hk hw (by simp [dstOk, hd]) (by rw [hd]; exact SQ.pures_ hT h k)
  ·split at h
   ·simp only [Option.some.injEq, Prod.mk.injEq] at h; obtain ⟨rfl, rfl⟩ := h; exact k
   ·cases h
theorem SQ.pures1 (hT : TTok P T) {todo : List Stp} {obs : Obs} {env env' : Env} {todo' : List Stp} (h : runP T N ops todo env false = some (env', todo')) (k : SQ P β rnd N T ops K todo' obs env' L) : SQ P β rnd N T ops K todo obs env L :=
 SQ.pures_ hT h k

def ldE (T : TT) (N : Nat) (ops : Array Oper) (env : Env) (o : Oper) : Option (Nat × Nat × Nat × TI) :=
 match wants ops env o with
 | some true => match o.op with
  | .load t x => match o.dst with
   | some d => match ev env x with
    | some (.pointer (some ⟨b, off, none⟩)) => match T.get t with
     | some i => bif Nat.blt d N then some (d, b, off, i) else none
     | none => none
    | _ => none
   | none => none
  | _ => none
 | _ => none
theorem ldE_eq {o : Oper} {d b off : Nat} {i : TI} (h : ldE T N ops env o = some (d, b, off, i)) :
  wants ops env o = some true ∧ ∃ t x, o.op = .load t x ∧ o.dst = some d ∧ ev env x = some (.pointer (some ⟨b, off, none⟩)) ∧ T.get t = some i ∧ d < N := by
 unfold ldE at h
 split at h <;> try (cases h; done)
 rename_i hw
 split at h <;> try (cases h; done)
 rename_i t x ho
 split at h <;> try (cases h; done)
 rename_i d' hd
 split at h <;> try (cases h; done)
 rename_i b' off' hx
 split at h <;> try (cases h; done)
 rename_i i' hi
 cases hb : Nat.blt d' N with
 | false => rw [hb] at h; cases h
 | true =>
  rw [hb] at h
  simp only [cond_true, Option.some.injEq, Prod.mk.injEq] at h
  obtain ⟨rfl, rfl, rfl, rfl⟩ := h
  exact ⟨hw, t, x, ho, hd, hx, hi, by simpa [Nat.blt_eq] using hb⟩
theorem ld_run (hT : TTok P T) {o : Oper} {d b off : Nat} {i : TI} (h : ldE T N ops env o = some (d, b, off, i)) {ρ : Operand → Value} {w : World} (he : ∀ x u, ev env x = some u → ρ x = u) {cs : List Value} {t : Nat} {fz : Nat × Nat}
  (hb : w.heap[b]? = some (.cells cs.toArray t fz)) {v : Value} (hv : rdv i cs off = some v) : (execOp ρ o).run P w = .ok (.value v) w := by
 obtain ⟨_, t0, x, ho, _, hx, hi, _⟩ := ldE_eq h
 obtain ⟨dst, op, type, pos, after, guard⟩ := o
 simp only at ho
 subst ho
 have e := run_loadVar_of (hT.get hi) hb hv
 simp only [execOp, he _ _ hx, Instr.loadAt, Instr.sureAddr]
 simp only [Sem.run_bind, Sem.run_pure, Result.andThen, e]
theorem ldE_isLd {o : Oper} {d b off : Nat} {i : TI} (h : ldE T N ops env o = some (d, b, off, i)) : isLd o = true := by
 obtain ⟨_, t, x, ho, _⟩ := ldE_eq h; simp [isLd, ho]
theorem SQ.load_ (hT : TTok P T) {s : Stp} {r : List Stp} {obs : Obs} {d b off : Nat} {i : TI} (hk : Nat.ble s.k 1 = true) (h : ldE T N ops env s.o = some (d, b, off, i)) {cs : List Value} {v : Value}
  (hb : ∀ H w, Sat β w (H ++ L) → ∃ t fz, w.heap[b]? = some (.cells cs.toArray t fz))
  (hv : rdv i cs off = some v) (k : SQ P β rnd N T ops K r ((s.i, ⟨b, off, i, v⟩) :: obs) ((d, v) :: env) L) : SQ P β rnd N T ops K (s :: r) obs env L := by
 obtain ⟨hw, t0, x, ho, hd, hx, hi, hlt⟩ := ldE_eq h
 refine .ld ⟨b, off, i, v⟩ hk hw (by simpa [dstOk, hd, Nat.blt_eq] using hlt) (ldE_isLd h) (fun ρ hρ w hw' => ?_) (fun H w st => ?_) (by rw [hd]; exact k)
 ·obtain ⟨cs', t, fz, hb', hv'⟩ := hw'
  exact ld_run hT h hρ hb' hv'
 ·obtain ⟨t, fz, hbb⟩ := hb H w st
  exact ⟨cs, t, fz, hbb, hv⟩
theorem at_ {H : List Atom} {i : Nat} {A : Atom} (h : L[i]? = some A) : (H ++ L)[H.length + i]? = some A := by
 rw [List.getElem?_append_right (by omega)]
 simpa using h
theorem SQ.load (hT : TTok P T) {s : Stp} {r : List Stp} {obs : Obs} {d b off : Nat} {i : TI} (hk : Nat.ble s.k 1 = true) (h : ldE T N ops env s.o = some (d, b, off, i)) {cs : List Value} {v : Value} (j : Nat) (hL : L[j]? = some (pt b cs))
  (hv : rdv i cs off = some v) (k : SQ P β rnd N T ops K r ((s.i, ⟨b, off, i, v⟩) :: obs) ((d, v) :: env) L) : SQ P β rnd N T ops K (s :: r) obs env L :=
 SQ.load_ hT hk h (fun H w st => by obtain ⟨_, t, e⟩ := st.cell_pt (at_ hL); exact ⟨t, _, e⟩) hv k
theorem SQ.loadq (hT : TTok P T) {s : Stp} {r : List Stp} {obs : Obs} {d b off : Nat} {i : TI} (hk : Nat.ble s.k 1 = true) (h : ldE T N ops env s.o = some (d, b, off, i)) {q : Bool} {cs : List Value} {v : Value} (j : Nat) (hL : L[j]? = some (pq β q b cs))
  (hv : rdv i cs off = some v) (k : SQ P β rnd N T ops K r ((s.i, ⟨b, off, i, v⟩) :: obs) ((d, v) :: env) L) : SQ P β rnd N T ops K (s :: r) obs env L :=
 SQ.load_ hT hk h (fun H w st => st.cell_pq (at_ hL)) hv k

def stE (T : TT) (N : Nat) (ops : Array Oper) (env : Env) (o : Oper) : Option (Nat × Nat × TI × Value) :=
 match wants ops env o with
 | some true => match o.op with
  | .store t x y => match o.dst with
   | none => match ev env x with
    | some (.pointer (some ⟨b, off, none⟩)) => match T.get t with
     | some i => match ev env y with
      | some v => some (b, off, i, v)
      | none => none
     | none => none
    | _ => none
   | some _ => none
  | _ => none
 | _ => none
theorem stE_eq {o : Oper} {b off : Nat} {i : TI} {v : Value} (h : stE T N ops env o = some (b, off, i, v)) :
  wants ops env o = some true ∧ ∃ t x y, o.op = .store t x y ∧ o.dst = none ∧ ev env x = some (.pointer (some ⟨b, off, none⟩)) ∧ ev env y = some v ∧ T.get t = some i := by
 unfold stE at h
 split at h <;> try (cases h; done)
 rename_i hw
 split at h <;> try (cases h; done)
 rename_i t x y ho
 split at h <;> try (cases h; done)
 rename_i hd
 split at h <;> try (cases h; done)
 rename_i b' off' hx
 split at h <;> try (cases h; done)
 rename_i i' hi
 split at h <;> try (cases h; done)
 rename_i v' hy
 simp only [Option.some.injEq, Prod.mk.injEq] at h
 obtain ⟨rfl, rfl, rfl, rfl⟩ := h
 exact ⟨hw, t, x, y, ho, hd, hx, hy, hi⟩
def scal : List Value → Bool
 | [] => true
 | v :: r => match v with
  | .agg _ => false
  | .tuple _ => false
  | _ => scal r
theorem scal_eq {l : List Value} (h : scal l = true) : ∀ v ∈ l, v.oneCell' = true := by
 induction l with
 | nil => intro v hv; cases hv
 | cons u r ih =>
  intro v hv
  rcases List.mem_cons.1 hv with e | hv
  ·rw [e]; cases u <;> simp [scal] at h <;> rfl
  ·exact ih (by cases u <;> simp [scal] at h <;> exact h) v hv
def setA : List Atom → Nat → Atom → (List Atom → Option (List Atom)) → Option (List Atom)
 | [], _, _, _ => none
 | _ :: r, 0, A, k => force r fun r => k (A :: r)
 | B :: r, n + 1, A, k => setA r n A fun r => k (B :: r)
theorem setA_eq : ∀ {L : List Atom} {n : Nat} {A : Atom} {k : List Atom → Option (List Atom)} {M : List Atom}, setA L n A k = some M → k (L.set n A) = some M
 | [], _, _, _, _, h => by simp [setA] at h
 | B :: r, 0, A, k, M, h => by simp only [setA, force_eq] at h; simpa using h
 | B :: r, n + 1, A, k, M, h => by simp only [setA] at h; have := setA_eq h; simpa using this
theorem Sat.store {w : World} {H : List Atom} {j b : Nat} {cs cs' : List Value} (s : Sat β w (H ++ L)) (hL : L[j]? = some (pt b cs)) : Sat β (w.setRow b cs'.toArray) (H ++ L.set j (pt b cs')) := by
 have hp : (H ++ L).Perm (pt b cs :: (H ++ L.eraseIdx j)) := (List.Perm.append_left H (perm_at hL)).trans List.perm_middle
 have s1 := s.perm hp
 obtain ⟨hb, h, ⟨h1, h2, ⟨t, rfl⟩, st, d, rfl⟩, hw⟩ := s1
 have e0 := (hw b (.cells cs.toArray t (0, 0)) (by simp [Hp.add, Hp.one])).2
 have s2 : Sat β w ((fun h => h = Hp.one b (.cells cs.toArray t (0, 0))) :: (H ++ L.eraseIdx j)) := ⟨hb, _, ⟨_, h2, rfl, st, d, rfl⟩, hw⟩
 have s3 := s2.update (w' := w.setRow b cs'.toArray) (o' := .cells cs'.toArray t (0, 0)) (A' := pt b cs') ⟨t, rfl⟩ (fun k => by
  by_cases hk : k = b
  ·subst hk; rw [if_pos rfl]; exact setRow_heap w k _ _ t _ e0
  ·rw [if_neg hk]; exact setRow_other w b k _ hk) (by simp) rfl rfl rfl
 refine s3.perm ?_
 exact List.perm_middle.symm.trans (List.Perm.append_left H (star_set hL).symm)
theorem run_storeVar_of {w : World} {t0 : Nat} {i : TI} (hi : TIok P t0 i) {cs cs' : List Value} {off : Nat} {t : Nat} {b : Nat} (hb : w.heap[b]? = some (.cells cs.toArray t (0, 0)))
  {v : Value} (hs : ∀ u ∈ vcells v, u.oneCell' = true) (hv : wrv i cs off v = some cs') : (storeVar t0 ⟨b, off, none⟩ v).run P w = .ok () (w.setRow b cs'.toArray) := by
 obtain ⟨h1, h2, h3⟩ := wrv_eq hv
 unfold storeVar
 have e1 : v.cells.size = i.size := by rw [← Array.length_toList, vcells_eq]; exact h1
 have := run_storeCells_at P b off t (vcells v) 0 cs.toArray w hb (by simp; omega) hs
 simp only [Sem.run_bind, hi.run_sizeOf w, Result.andThen, e1, ne_eq, not_true, if_false]
 rw [vcells_eq, this, h3]
 simp [h1]
theorem SQ.store (hT : TTok P T) {s : Stp} {r : List Stp} {obs : Obs} {b off : Nat} {i : TI} {v : Value} (he : s.k = 1) (h : stE T N ops env s.o = some (b, off, i, v)) {cs cs' : List Value} (j : Nat) (hL : L[j]? = some (pt b cs))
  (hs : scal (vcells v) = true) (hv : wrv i cs off v = some cs') {M : List Atom} (hM : setA L j (pt b cs') some = some M) (hwt : watchOk β obs M s.watch) (k : SQ P β rnd N T ops K r obs env M) : SQ P β rnd N T ops K (s :: r) obs env L := by
 obtain ⟨hw, t0, x, y, ho, hd, hx, hy, hi⟩ := stE_eq h
 have hM2 := setA_eq hM
 simp only [Option.some.injEq] at hM2
 subst hM2
 refine SQ.act he hw fun fm n Qx a w st0 => ?_
 obtain ⟨hen, Ds, hds, st⟩ := st0
 obtain ⟨_, t, hbb⟩ := st.cell_pt (hid_at hL)
 have e := run_storeVar_of (hT.get hi) hbb (scal_eq hs) hv
 have e2 : (execOp a.eval s.o).run P w = .ok .skip (w.setRow b cs'.toArray) := by
  obtain ⟨si, ⟨dst, op, type, pos, after, guard⟩, se, sw⟩ := s
  simp only at ho
  subst ho
  simp only [execOp, hen.eval hx, hen.eval hy, Instr.storeAt, Instr.sureAddr]
  simp only [Sem.run_bind, Sem.run_pure, Result.andThen, e]
 rw [e2]
 refine ⟨env, _, ?_, hwt, k⟩
 rw [hd]
 exact ⟨hen, Ds, hds, st.store hL⟩

def Tri (P : Program) (β : Base) (g : FuncId) (args : List Value) (A : List Atom) (R : Value → List Atom → Prop) : Prop :=
 Enters P g ∧ ∀ F n w, Sat β w (F ++ A) → CallsIn Fence.wide n P g args.toArray w fun e w' => ∃ v A', e = .returned v ∧ Sat β w' (F ++ A') ∧ R v A'
theorem Fr_calls (cx : Cx) {n : Nat} {f : FuncId} {args : Array Value} {w : World} {R : Ending → World → Prop} (h : CallsIn Fence.wide n P f args w R) : CallsIn (Fr cx) n P f args w R := by
 unfold Fr
 cases cx.rnd with
 | none => exact h
 | some lr => exact h.inRound lr.1
theorem Tri.mono {g : FuncId} {args : List Value} {A : List Atom} {R R' : Value → List Atom → Prop} (h : Tri P β g args A R) (hr : ∀ v L, R v L → R' v L) : Tri P β g args A R' :=
 ⟨h.1, fun F n w s => (h.2 F n w s).mono fun e w' ⟨v, A', he, hs, r⟩ => ⟨v, A', he, hs, hr v A' r⟩⟩
theorem Tri.ent {g : FuncId} {args : List Value} {A B : List Atom} {R : Value → List Atom → Prop} (e : Ent B A) (h : Tri P β g args A R) : Tri P β g args B R :=
 ⟨h.1, fun F n w s => h.2 F n w (s.ent (Ent.append (Ent.refl F) e))⟩
theorem Tri.frame {g : FuncId} {args : List Value} {A : List Atom} {R : Value → List Atom → Prop} (h : Tri P β g args A R) (M : List Atom) : Tri P β g args (M ++ A) fun v L => ∃ A', L = M ++ A' ∧ R v A' :=
 ⟨h.1, fun F n w s => (h.2 (F ++ M) n w (by rw [List.append_assoc]; exact s)).mono fun e w' ⟨v, A', he, hs, r⟩ => ⟨v, _, he, by rw [List.append_assoc] at hs; exact hs, A', rfl, r⟩⟩
theorem Tri.open_ {g : FuncId} {args : List Value} {A : List Atom} {R : Value → List Atom → Prop} {α : Type} {f : α → List Atom} (h : ∀ x, Tri P β g args (f x ++ A) R) (hE : Enters P g) : Tri P β g args (exA f :: A) R :=
 ⟨hE, fun F n w s => by
  obtain ⟨x, s1⟩ := (s.perm (List.perm_middle)).exA
  exact (h x).2 F n w (s1.perm (by simpa [List.append_assoc] using (List.perm_append_comm_assoc (f x) F A)))⟩
theorem Tri.pure_ {g : FuncId} {args : List Value} {A : List Atom} {R : Value → List Atom → Prop} {p : Prop} (h : p → Tri P β g args A R) (hE : Enters P g) : Tri P β g args (pureA p :: A) R :=
 ⟨hE, fun F n w s => by
  obtain ⟨hp, s1⟩ := (s.perm (List.perm_middle)).pureA
  exact (h hp).2 F n w s1⟩
def sel : List Nat → List Atom → (List Atom → List Atom → Option (List Atom × List Atom)) → Option (List Atom × List Atom)
 | [], L, k => force L fun L => k [] L
 | i :: is, L, k => match nth L i with
  | some A => sel is (L.eraseIdx i) fun As F => k (A :: As) F
  | none => none
theorem sel_eq : ∀ {is : List Nat} {L : List Atom} {k : List Atom → List Atom → Option (List Atom × List Atom)} {r : List Atom × List Atom}, sel is L k = some r → ∃ A F, L.Perm (A ++ F) ∧ k A F = some r
 | [], L, k, r, h => ⟨[], L, List.Perm.refl _, by simpa [sel, force_eq] using h⟩
 | i :: is, L, k, r, h => by
  simp only [sel] at h
  cases e : nth L i with
  | none => rw [e] at h; cases h
  | some A =>
   rw [e] at h
   obtain ⟨As, F, hp, hk⟩ := sel_eq h
   rw [nth_eq] at e
   exact ⟨A :: As, F, (perm_at e).trans (List.Perm.cons A hp), hk⟩
def clE (N : Nat) (ops : Array Oper) (env : Env) (o : Oper) : Option (Option Nat × Nat × List Value) :=
 match wants ops env o with
 | some true => match o.op with
  | .call c => match c.callee with
   | .value f => match ev env f with
    | some (.func (.func g) first cap) => bif dstOk N o.dst then evsK env c.args.toList fun vs => force (first.toList ++ vs ++ cap.toList) fun as_ => some (o.dst, g, as_) else none
    | _ => none
   | _ => none
  | _ => none
 | _ => none
theorem OW.call {o : Oper} {od : Option Nat} {g : Nat} {args : List Value} (h : clE N ops env o = some (od, g, args)) {A F : List Atom} {R : Value → List Atom → Prop}
  (hT : Tri P β g args A R) (is : List Nat) (hs : sel is L (fun A F => some (A, F)) = some (A, F)) (k : ∀ v A', R v A' → K (bind_ od v env) (A' ++ F)) :
  wants ops env o = some true ∧ (∀ c, o.op ≠ .defer c) ∧ OW P β cx N o env L K := by
 obtain ⟨A2, F2, hp, hk⟩ := sel_eq hs
 simp only [Option.some.injEq, Prod.mk.injEq] at hk
 obtain ⟨rfl, rfl⟩ := hk
 unfold clE at h
 split at h <;> try (cases h; done)
 rename_i hw
 split at h <;> try (cases h; done)
 rename_i c ho
 split at h <;> try (cases h; done)
 rename_i f hf
 split at h <;> try (cases h; done)
 rename_i g' first cap hev
 cases hb : dstOk N o.dst with
 | false => rw [hb] at h; cases h
 | true =>
  rw [hb] at h
  simp only [cond_true] at h
  obtain ⟨vs, h1, h2⟩ := evsK_eq h
  rw [force_eq] at h2
  simp only [Option.some.injEq, Prod.mk.injEq] at h2
  obtain ⟨rfl, rfl, rfl⟩ := h2
  refine ⟨hw, by rw [ho]; simp, fun n Qx a w s => ?_⟩
  obtain ⟨he, Ds, hds, st⟩ := s
  have e2 : (execOp a.eval o).run P w = .ok (.enter g' (first.toList ++ vs ++ cap.toList).toArray) w := by
   obtain ⟨dst, op, type, pos, after, guard⟩ := o
   obtain ⟨callee, cargs, ats⟩ := c
   simp only at ho hf h1
   subst ho
   subst hf
   have e3 := evs_map (fun x v hx => he.eval hx) h1
   have e4 : cargs.map a.eval = vs.toArray := Array.toList_inj.1 (by simpa using e3)
   simp only [execOp, resolve, e4, he.eval hev, Deferred.ofValue, Sem.run_bind, Sem.run_pure, Result.andThen, invoke]
   have e5 := hT.1 (first ++ vs.toArray ++ cap) w
   have e6 : (first.toList ++ vs ++ cap.toList).toArray = first ++ vs.toArray ++ cap := Array.toList_inj.1 (by simp)
   rw [e6]
   exact e5
  rw [e2]
  refine ⟨fun h => (by rw [Fr_depth] at h; cases h), ?_⟩
  have s2 : Sat β w ((hid Ds cx ++ F2) ++ A2) := st.perm (by
   rw [List.append_assoc]
   exact List.Perm.append_left _ (hp.trans List.perm_append_comm))
  have hc := hT.2 (hid Ds cx ++ F2) (n - 1) w s2
  refine (Fr_calls cx hc).mono ?_
  rintro e w' ⟨v, A', rfl, s3, hr⟩
  exact ⟨_, _, ⟨he.bind hb v, Ds, by cases o.dst <;> exact hds, s3.perm (by
   rw [List.append_assoc]
   exact List.Perm.append_left _ List.perm_append_comm)⟩, k v A' hr⟩
theorem SQ.call_ {s : Stp} {r : List Stp} {obs : Obs} {od : Option Nat} {g : Nat} {args : List Value} (hef : s.k = 1) (h : clE N ops env s.o = some (od, g, args)) {A F : List Atom} {R : Value → List Atom → Prop}
  (hT : Tri P β g args A R) (is : List Nat) (hs : sel is L (fun A F => some (A, F)) = some (A, F)) (k : ∀ v A', R v A' → watchOk β obs (A' ++ F) s.watch ∧ SQ P β rnd N T ops K r obs (bind_ od v env) (A' ++ F)) : SQ P β rnd N T ops K (s :: r) obs env L := by
 exact SQ.act hef (OW.call (cx := ⟨rnd, []⟩) (K := fun env L => watchOk β obs L s.watch ∧ SQ P β rnd N T ops K r obs env L) h hT is hs k).1 fun fm => (OW.call h hT is hs k).2.2
theorem SQ.call {s : Stp} {r : List Stp} {obs : Obs} {d : Nat} {g : Nat} {args : List Value} (hef : s.k = 1) (h : clE N ops env s.o = some (some d, g, args)) {A F : List Atom} {R : Value → List Atom → Prop}
  (hT : Tri P β g args A R) (is : List Nat) (hs : sel is L (fun A F => some (A, F)) = some (A, F)) (k : ∀ v A', R v A' → watchOk β obs (A' ++ F) s.watch ∧ SQ P β rnd N T ops K r obs ((d, v) :: env) (A' ++ F)) : SQ P β rnd N T ops K (s :: r) obs env L :=
 SQ.call_ hef h hT is hs k
def stps0 : List Oper → Nat → List Stp
 | [], _ => []
 | o :: r, i => ⟨i, o, 1, []⟩ :: stps0 r (i + 1)
theorem stps0_length : ∀ {l : List Oper} {i : Nat}, (stps0 l i).length = l.length
 | [], _ => rfl
 | _ :: r, i => by simp [stps0, stps0_length]
theorem stps0_at : ∀ {l : List Oper} {i j : Nat}, ((stps0 l i)[j]?).map (·.o) = l[j]?
 | [], _, j => by simp [stps0]
 | o :: r, i, 0 => by simp [stps0]
 | o :: r, i, j + 1 => by simpa [stps0] using stps0_at (l := r)
theorem stps0_mem {s : Stp} : ∀ (l : List Oper) (i : Nat), s ∈ stps0 l i → s.o ∈ l
 | [], i, h => by cases h
 | o :: r, i, h => by
  simp only [stps0] at h
  rcases List.mem_cons.1 h with rfl | h
  ·exact List.mem_cons_self
  ·exact List.mem_cons_of_mem _ (stps0_mem r _ h)
def noSDs : List Oper → Bool
 | [] => true
 | o :: r => match noSD o with
  | true => noSDs r
  | false => false
theorem noSDs_eq : ∀ {l : List Oper}, noSDs l = true → ∀ o ∈ l, noSD o = true
 | [], _, o, ho => by cases ho
 | x :: r, h, o, ho => by
  unfold noSDs at h
  split at h
  ·rename_i hx
   rcases List.mem_cons.1 ho with rfl | ho
   ·exact hx
   ·exact noSDs_eq h o ho
  ·cases h
theorem CW.region (hT : TTok P T) {Q : Exit → Env → List Atom → Prop} {id : Nat} {ops : Array Oper} (hs : noSDs ops.toList = true) (h : SQ P β cx.rnd N T ops (Q .normal) (stps0 ops.toList 0) [] env L) : CW P β cx N (.region id ops false) env L Q := fun n a w s => by
 have h1 := h.sound0 hT 0 n (up β cx N Q) a w (fun j hj => by rw [Nat.zero_add, stps0_at, Array.getElem?_toList]) (fun s hm => noSDs_eq hs _ (stps0_mem _ _ hm)) (fun a w h => h) s
 rw [stps0_length] at h1
 refine wpIn_region ?_
 rw [List.range_eq_range']
 simpa using h1
theorem CW.regionD (hT : TTok P T) {Q : Exit → Env → List Atom → Prop} {id : Nat} {ops : Array Oper} (hm : P.follows .mixedOrders = true) (p : Plan)
  (hs : (noSDs ops.toList && planOk ops (effs p) (alls p) p (Array.replicate ops.size false) [] && allocOk ops (alls p) && allT T ops (alls p)) = true) (h : SQ P β cx.rnd N T ops (Q .normal) (stps ops p) [] env L) : CW P β cx N (.region id ops true) env L Q := fun n a w s => by
 simp only [Bool.and_eq_true] at hs
 obtain ⟨⟨⟨h1, h2⟩, h3⟩, h4⟩ := hs
 have hsd : ∀ (j : Nat) (o : Oper), ops[j]? = some o → noSD o = true := fun j o hj => noSDs_eq h1 o (Array.mem_toList_iff.2 (Array.mem_of_getElem? hj))
 refine wpIn_region_any hm (wpAnyIn_of_wpI (E := effs p) (obs := []) _ _ _ _ ?_)
 have := h.soundD hT hsd h3 h4 n (up β cx N Q) (fun c a w h => h) cx.fm (fun a w h => h) ops.size p (Array.replicate ops.size false) [] [] a w.drew rfl h2 (fun j oj hj hl2 => by
   simp only [Array.getD_eq_getD_getElem?, Array.getElem?_replicate] at hl2
   split at hl2 <;> cases hl2) (fun i x h => by simp [lookO] at h) (fun x hx => by cases hx) (by simp) (by simp [lstE, cnt]) (fun i x h => by simp [lookO] at h)
  (by obtain ⟨h1, Ds, hd, st⟩ := s; exact ⟨h1, Ds, hd, st.drew⟩)
 exact this
end
end Go.Proofs.YtakkogdmlbkdaaaGreatDoor.Sl
namespace Go.Proofs.YtakkogdmlbkdaaaGreatDoor.Sl
open Go Go.RowKit
set_option linter.unusedVariables false
set_option linter.unusedSimpArgs false
inductive At (β : Base) (b : Nat) : List Atom → Bool → List Value → Prop
 | h {cs : List Value} {L : List Atom} : At β b (pt b cs :: L) true cs
 | q {q : Bool} {cs : List Value} {L : List Atom} : At β b (pq β q b cs :: L) q cs
 | t {A : Atom} {L : List Atom} {q : Bool} {cs : List Value} : At β b L q cs → At β b (A :: L) q cs
theorem At.idx {β : Base} {b : Nat} {L : List Atom} {q : Bool} {cs : List Value} (h : At β b L q cs) : ∃ j : Nat, L[j]? = some (pq β q b cs) := by
 induction h with
 | h => exact ⟨0, rfl⟩
 | q => exact ⟨0, rfl⟩
 | t _ ih => obtain ⟨j, hj⟩ := ih; exact ⟨j + 1, by simpa using hj⟩
inductive Up (b : Nat) (cs cs' : List Value) : List Atom → List Atom → Prop
 | h {L : List Atom} : Up b cs cs' (pt b cs :: L) (pt b cs' :: L)
 | t {A : Atom} {L M : List Atom} : Up b cs cs' L M → Up b cs cs' (A :: L) (A :: M)
theorem Up.idx {b : Nat} {cs cs' : List Value} {L M : List Atom} (h : Up b cs cs' L M) : ∃ j : Nat, L[j]? = some (pt b cs) ∧ M = L.set j (pt b cs') := by
 induction h with
 | h => exact ⟨0, rfl, rfl⟩
 | t _ ih => obtain ⟨j, hj, e⟩ := ih; exact ⟨j + 1, by simpa using hj, by rw [e]; rfl⟩
theorem setA_of : ∀ {L : List Atom} {j : Nat} {A B : Atom} {k : List Atom → Option (List Atom)}, L[j]? = some B → setA L j A k = k (L.set j A)
 | [], _, _, _, _, h => by simp at h
 | C :: L, 0, A, B, k, h => by simp only [setA, force_eq]; rfl
 | C :: L, j + 1, A, B, k, h => by
  simp only [setA]
  rw [setA_of (L := L) (j := j) (B := B) (by simpa using h)]
  rfl
inductive Rm (A : Atom) : List Atom → List Atom → Prop
 | h {L : List Atom} : Rm A (A :: L) L
 | of {B : Atom} {L : List Atom} : Ent [B] [A] → Rm A (B :: L) L
 | t {B : Atom} {L M : List Atom} : Rm A L M → Rm A (B :: L) (B :: M)
inductive Tk : List Atom → List Atom → List Atom → Prop
 | n {L : List Atom} : Tk [] L L
 | c {A : Atom} {As L M F : List Atom} : Rm A L M → Tk As M F → Tk (A :: As) L F
theorem Rm.gives {A : Atom} {L M : List Atom} (h : Rm A L M) : Ent L (A :: M) := by
 induction h with
 | h => exact Ent.refl _
 | of e => exact Ent.head e
 | t _ ih => exact (Ent.cons _ ih).trans (Ent.perm (List.Perm.swap _ _ _))
theorem Tk.gives {As L F : List Atom} (h : Tk As L F) : Ent L (As ++ F) := by
 induction h with
 | n => exact Ent.refl _
 | c h1 _ ih => exact h1.gives.trans (Ent.cons _ ih)
theorem Rm.to {A : Atom} {L M B : List Atom} (h : Rm A L M) (e : Ent [A] B) : Ent L (B ++ M) := h.gives.trans (Ent.append (L := [A]) e (Ent.refl M))
theorem Tk.ent {As L F : List Atom} (h : Tk As L F) : Ent L As := h.gives.trans (Ent.left _ _)
section
variable {P : Program} {β : Base} {cx : Cx} {rnd : Option (Nat × Loop)} {N : Nat} {env : Env} {L : List Atom} {K : Env → List Atom → Prop} {ops : Array Oper} {T : TT}
theorem SQ.ldA (hT : TTok P T) {s : Stp} {r : List Stp} {obs : Obs} {d b off : Nat} {i : TI} (hk : Nat.ble s.k 1 = true) (h : ldE T N ops env s.o = some (d, b, off, i)) {q : Bool} {cs : List Value} {v : Value} (ha : At β b L q cs)
  (hv : rdv i cs off = some v) (k : SQ P β rnd N T ops K r ((s.i, ⟨b, off, i, v⟩) :: obs) ((d, v) :: env) L) : SQ P β rnd N T ops K (s :: r) obs env L := by
 obtain ⟨j, hj⟩ := ha.idx
 exact SQ.loadq hT hk h j hj hv k
theorem SQ.stA (hT : TTok P T) {s : Stp} {r : List Stp} {obs : Obs} {b off : Nat} {i : TI} {v : Value} (he : s.k = 1) (h : stE T N ops env s.o = some (b, off, i, v)) {cs cs' : List Value} {M : List Atom} (hu : Up b cs cs' L M)
  (hs : scal (vcells v) = true) (hv : wrv i cs off v = some cs') (hwt : watchOk β obs M s.watch) (k : SQ P β rnd N T ops K r obs env M) : SQ P β rnd N T ops K (s :: r) obs env L := by
 obtain ⟨j, hj, rfl⟩ := hu.idx
 exact SQ.store hT he h j hj hs hv (setA_of hj) hwt k
theorem wk {b off : Nat} {i : TI} {v : Value} {q : Bool} {cs : List Value} (ha : At β b L q cs) (hv : rdv i cs off = some v) : RdAt β L b off i v := fun H w st => by
 obtain ⟨j, hj⟩ := ha.idx
 obtain ⟨t, fz, e⟩ := st.cell_pq (at_ hj)
 exact ⟨cs, t, fz, e, hv⟩
theorem RdAt.ent {b off : Nat} {i : TI} {v : Value} {M : List Atom} (e : Ent L M) (h : RdAt β M b off i v) : RdAt β L b off i v := fun H w st => h H w (st.ent (Ent.append (Ent.refl H) e))
theorem watchOk.ent {obs : Obs} {M : List Atom} (e : Ent L M) : ∀ {ws : List Nat}, watchOk β obs M ws → watchOk β obs L ws
 | [], _ => trivial
 | i :: r, h => ⟨by
  have h1 := h.1
  cases hx : lookO obs i with
  | none => trivial
  | some x => rw [hx] at h1; exact h1.ent e, watchOk.ent e h.2⟩
theorem watchOk.open_ {obs : Obs} {α : Type} {f : α → List Atom} : ∀ {ws : List Nat}, (∀ x, watchOk β obs (f x ++ L) ws) → watchOk β obs (exA f :: L) ws
 | [], _ => trivial
 | i :: r, h => ⟨by
  have h1 := fun x => (h x).1
  cases hx : lookO obs i with
  | none => trivial
  | some x =>
   rw [hx] at h1
   intro H w st
   obtain ⟨y, s1⟩ := (st.perm List.perm_middle).exA
   exact h1 y H w (s1.perm (by simpa [List.append_assoc] using List.perm_append_comm_assoc (f y) H L)), watchOk.open_ fun x => (h x).2⟩
theorem watchOk.pure_ {obs : Obs} {p : Prop} : ∀ {ws : List Nat}, (p → watchOk β obs L ws) → watchOk β obs (pureA p :: L) ws
 | [], _ => trivial
 | i :: r, h => ⟨by
  have h1 := fun x => (h x).1
  cases hx : lookO obs i with
  | none => trivial
  | some x =>
   rw [hx] at h1
   intro H w st
   obtain ⟨y, s1⟩ := (st.perm List.perm_middle).pureA
   exact h1 y H w s1, watchOk.pure_ fun x => (h x).2⟩
theorem sel_front {F : List Atom} : ∀ (As : List Atom), sel (List.replicate As.length 0) (As ++ F) (fun A F => some (A, F)) = some (As, F) := by
 have key : ∀ (As : List Atom) (k : List Atom → List Atom → Option (List Atom × List Atom)), sel (List.replicate As.length 0) (As ++ F) k = k As F := by
  intro As
  induction As with
  | nil => intro k; simp [sel, force_eq]
  | cons A As ih =>
   intro k
   show sel (0 :: List.replicate As.length 0) (A :: (As ++ F)) k = _
   simp only [sel, nth, List.eraseIdx_cons_zero]
   exact ih _
 intro As
 exact key As _
theorem SQ.callA {s : Stp} {r : List Stp} {obs : Obs} {d : Nat} {g : Nat} {args : List Value} (hef : s.k = 1) (h : clE N ops env s.o = some (some d, g, args)) {A F : List Atom} {R : Value → List Atom → Prop}
  (hT : Tri P β g args A R) (hk : Tk A L F) (k : ∀ v A', R v A' → watchOk β obs (A' ++ F) s.watch ∧ SQ P β rnd N T ops K r obs ((d, v) :: env) (A' ++ F)) : SQ P β rnd N T ops K (s :: r) obs env L :=
 SQ.ent _ hk.gives (SQ.call hef h hT _ (sel_front A) k)
end
end Go.Proofs.YtakkogdmlbkdaaaGreatDoor.Sl

