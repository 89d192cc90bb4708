/-
  What a frame's temporaries hold; operations that ask no memory, reckoned by a function.
-/
import Derived.Test.YtmaheecbohbilaaSlA
import Derived.Laws.Sem
import Derived.Laws.Entries
import Derived.ChangeKeysEq
namespace Go.Proofs.Ytmaheecbohbilaa.Sl
open Go Go.RowKit
set_option linter.unusedVariables false
set_option linter.unusedSimpArgs false

abbrev Env := List (Nat × Value)
def look : Env → Nat → Option Value
  | [], _ => none
  | (k, v) :: e, t => bif Nat.beq k t then some v else look e t
def ev (env : Env) : Operand → Option Value
  | .tmp t => look env t
  | .const v => some v
  | .func f => some (.func (.func f) #[] #[])
  | .global _ => none
def EnvOk (N : Nat) (a : Act) (env : Env) : Prop := a.tmps.size = N ∧ ∀ t v, look env t = some v → a.tmps.getD t undef = v

theorem EnvOk.eval {N : Nat} {a : Act} {env : Env} (h : EnvOk N a env) {x : Operand} {v : Value} (hx : ev env x = some v) : a.eval x = v := by
  cases x with
  | tmp t => exact h.2 t v hx
  | const u => simp [ev] at hx; exact hx
  | func f => simp [ev] at hx; exact hx
  | global g => simp [ev] at hx
theorem EnvOk.put {N : Nat} {a : Act} {env : Env} (h : EnvOk N a env) {d : Nat} (hd : d < N) (v : Value) : EnvOk N (a.put (some d) v) ((d, v) :: env) := by
  refine ⟨by simp [Act.put, h.1], fun t u hu => ?_⟩
  simp only [look, Nat.beq_eq_true_eq] at hu
  by_cases e : d = t
  · subst e
    simp at hu
    subst hu
    simp [Act.put, h.1, hd]
  · have e2 : Nat.beq d t = false := by
      cases hb : Nat.beq d t with
      | false => rfl
      | true => exact absurd (Nat.eq_of_beq_eq_true hb) e
    rw [e2] at hu
    have := h.2 t u hu
    simp only [Act.put]
    rw [← this]
    simp [Array.getD_eq_getD_getElem?, Array.getElem?_setIfInBounds_ne e]
/-- What a result slot is bound to. -/
def bind_ (dst : Option Tmp) (v : Value) (env : Env) : Env := match dst with | some d => (d, v) :: env | none => env
def dstOk (N : Nat) (dst : Option Tmp) : Bool := match dst with | some d => Nat.blt d N | none => true
theorem EnvOk.bind {N : Nat} {a : Act} {env : Env} (h : EnvOk N a env) {dst : Option Tmp} (hd : dstOk N dst = true) (v : Value) : EnvOk N (a.put dst v) (bind_ dst v env) := by
  cases dst with
  | none => exact h
  | some d => exact h.put (by simpa [dstOk, Nat.blt_eq] using hd) v
theorem look_covers {N : Nat} {a : Act} {env env' : Env} (h : EnvOk N a env) (hc : ∀ t v, look env' t = some v → look env t = some v) : EnvOk N a env' := ⟨h.1, fun t v e => h.2 t v (hc t v e)⟩
/-- env binds what env' binds. -/
def covers (env : Env) : Env → Prop
  | [] => True
  | (t, v) :: r => look env t = some v ∧ covers env r
theorem covers.look {env : Env} : ∀ {env' : Env}, covers env env' → ∀ t v, look env' t = some v → look env t = some v
  | [], _, t, v, e => by simp [Sl.look] at e
  | (k, u) :: r, h, t, v, e => by
    simp only [Sl.look] at e
    cases hb : Nat.beq k t with
    | true =>
      rw [hb] at e; simp at e; subst e
      have := Nat.eq_of_beq_eq_true hb
      subst this
      exact h.1
    | false => rw [hb] at e; exact h.2.look t v e
theorem EnvOk.covers {N : Nat} {a : Act} {env env' : Env} (h : EnvOk N a env) (hc : covers env env') : EnvOk N a env' := look_covers h fun _ _ => hc.look _ _

/-! ### A table of types -/
structure TI where
  desc : TypeDesc
  size : Nat
  bytes : Nat
  zero : Value
  places : List (Nat × Nat) := []
abbrev TT := List (Nat × TI)
def TT.get : TT → Nat → Option TI
  | [], _ => none
  | (k, v) :: e, t => bif Nat.beq k t then some v else TT.get e t
/-- A struct's fields: where each lies, and how long it is. -/
def placesOf (P : Program) : TypeDesc → Option (List (Nat × Nat))
  | .struct fs => fs.toList.mapM (fun f => (P.info? f.type).map fun i => (f.offset, i.size))
  | _ => some []
def TIok (P : Program) (t : Nat) (i : TI) : Prop := (P.underlying t = some i.desc ∧ (P.info? t).map (fun j => (j.size, j.bytes, j.zero)) = some (i.size, i.bytes, some i.zero)) ∧ placesOf P i.desc = some i.places
def TTok (P : Program) : TT → Prop
  | [] => True
  | (t, i) :: r => TIok P t i ∧ TTok P r
theorem TTok.get {P : Program} : ∀ {T : TT}, TTok P T → ∀ {t : Nat} {i : TI}, T.get t = some i → TIok P t i
  | [], _, t, i, e => by simp [TT.get] at e
  | (k, u) :: r, h, t, i, e => by
    simp only [TT.get] at e
    cases hb : Nat.beq k t with
    | true =>
      rw [hb] at e; simp at e; subst e
      have := Nat.eq_of_beq_eq_true hb
      subst this
      exact h.1
    | false => rw [hb] at e; exact h.2.get e
theorem TIok.info {P : Program} {t : Nat} {i : TI} (h : TIok P t i) : ∃ j, P.info? t = some j ∧ j.size = i.size ∧ j.bytes = i.bytes ∧ j.zero = some i.zero := by
  obtain ⟨⟨_, h⟩, _⟩ := h
  cases e : P.info? t with
  | none => rw [e] at h; simp at h
  | some j => rw [e] at h; simp at h; exact ⟨j, rfl, h.1, h.2.1, h.2.2⟩
theorem TIok.run_underlying {P : Program} {t : Nat} {i : TI} (h : TIok P t i) (w : World) : (underlying t).run P w = .ok i.desc w := Go.run_underlying h.1.1 w
theorem TIok.run_typeInfo {P : Program} {t : Nat} {i : TI} (h : TIok P t i) (w : World) : ∃ j, (typeInfo t).run P w = .ok j w ∧ j.size = i.size ∧ j.bytes = i.bytes ∧ j.zero = some i.zero := by
  obtain ⟨j, e, h1⟩ := h.info
  exact ⟨j, Go.run_typeInfo w e, h1⟩
theorem TIok.run_sizeOf {P : Program} {t : Nat} {i : TI} (h : TIok P t i) (w : World) : (sizeOf t).run P w = .ok i.size w := by
  obtain ⟨j, e, h1, _⟩ := h.run_typeInfo w
  simp [sizeOf, Sem.run_bind, e, Result.andThen, h1]
theorem TIok.run_zeroValue {P : Program} {t : Nat} {i : TI} (h : TIok P t i) (w : World) : (zeroValue t).run P w = .ok i.zero w := by
  obtain ⟨j, e, _, _, h1⟩ := h.run_typeInfo w
  simp [zeroValue, Sem.run_bind, e, Result.andThen, h1]
def aggD : TypeDesc → Bool
  | .struct _ | .array _ _ => true
  | _ => false
theorem TIok.run_isAgg {P : Program} {t : Nat} {i : TI} (h : TIok P t i) (w : World) : (isAgg t).run P w = .ok (aggD i.desc) w := by
  unfold isAgg
  simp only [Sem.run_bind, h.run_underlying w, Result.andThen, aggD]
  cases i.desc <;> rfl

/-! ### Lists, forced -/
/-- The same list, its spine reckoned. -/
def force {α : Type} {β : Type} : List α → (List α → β) → β
  | [], k => k []
  | x :: r, k => force r fun ys => k (x :: ys)
theorem force_eq {α β : Type} : ∀ (l : List α) (k : List α → β), force l k = k l
  | [], k => rfl
  | x :: r, k => by simp [force, force_eq r]
def takeN {β : Type} : Nat → List Value → (List Value → Option β) → Option β
  | 0, _, k => k []
  | n + 1, x :: r, k => takeN n r fun ys => k (x :: ys)
  | _ + 1, [], _ => none
theorem takeN_eq {β : Type} : ∀ (n : Nat) (l : List Value) (k : List Value → Option β), takeN n l k = if n ≤ l.length then k (l.take n) else none
  | 0, l, k => by simp [takeN]
  | n + 1, x :: r, k => by simp [takeN, takeN_eq n r]
  | n + 1, [], k => by simp [takeN]
def dropN : Nat → List Value → List Value
  | 0, l => l
  | n + 1, _ :: r => dropN n r
  | _ + 1, [] => []
theorem dropN_eq : ∀ (n : Nat) (l : List Value), dropN n l = l.drop n
  | 0, _ => rfl
  | n + 1, _ :: r => by simp [dropN, dropN_eq n r]
  | n + 1, [] => by simp [dropN]
/-- A variable of a type, read out of a row of cells. -/
def rdv (i : TI) (cs : List Value) (off : Nat) : Option Value :=
  match aggD i.desc with
  | true => takeN i.size (dropN off cs) fun ys => some (.agg ys.toArray)
  | false => match dropN off cs with | v :: _ => some v | [] => none
theorem rdv_agg {i : TI} {cs : List Value} {off : Nat} {v : Value} (ha : aggD i.desc = true) (h : rdv i cs off = some v) :
    i.size ≤ (cs.drop off).length ∧ v = .agg ((cs.drop off).take i.size).toArray := by
  simp only [rdv, ha, takeN_eq, dropN_eq] at h
  split at h
  · rename_i hle; exact ⟨hle, by simpa using h.symm⟩
  · cases h
theorem rdv_one {i : TI} {cs : List Value} {off : Nat} {v : Value} (ha : aggD i.desc = false) (h : rdv i cs off = some v) : cs[off]? = some v := by
  simp only [rdv, ha, dropN_eq] at h
  split at h
  · rename_i u r e
    simp at h; subst h
    have := congrArg (·[0]?) e
    simpa using this
  · cases h

theorem run_loadCells_of {P : Program} {w : World} {a : Addr} {cs : List Value} {off n : Nat} {t : Nat} {fz : Nat × Nat} {b : Nat} (ha : a = ⟨b, off, none⟩) (hb : w.heap[b]? = some (.cells cs.toArray t fz))
    (hn : off + n ≤ cs.length) : (loadCells a n).run P w = .ok ((cs.drop off).take n).toArray w := by
  subst ha
  have := run_loadCells_list (P := P) (w := w) ⟨b, off, none⟩ ((cs.drop off).take n) (fun j v hv => by
    have hj : j < n := by
      have := (List.getElem?_eq_some_iff.1 hv).1
      simp at this; omega
    have e : cs[off + j]? = some v := by
      rw [List.getElem?_take_of_lt hj, List.getElem?_drop] at hv
      exact hv
    have e2 : (Addr.add ⟨b, off, none⟩ j) = ⟨b, off + j, none⟩ := by
      unfold Addr.add
      split
      · rename_i h0; subst h0; rfl
      · rfl
    rw [e2]
    simp [World.cell?, hb, e])
  have e3 : ((cs.drop off).take n).length = n := by simp; omega
  rw [e3] at this
  exact this
theorem run_loadVar_of {P : Program} {w : World} {t0 : Nat} {i : TI} (hi : TIok P t0 i) {cs : List Value} {off : Nat} {t : Nat} {fz : Nat × Nat} {b : Nat} (hb : w.heap[b]? = some (.cells cs.toArray t fz))
    {v : Value} (hv : rdv i cs off = some v) : (loadVar t0 ⟨b, off, none⟩).run P w = .ok v w := by
  unfold loadVar
  simp only [Sem.run_bind, hi.run_isAgg w, Result.andThen]
  cases ha : aggD i.desc with
  | true =>
    obtain ⟨hl, rfl⟩ := rdv_agg ha hv
    have hl2 : off + i.size ≤ cs.length ∨ i.size = 0 := by simp at hl; omega
    simp only [if_true, Sem.run_bind, hi.run_sizeOf w, Result.andThen]
    rcases hl2 with hl2 | hl2
    · rw [run_loadCells_of rfl hb hl2]; rfl
    · rw [hl2]; simp [loadCells, loadCellsFrom]
  | false =>
    have := rdv_one ha hv
    simp only [Bool.false_eq_true, if_false]
    simp [load, Sem.run, World.cell?, hb, this]

/-- A variable of a type, written over a row of cells. -/
def setN {β : Type} : List Value → List Value → (List Value → Option β) → Option β
  | [], l, k => k l
  | v :: vs, _ :: r, k => setN vs r fun ys => k (v :: ys)
  | _ :: _, [], _ => none
def wrAt {β : Type} : Nat → List Value → List Value → (List Value → Option β) → Option β
  | 0, vs, l, k => setN vs l k
  | n + 1, vs, x :: r, k => wrAt n vs r fun ys => k (x :: ys)
  | _ + 1, _, [], _ => none
theorem setN_eq {β : Type} : ∀ (vs l : List Value) (k : List Value → Option β), setN vs l k = if vs.length ≤ l.length then k (vs ++ l.drop vs.length) else none
  | [], l, k => by simp [setN]
  | v :: vs, x :: r, k => by simp [setN, setN_eq vs r]
  | v :: vs, [], k => by simp [setN]
theorem wrAt_eq {β : Type} : ∀ (n : Nat) (vs l : List Value) (k : List Value → Option β), n ≤ l.length → wrAt n vs l k = if n + vs.length ≤ l.length then k (l.take n ++ vs ++ l.drop (n + vs.length)) else none
  | 0, vs, l, k, _ => by simp [wrAt, setN_eq]
  | n + 1, vs, x :: r, k, h => by
    simp at h
    simp only [wrAt, wrAt_eq n vs r _ h]
    have e : n + 1 + vs.length = (n + vs.length) + 1 := by omega
    simp [e]
  | n + 1, vs, [], k, h => by simp at h
theorem wrAt_len {β : Type} : ∀ (n : Nat) (vs l : List Value) (k : List Value → Option β), l.length < n → wrAt n vs l k = none
  | n + 1, vs, x :: r, k, h => by simp at h; simp [wrAt, wrAt_len n vs r _ h]
  | n + 1, vs, [], k, _ => by simp [wrAt]
/-- The cells of a value, as a list. -/
def vcells : Value → List Value
  | .agg cs => cs.toList
  | v => [v]
theorem vcells_eq (v : Value) : v.cells.toList = vcells v := by cases v <;> rfl
def wrv (i : TI) (cs : List Value) (off : Nat) (v : Value) : Option (List Value) :=
  bif Nat.beq (vcells v).length i.size then wrAt off (vcells v) cs some else none
theorem wrv_eq {i : TI} {cs cs' : List Value} {off : Nat} {v : Value} (h : wrv i cs off v = some cs') : (vcells v).length = i.size ∧ off + i.size ≤ cs.length ∧ cs' = cs.take off ++ vcells v ++ cs.drop (off + i.size) := by
  unfold wrv at h
  cases hb : Nat.beq (vcells v).length i.size with
  | false => rw [hb] at h; simp at h
  | true =>
    have e := Nat.eq_of_beq_eq_true hb
    rw [hb] at h
    simp only [cond_true] at h
    by_cases hle : off ≤ cs.length
    · rw [wrAt_eq _ _ _ _ hle] at h
      split at h
      · rename_i h2; simp at h; rw [e] at h2 h; exact ⟨e, h2, by rw [← h, List.append_assoc]⟩
      · cases h
    · rw [wrAt_len _ _ _ _ (by omega)] at h; cases h
end Go.Proofs.Ytmaheecbohbilaa.Sl
