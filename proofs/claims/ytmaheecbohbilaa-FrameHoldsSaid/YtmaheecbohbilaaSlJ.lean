/-
  Rules: '==' of structs.
-/
import Derived.Test.YtmaheecbohbilaaSlI
import Derived.Laws.StructEq
namespace Go.Proofs.Ytmaheecbohbilaa.Sl
open Go Go.RowKit
set_option linter.unusedVariables false
set_option linter.unusedSimpArgs false

section
variable {P : Program} {β : Base} {rnd : Option (Nat × Loop)} {N : Nat} {env : Env} {L : List Atom} {K : Env → List Atom → Prop} {ops : Array Oper} {T : TT}
def fieldEq (T : TT) (f : Field) (xs ys : List Value) : Option Bool :=
  match T.get f.type with
  | some i => match i.desc, nth xs f.offset, nth ys f.offset with
    | .bool, some (.bool a), some (.bool b) => some (a == b)
    | .int _, some (.int k a), some (.int j b) => bif kindEq k j then some (a == b) else none
    | _, _, _ => none
  | none => none
theorem part1 {t : Nat} {i : TI} (hi : TIok P t i) (ha : aggD i.desc = false) {xs : List Value} {n : Nat} {v : Value} (h : nth xs n = some v) (w : World) : (part t xs.toArray n).run P w = .ok v w := by
  refine run_part_of hi ?_ w
  rw [nth_eq] at h
  simp only [rdv, ha, dropN_eq]
  rw [List.drop_eq_getElem_cons (List.getElem?_eq_some_iff.1 h).1]
  simp [(List.getElem?_eq_some_iff.1 h).2]
theorem fieldEq_run (hT : TTok P T) {f : Field} {xs ys : List Value} {r : Bool} (h : fieldEq T f xs ys = some r) (d : Nat) (w : World) :
    ∃ a b, (part f.type xs.toArray f.offset).run P w = .ok a w ∧ (part f.type ys.toArray f.offset).run P w = .ok b w ∧ (Op.equalIn (d + 1) f.type a b).run P w = .ok r w := by
  unfold fieldEq at h
  split at h
  · rename_i i hi
    have hti := hT.get hi
    have hu := hti.1.1
    split at h
    · rename_i a b hd hx hy
      rw [hd] at hu
      simp only [Option.some.injEq] at h
      subst h
      exact ⟨_, _, part1 hti (by rw [hd]; rfl) hx w, part1 hti (by rw [hd]; rfl) hy w, eq_bool hu d w⟩
    · rename_i kk k a j b hd hx hy
      rw [hd] at hu
      cases hk : kindEq k j with
      | false => rw [hk] at h; cases h
      | true =>
        rw [hk] at h
        have := kindEq_eq hk
        subst this
        simp only [cond_true, Option.some.injEq] at h
        subst h
        exact ⟨_, _, part1 hti (by rw [hd]; rfl) hx w, part1 hti (by rw [hd]; rfl) hy w, by simp [Op.equalIn, run_underlying hu]⟩
    · cases h
  · cases h
def fieldsEq (T : TT) : List Field → List Value → List Value → Option Bool
  | [], _, _ => some true
  | f :: r, xs, ys => match fieldEq T f xs ys with
    | some a => match fieldsEq T r xs ys with
      | some b => some (a && b)
      | none => none
    | none => none
theorem fieldsEq_run (hT : TTok P T) (d : Nat) (w : World) {xs ys : List Value} : ∀ {fs : List Field} {r : Bool}, (∀ f ∈ fs, (f.name == "_") = false) → fieldsEq T fs xs ys = some r → (Op.eqFields (d + 1) xs.toArray ys.toArray fs).run P w = .ok r w
  | [], r, _, h => by simp [fieldsEq] at h; subst h; simp [Op.eqFields]
  | f :: fs, r, hn, h => by
    unfold fieldsEq at h
    split at h
    · rename_i a ha
      split at h
      · rename_i b hb
        simp only [Option.some.injEq] at h
        subst h
        obtain ⟨u, v, h1, h2, h3⟩ := fieldEq_run (P := P) hT ha d w
        have ih := fieldsEq_run hT d w (fun g hg => hn g (List.mem_cons_of_mem _ hg)) hb
        have hn' : f.name ≠ "_" := by simpa using hn f List.mem_cons_self
        rw [Op.eqFields]
        simp only [if_pos hn', Sem.run_bind, h1, h2, h3, Result.andThen_ok]
        cases a
        · simp
        · simpa using ih
      · cases h
    · cases h
def eqsE (T : TT) (N : Nat) (ops : Array Oper) (env : Env) (o : Oper) : Option (Nat × Nat × Bool × Bool) :=
  match dstE N ops env o with
  | some d => match o.op with
    | .binOp op t x y _ => match T.get t, ev env x, ev env y with
      | some i, some (.agg xs), some (.agg ys) => match i.desc, op with
        | .struct fs, .eql => match fieldsEq T fs.toList xs.toList ys.toList with
          | some r => some (d, t, true, r)
          | none => none
        | .struct fs, .neq => match fieldsEq T fs.toList xs.toList ys.toList with
          | some r => some (d, t, false, r)
          | none => none
        | _, _ => none
      | _, _, _ => none
    | _ => none
  | none => none
def namesOk (T : TT) (t : Nat) : Bool := match T.get t with
  | some i => match i.desc with
    | .struct fs => fs.toList.all fun f => !(f.name == "_")
    | _ => false
  | none => false
theorem SQ.eqs (hT : TTok P T) {s : Stp} {r : List Stp} {obs : Obs} {d t : Nat} {e b : Bool} (hk : Nat.ble s.k 1 = true) (h : eqsE T N ops env s.o = some (d, t, e, b)) (hn : namesOk T t = true) (hg : P.eqGuardType P.depth t = false) (hp : P.stoodInHeld t = false)
    (k : SQ P β rnd N T ops K r obs ((d, .bool (if e then b else !b)) :: env) L) : SQ P β rnd N T ops K (s :: r) obs env L := by
  unfold eqsE at h
  split at h <;> try (cases h; done)
  rename_i d' hde
  obtain ⟨hw, hd, hdl⟩ := dstE_eq hde
  split at h <;> try (cases h; done)
  rename_i op t' x y e2 hop
  split at h <;> try (cases h; done)
  rename_i i xs ys hi hx hy
  have hu := (hT.get hi).1.1
  have fin : ∀ {fs : Array Field} {q : Bool}, t' = t → i.desc = .struct fs → fieldsEq T fs.toList xs.toList ys.toList = some q → ∀ w, (Op.equalIn 10000 t (.agg xs) (.agg ys)).run P w = .ok q w := by
    intro fs q htt hds hq w
    subst htt
    have hnn : ∀ f ∈ fs.toList, (f.name == "_") = false := fun f hf => by
      simp only [namesOk, hi, hds] at hn
      have := List.all_eq_true.1 hn f hf
      simpa using this
    have h1 := fieldsEq_run (P := P) hT 9998 w hnn hq
    rw [hds] at hu
    have hf : P.fieldsOf t' = fs := by simp [Program.fieldsOf, hu]
    rw [run_equalIn_struct (P := P) w 9999 t' xs ys (by rw [hf]; exact hu) hp, hf]
    exact h1
  obtain ⟨si, ⟨dst, op', type, pos, after, guard⟩, se, sw⟩ := s
  simp only at hop
  subst hop
  split at h <;> try (cases h; done)
  · rename_i fs hds
    split at h <;> try (cases h; done)
    rename_i q hq
    simp only [Option.some.injEq, Prod.mk.injEq] at h
    obtain ⟨rfl, rfl, rfl, rfl⟩ := h
    refine SQ.val' hk hw hd hdl (fun ρ hρ w => ?_) k
    simp only [execOp, hρ _ _ hx, hρ _ _ hy, Sem.run_bind, run_eqGuard_agg w _ _ _ _ xs ys hg, Result.andThen_ok, binOp]
    have := fin rfl hds hq w
    have h2 : (Op.equal t' (.agg xs) (.agg ys)).run P w = .ok q w := this
    simp [h2]
  · rename_i fs hds
    split at h <;> try (cases h; done)
    rename_i q hq
    simp only [Option.some.injEq, Prod.mk.injEq] at h
    obtain ⟨rfl, rfl, rfl, rfl⟩ := h
    refine SQ.val' hk hw hd hdl (fun ρ hρ w => ?_) k
    simp only [execOp, hρ _ _ hx, hρ _ _ hy, Sem.run_bind, run_eqGuard_agg w _ _ _ _ xs ys hg, Result.andThen_ok, binOp]
    have := fin rfl hds hq w
    have h2 : (Op.equal t' (.agg xs) (.agg ys)).run P w = .ok q w := this
    simp [h2]
theorem SQ.eqs' (hT : TTok P T) {s : Stp} {r : List Stp} {obs : Obs} {d t : Nat} {e b : Bool} (hk : Nat.ble s.k 1 = true) (h : eqsE T N ops env s.o = some (d, t, e, b)) (hn : namesOk T t = true) (hg : P.eqGuardType P.depth t = false) (hp : P.stoodInHeld t = false)
    (q : Bool) (hq : (if e then b else !b) = q) (k : SQ P β rnd N T ops K r obs ((d, .bool q) :: env) L) : SQ P β rnd N T ops K (s :: r) obs env L := by
  subst hq; exact SQ.eqs hT hk h hn hg hp k
/-- What an operation's guard looks at. -/
def gdE (ops : Array Oper) (env : Env) (o : Oper) : Option (Nat × Bool) :=
  match o.guard with
  | some (j, _) => match ops[j]? with
    | some p => match p.dst with
      | some d => match look env d with
        | some (.bool b) => some (d, b)
        | _ => none
      | none => none
    | none => none
  | none => none
theorem gdE_eq {o : Oper} {d : Nat} {b : Bool} (h : gdE ops env o = some (d, b)) : look env d = some (.bool b) := by
  unfold gdE at h
  split at h <;> try (cases h; done)
  split at h <;> try (cases h; done)
  split at h <;> try (cases h; done)
  split at h <;> try (cases h; done)
  rename_i hl
  simp only [Option.some.injEq, Prod.mk.injEq] at h
  obtain ⟨rfl, rfl⟩ := h
  exact hl
/-- By cases on a guard. -/
theorem SQ.gsplit {s : Stp} {r : List Stp} {obs : Obs} {d : Nat} {b : Bool} (h : gdE ops env s.o = some (d, b)) (h1 : b = true → SQ P β rnd N T ops K (s :: r) obs ((d, .bool true) :: env) L) (h2 : b = false → SQ P β rnd N T ops K (s :: r) obs ((d, .bool false) :: env) L) : SQ P β rnd N T ops K (s :: r) obs env L := by
  have hl := gdE_eq h
  have key : ∀ t v, look ((d, .bool b) :: env) t = some v → look env t = some v := fun t v e => by
    simp only [look] at e
    cases hb : Nat.beq d t with
    | true =>
      rw [hb] at e
      have := Nat.eq_of_beq_eq_true hb
      subst this
      simp only [cond_true] at e
      rw [hl]; exact e
    | false => rw [hb] at e; exact e
  cases b with
  | true => exact .env_ _ key (h1 rfl)
  | false => exact .env_ _ key (h2 rfl)
/-- One that asks no memory. -/
theorem SQ.pure1 (hT : TTok P T) {s : Stp} {r : List Stp} {obs : Obs} {env' : Env} (h : runP T N ops [s] env false = some (env', [])) (k : SQ P β rnd N T ops K r obs env' L) : SQ P β rnd N T ops K (s :: r) obs env L := by
  unfold runP at h
  split at h
  · cases h
  rename_i hk
  split at h
  · rename_i hw
    split at h
    · rename_i v hv
      split at h
      · rename_i d hd
        split at h
        · rename_i hb
          simp only [runP, Option.some.injEq, Prod.mk.injEq] at h
          obtain ⟨rfl, -⟩ := h
          exact SQ.value hT hk hw hv (by simp [dstOk, hd, hb]) (by rw [hd]; exact k)
        · cases h
      · rename_i hd
        simp only [runP, Option.some.injEq, Prod.mk.injEq] at h
        obtain ⟨rfl, -⟩ := h
        exact SQ.value hT hk hw hv (by simp [dstOk, hd]) (by rw [hd]; exact k)
    · cases h
  · rename_i hw
    split at h
    · rename_i d hd
      split at h
      · rename_i hb
        simp only [runP, Option.some.injEq, Prod.mk.injEq] at h
        obtain ⟨rfl, -⟩ := h
        exact SQ.passed hk hw (by simp [dstOk, hd, hb]) (by rw [hd]; exact k)
      · cases h
    · rename_i hd
      simp only [runP, Option.some.injEq, Prod.mk.injEq] at h
      obtain ⟨rfl, -⟩ := h
      exact SQ.passed hk hw (by simp [dstOk, hd]) (by rw [hd]; exact k)
  · cases h
end
end Go.Proofs.Ytmaheecbohbilaa.Sl
