/-
  '==' of structs in structs.
-/
import Derived.Test.YtmaheecbohbilaaSlQ
namespace Go.Proofs.Ytmaheecbohbilaa.Sl
open Go Go.RowKit
set_option linter.unusedVariables false
set_option linter.unusedSimpArgs false
section
variable {P : Program} {β : Base} {rnd : Option (Nat × Loop)} {N : Nat} {env : Env} {L : List Atom} {K : Env → List Atom → Prop} {ops : Array Oper} {T : TT}
def fEq (T : TT) (g : Nat → List Value → List Value → Option Bool) (f : Field) (xs ys : List Value) : Option Bool :=
  match fieldEq T f xs ys with
  | some b => some b
  | none => match T.get f.type with
    | some i => match i.desc with
      | .struct _ => match rdv i xs f.offset, rdv i ys f.offset with
        | some (.agg a), some (.agg b) => g f.type a.toList b.toList
        | _, _ => none
      | _ => none
    | none => none
def fsEq (T : TT) (g : Nat → List Value → List Value → Option Bool) : List Field → List Value → List Value → Option Bool
  | [], _, _ => some true
  | f :: r, xs, ys => match fEq T g f xs ys with
    | some a => match fsEq T g r xs ys with
      | some b => some (a && b)
      | none => none
    | none => none
def sEq (T : TT) (sts : List Nat) : Nat → Nat → List Value → List Value → Option Bool
  | 0, _, _, _ => none
  | n + 1, t, xs, ys => match T.get t, sts.any (Nat.beq t), namesOk T t with
    | some i, true, true => match i.desc with
      | .struct fs => fsEq T (sEq T sts n) fs.toList xs ys
      | _ => none
    | _, _, _ => none
def stoodAll (P : Program) : List Nat → Prop
  | [] => True
  | t :: r => P.stoodInHeld t = false ∧ stoodAll P r
theorem stoodAll.at_ : ∀ {l : List Nat}, stoodAll P l → ∀ {t : Nat}, l.any (Nat.beq t) = true → P.stoodInHeld t = false
  | u :: r, h, t, ht => by
    simp only [List.any_cons, Bool.or_eq_true] at ht
    rcases ht with ht | ht
    · have := Nat.eq_of_beq_eq_true ht; subst this; exact h.1
    · exact h.2.at_ ht
theorem sEq_run (hT : TTok P T) {sts : List Nat} (hst : stoodAll P sts) (w : World) : ∀ (n : Nat) {t : Nat} {xs ys : List Value} {r : Bool}, sEq T sts n t xs ys = some r → ∀ d, n ≤ d → (Op.equalIn (d + 1) t (.agg xs.toArray) (.agg ys.toArray)).run P w = .ok r w
  | n + 1, t, xs, ys, r, h, d, hd => by
    obtain ⟨d, rfl⟩ : ∃ d', d = d' + 1 := ⟨d - 1, by omega⟩
    unfold sEq at h
    split at h <;> try (cases h; done)
    rename_i i hi hs hnm
    split at h <;> try (cases h; done)
    rename_i fs hds
    have hu := (hT.get hi).1.1
    rw [hds] at hu
    have hp := hst.at_ hs
    have hnn : ∀ f ∈ fs.toList, (f.name == "_") = false := fun f hf => by
      simp only [namesOk, hi, hds] at hnm
      have := List.all_eq_true.1 hnm f hf
      simpa using this
    have hf : P.fieldsOf t = fs := by simp [Program.fieldsOf, hu]
    rw [run_equalIn_struct (P := P) w (d + 1) t xs.toArray ys.toArray (by rw [hf]; exact hu) hp, hf]
    have key : ∀ {gs : List Field} {r : Bool}, (∀ f ∈ gs, (f.name == "_") = false) → fsEq T (sEq T sts n) gs xs ys = some r → (Op.eqFields (d + 1) xs.toArray ys.toArray gs).run P w = .ok r w := by
      intro gs
      induction gs with
      | nil => intro r _ h; simp [fsEq] at h; subst h; simp [Op.eqFields]
      | cons f gs ih =>
        intro r hn h
        unfold fsEq at h
        split at h <;> try (cases h; done)
        rename_i a ha
        split at h <;> try (cases h; done)
        rename_i b hb
        simp only [Option.some.injEq] at h
        subst h
        have ih := ih (fun g hg => hn g (List.mem_cons_of_mem _ hg)) hb
        have hn' : f.name ≠ "_" := by simpa using hn f List.mem_cons_self
        have one : ∃ u v, (part f.type xs.toArray f.offset).run P w = .ok u w ∧ (part f.type ys.toArray f.offset).run P w = .ok v w ∧ (Op.equalIn (d + 1) f.type u v).run P w = .ok a w := by
          unfold fEq at ha
          split at ha
          · rename_i b' hb'
            simp only [Option.some.injEq] at ha
            subst ha
            exact fieldEq_run (P := P) hT hb' d w
          · split at ha <;> try (cases ha; done)
            rename_i j hj
            split at ha <;> try (cases ha; done)
            split at ha <;> try (cases ha; done)
            rename_i ua ub h1 h2
            refine ⟨_, _, run_part_of (hT.get hj) (by simpa using h1) w, run_part_of (hT.get hj) (by simpa using h2) w, ?_⟩
            have := sEq_run hT hst w n ha d (by omega)
            simpa using this
        obtain ⟨u, v, h1, h2, h3⟩ := one
        rw [Op.eqFields]
        simp only [if_pos hn', Sem.run_bind, h1, h2, h3, Result.andThen_ok]
        cases a
        · simp
        · simpa using ih
    exact key hnn h
def eqnE (T : TT) (sts : List Nat) (N : Nat) (ops : Array Oper) (env : Env) (o : Oper) : Option (Nat × Nat × Bool × Bool) :=
  match dstE N ops env o with
  | some d => match o.op with
    | .binOp op t x y _ => match ev env x, ev env y with
      | some (.agg xs), some (.agg ys) => match op with
        | .eql => match sEq T sts 9 t xs.toList ys.toList with
          | some r => some (d, t, true, r)
          | none => none
        | .neq => match sEq T sts 9 t xs.toList ys.toList with
          | some r => some (d, t, false, r)
          | none => none
        | _ => none
      | _, _ => none
    | _ => none
  | none => none
theorem SQ.eqn (hT : TTok P T) {s : Stp} {r : List Stp} {obs : Obs} {d t : Nat} {e b : Bool} (sts : List Nat) (hst : stoodAll P sts) (hk : Nat.ble s.k 1 = true) (h : eqnE T sts N ops env s.o = some (d, t, e, b)) (hg : P.eqGuardType P.depth t = false)
    (q : Bool) (hq : (if e then b else !b) = q) (k : SQ P β rnd N T ops K r obs ((d, .bool q) :: env) L) : SQ P β rnd N T ops K (s :: r) obs env L := by
  subst hq
  unfold eqnE at h
  split at h <;> try (cases h; done)
  rename_i d' hde
  obtain ⟨hw, hd, hdl⟩ := dstE_eq hde
  split at h <;> try (cases h; done)
  rename_i op t' x y e2 hop
  split at h <;> try (cases h; done)
  rename_i xs ys hx hy
  obtain ⟨si, ⟨dst, op', type, pos, after, guard⟩, se, sw⟩ := s
  simp only at hop
  subst hop
  split at h <;> try (cases h; done)
  · split at h <;> try (cases h; done)
    rename_i q hq
    simp only [Option.some.injEq, Prod.mk.injEq] at h
    obtain ⟨rfl, rfl, rfl, rfl⟩ := h
    refine SQ.val' hk hw hd hdl (fun ρ hρ w => ?_) k
    have h2 : (Op.equal t' (.agg xs) (.agg ys)).run P w = .ok q w := sEq_run (P := P) hT hst w 9 hq 9999 (by omega)
    simp only [execOp, hρ _ _ hx, hρ _ _ hy, Sem.run_bind, run_eqGuard_agg w _ _ _ _ xs ys hg, Result.andThen_ok, binOp]
    simp [h2]
  · split at h <;> try (cases h; done)
    rename_i q hq
    simp only [Option.some.injEq, Prod.mk.injEq] at h
    obtain ⟨rfl, rfl, rfl, rfl⟩ := h
    refine SQ.val' hk hw hd hdl (fun ρ hρ w => ?_) k
    have h2 : (Op.equal t' (.agg xs) (.agg ys)).run P w = .ok q w := sEq_run (P := P) hT hst w 9 hq 9999 (by omega)
    simp only [execOp, hρ _ _ hx, hρ _ _ hy, Sem.run_bind, run_eqGuard_agg w _ _ _ _ xs ys hg, Result.andThen_ok, binOp]
    simp [h2]
end
end Go.Proofs.Ytmaheecbohbilaa.Sl
