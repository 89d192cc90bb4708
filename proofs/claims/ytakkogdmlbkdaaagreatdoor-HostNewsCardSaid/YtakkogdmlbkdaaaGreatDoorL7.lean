import Derived.Test.YtakkogdmlbkdaaaGreatDoorL6
import Derived.ChangeKeysEq
namespace Go.Proofs.YtakkogdmlbkdaaaGreatDoor.Sl
open Go Go.RowKit
set_option linter.unusedVariables false
set_option linter.unusedSimpArgs false
section
variable {P : Program} {β : Base} {rnd : Option (Nat × Loop)} {N : Nat} {env : Env} {L : List Atom} {K : Env → List Atom → Prop} {ops : Array Oper} {T : TT}
def itemF (e j : Nat) : Field := { name := "", type := e, offset := j, embedded := false, tag := "", pkgPath := "", byteOffset := 0 }
def itemsE (T : TT) (e c : Nat) (xs ys : List Value) : List Nat → Option Bool
 | [] => some true
 | j :: r => match fieldEq T (itemF e (j * c)) xs ys with
  | some a => match itemsE T e c xs ys r with
   | some b => some (a && b)
   | none => none
  | none => none
theorem itemsE_run (hT : TTok P T) (d : Nat) (w : World) {e c : Nat} {xs ys : List Value} : ∀ {l : List Nat} {r : Bool}, itemsE T e c xs ys l = some r → (Op.eqItems (d + 1) e c xs.toArray ys.toArray l).run P w = .ok r w
 | [], r, h => by simp [itemsE] at h; subst h; simp [Op.eqItems]
 | j :: l, r, h => by
  unfold itemsE at h
  split at h
  ·rename_i a ha
   split at h
   ·rename_i b hb
    simp only [Option.some.injEq] at h
    subst h
    obtain ⟨u, v, h1, h2, h3⟩ := fieldEq_run (P := P) hT ha d w
    have ih := itemsE_run hT d w hb
    rw [Op.eqItems]
    simp only [show (itemF e (j * c)).type = e from rfl, show (itemF e (j * c)).offset = j * c from rfl] at h1 h2 h3
    simp only [Sem.run_bind, h1, h2, h3, Result.andThen_ok]
    cases a
    ·simp
    ·simpa using ih
   ·cases h
  ·cases h
def eqaE (T : TT) (N : Nat) (ops : Array Oper) (env : Env) (o : Oper) : Option (Nat × Nat × Bool × Bool) :=
 match dstE N ops env o with
 | some d => match o.op with
  | .binOp op t x y _ => match T.get t, ev env x, ev env y with
   | some i, some (.agg xs), some (.agg ys) => match i.desc with
    | .array n e => match T.get e with
     | some ei => match itemsE T e ei.size xs.toList ys.toList (List.range n), op with
      | some r, .eql => some (d, t, true, r)
      | some r, .neq => some (d, t, false, r)
      | _, _ => none
     | none => none
    | _ => none
   | _, _, _ => none
  | _ => none
 | none => none
theorem SQ.eqa (hT : TTok P T) {s : Stp} {r : List Stp} {obs : Obs} {d t : Nat} {e b : Bool} (hk : Nat.ble s.k 1 = true) (h : eqaE T N ops env s.o = some (d, t, e, b)) (hg : P.eqGuardType P.depth t = false)
  (q : Bool) (hq : (if e then b else !b) = q) (k : SQ P β rnd N T ops K r obs ((d, .bool q) :: env) L) : SQ P β rnd N T ops K (s :: r) obs env L := by
 subst hq
 unfold eqaE at h
 split at h <;> try (cases h; done)
 rename_i d' hde
 obtain ⟨hw, hd, hdl⟩ := dstE_eq hde
 split at h <;> try (cases h; done)
 rename_i op t' x y e2 hop
 split at h <;> try (cases h; done)
 rename_i i xs ys hi hx hy
 split at h <;> try (cases h; done)
 rename_i n el hds
 split at h <;> try (cases h; done)
 rename_i ei hei
 have hu := (hT.get hi).1.1
 rw [hds] at hu
 have he := (hT.get hei).1.2
 obtain ⟨inf, hinf, hsz⟩ : ∃ inf, P.info? el = some inf ∧ P.cellsOf el = ei.size := by
  cases hin : P.info? el with
  | none => rw [hin] at he; cases he
  | some inf =>
   rw [hin] at he
   simp only [Option.map_some, Option.some.injEq, Prod.mk.injEq] at he
   exact ⟨inf, rfl, by simp [Program.cellsOf, hin, he.1]⟩
 have fin : ∀ {q : Bool}, itemsE T el ei.size xs.toList ys.toList (List.range n) = some q → ∀ w, (Op.equalIn 10000 t' (.agg xs) (.agg ys)).run P w = .ok q w := by
  intro q hq w
  rw [run_equalIn_array w 9999 xs ys hu hinf, hsz]
  exact itemsE_run (P := P) hT 9998 w hq
 obtain ⟨si, ⟨dst, op', type, pos, after, guard⟩, se, sw⟩ := s
 simp only at hop
 subst hop
 split at h <;> try (cases h; done)
 ·rename_i q hq
  simp only [Option.some.injEq, Prod.mk.injEq] at h
  obtain ⟨rfl, rfl, rfl, rfl⟩ := h
  refine SQ.val' hk hw hd hdl (fun ρ hρ w => ?_) k
  simp only [execOp, hρ _ _ hx, hρ _ _ hy, Sem.run_bind, run_eqGuard_agg w _ _ _ _ xs ys hg, Result.andThen_ok, binOp]
  have h2 : (Op.equal t' (.agg xs) (.agg ys)).run P w = .ok q w := fin hq w
  simp [h2]
 ·rename_i q hq
  simp only [Option.some.injEq, Prod.mk.injEq] at h
  obtain ⟨rfl, rfl, rfl, rfl⟩ := h
  refine SQ.val' hk hw hd hdl (fun ρ hρ w => ?_) k
  simp only [execOp, hρ _ _ hx, hρ _ _ hy, Sem.run_bind, run_eqGuard_agg w _ _ _ _ xs ys hg, Result.andThen_ok, binOp]
  have h2 : (Op.equal t' (.agg xs) (.agg ys)).run P w = .ok q w := fin hq w
  simp [h2]
end
end Go.Proofs.YtakkogdmlbkdaaaGreatDoor.Sl

