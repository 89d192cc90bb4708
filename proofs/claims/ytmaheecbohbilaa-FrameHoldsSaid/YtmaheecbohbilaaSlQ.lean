/-
  Rules: shifts by a number that is no numeral; make of a slice.
-/
import Derived.Test.YtmaheecbohbilaaSlP
import Derived.Laws.MakeOwn
namespace Go.Proofs.Ytmaheecbohbilaa.Sl
open Go Go.RowKit
set_option linter.unusedVariables false
set_option linter.unusedSimpArgs false
section
variable {P : Program} {β : Base} {rnd : Option (Nat × Loop)} {N : Nat} {env : Env} {L : List Atom} {K : Env → List Atom → Prop} {ops : Array Oper} {T : TT}
def shE (N : Nat) (ops : Array Oper) (env : Env) (o : Oper) : Option (Nat × Bool × IntKind × Int × Int) :=
  match dstE N ops env o with
  | some d => match o.op with
    | .binOp op t x y _ => match ev env x, ev env y with
      | some (.int k a), some (.int _ b) => match op with
        | .shl => some (d, true, k, a, b)
        | .shr => some (d, false, k, a, b)
        | _ => none
      | _, _ => none
    | _ => none
  | none => none
theorem SQ.shift (hT : TTok P T) {s : Stp} {r : List Stp} {obs : Obs} {d : Nat} {l : Bool} {k : IntKind} {a b : Int} (hk : Nat.ble s.k 1 = true) (h : shE N ops env s.o = some (d, l, k, a, b)) (n : Nat) (hn : b = (n : Int)) {v : Int}
    (hv : (if l then k.wrap (a * 2 ^ min n k.bits) else a.fdiv (2 ^ min n k.bits)) = v) (kk : SQ P β rnd N T ops K r obs ((d, .int k v) :: env) L) : SQ P β rnd N T ops K (s :: r) obs env L := by
  subst hv
  unfold shE at h
  split at h <;> try (cases h; done)
  rename_i d' hde
  obtain ⟨hw, hd, hdl⟩ := dstE_eq hde
  split at h <;> try (cases h; done)
  rename_i op t x y e2 hop
  split at h <;> try (cases h; done)
  rename_i k' a' k2 b' hx hy
  obtain ⟨si, ⟨dst, op', type, pos, after, guard⟩, se, sw⟩ := s
  simp only at hop
  subst hop
  have h0 : ¬ ((n : Int) < 0) := by omega
  split at h <;> try (cases h; done)
  · simp only [Option.some.injEq, Prod.mk.injEq] at h
    obtain ⟨rfl, rfl, rfl, rfl, rfl⟩ := h
    subst hn
    refine SQ.val' hk hw hd hdl (fun ρ hρ w => ?_) kk
    have hg : (eqGuard .shl t x y (.int k' a') (.int k2 (n : Int))).run P w = .ok () w := run_eqGuard_plain rfl w
    simp only [execOp, hρ _ _ hx, hρ _ _ hy, Sem.run_bind, hg, Result.andThen]
    simp [binOp, Op.shift, h0]
  · simp only [Option.some.injEq, Prod.mk.injEq] at h
    obtain ⟨rfl, rfl, rfl, rfl, rfl⟩ := h
    subst hn
    refine SQ.val' hk hw hd hdl (fun ρ hρ w => ?_) kk
    have hg : (eqGuard .shr t x y (.int k' a') (.int k2 (n : Int))).run P w = .ok () w := run_eqGuard_plain rfl w
    simp only [execOp, hρ _ _ hx, hρ _ _ hy, Sem.run_bind, hg, Result.andThen]
    simp [binOp, Op.shift, h0]
def mkE (T : TT) (N : Nat) (ops : Array Oper) (env : Env) (o : Oper) : Option (Nat × TI × Int × Int) :=
  match dstE N ops env o with
  | some d => match o.op with
    | .makeSlice t x y => match T.get t, ev env x, ev env y with
      | some ti, some (.int _ a), some (.int _ b) => match ti.desc with
        | .slice e => match T.get e with
          | some te => some (d, te, a, b)
          | none => none
        | _ => none
      | _, _, _ => none
    | _ => none
  | none => none
theorem SQ.make (hT : TTok P T) {s : Stp} {r : List Stp} {obs : Obs} {d : Nat} {te : TI} {a b : Int} (he : s.k = 1) (h : mkE T N ops env s.o = some (d, te, a, b)) (n : Nat) (ha : a = (n : Int)) (hb : b = (n : Int)) (hc : n * te.size ≤ 16777216) (hby : te.bytes * n ≤ 281474976710656) (h63 : n ≤ 9223372036854775807)
    (k : ∀ g, watchOk β obs (pt g (madeCells te.zero.cells (n * te.size)).toList :: L) s.watch ∧ SQ P β rnd N T ops K r obs ((d, .slice (some ⟨g, 0, none⟩) n n) :: env) (pt g (madeCells te.zero.cells (n * te.size)).toList :: L)) : SQ P β rnd N T ops K (s :: r) obs env L := by
  unfold mkE at h
  split at h <;> try (cases h; done)
  rename_i d' hde
  obtain ⟨hw, hd, hdl⟩ := dstE_eq hde
  split at h <;> try (cases h; done)
  rename_i t x y hop
  split at h <;> try (cases h; done)
  rename_i ti k1 a' k2 b' hti hx hy
  split at h <;> try (cases h; done)
  rename_i e hde2
  split at h <;> try (cases h; done)
  rename_i te' hte
  simp only [Option.some.injEq, Prod.mk.injEq] at h
  obtain ⟨rfl, rfl, rfl, rfl⟩ := h
  subst ha
  subst hb
  have hu := (hT.get hti).1.1
  rw [hde2] at hu
  obtain ⟨inf, hinf, hsz, hbt, hzz⟩ := (hT.get hte).info
  refine SQ.act he hw fun fm nn Qx aa w st0 => ?_
  obtain ⟨hen, Ds, hds, st⟩ := st0
  have hrun := run_makeSlice w t e inf te'.zero hu hinf hzz k1 k2 (n : Int) (n : Int) (by omega) (by omega) (by rw [hsz, Int.toNat_natCast]; exact hc) (by rw [hbt]; have h9 := Int.ofNat_le.2 hby; rw [Int.natCast_mul] at h9; exact h9) (by omega)
  have e2 : (execOp aa.eval s.o).run P w = .ok (.value (.slice (some ⟨w.heap.size, 0, none⟩) n n)) (w.alloc (.cells (madeCells te'.zero.cells (n * te'.size)) e)) := by
    obtain ⟨si, ⟨dst, op, type, pos, after, guard⟩, se, sw⟩ := s
    simp only at hop
    subst hop
    simp only [execOp, hen.eval hx, hen.eval hy, Sem.run_bind, hrun, Result.andThen, Sem.run_pure]
    rw [hsz]; simp
  rw [e2]
  refine ⟨_, _, ⟨by rw [hd]; exact hen.put hdl _, Ds, by rw [hd]; exact hds, ?_⟩, k w.heap.size⟩
  have := st.alloc (madeCells te'.zero.cells (n * te'.size)).toList e
  simpa using this
end
end Go.Proofs.Ytmaheecbohbilaa.Sl
