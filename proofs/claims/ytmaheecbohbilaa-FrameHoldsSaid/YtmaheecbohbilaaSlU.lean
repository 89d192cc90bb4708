/-
  Rules: a quotient, a remainder by what is no numeral and is not 0; a slice written out, that may be appended to.
-/
import Derived.Test.YtmaheecbohbilaaSlT
namespace Go.Proofs.Ytmaheecbohbilaa.Sl
open Go Go.RowKit
set_option linter.unusedVariables false
set_option linter.unusedSimpArgs false
section
variable {P : Program} {β : Base} {cx : Cx} {rnd : Option (Nat × Loop)} {N : Nat} {env : Env} {L : List Atom} {K : Env → List Atom → Prop} {ops : Array Oper} {T : TT}
def dvE (N : Nat) (ops : Array Oper) (env : Env) (o : Oper) : Option (Nat × Bool × IntKind × Int × Int) :=
  match dstE N ops env o with
  | some d => match o.op with
    | .binOp op t x y _ => match ev env x, ev env y with
      | some (.int k a), some (.int k2 b) => match kindEq k k2 with
        | true => match op with
          | .quo => some (d, true, k, a, b)
          | .rem => some (d, false, k, a, b)
          | _ => none
        | false => none
      | _, _ => none
    | _ => none
  | none => none
theorem SQ.div (hT : TTok P T) {s : Stp} {r : List Stp} {obs : Obs} {d : Nat} {l : Bool} {k : IntKind} {a b : Int} (hk : Nat.ble s.k 1 = true) (h : dvE N ops env s.o = some (d, l, k, a, b)) (hn : b ≠ 0) {v : Int}
    (hv : (if l then k.wrap (a.tdiv b) else a.tmod b) = v) (kk : SQ P β rnd N T ops K r obs ((d, .int k v) :: env) L) : SQ P β rnd N T ops K (s :: r) obs env L := by
  subst hv
  unfold dvE at h
  split at h <;> try (cases h; done)
  rename_i d' hde
  obtain ⟨hw, hd, hdl⟩ := dstE_eq hde
  split at h <;> try (cases h; done)
  rename_i op t x y e2 hop
  split at h <;> try (cases h; done)
  rename_i k' a' k2 b' hx hy
  split at h <;> try (cases h; done)
  rename_i hkk
  obtain rfl := kindEq_eq hkk
  obtain ⟨si, ⟨dst, op', type, pos, after, guard⟩, se, sw⟩ := s
  simp only at hop
  subst hop
  split at h <;> try (cases h; done)
  · simp only [Option.some.injEq, Prod.mk.injEq] at h
    obtain ⟨rfl, rfl, rfl, rfl, rfl⟩ := h
    refine SQ.val' hk hw hd hdl (fun ρ hρ w => ?_) kk
    have hg : (eqGuard .quo t x y (.int k' a') (.int k' b')).run P w = .ok () w := run_eqGuard_plain rfl w
    simp only [execOp, hρ _ _ hx, hρ _ _ hy, Sem.run_bind, hg, Result.andThen]
    simp [binOp, Op.intArith, Op.intDiv, hn]
  · simp only [Option.some.injEq, Prod.mk.injEq] at h
    obtain ⟨rfl, rfl, rfl, rfl, rfl⟩ := h
    refine SQ.val' hk hw hd hdl (fun ρ hρ w => ?_) kk
    have hg : (eqGuard .rem t x y (.int k' a') (.int k' b')).run P w = .ok () w := run_eqGuard_plain rfl w
    simp only [execOp, hρ _ _ hx, hρ _ _ hy, Sem.run_bind, hg, Result.andThen]
    simp [binOp, Op.intArith, Op.intDiv, hn]
/-- The element's type of a slice written out, and its cells. -/
def beE (T : TT) (o : Oper) : Option (Nat × Nat) :=
  match o.op with
  | .buildSlice t len parts => match T.get t with
    | some ti => match ti.desc with
      | .slice e => match T.get e with
        | some te => some (e, te.size)
        | none => none
      | _ => none
    | none => none
  | _ => none
theorem Sat.allocO {w : World} {H : List Atom} (s : Sat β w (H ++ L)) (cs : List Value) (t sz n : Nat) (hl : cs.length = n * sz) : Sat β (w.alloc (.cells cs.toArray t)) (H ++ own t sz (.slice (some ⟨w.heap.size, 0, none⟩) n n) n cs :: L) :=
  (s.new _ (A := own t sz (.slice (some ⟨w.heap.size, 0, none⟩) n n) n cs) ⟨hl, .inr ⟨w.heap.size, n, cs, rfl, Nat.le_refl _, hl, by rw [← hl]; exact List.take_length, rfl⟩⟩).perm List.perm_middle.symm
theorem OW.builtO (hT : TTok P T) {o : Oper} {d len : Nat} {cs : List Value} {e sz : Nat} (h : bsE T N ops env o = some (d, len, cs)) (h2 : beE T o = some (e, sz)) (hcl : cs.length = len * sz) (k : ∀ b, K ((d, .slice (some ⟨b, 0, none⟩) len len) :: env) (own e sz (.slice (some ⟨b, 0, none⟩) len len) len cs :: L)) :
    wants ops env o = some true ∧ (∀ c, o.op ≠ .defer c) ∧ OW P β cx N o env L K := by
  unfold bsE at h
  split at h <;> try (cases h; done)
  rename_i d' hde
  obtain ⟨hw, hd, hdl⟩ := dstE_eq hde
  split at h <;> try (cases h; done)
  rename_i t len' parts hop
  split at h <;> try (cases h; done)
  rename_i ti hti
  split at h <;> try (cases h; done)
  rename_i e' hde2
  split at h <;> try (cases h; done)
  rename_i te hte
  split at h <;> try (cases h; done)
  rename_i hb1 hb2
  have hle := Nat.le_of_ble_eq_true hb1
  have hzl := Nat.eq_of_beq_eq_true hb2
  have hee : e' = e ∧ te.size = sz := by
    unfold beE at h2
    rw [hop] at h2
    simp only [hti, hde2, hte] at h2
    simpa using h2
  obtain ⟨rfl, rfl⟩ := hee
  refine ⟨hw, by rw [hop]; simp, fun n Qx a w s => ?_⟩
  obtain ⟨hen, Ds, hds, st⟩ := s
  obtain ⟨cs', hf, hk⟩ := fillS_eq (fun x v hx => hen.eval hx) h
  simp only [Option.some.injEq, Prod.mk.injEq] at hk
  obtain ⟨rfl, rfl, rfl⟩ := hk
  have hu := (hT.get hti).1.1
  rw [hde2] at hu
  have e2 : (execOp a.eval o).run P w = .ok (.value (.slice (some ⟨w.heap.size, 0, none⟩) len' len')) (w.alloc (.cells cs'.toArray e')) := by
    obtain ⟨dst, op, type, pos, after, guard⟩ := o
    simp only at hop
    subst hop
    have hnot : ¬ (len' * te.size > 2 ^ 24) := by omega
    have hzs : te.zero.cells.size = te.size := by rw [← Array.length_toList, vcells_eq]; exact hzl
    have hz := zeros_eq (zero := te.zero.cells) (n := len') hzs
    rw [vcells_eq] at hz
    rw [repz_eq, List.append_nil, ← hz] at hf
    by_cases h0 : len' * te.size = 0
    · have hrow : (Array.range (len' * te.size)).map (fun i => (#[] : Array Value)[i % (#[] : Array Value).size]!) = #[] := by rw [h0]; apply Array.eq_empty_of_size_eq_zero; simp
      have hf2 : Instr.fill (fun i => some (i * te.size, te.size)) #[] (parts.map fun (x : Nat × Operand) => (x.1, a.eval x.2)).toList = some cs'.toArray := by
        rw [if_pos h0] at hf; rw [← hf]; congr 1; simp
      simp only [execOp, Instr.buildSlice, Sem.run_bind, run_underlying hu, Result.andThen, (hT.get hte).run_sizeOf w, if_neg hnot, if_pos h0, Sem.run_pure, hrow, hf2, newRow, newObj, Sem.run, World.alloc_eq]
    · have hf2 : Instr.fill (fun i => some (i * te.size, te.size)) ((Array.range (len' * te.size)).map (fun i => te.zero.cells[i % te.zero.cells.size]!)) (parts.map fun (x : Nat × Operand) => (x.1, a.eval x.2)).toList = some cs'.toArray := by
        rw [if_neg h0] at hf; rw [← hf]; congr 1; simp
      simp only [execOp, Instr.buildSlice, Sem.run_bind, run_underlying hu, Result.andThen, (hT.get hte).run_sizeOf w, if_neg hnot, if_neg h0, (hT.get hte).run_zeroValue w, Sem.run_pure, hf2, newRow, newObj, Sem.run, World.alloc_eq]
  rw [e2]
  exact ⟨_, _, ⟨by rw [hd]; exact hen.put hdl _, Ds, by rw [hd]; exact hds, st.allocO cs' e' te.size len' hcl⟩, k w.heap.size⟩
theorem SQ.builtO (hT : TTok P T) {s : Stp} {r : List Stp} {obs : Obs} {d len : Nat} {cs : List Value} {e sz : Nat} (he : s.k = 1) (h : bsE T N ops env s.o = some (d, len, cs)) (h2 : beE T s.o = some (e, sz)) (hcl : cs.length = len * sz)
    (k : ∀ b, watchOk β obs (own e sz (.slice (some ⟨b, 0, none⟩) len len) len cs :: L) s.watch ∧ SQ P β rnd N T ops K r obs ((d, .slice (some ⟨b, 0, none⟩) len len) :: env) (own e sz (.slice (some ⟨b, 0, none⟩) len len) len cs :: L)) : SQ P β rnd N T ops K (s :: r) obs env L := by
  exact SQ.act he (OW.builtO (P := P) (β := β) (cx := ⟨rnd, []⟩) (L := L) (K := fun env L => watchOk β obs L s.watch ∧ SQ P β rnd N T ops K r obs env L) hT h h2 hcl k).1 fun fm => (OW.builtO hT h h2 hcl k).2.2
end
end Go.Proofs.Ytmaheecbohbilaa.Sl
