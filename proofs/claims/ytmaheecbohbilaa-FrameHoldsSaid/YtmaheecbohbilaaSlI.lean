/-
  More operations: slices written out, made, cut; strings; structs compared.
-/
import Derived.Test.YtmaheecbohbilaaSlH
import Derived.Laws.Slices
namespace Go.Proofs.Ytmaheecbohbilaa.Sl
open Go Go.RowKit
set_option linter.unusedVariables false
set_option linter.unusedSimpArgs false

section
variable {P : Program} {β : Base} {cx : Cx} {rnd : Option (Nat × Loop)} {N : Nat} {env : Env} {L : List Atom} {K : Env → List Atom → Prop} {ops : Array Oper} {T : TT}

/-! ### A slice written out -/
/-- The parts of a slice, laid over its zeros. -/
def fillS {β : Type} (env : Env) (sz : Nat) : List (Nat × Operand) → List Value → (List Value → Option β) → Option β
  | [], cs, k => k cs
  | (i, x) :: r, cs, k => match ev env x with
    | some v => match Nat.beq (vcells v).length sz with
      | true => wrAt (i * sz) (vcells v) cs fun cs => fillS env sz r cs k
      | false => none
    | none => none
theorem fillS_eq {env : Env} {ρ : Operand → Value} (hρ : ∀ x v, ev env x = some v → ρ x = v) {sz : Nat} {β : Type} {k : List Value → Option β} {r : β} :
    ∀ {parts : List (Nat × Operand)} {cs : List Value}, fillS env sz parts cs k = some r → ∃ cs', Instr.fill (fun i => some (i * sz, sz)) cs.toArray (parts.map fun (i, x) => (i, ρ x)) = some cs'.toArray ∧ k cs' = some r
  | [], cs, h => ⟨cs, rfl, h⟩
  | (i, x) :: parts, cs, h => by
    simp only [fillS] at h
    cases e2 : ev env x with
    | none => rw [e2] at h; cases h
    | some v =>
      rw [e2] at h
      simp only at h
      split at h <;> try (cases h; done)
      rename_i e3
      have e4 := Nat.eq_of_beq_eq_true e3
      by_cases hle : i * sz ≤ cs.length
      · rw [wrAt_eq _ _ _ _ hle] at h
        split at h
        · rename_i h2
          obtain ⟨cs', h3, h4⟩ := fillS_eq hρ h
          refine ⟨cs', ?_, h4⟩
          simp only [List.map_cons, Instr.fill, hρ x v e2]
          have e5 : v.cells.size = sz := by rw [← Array.length_toList, vcells_eq]; exact e4
          have e6 : ¬ (v.cells.size ≠ sz || decide (i * sz + v.cells.size > cs.toArray.size)) = true := by simp; exact ⟨e5, by rw [e5]; rw [e4] at h2; exact h2⟩
          rw [if_neg e6]
          have e7 := fill_step (cells := cs.toArray) (off := i * sz) (v := v) (by simpa using h2)
          have e8 : v.cells.zipIdx.foldl (fun cs (x : Value × Nat) => cs.setIfInBounds (i * sz + x.2) x.1) cs.toArray = (cs.take (i * sz) ++ vcells v ++ cs.drop (i * sz + (vcells v).length)).toArray := Array.toList_inj.1 (by rw [e7])
          rw [← e8] at h3
          exact h3
        · cases h
      · rw [wrAt_len _ _ _ _ (by omega)] at h; cases h
def repz (zs : List Value) : Nat → List Value → List Value
  | 0, acc => acc
  | n + 1, acc => repz zs n (zs ++ acc)
theorem repz_eq (zs : List Value) : ∀ (n : Nat) (acc : List Value), repz zs n acc = (List.replicate n zs).flatten ++ acc
  | 0, acc => by simp [repz]
  | n + 1, acc => by
    rw [repz, repz_eq zs n, List.replicate_succ', List.flatten_append]; simp
theorem zeros_eq {zero : Array Value} {n sz : Nat} (hz : zero.size = sz) : (if n * sz = 0 then [] else ((Array.range (n * sz)).map (fun i => zero[i % zero.size]!)).toList) = (List.replicate n zero.toList).flatten := by
  by_cases h0 : n * sz = 0
  · rw [if_pos h0]
    rcases Nat.mul_eq_zero.1 h0 with h | h
    · simp [h]
    · have : zero.toList = [] := List.eq_nil_of_length_eq_zero (by simp [hz, h])
      rw [this]; simp
  · rw [if_neg h0]
    have hpos : 0 < sz := Nat.pos_of_ne_zero fun h => h0 (by simp [h])
    apply List.ext_getElem
    · simp [hz]
    · intro i h1 h2
      simp at h1
      have hm : i % sz < sz := Nat.mod_lt _ hpos
      simp only [Array.toList_map, Array.toList_range, List.getElem_map, List.getElem_range, hz]
      rw [getElem!_pos zero (i % sz) (by rw [hz]; exact hm)]
      have key : ∀ (n i : Nat) (h : i < ((List.replicate n zero.toList).flatten).length), ((List.replicate n zero.toList).flatten)[i] = zero.toList[i % sz]'(by simp [hz]; exact Nat.mod_lt _ hpos) := by
        intro n
        induction n with
        | zero => intro i h; simp at h
        | succ n ih =>
          intro i h
          simp only [List.replicate_succ, List.flatten_cons]
          by_cases hi : i < sz
          · rw [List.getElem_append_left (by simp [hz]; exact hi)]
            congr 1
            exact (Nat.mod_eq_of_lt hi).symm
          · rw [List.getElem_append_right (by simp [hz]; omega)]
            rw [ih]
            congr 1
            simp only [Array.length_toList, hz]
            exact (Nat.mod_eq_sub_mod (by omega)).symm
      rw [key n i h2]
      simp
/-- A slice written out: its row, and how many. -/
def bsE (T : TT) (N : Nat) (ops : Array Oper) (env : Env) (o : Oper) : Option (Nat × Nat × List Value) :=
  match dstE N ops env o with
  | some d => match o.op with
    | .buildSlice t len parts => match T.get t with
      | some ti => match ti.desc with
        | .slice e => match T.get e with
          | some te => match Nat.ble (len * te.size) 16777216, Nat.beq (vcells te.zero).length te.size with
            | true, true => fillS env te.size parts.toList (repz (vcells te.zero) len []) fun cs => some (d, len, cs)
            | _, _ => none
          | none => none
        | _ => none
      | none => none
    | _ => none
  | none => none
theorem OW.built (hT : TTok P T) {o : Oper} {d len : Nat} {cs : List Value} (h : bsE T N ops env o = some (d, len, cs)) (k : ∀ b, K ((d, .slice (some ⟨b, 0, none⟩) len len) :: env) (pt b cs :: L)) :
    wants ops env o = some true ∧ (∀ c, o.op ≠ .defer c) ∧ OW P β cx N o env L K := by
  unfold bsE at h
  split at h <;> try (cases h; done)
  rename_i d' hde
  obtain ⟨hw, hd, hdl⟩ := dstE_eq hde
  split at h <;> try (cases h; done)
  rename_i t len' parts hop
  split at h <;> try (cases h; done)
  rename_i ti hti
  split at h <;> try (cases h; done)
  rename_i e hde2
  split at h <;> try (cases h; done)
  rename_i te hte
  split at h <;> try (cases h; done)
  rename_i hb1 hb2
  have hle := Nat.le_of_ble_eq_true hb1
  have hzl := Nat.eq_of_beq_eq_true hb2
  refine ⟨hw, by rw [hop]; simp, fun n Qx a w s => ?_⟩
  obtain ⟨hen, Ds, hds, st⟩ := s
  obtain ⟨cs', hf, hk⟩ := fillS_eq (fun x v hx => hen.eval hx) h
  simp only [Option.some.injEq, Prod.mk.injEq] at hk
  obtain ⟨rfl, rfl, rfl⟩ := hk
  have hu := (hT.get hti).1.1
  rw [hde2] at hu
  have e2 : (execOp a.eval o).run P w = .ok (.value (.slice (some ⟨w.heap.size, 0, none⟩) len' len')) (w.alloc (.cells cs'.toArray e)) := by
    obtain ⟨dst, op, type, pos, after, guard⟩ := o
    simp only at hop
    subst hop
    have hnot : ¬ (len' * te.size > 2 ^ 24) := by omega
    have hzs : te.zero.cells.size = te.size := by rw [← Array.length_toList, vcells_eq]; exact hzl
    have hz := zeros_eq (zero := te.zero.cells) (n := len') hzs
    rw [vcells_eq] at hz
    rw [repz_eq, List.append_nil, ← hz] at hf
    by_cases h0 : len' * te.size = 0
    · have hrow : (Array.range (len' * te.size)).map (fun i => (#[] : Array Value)[i % (#[] : Array Value).size]!) = #[] := by rw [h0]; apply Array.eq_empty_of_size_eq_zero; simp
      have hf2 : Instr.fill (fun i => some (i * te.size, te.size)) #[] (parts.map fun (x : Nat × Operand) => (x.1, a.eval x.2)).toList = some cs'.toArray := by
        rw [if_pos h0] at hf; rw [← hf]; congr 1; simp
      simp only [execOp, Instr.buildSlice, Sem.run_bind, run_underlying hu, Result.andThen, (hT.get hte).run_sizeOf w, if_neg hnot, if_pos h0, Sem.run_pure, hrow, hf2, newRow, newObj, Sem.run, World.alloc_eq]
    · have hf2 : Instr.fill (fun i => some (i * te.size, te.size)) ((Array.range (len' * te.size)).map (fun i => te.zero.cells[i % te.zero.cells.size]!)) (parts.map fun (x : Nat × Operand) => (x.1, a.eval x.2)).toList = some cs'.toArray := by
        rw [if_neg h0] at hf; rw [← hf]; congr 1; simp
      simp only [execOp, Instr.buildSlice, Sem.run_bind, run_underlying hu, Result.andThen, (hT.get hte).run_sizeOf w, if_neg hnot, if_neg h0, (hT.get hte).run_zeroValue w, Sem.run_pure, hf2, newRow, newObj, Sem.run, World.alloc_eq]
  rw [e2]
  exact ⟨_, _, ⟨by rw [hd]; exact hen.put hdl _, Ds, by rw [hd]; exact hds, st.alloc cs' e⟩, k w.heap.size⟩
theorem SQ.built (hT : TTok P T) {s : Stp} {r : List Stp} {obs : Obs} {d len : Nat} {cs : List Value} (he : s.k = 1) (h : bsE T N ops env s.o = some (d, len, cs))
    (k : ∀ b, watchOk β obs (pt b cs :: L) s.watch ∧ SQ P β rnd N T ops K r obs ((d, .slice (some ⟨b, 0, none⟩) len len) :: env) (pt b cs :: L)) : SQ P β rnd N T ops K (s :: r) obs env L := by
  exact SQ.act he (OW.built (P := P) (β := β) (cx := ⟨rnd, []⟩) (L := L) (K := fun env L => watchOk β obs L s.watch ∧ SQ P β rnd N T ops K r obs env L) hT h k).1 fun fm => (OW.built hT h k).2.2
end
end Go.Proofs.Ytmaheecbohbilaa.Sl
