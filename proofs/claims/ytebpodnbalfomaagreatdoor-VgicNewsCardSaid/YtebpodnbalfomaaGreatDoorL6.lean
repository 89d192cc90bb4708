import Derived.Test.YtebpodnbalfomaaGreatDoorL5
namespace Go.Proofs.YtebpodnbalfomaaGreatDoor.Sl
open Go Go.RowKit Go.ChangeShapes Go.WideShapes Go.Deep
set_option linter.unusedVariables false
set_option linter.unusedSimpArgs false
def fieldsL (g : TypeId → Option (List TypeId)) (P : Program) : List Field → Nat → Option (List TypeId)
  | [], _ => some []
  | f :: r, o => match Nat.beq f.offset o, g f.type with
    | true, some l => match Nat.beq (P.cellsOf f.type) l.length, fieldsL g P r (o + l.length) with
      | true, some l2 => some (l ++ l2)
      | _, _ => none
    | _, _ => none
/-- The types of a type's cells. -/
def leafs (P : Program) : Nat → TypeId → Option (List TypeId)
  | 0, _ => none
  | n + 1, t => match P.underlying t with
    | some (.struct fs) => match fieldsL (leafs P n) P fs.toList 0 with
      | some l => match Nat.beq (P.cellsOf t) l.length with
        | true => some l
        | false => none
      | none => none
    | some .bool => some [t]
    | some (.int _) => some [t]
    | _ => none
section
variable {H : Type} {enc : TypeId × Value → H} {P : Program} {W : World} {base : Nat} {spare : Nat → Bool} {held : Bool}
def Leaf (P : Program) (cs : List Value) (o : Nat) (L : List TypeId) : Prop := ∀ (j : Nat) (lt : TypeId), L[j]? = some lt → ∃ u, cs[o + j]? = some u ∧ isK P lt u
theorem fieldsL_at {n : Nat} {g : TypeId → Option (List TypeId)} (hg : ∀ t L cs y, g t = some L → DataW.trod enc P W base spare held n t cs = some y → cs.length = L.length ∧ Leaf P cs 0 L) {cs : List Value} :
    ∀ (fs : List Field) (o : Nat) (L : List TypeId), fieldsL g P fs o = some L → (∀ f ∈ fs, ∃ y, DataW.trod enc P W base spare held n f.type ((cs.drop f.offset).take (P.cellsOf f.type)) = some y) → Leaf P cs o L
  | [], o, L, h, _ => by
    simp only [fieldsL, Option.some.injEq] at h
    subst h
    intro j lt hj; simp at hj
  | f :: r, o, L, h, hf => by
    simp only [fieldsL] at h
    split at h <;> try (cases h; done)
    rename_i l ho hl
    split at h <;> try (cases h; done)
    rename_i l2 hc h2
    simp only [Option.some.injEq] at h
    subst h
    have ho := Nat.eq_of_beq_eq_true ho
    have hc := Nat.eq_of_beq_eq_true hc
    obtain ⟨y, hy⟩ := hf f (by simp)
    obtain ⟨k1, k2⟩ := hg _ _ _ _ hl hy
    have ih := fieldsL_at hg r _ _ h2 fun f hfr => hf f (by simp [hfr])
    intro j lt hj
    by_cases hjl : j < l.length
    · rw [List.getElem?_append_left hjl] at hj
      obtain ⟨u, hu, hk⟩ := k2 j lt hj
      refine ⟨u, ?_, hk⟩
      rw [Nat.zero_add, List.getElem?_take] at hu
      split at hu
      · rw [List.getElem?_drop, ho] at hu; exact hu
      · cases hu
    · rw [List.getElem?_append_right (by omega)] at hj
      obtain ⟨u, hu, hk⟩ := ih _ lt hj
      exact ⟨u, by rw [← hu]; congr 1; omega, hk⟩
theorem leafs_at : ∀ (m : Nat) {n : Nat} {t : TypeId} {L : List TypeId} {cs : List Value} {y : DataW H × List MemPlace}, leafs P m t = some L → DataW.trod enc P W base spare held n t cs = some y → cs.length = L.length ∧ Leaf P cs 0 L
  | 0, _, _, _, _, _, h, _ => by cases h
  | m + 1, n, t, L, cs, y, h, ht => by
    simp only [leafs] at h
    split at h
    · rename_i fs hs
      split at h <;> try (cases h; done)
      rename_i l hl
      split at h <;> try (cases h; done)
      rename_i hc
      simp only [Option.some.injEq] at h
      subst h
      have hc := Nat.eq_of_beq_eq_true hc
      obtain ⟨xs, n', rfl, hx, hlen, hxl, hf⟩ := DataW.trod_struct hs ht
      refine ⟨by omega, fieldsL_at (n := n') (fun t L cs y a b => leafs_at m a b) fs.toList 0 _ hl fun f hfm => ?_⟩
      obtain ⟨i, hi, rfl⟩ := List.getElem_of_mem hfm
      have hi2 : i < fs.size := by simpa using hi
      have := hf i fs[i] (Array.getElem?_eq_getElem hi2)
      rw [List.getElem?_eq_getElem (by omega)] at this
      exact ⟨_, by simpa using this⟩
    · rename_i hb
      simp only [Option.some.injEq] at h
      subst h
      obtain ⟨b, rfl, _⟩ := DataW.trod_bool hb ht
      refine ⟨rfl, fun j lt hj => ?_⟩
      match j, hj with
      | 0, hj =>
        simp only [List.getElem?_cons_zero, Option.some.injEq] at hj
        subst hj
        exact ⟨_, rfl, by unfold isK; rw [hb]; exact ⟨b, rfl⟩⟩
      | j + 1, hj => simp at hj
    · rename_i k hb
      simp only [Option.some.injEq] at h
      subst h
      obtain ⟨b, rfl, _, hw⟩ := DataW.trod_int hb ht
      refine ⟨rfl, fun j lt hj => ?_⟩
      match j, hj with
      | 0, hj =>
        simp only [List.getElem?_cons_zero, Option.some.injEq] at hj
        subst hj
        exact ⟨_, rfl, by unfold isK; rw [hb]; exact ⟨b, rfl, hw⟩⟩
      | j + 1, hj => simp at hj
    · cases h
theorem open_structL {r : Go.Reach} {b0 : Nat} {t : TypeId} {fs : Array Field} {v : Value} {d : DataW H} {p : List MemPlace} {L : List TypeId} (hs : P.underlying t = some (.struct fs)) (hL : leafs P 8 t = some L)
    (hv : Value.okWide P W r b0 t v) (h : DataW.Trod enc P W base spare held t v d p) : ∃ cs : Array Value, v = .agg cs ∧ cs.size = L.length ∧ ∀ (i : Nat) (lt : TypeId), L[i]? = some lt → ∃ u, cs[i]? = some u ∧ isK P lt u := by
  obtain ⟨cs, rfl, hsz⟩ := okWide_struct hs hv
  obtain ⟨fuel, hf⟩ := h
  obtain ⟨h1, h2⟩ := leafs_at 8 hL hf
  refine ⟨cs, rfl, by simpa [Value.cells] using h1, fun i lt hi => ?_⟩
  obtain ⟨u, hu, hk⟩ := h2 i lt hi
  exact ⟨u, by simpa [Value.cells] using hu, hk⟩
end
end Go.Proofs.YtebpodnbalfomaaGreatDoor.Sl

