import Derived.Test.YtmaheecbohbilaaFx
namespace Go.Proofs.Ytmaheecbohbilaa.Sl
open Go Go.RowKit Go.Proofs
set_option linter.unusedVariables false
set_option linter.unusedSimpArgs false
/-! ### What a write makes of one interrupt -/
theorem realV_nat (p : Int) : ∃ s : Nat, s ≤ 248 ∧ realV p = s ∧ s &&& 248 = s := by
  refine ⟨(BitVec.ofInt 64 p &&& BitVec.ofInt 64 248).toNat, ?_, ?_, ?_⟩
  · rw [BitVec.toNat_and]; exact Nat.and_le_right
  · unfold realV
    have : (BitVec.ofInt 64 p &&& BitVec.ofInt 64 248).toNat ≤ 248 := by rw [BitVec.toNat_and]; exact Nat.and_le_right
    rw [wrap_i64]; split <;> omega
  · rw [BitVec.toNat_and, show (BitVec.ofInt 64 248).toNat = 248 from rfl, Nat.and_assoc, Nat.and_self]
theorem realV_of {s : Nat} (h : s < 2 ^ 63) : realV (s : Int) = ((s &&& 248 : Nat) : Int) := by
  have e64 : (2 : Nat) ^ 64 = 18446744073709551616 := rfl
  have e63 : (2 : Nat) ^ 63 = 9223372036854775808 := rfl
  unfold realV
  rw [BitVec.toNat_and, oN (by omega), show (BitVec.ofInt 64 248).toNat = 248 from rfl]
  have : s &&& 248 ≤ 248 := Nat.and_le_right
  rw [wrap_i64]; split <;> omega
theorem realV_real (p : Int) : realV (realV p) = realV p := by
  obtain ⟨s, h1, h2, h3⟩ := realV_nat p
  rw [h2, realV_of (by have e63 : (2 : Nat) ^ 63 = 9223372036854775808 := rfl
                       omega), h3]
theorem realV_range (p : Int) : 0 ≤ realV p ∧ realV p ≤ 248 := by
  obtain ⟨s, h1, h2, h3⟩ := realV_nat p
  omega
def updE (id r x : Int) (e : En) : En × Bool :=
  if writtenV id e.1 r x = e.1 then (e, false) else
  if (writtenV id e.1 r x).2.2.1 < 0 ∨ (writtenV id e.1 r x).2.2.1 > 1 ∨ (writtenV id e.1 r x).2.2.2 < 0 ∨ (writtenV id e.1 r x).2.2.2 > 255 then (e, true)
  else ((((writtenV id e.1 r x).1, (writtenV id e.1 r x).2.1, (writtenV id e.1 r x).2.2.1, realV (writtenV id e.1 r x).2.2.2), e.2), true)
theorem set_same {α : Type} {l : List α} {k : Nat} {a : α} (h : l[k]? = some a) : l.set k a = l := by
  apply List.ext_getElem?
  intro i
  by_cases e : k = i
  · subst e; rw [List.getElem?_set_self (List.getElem?_eq_some_iff.1 h).1, h]
  · rw [List.getElem?_set_ne e]
theorem wr1_upd (first : Int) (es : List En) (r f c v : Int) (k : Nat) : wr1 first es r f c v k = match atE first es (IntKind.i64.wrap (f + k)) with
    | some e => (es.set (IntKind.i64.wrap (f + k) - first).toNat (updE (IntKind.i64.wrap (f + k)) r (fieldV v r c k) e).1, (updE (IntKind.i64.wrap (f + k)) r (fieldV v r c k) e).2)
    | none => (es, false) := by
  unfold wr1
  cases h : atE first es (IntKind.i64.wrap (f + k)) with
  | none => rfl
  | some e =>
    obtain ⟨g1, g2, g3, g4, g5⟩ := atE_some h
    simp only [updE]
    split
    · simp only [set_same g3]
    · simp only [putV, h]
      split
      · simp only [set_same g3]
      · rfl
theorem atE_iff {first : Int} {es : List En} {id : Int} {e : En} : atE first es id = some e ↔ ∃ i : Nat, id = first + i ∧ es[i]? = some e := by
  constructor
  · intro h
    obtain ⟨g1, g2, g3, g4, g5⟩ := atE_some h
    exact ⟨(id - first).toNat, by omega, g3⟩
  · rintro ⟨i, rfl, h⟩
    unfold atE
    rw [if_pos (by omega), show (first + (i : Int) - first).toNat = i by omega, h]
/-- What a place's write makes of a bank, one by one. -/
theorem wrK_at {first : Int} {es : List En} {r f c v : Int} {N : Nat} (hf : ∀ k : Nat, k < N → IntKind.i64.wrap (f + k) = f + k) : ∀ m : Nat, m ≤ N → ∀ (i : Nat) (e : En), es[i]? = some e →
    (wrK first es r f c v m).1[i]? = some (if f ≤ first + i ∧ first + i < f + m then (updE (first + i) r (fieldV v r c (first + i - f)) e).1 else e)
  | 0, _, i, e, h => by rw [if_neg (by omega)]; exact h
  | m + 1, hm, i, e, h => by
    have ih := wrK_at (first := first) (es := es) (r := r) (c := c) (v := v) hf m (by omega) i e h
    simp only [wrK]
    rw [wr1_upd, hf m (by omega)]
    cases ha : atE first (wrK first es r f c v m).1 (f + m) with
    | none =>
      simp only
      rw [ih]
      have hne : first + (i : Int) ≠ f + m := fun h2 => by
        have : atE first (wrK first es r f c v m).1 (f + m) = some (if f ≤ first + (i : Int) ∧ first + (i : Int) < f + m then (updE (first + i) r (fieldV v r c (first + i - f)) e).1 else e) := atE_iff.2 ⟨i, h2.symm, ih⟩
        rw [ha] at this; cases this
      by_cases h3 : f ≤ first + (i : Int) ∧ first + (i : Int) < f + m
      · rw [if_pos h3, if_pos (by omega)]
      · rw [if_neg h3, if_neg (by omega)]
    | some e0 =>
      obtain ⟨j, hj, hje⟩ := atE_iff.1 ha
      simp only
      rw [show (f + (m : Int) - first).toNat = j by omega]
      by_cases hij : j = i
      · subst hij
        rw [List.getElem?_set_self (List.getElem?_eq_some_iff.1 hje).1, if_pos (by omega)]
        rw [ih, if_neg (by omega)] at hje
        injection hje with hje
        rw [hje, hj, show first + (j : Int) - f = (m : Int) by omega]
      · rw [List.getElem?_set_ne hij, ih]
        by_cases h3 : f ≤ first + (i : Int) ∧ first + (i : Int) < f + m
        · rw [if_pos h3, if_pos (by omega)]
        · rw [if_neg h3, if_neg (by omega)]
/-- A write that changes no interrupt is told as one that changes none. -/
theorem wrK_none {first : Int} {es : List En} {r f c v : Int} {N : Nat} (hf : ∀ k : Nat, k < N → IntKind.i64.wrap (f + k) = f + k) (h : ∀ (k : Nat) (e : En), k < N → atE first es (f + k) = some e → updE (f + k) r (fieldV v r c k) e = (e, false)) : ∀ m : Nat, m ≤ N →
    wrK first es r f c v m = (es, 0)
  | 0, _ => rfl
  | m + 1, hm => by
    have ih := wrK_none (first := first) (es := es) (r := r) (c := c) (v := v) hf h m (by omega)
    simp only [wrK]
    rw [ih, wr1_upd, hf m (by omega)]
    cases ha : atE first es (f + m) with
    | none => rfl
    | some e =>
      obtain ⟨j, hj, hje⟩ := atE_iff.1 ha
      have h2 := h m e (by omega) ha
      simp only [h2, show (f + (m : Int) - first).toNat = j by omega, set_same hje]
      rfl
/-- An interrupt that a bank may hold. -/
def okE (e : En) : Prop := 0 ≤ e.1.2.2.1 ∧ e.1.2.2.1 ≤ 1 ∧ 0 ≤ e.1.2.2.2 ∧ e.1.2.2.2 ≤ 255 ∧ realV e.1.2.2.2 = e.1.2.2.2
def okL (es : List En) : Prop := ∀ e ∈ es, okE e
theorem updE_ok {id r x : Int} {e : En} (h : okE e) : okE (updE id r x e).1 := by
  unfold updE
  split
  · exact h
  · split
    · exact h
    · rename_i h2
      have := realV_range (writtenV id e.1 r x).2.2.2
      have h3 := realV_real (writtenV id e.1 r x).2.2.2
      unfold okE
      simp only
      exact ⟨by omega, by omega, by omega, by omega, h3⟩
theorem okL_at {es : List En} (h : okL es) {i : Nat} {e : En} (hi : es[i]? = some e) : okE e := h e (List.mem_of_getElem? hi)
theorem okL_set {es : List En} (h : okL es) {e : En} (he : okE e) (i : Nat) : okL (es.set i e) := fun x hx => by
  rcases List.mem_or_eq_of_mem_set hx with h2 | rfl
  · exact h x h2
  · exact he
theorem wrK_ok {first : Int} {es : List En} {r f c v : Int} (h : okL es) : ∀ m, okL (wrK first es r f c v m).1
  | 0 => h
  | m + 1 => by
    have ih := wrK_ok (first := first) (r := r) (f := f) (c := c) (v := v) h m
    simp only [wrK]
    rw [wr1_upd]
    split
    · rename_i e he
      obtain ⟨j, hj, hje⟩ := atE_iff.1 he
      exact okL_set ih (updE_ok (okL_at ih hje)) _
    · exact ih
theorem doV_ok {first : Int} {es : List En} {id x : Int} (h : okL es) : okL (doV first es id x).1 := by
  unfold doV
  split
  · rename_i e he
    obtain ⟨j, hj, hje⟩ := atE_iff.1 he
    exact okL_set h (by have := okL_at h hje; exact this) _
  · exact h
theorem okL_new (n : Nat) (tx : ByteArray) : okL (List.replicate n (zeroE.1, tx)) := fun e he => by
  rw [List.eq_of_mem_replicate he]
  have h : okE (zeroE.1, ByteArray.empty) := ⟨by decide, by decide, by decide, by decide, by decide⟩
  exact h
/-! ### Written twice -/
theorem stepI_again (i : Iq) (r x : Int) (h : r = 7 ∨ r = 8 ∨ r = 9 ∨ r = 10) : stepI (stepI i (actsV r)) (actsV r) = stepI i (actsV r) := by
  obtain ⟨a, b, c, d⟩ := i
  rcases h with rfl | rfl | rfl | rfl <;> cases a <;> cases b <;> cases c <;> cases d <;> rfl
theorem stepI_edge (i : Iq) (x : Int) : stepI (stepI i (edgeV x)) (edgeV x) = stepI i (edgeV x) := by
  obtain ⟨a, b, c, d⟩ := i
  unfold edgeV
  split <;> cases a <;> cases b <;> cases c <;> cases d <;> rfl
theorem written_again (id r x p : Int) (l : Ln) (hp : p = (writtenV id l r x).2.2.2 ∨ p = realV (writtenV id l r x).2.2.2) :
    writtenV id ((writtenV id l r x).1, (writtenV id l r x).2.1, (writtenV id l r x).2.2.1, p) r x = ((writtenV id l r x).1, (writtenV id l r x).2.1, (writtenV id l r x).2.2.1, p) := by
  obtain ⟨i, en, g, q⟩ := l
  by_cases h4 : r = 4
  · simp [writtenV, h4]
  by_cases h5 : r = 5
  · simp [writtenV, h5]
  by_cases h6 : r = 6
  · simp [writtenV, h6]
  by_cases h7 : r = 7 ∨ r = 8 ∨ r = 9 ∨ r = 10
  · by_cases hx : x = 1
    · simp only [writtenV, h4, h5, h6, h7, hx, if_true, if_false]
      rw [stepI_again i r x h7]
    · simp only [writtenV, h4, h5, h6, h7, hx, if_true, if_false]
  by_cases h11 : r = 11
  · subst h11
    simp only [writtenV, h4, h5, h6, if_true, if_false] at hp ⊢
    rw [if_neg h7] at hp ⊢
    rcases hp with rfl | rfl
    · rw [if_neg h7]
    · rw [if_neg h7, realV_real]
  by_cases h12 : r = 12
  · subst h12
    by_cases h16 : id ≥ 16
    · simp only [writtenV, h4, h5, h6, h7, h11, h16, if_true, if_false]
      rw [stepI_edge]
    · simp only [writtenV, h4, h5, h6, h7, h11, h16, if_true, if_false]
  · simp only [writtenV, h4, h5, h6, h7, h11, h12, if_false]
theorem written_range {id r x : Int} {e : En} (he : okE e) (hx : r = 4 → x = 0 ∨ x = 1) : ¬ ((writtenV id e.1 r x).2.2.1 < 0 ∨ (writtenV id e.1 r x).2.2.1 > 1 ∨ (writtenV id e.1 r x).2.2.2 < 0 ∨ (writtenV id e.1 r x).2.2.2 > 255) := by
  obtain ⟨h0, h1, h2, h3, _⟩ := he
  have hr := realV_range (IntKind.i64.wrap x)
  have hw : r = 4 → IntKind.i64.wrap x = x := fun h => by rcases hx h with rfl | rfl <;> rfl
  unfold writtenV
  split
  · rename_i h
    have := hw h
    have := hx h
    simp only; omega
  repeat' split
  all_goals (first | omega | (simp only; omega))
theorem updE_again {id r x : Int} {e : En} (he : okE e) (hx : r = 4 → x = 0 ∨ x = 1) : updE id r x (updE id r x e).1 = ((updE id r x e).1, false) := by
  have hr := written_range (id := id) he hx
  by_cases h1 : writtenV id e.1 r x = e.1
  · have : updE id r x e = (e, false) := by unfold updE; rw [if_pos h1]
    rw [this]; exact this
  · have h2 : updE id r x e = ((((writtenV id e.1 r x).1, (writtenV id e.1 r x).2.1, (writtenV id e.1 r x).2.2.1, realV (writtenV id e.1 r x).2.2.2), e.2), true) := by unfold updE; rw [if_neg h1, if_neg hr]
    rw [h2]
    have h3 := written_again id r x (realV (writtenV id e.1 r x).2.2.2) e.1 (.inr rfl)
    simp only
    unfold updE
    rw [if_pos h3]
theorem field_bit {v : Int} (hv0 : 0 ≤ v) (hv1 : v < 18446744073709551616) (c k : Int) : fieldV v 4 c k = 0 ∨ fieldV v 4 c k = 1 := by
  by_cases h : k < 0 ∨ k ≥ c ∨ k > 64
  · exact .inl (fieldV_out h)
  · obtain ⟨w, rfl⟩ : ∃ w : Nat, v = w := ⟨v.toNat, by omega⟩
    have e64 : (2 : Nat) ^ 64 = 18446744073709551616 := rfl
    rw [fieldV_nat (n := 1) (by omega) rfl (by omega) (by omega) (by omega) (by omega)]
    omega
theorem wrK_again {first : Int} {es : List En} {r f c v : Int} {N : Nat} (hok : okL es) (hf : ∀ k : Nat, k < N → IntKind.i64.wrap (f + k) = f + k) (hv0 : 0 ≤ v) (hv1 : v < 18446744073709551616) :
    wrK first (wrK first es r f c v N).1 r f c v N = ((wrK first es r f c v N).1, 0) := by
  refine wrK_none hf (fun k e hk ha => ?_) N (Nat.le_refl _)
  obtain ⟨j, hj, hje⟩ := atE_iff.1 ha
  have hjl : j < es.length := by have := (List.getElem?_eq_some_iff.1 hje).1; rw [wrK_len] at this; exact this
  obtain ⟨e0, he0⟩ : ∃ e0, es[j]? = some e0 := ⟨_, List.getElem?_eq_getElem hjl⟩
  have h1 := wrK_at (first := first) (r := r) (c := c) (v := v) hf N (Nat.le_refl _) j e0 he0
  rw [hje, if_pos (by omega), ← hj, show f + (k : Int) - f = (k : Int) by omega] at h1
  injection h1 with h1
  rw [h1]
  exact updE_again (okL_at hok he0) (fun h => by subst h; exact field_bit hv0 hv1 c k)
/-- What is written, as the document has it: nothing is rounded besides. -/
theorem upd_line {id r x : Int} {e : En} (he : okE e) (hx : r = 4 → x = 0 ∨ x = 1) : (updE id r x e).1 = (writtenV id e.1 r x, e.2) ∧ (updE id r x e).2 = decide (writtenV id e.1 r x ≠ e.1) := by
  have hg := written_range (id := id) he hx
  have hp : realV (writtenV id e.1 r x).2.2.2 = (writtenV id e.1 r x).2.2.2 := by
    have h5 := he.2.2.2.2
    unfold writtenV
    repeat' split
    all_goals (first | exact h5 | exact realV_real _)
  by_cases h : writtenV id e.1 r x = e.1
  · unfold updE
    rw [if_pos h]
    exact ⟨by rw [h], by simp [h]⟩
  · unfold updE
    rw [if_neg h, if_neg hg]
    exact ⟨by rw [hp], by simp [h]⟩
/-- The texts besides stay. -/
theorem updE_text (id r x : Int) (e : En) : (updE id r x e).1.2 = e.2 := by
  unfold updE
  split
  · rfl
  · split <;> rfl
theorem map_set_same {α β : Type} {f : α → β} {l : List α} {k : Nat} {a b : α} (h : l[k]? = some a) (hf : f b = f a) : (l.set k b).map f = l.map f := by
  rw [List.map_set, hf]
  apply set_same
  rw [List.getElem?_map, h]; rfl
theorem wrK_texts (first : Int) (es : List En) (r f c v : Int) : ∀ m, (wrK first es r f c v m).1.map (·.2) = es.map (·.2)
  | 0 => rfl
  | m + 1 => by
    have ih := wrK_texts first es r f c v m
    simp only [wrK]
    rw [wr1_upd]
    split
    · rename_i e he
      obtain ⟨j, hj, hje⟩ := atE_iff.1 he
      simp only
      rw [show (IntKind.i64.wrap (f + (m : Int)) - first).toNat = j by omega]
      rw [map_set_same hje (updE_text _ _ _ _), ih]
    · exact ih
theorem doV_texts (first : Int) (es : List En) (id x : Int) : (doV first es id x).1.map (·.2) = es.map (·.2) := by
  unfold doV
  split
  · rename_i e he
    obtain ⟨j, hj, hje⟩ := atE_iff.1 he
    simp only
    rw [show (id - first).toNat = j by omega]
    exact map_set_same hje rfl
  · rfl
end Go.Proofs.Ytmaheecbohbilaa.Sl
