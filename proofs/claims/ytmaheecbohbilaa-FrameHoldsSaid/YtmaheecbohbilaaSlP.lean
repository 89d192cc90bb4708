/-
  Rows of elements: an element, or a part of one, is written.
-/
import Derived.Test.YtmaheecbohbilaaSlO
namespace Go.Proofs.Ytmaheecbohbilaa.Sl
open Go Go.RowKit
set_option linter.unusedVariables false
set_option linter.unusedSimpArgs false
theorem wrv_mk {i : TI} {cs : List Value} {off : Nat} {v : Value} (h1 : (vcells v).length = i.size) (h2 : off + i.size ≤ cs.length) : wrv i cs off v = some (cs.take off ++ vcells v ++ cs.drop (off + i.size)) := by
  unfold wrv
  rw [show Nat.beq (vcells v).length i.size = true from by rw [h1]; exact Nat.beq_refl _]
  simp only [cond_true]
  rw [wrAt_eq off _ _ _ (by omega), if_pos (by omega), h1]
theorem flat_split {α : Type} {enc : α → List Value} {sz : Nat} (hsz : ∀ a, (enc a).length = sz) : ∀ {es : List α} {k : Nat} {e : α}, es[k]? = some e → ∃ P R : List Value, P.length = k * sz ∧ es.flatMap enc = P ++ (enc e ++ R) ∧ ∀ e', (es.set k e').flatMap enc = P ++ (enc e' ++ R)
  | a :: r, 0, e, h => by
    simp only [List.getElem?_cons_zero, Option.some.injEq] at h
    subst h
    exact ⟨[], r.flatMap enc, by simp, by simp, fun e' => by simp⟩
  | a :: r, k + 1, e, h => by
    obtain ⟨P, R, h1, h2, h3⟩ := flat_split hsz (es := r) (k := k) (e := e) (by simpa using h)
    refine ⟨enc a ++ P, R, by rw [List.length_append, hsz, h1, Nat.add_mul]; omega, by rw [List.flatMap_cons, h2, List.append_assoc], fun e' => by rw [List.set_cons_succ, List.flatMap_cons, h3, List.append_assoc]⟩
/-- A part of an element is written. -/
theorem wr_enc {α : Type} {enc : α → List Value} {sz : Nat} (hsz : ∀ a, (enc a).length = sz) {es : List α} {k : Nat} {e e' : α} (h : es[k]? = some e) {i : TI} {v : Value} (a : Nat) (ha : a + i.size ≤ sz) (hv : (vcells v).length = i.size)
    (he : enc e' = (enc e).take a ++ vcells v ++ (enc e).drop (a + i.size)) {off : Nat} (ho : off = k * sz + a) : wrv i (es.flatMap enc) off v = some ((es.set k e').flatMap enc) := by
  subst ho
  obtain ⟨P, R, h1, h2, h3⟩ := flat_split hsz h
  have hl : (enc e).length = sz := hsz e
  rw [wrv_mk hv (by rw [h2, List.length_append, List.length_append, h1, hl]; omega), h2, h3 e', he]
  congr 1
  rw [List.take_append, List.drop_append, List.take_append, List.drop_append, h1, hl]
  rw [List.take_of_length_le (by omega), show P.drop (k * sz + a + i.size) = [] from List.drop_eq_nil_of_le (by omega)]
  rw [show k * sz + a - k * sz = a from by omega, show k * sz + a + i.size - k * sz = a + i.size from by omega, show a - sz = 0 from by omega, show a + i.size - sz = 0 from by omega]
  simp
/-- A part of an element is read. -/
theorem rd_part {α : Type} {enc : α → List Value} {sz : Nat} (hsz : ∀ a, (enc a).length = sz) {es : List α} {k : Nat} {e : α} (h : es[k]? = some e) {i : TI} (a : Nat) {v : Value} (hv : rdv i (enc e) a = some v) (hi : a + i.size ≤ sz) {off : Nat} (ho : off = k * sz + a) (h1 : 0 < i.size) :
    rdv i (es.flatMap enc) off = some v := by
  subst ho
  obtain ⟨P, R, h2, h3, _⟩ := flat_split hsz h
  have hl : (enc e).length = sz := hsz e
  rw [h3]
  unfold rdv at hv ⊢
  simp only [dropN_eq, takeN_eq] at hv ⊢
  have e1 : (P ++ (enc e ++ R)).drop (k * sz + a) = (enc e).drop a ++ R := by
    rw [List.drop_append, h2, List.drop_eq_nil_of_le (by omega), show k * sz + a - k * sz = a from by omega, List.drop_append, hl, show a - sz = 0 from by omega]
    simp
  rw [e1]
  cases hd : aggD i.desc with
  | true =>
    rw [hd] at hv
    simp only at hv ⊢
    have hlen : i.size ≤ ((enc e).drop a).length := by rw [List.length_drop]; omega
    rw [if_pos hlen] at hv
    rw [if_pos (by rw [List.length_append]; omega), List.take_append_of_le_length hlen]
    exact hv
  | false =>
    rw [hd] at hv
    simp only at hv ⊢
    cases he : (enc e).drop a with
    | nil => rw [he] at hv; cases hv
    | cons x r => rw [he] at hv; simpa using hv
/-- The same where cells lie behind the elements. -/
theorem wr_encR {α : Type} {enc : α → List Value} {sz : Nat} (hsz : ∀ a, (enc a).length = sz) {es : List α} {k : Nat} {e e' : α} (h : es[k]? = some e) {i : TI} {v : Value} (a : Nat) (ha : a + i.size ≤ sz) (hv : (vcells v).length = i.size)
    (he : enc e' = (enc e).take a ++ vcells v ++ (enc e).drop (a + i.size)) {off : Nat} (ho : off = k * sz + a) (X : List Value) : wrv i (es.flatMap enc ++ X) off v = some ((es.set k e').flatMap enc ++ X) := by
  have h1 := wr_enc hsz h a ha hv he ho
  obtain ⟨g1, g2, g3⟩ := wrv_eq h1
  rw [wrv_mk hv (by rw [List.length_append]; omega), g3]
  congr 1
  rw [List.take_append_of_le_length (by omega), List.drop_append_of_le_length (by omega)]
  simp
theorem rd_partR {α : Type} {enc : α → List Value} {sz : Nat} (hsz : ∀ a, (enc a).length = sz) {es : List α} {k : Nat} {e : α} (h : es[k]? = some e) {i : TI} (a : Nat) {v : Value} (hv : rdv i (enc e) a = some v) (hi : a + i.size ≤ sz) {off : Nat} (ho : off = k * sz + a) (h1 : 0 < i.size) (X : List Value) :
    rdv i (es.flatMap enc ++ X) off = some v := by
  have h2 := rd_part hsz h a hv hi ho h1
  have hkl : k < es.length := (List.getElem?_eq_some_iff.1 h).1
  have hlen := flatE_len hsz es
  have hl3 : k * sz + sz ≤ es.length * sz := by
    have := Nat.mul_le_mul_right sz (show k + 1 ≤ es.length by omega)
    rw [Nat.add_mul] at this; omega
  unfold rdv at h2 ⊢
  simp only [dropN_eq, takeN_eq] at h2 ⊢
  rw [List.drop_append_of_le_length (by omega)]
  have hlen2 : i.size ≤ ((es.flatMap enc).drop off).length := by rw [List.length_drop]; omega
  cases hd : aggD i.desc with
  | true =>
    rw [hd] at h2
    simp only at h2 ⊢
    rw [if_pos hlen2] at h2
    rw [if_pos (by rw [List.length_append]; omega), List.take_append_of_le_length hlen2]
    exact h2
  | false =>
    rw [hd] at h2
    simp only at h2 ⊢
    cases hc : (es.flatMap enc).drop off with
    | nil => rw [hc] at h2; cases h2
    | cons x r => rw [hc] at h2; simpa using h2
theorem off_add (n m : Nat) : (bif Nat.beq n 0 then m else n + m) = n + m := by
  cases n with
  | zero => simp
  | succ n => rfl
end Go.Proofs.Ytmaheecbohbilaa.Sl
