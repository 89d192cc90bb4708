import Derived.Test.YtmaheecbohbilaaFz
namespace Go.Proofs.Ytmaheecbohbilaa.Sl
open Go Go.RowKit Go.Proofs
set_option linter.unusedVariables false
set_option linter.unusedSimpArgs false
theorem eq64 {a b : Nat} (ha : a < 2 ^ 64) (hb : b < 2 ^ 64) (h : ∀ j, j < 64 → a.testBit j = b.testBit j) : a = b := by
  apply Nat.eq_of_testBit_eq
  intro j
  by_cases hj : j < 64
  · exact h j hj
  · have hp : (2 : Nat) ^ 64 ≤ 2 ^ j := Nat.pow_le_pow_right (by omega) (by omega)
    rw [Nat.testBit_lt_two_pow (Nat.lt_of_lt_of_le ha hp), Nat.testBit_lt_two_pow (Nat.lt_of_lt_of_le hb hp)]
def hasV (first : Int) (n : Nat) (id : Int) : Bool := decide (id ≥ first) && decide (id - first < n)
theorem hasV_at (first : Int) (es : List En) (id : Int) : hasV first es.length id = (atE first es id).isSome := by
  cases h : atE first es id with
  | none => exact atE_none h
  | some e => exact (atE_some h).2.2.2.2
/-- The bits of the interrupts that there are. -/
def thereN (first : Int) (n : Nat) (f : Int) : Nat → Nat
  | 0 => 0
  | k + 1 => thereN first n f k + if hasV first n (f + k) then 2 ^ k else 0
theorem there_lt (first : Int) (n : Nat) (f : Int) : ∀ k, thereN first n f k < 2 ^ k
  | 0 => Nat.lt_succ_self 0
  | k + 1 => by
    have := there_lt first n f k
    have e : (2 : Nat) ^ (k + 1) = 2 ^ k * 2 := rfl
    simp only [thereN]
    split <;> omega
theorem there_bit (first : Int) (n : Nat) (f : Int) : ∀ (k j : Nat), (thereN first n f k).testBit j = (decide (j < k) && hasV first n (f + j))
  | 0, j => by simp [thereN]
  | k + 1, j => by
    have hlt := there_lt first n f k
    simp only [thereN]
    by_cases h : hasV first n (f + k) = true
    · rw [if_pos h, Nat.add_comm]
      rcases Nat.lt_trichotomy j k with hj | hj | hj
      · rw [Nat.testBit_two_pow_add_gt hj, there_bit first n f k j]
        simp [hj, show j < k + 1 by omega]
      · subst hj
        rw [Nat.testBit_two_pow_add_eq, Nat.testBit_lt_two_pow hlt]
        simp [h]
      · have : 2 ^ k + thereN first n f k < 2 ^ j := by
          have h1 : (2 : Nat) ^ (k + 1) ≤ 2 ^ j := Nat.pow_le_pow_right (by omega) hj
          have h2 : (2 : Nat) ^ (k + 1) = 2 ^ k * 2 := rfl
          omega
        rw [Nat.testBit_lt_two_pow this]
        simp [show ¬ j < k + 1 by omega]
    · rw [if_neg h, Nat.add_zero, there_bit first n f k j]
      by_cases hj : j = k
      · subst hj; simp at h; simp [h]
      · congr 1; simp; omega
/-- Is it enabled? -/
def enAt (first : Int) (es : List En) (id : Int) : Bool := match atE first es id with
  | some e => e.1.2.1
  | none => false
theorem b2_nat (b : Bool) : (b2 b).toNat.testBit 0 = b := by cases b <;> rfl
theorem rd_enabled {first : Int} {es : List En} {r f : Int} (hr : r = 5 ∨ r = 6) (hf : ∀ k : Nat, k < 64 → IntKind.i64.wrap (f + k) = f + k) : ∃ W : Nat, W < 2 ^ 64 ∧ rdK first es r f 32 32 = W ∧ ∀ j, j < 64 → W.testBit j = (decide (j < 32) && enAt first es (f + j)) := by
  have hb : bitsV r = (1 : Nat) := by rcases hr with rfl | rfl <;> rfl
  obtain ⟨W, h1, h2, h3⟩ := rdK_bit first es (r := r) (f := f) (c := 32) hb (by omega) (by omega) 32 (by omega)
  refine ⟨W, h1, h2, fun j hj => ?_⟩
  rw [h3 j hj, Nat.div_one, Nat.mod_one, hf j hj]
  unfold enAt
  congr 1
  cases atE first es (f + j) with
  | none => rfl
  | some e =>
    have : showsV e.1 r = b2 e.1.2.1 := by rcases hr with rfl | rfl <;> rfl
    simp only [this, b2_nat]
theorem upd_en {id r x : Int} {e : En} (he : okE e) (hr : r = 5 ∨ r = 6) : (updE id r x e).1.1.2.1 = if r = 5 then e.1.2.1 || x == 1 else e.1.2.1 && x == 0 := by
  have hg := written_range (id := id) (r := r) (x := x) he (fun h => by omega)
  unfold updE
  split
  · rename_i h
    rcases hr with rfl | rfl
    · rw [if_pos rfl]
      have := congrArg (fun l : Ln => l.2.1) h
      exact this.symm
    · rw [if_neg (by decide)]
      have := congrArg (fun l : Ln => l.2.1) h
      exact this.symm
  · rcases hr with rfl | rfl <;> rfl
theorem field_testBit {v : Nat} (hv : v < 2 ^ 64) {r : Int} (hr : bitsV r = 1) {c : Int} {j : Nat} (hc : (j : Int) < c) (hj : j ≤ 64) : fieldV v r c j = b2 (v.testBit j) := by
  rw [fieldV_nat hv (n := 1) hr (by omega) (by omega) hc (by omega), Nat.one_mul, Int.toNat_natCast, Nat.testBit_eq_decide_div_mod_eq, Nat.pow_one]
  have : v / 2 ^ j % 2 = 0 ∨ v / 2 ^ j % 2 = 1 := by omega
  rcases this with h | h <;> rw [h] <;> rfl
theorem atE_wrK {first : Int} {es : List En} {r f c v : Int} {N : Nat} (hf : ∀ k : Nat, k < N → IntKind.i64.wrap (f + k) = f + k) {k : Nat} (hk : k < N) : atE first (wrK first es r f c v N).1 (f + k) = (atE first es (f + k)).map fun e => (updE (f + k) r (fieldV v r c k) e).1 := by
  cases h : atE first es (f + k) with
  | none =>
    have h2 := hasV_at first es (f + k)
    have h3 := hasV_at first (wrK first es r f c v N).1 (f + k)
    rw [wrK_len, h2, h] at h3
    cases h4 : atE first (wrK first es r f c v N).1 (f + k) with
    | none => rfl
    | some e => rw [h4] at h3; cases h3
  | some e =>
    obtain ⟨i, hi, he⟩ := atE_iff.1 h
    have := wrK_at (first := first) (r := r) (c := c) (v := v) hf N (Nat.le_refl _) i e he
    rw [if_pos (by omega), ← hi, show f + (k : Int) - f = (k : Int) by omega] at this
    exact atE_iff.2 ⟨i, hi, this⟩
theorem en_wrK {first : Int} {es : List En} {r f : Int} {v : Nat} (hok : okL es) (hv : v < 2 ^ 64) (hr : r = 5 ∨ r = 6) (hf : ∀ k : Nat, k < 64 → IntKind.i64.wrap (f + k) = f + k) {j : Nat} (hj : j < 32) :
    enAt first (wrK first es r f 32 v 32).1 (f + j) = if r = 5 then enAt first es (f + j) || ((atE first es (f + j)).isSome && v.testBit j) else enAt first es (f + j) && !v.testBit j := by
  have hb : bitsV r = 1 := by rcases hr with rfl | rfl <;> rfl
  unfold enAt
  rw [atE_wrK (fun k hk => hf k (by omega)) hj]
  cases h : atE first es (f + j) with
  | none => simp
  | some e =>
    obtain ⟨i, hi, he⟩ := atE_iff.1 h
    simp only [Option.map_some, Option.isSome_some, Bool.true_and]
    rw [upd_en (okL_at hok he) hr, field_testBit hv hb (by omega) (by omega)]
    cases v.testBit j <;> rfl
theorem sets_or {first : Int} {es : List En} {f : Int} {v : Nat} (hok : okL es) (hv : v < 2 ^ 64) (hf : ∀ k : Nat, k < 64 → IntKind.i64.wrap (f + k) = f + k) :
    ∃ was is : Nat, was < 2 ^ 64 ∧ is < 2 ^ 64 ∧ rdK first es 5 f 32 32 = was ∧ rdK first (wrK first es 5 f 32 v 32).1 5 f 32 32 = is ∧ is = was ||| (v &&& thereN first es.length f 32) := by
  obtain ⟨was, h1, h2, h3⟩ := rd_enabled (first := first) (es := es) (.inl rfl) hf
  obtain ⟨is, g1, g2, g3⟩ := rd_enabled (first := first) (es := (wrK first es 5 f 32 v 32).1) (.inl rfl) hf
  have ht : thereN first es.length f 32 < 2 ^ 64 := Nat.lt_trans (there_lt _ _ _ _) (by decide)
  refine ⟨was, is, h1, g1, h2, g2, eq64 g1 (Nat.or_lt_two_pow h1 (Nat.and_lt_two_pow _ ht)) fun j hj => ?_⟩
  rw [g3 j hj, Nat.testBit_or, Nat.testBit_and, h3 j hj, there_bit, hasV_at]
  by_cases h32 : j < 32
  · rw [en_wrK hok hv (.inl rfl) hf h32, if_pos rfl]
    simp only [h32, decide_true, Bool.true_and]
    cases enAt first es (f + j) <;> cases (atE first es (f + j)).isSome <;> cases v.testBit j <;> rfl
  · simp [h32]
theorem sets_andNot {first : Int} {es : List En} {f : Int} {v : Nat} (hok : okL es) (hv : v < 2 ^ 64) (hf : ∀ k : Nat, k < 64 → IntKind.i64.wrap (f + k) = f + k) {is : Nat} (hl : is < 2 ^ 64) (hi : rdK first es 5 f 32 32 = is) :
    rdK first (wrK first es 6 f 32 v 32).1 6 f 32 32 = ((andNotN is v : Nat) : Int) := by
  obtain ⟨w, h1, h2, h3⟩ := rd_enabled (first := first) (es := es) (.inl rfl) hf
  obtain ⟨z, g1, g2, g3⟩ := rd_enabled (first := first) (es := (wrK first es 6 f 32 v 32).1) (.inr rfl) hf
  obtain rfl : is = w := by rw [hi] at h2; omega
  rw [g2]
  congr 1
  refine eq64 g1 (andNotN_lt _ _) fun j hj => ?_
  rw [g3 j hj, andNotN_bit hj, h3 j hj]
  by_cases h32 : j < 32
  · rw [en_wrK hok hv (.inr rfl) hf h32, if_neg (by decide)]
    simp [h32]
  · simp [h32]
theorem sets_zero {first : Int} {es : List En} {r f : Int} (hr : r = 5 ∨ r = 6) (hf : ∀ k : Nat, k < 64 → IntKind.i64.wrap (f + k) = f + k) : wrK first es r f 32 0 32 = (es, 0) := by
  have hb : bitsV r = 1 := by rcases hr with rfl | rfl <;> rfl
  refine wrK_none (fun k hk => hf k (by omega)) (fun k e hk ha => ?_) 32 (Nat.le_refl _)
  have h0 : fieldV 0 r 32 k = 0 := by
    have := field_testBit (v := 0) (by decide) hb (c := 32) (j := k) (by omega) (by omega)
    simpa [b2] using this
  rw [h0]
  unfold updE
  rw [if_pos]
  rcases hr with rfl | rfl <;> (obtain ⟨⟨i, en, g, p⟩, tx⟩ := e; simp [writtenV])
end Go.Proofs.Ytmaheecbohbilaa.Sl
