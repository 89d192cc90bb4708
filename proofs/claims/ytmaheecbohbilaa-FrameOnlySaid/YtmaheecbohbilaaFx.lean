import Derived.Test.YtmaheecbohbilaaFl
namespace Go.Proofs.Ytmaheecbohbilaa.Sl
open Go Go.RowKit Go.Proofs
set_option linter.unusedVariables false
set_option linter.unusedSimpArgs false
/-! ### Numbers of 64 bits -/
theorem wN {a : Nat} (h : a < 2 ^ 64) : IntKind.u64.wrap (a : Int) = a := by
  rw [wrap_u64]; have : (2 : Nat) ^ 64 = 18446744073709551616 := rfl; omega
theorem oN {a : Nat} (h : a < 2 ^ 64) : (BitVec.ofInt 64 (a : Int)).toNat = a := by
  rw [BitVec.toNat_ofInt]; have : (2 : Nat) ^ 64 = 18446744073709551616 := rfl; omega
theorem and64 {a b : Nat} (ha : a < 2 ^ 64) (hb : b < 2 ^ 64) : IntKind.u64.wrap ((BitVec.ofInt IntKind.u64.bits (a : Int) &&& BitVec.ofInt IntKind.u64.bits (b : Int)).toNat : Int) = ((a &&& b : Nat) : Int) := by
  show IntKind.u64.wrap ((BitVec.ofInt 64 (a : Int) &&& BitVec.ofInt 64 (b : Int)).toNat : Int) = _
  rw [BitVec.toNat_and, oN ha, oN hb, wN (Nat.and_lt_two_pow _ hb)]
theorem or64 {a b : Nat} (ha : a < 2 ^ 64) (hb : b < 2 ^ 64) : IntKind.u64.wrap ((BitVec.ofInt IntKind.u64.bits (a : Int) ||| BitVec.ofInt IntKind.u64.bits (b : Int)).toNat : Int) = ((a ||| b : Nat) : Int) := by
  show IntKind.u64.wrap ((BitVec.ofInt 64 (a : Int) ||| BitVec.ofInt 64 (b : Int)).toNat : Int) = _
  rw [BitVec.toNat_or, oN ha, oN hb, wN (Nat.or_lt_two_pow ha hb)]
/-- a without the bits of b. -/
def andNotN (a b : Nat) : Nat := (BitVec.ofNat 64 a &&& ~~~BitVec.ofNat 64 b).toNat
theorem andNotN_lt (a b : Nat) : andNotN a b < 2 ^ 64 := BitVec.isLt _
theorem andNotN_bit {a b j : Nat} (hj : j < 64) : (andNotN a b).testBit j = (a.testBit j && !b.testBit j) := by
  unfold andNotN
  rw [← BitVec.getLsbD, BitVec.getLsbD_and, BitVec.getLsbD_not, BitVec.getLsbD_ofNat, BitVec.getLsbD_ofNat]
  simp [hj]
theorem oN' (a : Nat) : BitVec.ofInt 64 (a : Int) = BitVec.ofNat 64 a := by
  apply BitVec.eq_of_toNat_eq
  rw [BitVec.toNat_ofInt, BitVec.toNat_ofNat]
  have : (2 : Nat) ^ 64 = 18446744073709551616 := rfl
  omega
theorem andNot64 (a b : Nat) : IntKind.u64.wrap ((BitVec.ofInt IntKind.u64.bits (a : Int) &&& ~~~BitVec.ofInt IntKind.u64.bits (b : Int)).toNat : Int) = ((andNotN a b : Nat) : Int) := by
  show IntKind.u64.wrap ((BitVec.ofInt 64 (a : Int) &&& ~~~BitVec.ofInt 64 (b : Int)).toNat : Int) = _
  rw [oN', oN']
  exact wN (andNotN_lt a b)
theorem bits_n (r : Int) : ∃ n : Nat, 1 ≤ n ∧ n ≤ 63 ∧ bitsV r = n := by
  obtain ⟨a, b⟩ := bitsV_range r
  exact ⟨(bitsV r).toNat, by omega, by omega, by omega⟩
theorem ones_n {r : Int} {n : Nat} (h : bitsV r = n) (hn : n ≤ 63) : onesV r = ((2 ^ n - 1 : Nat) : Int) := by
  unfold onesV
  rw [h, Int.toNat_natCast]
  have hp : (2 : Nat) ^ n ≤ 2 ^ 63 := Nat.pow_le_pow_right (by omega) hn
  have hpos : 0 < (2 : Nat) ^ n := Nat.two_pow_pos n
  have e63 : (2 : Nat) ^ 63 = 9223372036854775808 := rfl
  have hm : min n IntKind.u64.bits = n := by show min n 64 = n; omega
  rw [hm]
  have e : ((2 : Int) ^ n) = ((2 ^ n : Nat) : Int) := by push_cast; rfl
  rw [e, wrap_u64, wrap_u64]
  omega
theorem fieldV_nat {v : Nat} (hv : v < 2 ^ 64) {r c k : Int} {n : Nat} (hb : bitsV r = n) (hn : n ≤ 63) (h0 : 0 ≤ k) (h1 : k < c) (h2 : k ≤ 64) : fieldV v r c k = ((v / 2 ^ (n * k.toNat) % 2 ^ n : Nat) : Int) := by
  unfold fieldV
  rw [if_neg (by omega), ones_n hb hn, hb]
  obtain ⟨k, rfl⟩ : ∃ k' : Nat, k = k' := ⟨k.toNat, by omega⟩
  rw [show ((n : Int) * (k : Int)).toNat = n * k by rw [← Int.natCast_mul]; rfl, Int.toNat_natCast]
  have e : ((v : Int).fdiv (2 ^ min (n * k) IntKind.u64.bits)) = ((v / 2 ^ (n * k) : Nat) : Int) := by
    show ((v : Int).fdiv (2 ^ min (n * k) 64)) = _
    have e1 : ((2 : Int) ^ min (n * k) 64) = ((2 ^ min (n * k) 64 : Nat) : Int) := by push_cast; rfl
    rw [e1, Int.fdiv_eq_ediv_of_nonneg _ (Int.natCast_nonneg _), ← Int.natCast_ediv]
    congr 1
    by_cases h : n * k ≤ 64
    · rw [Nat.min_eq_left h]
    · rw [Nat.min_eq_right (by omega), Nat.div_eq_of_lt hv, Nat.div_eq_of_lt]
      exact Nat.lt_of_lt_of_le hv (Nat.pow_le_pow_right (by omega) (by omega))
  have hlt : v / 2 ^ (n * k) < 2 ^ 64 := Nat.lt_of_le_of_lt (Nat.div_le_self _ _) hv
  have hlt2 : 2 ^ n - 1 < 2 ^ 64 := by
    have hp : (2 : Nat) ^ n ≤ 2 ^ 63 := Nat.pow_le_pow_right (by omega) hn
    have e63 : (2 : Nat) ^ 63 = 9223372036854775808 := rfl
    have e64 : (2 : Nat) ^ 64 = 18446744073709551616 := rfl
    omega
  rw [e, and64 hlt hlt2, Nat.and_two_pow_sub_one_eq_mod]
theorem fieldV_out {v r c k : Int} (h : k < 0 ∨ k ≥ c ∨ k > 64) : fieldV v r c k = 0 := by
  unfold fieldV; rw [if_pos h]
theorem ofInt_wrap (x : Int) : BitVec.ofInt 64 (IntKind.u64.wrap x) = BitVec.ofInt 64 x := by
  apply BitVec.eq_of_toNat_eq
  rw [BitVec.toNat_ofInt, BitVec.toNat_ofInt, wrap_u64]
  have : (2 : Nat) ^ 64 = 18446744073709551616 := rfl
  omega
theorem getLsb_ofNat {a j : Nat} (hj : j < 64) : (BitVec.ofNat 64 a).getLsbD j = a.testBit j := by
  rw [BitVec.getLsbD_ofNat]; simp [hj]
theorem testBit_mul_pow (a n j : Nat) : (a * 2 ^ n).testBit j = (decide (n ≤ j) && a.testBit (j - n)) := by
  rw [← Nat.shiftLeft_eq, Nat.testBit_shiftLeft]
theorem withV_nat {v x : Nat} (hv : v < 2 ^ 64) (hx : x < 2 ^ 64) {r c : Int} {k n : Nat} (hb : bitsV r = n) (hn : n ≤ 63) (h1 : (k : Int) < c) (h2 : k ≤ 64) :
    ∃ W : Nat, W < 2 ^ 64 ∧ withV v r c k x = W ∧ ∀ j, j < 64 → W.testBit j = if n * k ≤ j ∧ j < n * k + n then x.testBit (j - n * k) else v.testBit j := by
  have hlt2 : 2 ^ n - 1 < 2 ^ 64 := by
    have hp : (2 : Nat) ^ n ≤ 2 ^ 63 := Nat.pow_le_pow_right (by omega) hn
    have e63 : (2 : Nat) ^ 63 = 9223372036854775808 := rfl
    have e64 : (2 : Nat) ^ 64 = 18446744073709551616 := rfl
    omega
  refine ⟨((BitVec.ofNat 64 v &&& ~~~BitVec.ofNat 64 ((2 ^ n - 1) * 2 ^ min (n * k) 64)) ||| BitVec.ofNat 64 ((x &&& (2 ^ n - 1)) * 2 ^ min (n * k) 64)).toNat, BitVec.isLt _, ?_, ?_⟩
  · unfold withV
    rw [if_neg (by omega), ones_n hb hn, hb, show ((n : Int) * (k : Int)).toNat = n * k by rw [← Int.natCast_mul]; rfl, and64 hx hlt2]
    show IntKind.u64.wrap ((BitVec.ofInt 64 (IntKind.u64.wrap ((BitVec.ofInt 64 (v : Int) &&& ~~~BitVec.ofInt 64 (IntKind.u64.wrap (((2 ^ n - 1 : Nat) : Int) * 2 ^ min (n * k) 64))).toNat : Int)) ||| BitVec.ofInt 64 (IntKind.u64.wrap (((x &&& (2 ^ n - 1) : Nat) : Int) * 2 ^ min (n * k) 64))).toNat : Int) = _
    have e1 : ((2 : Int) ^ min (n * k) 64) = ((2 ^ min (n * k) 64 : Nat) : Int) := by push_cast; rfl
    rw [ofInt_wrap, ofInt_wrap, ofInt_wrap, e1, ← Int.natCast_mul, ← Int.natCast_mul, oN', oN', oN', oN']
    rw [BitVec.ofNat_toNat, BitVec.setWidth_eq]
    exact wN (BitVec.isLt _)
  · intro j hj
    rw [← BitVec.getLsbD, BitVec.getLsbD_or, BitVec.getLsbD_and, BitVec.getLsbD_not, getLsb_ofNat hj, getLsb_ofNat hj, getLsb_ofNat hj, testBit_mul_pow, testBit_mul_pow, Nat.testBit_and, Nat.testBit_two_pow_sub_one]
    by_cases hM : n * k ≤ 64
    · rw [Nat.min_eq_left hM]
      by_cases h3 : n * k ≤ j
      · by_cases h4 : j - n * k < n
        · rw [if_pos (by omega)]; simp [h3, h4]
        · rw [if_neg (by omega)]; simp [h3, h4, hj]
      · rw [if_neg (by omega)]; simp [h3, hj]
    · rw [Nat.min_eq_right (by omega), if_neg (by omega)]
      simp [show ¬ 64 ≤ j by omega, hj]
theorem withV_out {v r c k x : Int} (h : k < 0 ∨ k ≥ c ∨ k > 64) : withV v r c k x = v := by
  unfold withV; rw [if_pos h]
theorem shows_nat (l : Ln) (r : Int) : ∃ s : Nat, s < 2 ^ 64 ∧ showsV l r = s := by
  have e64 : (2 : Nat) ^ 64 = 18446744073709551616 := rfl
  have hw : ∀ x, ∃ s : Nat, s < 2 ^ 64 ∧ IntKind.u64.wrap x = s := fun x => ⟨(x % 18446744073709551616).toNat, by omega, by rw [wrap_u64]; omega⟩
  have hb : ∀ b, ∃ s : Nat, s < 2 ^ 64 ∧ b2 b = s := fun b => by cases b; exact ⟨0, by omega, rfl⟩; exact ⟨1, by omega, rfl⟩
  unfold showsV
  repeat (split; first | exact hw _ | exact hb _)
  exact ⟨0, by omega, rfl⟩
theorem rdK_some {first : Int} {es : List En} {r f c : Int} {k : Nat} {e : En} (h : atE first es (IntKind.i64.wrap (f + k)) = some e) : rdK first es r f c (k + 1) = withV (rdK first es r f c k) r c k (showsV e.1 r) := by
  show (match atE first es (IntKind.i64.wrap (f + k)) with
    | some e => withV (rdK first es r f c k) r c k (showsV e.1 r)
    | none => rdK first es r f c k) = _
  rw [h]
theorem rdK_none {first : Int} {es : List En} {r f c : Int} {k : Nat} (h : atE first es (IntKind.i64.wrap (f + k)) = none) : rdK first es r f c (k + 1) = rdK first es r f c k := by
  show (match atE first es (IntKind.i64.wrap (f + k)) with
    | some e => withV (rdK first es r f c k) r c k (showsV e.1 r)
    | none => rdK first es r f c k) = _
  rw [h]
/-- What a register shows, bit by bit. -/
theorem rdK_bit (first : Int) (es : List En) {r f c : Int} {n : Nat} (hb : bitsV r = n) (hn1 : 1 ≤ n) (hn : n ≤ 63) : ∀ m : Nat, (m : Int) ≤ c → ∃ W : Nat, W < 2 ^ 64 ∧ rdK first es r f c m = W ∧
    ∀ j, j < 64 → W.testBit j = (decide (j / n < m) && match atE first es (IntKind.i64.wrap (f + ((j / n : Nat) : Int))) with | some e => (showsV e.1 r).toNat.testBit (j % n) | none => false)
  | 0, _ => ⟨0, by decide, rfl, fun j hj => by simp⟩
  | m + 1, hm => by
    obtain ⟨W, hW, hr, hbit⟩ := rdK_bit first es (f := f) (c := c) hb hn1 hn m (by omega)
    have hdm : ∀ j : Nat, n * (j / n) + j % n = j ∧ j % n < n := fun j => ⟨Nat.div_add_mod j n, Nat.mod_lt _ (by omega)⟩
    have hin : ∀ j : Nat, (n * m ≤ j ∧ j < n * m + n) ↔ j / n = m := fun j => by
      obtain ⟨h1, h2⟩ := hdm j
      constructor
      · rintro ⟨h3, h4⟩
        rcases Nat.lt_trichotomy (j / n) m with h | h | h
        · have : n * (j / n + 1) ≤ n * m := Nat.mul_le_mul_left n h
          rw [Nat.mul_add] at this; omega
        · exact h
        · have : n * (m + 1) ≤ n * (j / n) := Nat.mul_le_mul_left n h
          rw [Nat.mul_add] at this; omega
      · intro h; rw [h] at h1; omega
    have hd64 : ∀ j, j < 64 → j / n < 64 := fun j hj => Nat.lt_of_le_of_lt (Nat.div_le_self _ _) hj
    cases ha : atE first es (IntKind.i64.wrap (f + m)) with
    | none =>
      rw [rdK_none ha]
      refine ⟨W, hW, hr, fun j hj => ?_⟩
      rw [hbit j hj]
      by_cases hq : j / n = m
      · rw [hq, ha]; simp
      · congr 1; simp; omega
    | some e =>
      obtain ⟨s, hs, he⟩ := shows_nat e.1 r
      rw [rdK_some ha, hr, he]
      by_cases hm64 : m ≤ 64
      · obtain ⟨W', h1, h2, h3⟩ := withV_nat hW hs (c := c) hb hn (k := m) (by omega) hm64
        refine ⟨W', h1, h2, fun j hj => ?_⟩
        rw [h3 j hj]
        by_cases hq : j / n = m
        · rw [if_pos ((hin j).2 hq), hq, ha]
          have : j - n * m = j % n := by have := hdm j; rw [hq] at this; omega
          simp [he, this]
        · rw [if_neg (fun h => hq ((hin j).1 h)), hbit j hj]
          congr 1; simp; omega
      · rw [withV_out (by omega)]
        refine ⟨W, hW, rfl, fun j hj => ?_⟩
        have := hd64 j hj
        rw [hbit j hj]
        congr 1; simp; omega
end Go.Proofs.Ytmaheecbohbilaa.Sl
