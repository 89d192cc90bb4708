import Derived.Test.YtmaheecbohbilaaGa
namespace Go.Proofs.Ytmaheecbohbilaa.Sl
open Go Go.RowKit Go.Proofs
set_option linter.unusedVariables false
set_option linter.unusedSimpArgs false
attribute [local irreducible] CW Tri OW
set_option maxRecDepth 10000
/-- v, i bits of it from M on taken from x. -/
def outN (v x M i : Nat) : Nat := 2 ^ (M + i) * (v / 2 ^ (M + i)) + (2 ^ M * (x % 2 ^ i) + v % 2 ^ M)
theorem low_lt (v x M i : Nat) : 2 ^ M * (x % 2 ^ i) + v % 2 ^ M < 2 ^ (M + i) := by
  have h1 : v % 2 ^ M < 2 ^ M := Nat.mod_lt _ (Nat.two_pow_pos M)
  have h2 : x % 2 ^ i + 1 ≤ 2 ^ i := Nat.mod_lt _ (Nat.two_pow_pos i)
  have h3 := Nat.mul_le_mul_left (2 ^ M) h2
  rw [Nat.mul_add, Nat.mul_one, ← Nat.pow_add] at h3
  omega
theorem out_zero (v x M : Nat) : outN v x M 0 = v := by
  unfold outN
  rw [Nat.add_zero, Nat.pow_zero, Nat.mod_one, Nat.mul_zero, Nat.zero_add]
  exact Nat.div_add_mod v (2 ^ M)
theorem out_div (v x M i : Nat) : outN v x M i / 2 ^ (M + i) = v / 2 ^ (M + i) := by
  unfold outN
  rw [Nat.mul_add_div (Nat.two_pow_pos _), Nat.div_eq_of_lt (low_lt v x M i), Nat.add_zero]
theorem out_lt {v x M i : Nat} (hv : v < 2 ^ 64) (hi : M + i ≤ 64) : outN v x M i < 2 ^ 64 := by
  have h1 : v / 2 ^ (M + i) + 1 ≤ 2 ^ (64 - (M + i)) := by
    apply Nat.div_lt_of_lt_mul
    rw [← Nat.pow_add, show M + i + (64 - (M + i)) = 64 by omega]; exact hv
  have h2 := Nat.mul_le_mul_left (2 ^ (M + i)) h1
  rw [Nat.mul_add, Nat.mul_one, ← Nat.pow_add, show M + i + (64 - (M + i)) = 64 by omega] at h2
  have h3 := low_lt v x M i
  unfold outN
  omega
theorem out_step (v x M i : Nat) : outN v x M (i + 1) + 2 ^ (M + i) * (v / 2 ^ (M + i) % 2) = outN v x M i + 2 ^ (M + i) * (x / 2 ^ i % 2) := by
  unfold outN
  rw [mod_step x i, Nat.mul_add, ← Nat.mul_assoc, ← Nat.pow_add, show M + (i + 1) = M + i + 1 by omega]
  have e1 : 2 ^ (M + i + 1) * (v / 2 ^ (M + i + 1)) + 2 ^ (M + i) * (v / 2 ^ (M + i) % 2) = 2 ^ (M + i) * (v / 2 ^ (M + i)) := by
    rw [Nat.pow_succ, ← Nat.div_div_eq_div_mul, Nat.mul_assoc, ← Nat.mul_add, Nat.div_add_mod]
  omega
theorem out_bit {v x M i j : Nat} : (outN v x M i).testBit j = if M ≤ j ∧ j < M + i then x.testBit (j - M) else v.testBit j := by
  unfold outN
  rw [Nat.testBit_two_pow_mul_add _ (low_lt v x M i), Nat.testBit_two_pow_mul_add _ (Nat.mod_lt _ (Nat.two_pow_pos M))]
  by_cases h1 : j < M + i
  · rw [if_pos h1]
    by_cases h2 : j < M
    · rw [if_pos h2, if_neg (by omega), Nat.testBit_mod_two_pow]; simp [h2]
    · rw [if_neg h2, if_pos (by omega), Nat.testBit_mod_two_pow]; simp; omega
  · rw [if_neg h1, if_neg (by omega), Nat.testBit_div_two_pow]
    congr 1; omega
theorem out_with {v x : Nat} (hv : v < 2 ^ 64) (hx : x < 2 ^ 64) {r c : Int} {k n : Nat} (hb : bitsV r = n) (hn : n ≤ 63) (h1 : (k : Int) < c) (h2 : k ≤ 64) : withV v r c k x = ((outN v x (n * k) (min n (64 - n * k)) : Nat) : Int) := by
  obtain ⟨W, g1, g2, g3⟩ := withV_nat hv hx (c := c) hb hn h1 h2
  rw [g2]
  congr 1
  by_cases hM : n * k ≤ 64
  · refine eq64 g1 (out_lt hv (by omega)) fun j hj => ?_
    rw [g3 j hj, out_bit]
    by_cases h : n * k ≤ j ∧ j < n * k + n
    · rw [if_pos h, if_pos (by omega)]
    · rw [if_neg h, if_neg (by omega)]
  · rw [show min n (64 - n * k) = 0 by omega, out_zero]
    refine eq64 g1 hv fun j hj => ?_
    rw [g3 j hj, if_neg (by omega)]
theorem and64_1 {a : Nat} (h : a < 2 ^ 64) : IntKind.u64.wrap ((BitVec.ofInt IntKind.u64.bits (a : Int) &&& BitVec.ofInt IntKind.u64.bits 1).toNat : Int) = ((a % 2 : Nat) : Int) := by
  have := and64 (b := 1) h (by decide)
  rw [Nat.and_one_is_mod] at this
  exact this
set_option maxHeartbeats 4000000 in
/-- The document's setting of a part of a register. -/
theorem with38 (β : Base) {v x : Nat} (hv : v < 2 ^ 64) (hx : x < 2 ^ 64) (r f c k : Int) : Tri Try.prog β 38 [.int .u64 v, .agg #[.int .i64 r, .int .i64 f, .int .i64 c], .int .i64 k, .int .u64 x] [] (fun u L => u = .int .u64 (withV v r c k x) ∧ L = []) := by
  refine Tri.intro tt_ok Try.func38 rfl rfl Try.ntmps38 rfl fun F => ?_
  by_cases hk : k < 0 ∨ k ≥ c ∨ k > 64
  · rw [withV_out hk]
    (repeat' (first | refine CW.seq ?_ | refine CW.region tt_ok rfl ?_ | refine CW.block ?_ | refine CW.skip ?_ | refine SQ.nil ?_ | refine SQ.pures1 tt_ok rfl ?_ | refine SQ.pure1 tt_ok rfl ?_ | refine SQ.new _ _ rfl rfl (fun _ => ?_) | refine SQ.ldA tt_ok rfl rfl (by repeat (first | exact .h | exact .q | apply At.t)) (by rfl) ?_ | refine SQ.stA tt_ok rfl rfl (by repeat (first | apply Up.h | apply Up.t)) (by rfl) (by rfl) (by repeat (first | exact trivial | refine ⟨trivial, ?_⟩ | refine ⟨wk (by repeat (first | exact .h | exact .q | apply At.t)) (by rfl), ?_⟩)) ?_ | refine CW.cond_tt rfl ?_ | refine CW.cond_ff rfl ?_ | (refine SQ.callA rfl rfl (wide56 β _) (by repeat (first | exact .n | exact Rm.h | apply Tk.c | apply Rm.t)) ?_; rintro _ _ ⟨rfl, rfl⟩; refine ⟨(by repeat (first | exact trivial | refine ⟨trivial, ?_⟩ | refine ⟨wk (by repeat (first | exact .h | exact .q | apply At.t)) (by rfl), ?_⟩)), ?_⟩) | ((first | refine CW.cond rfl (fun hc => ?_) (fun hc => ?_) | refine SQ.gsplit rfl (fun hc => ?_) (fun hc => ?_)) <;> try (exfalso; simp_all; done))))
    all_goals simp only [decide_eq_true_eq, decide_eq_false_iff_not] at *
    all_goals (first
      | exact CW.ret (fin_ret rfl (Ent.dropAll _) ⟨rfl, rfl⟩)
      | (exfalso; omega))
  · obtain ⟨n, hn1, hn, hb⟩ := bits_n r
    obtain ⟨k, rfl⟩ : ∃ k' : Nat, k = k' := ⟨k.toNat, by omega⟩
    rw [out_with hv hx hb hn (by omega) (by omega)]
    have hmb : n * k ≤ 63 * 64 := Nat.mul_le_mul hn (by omega)
    have hm : IntKind.i64.wrap ((n : Int) * (k : Int)) = ((n * k : Nat) : Int) := by
      rw [← Int.natCast_mul, wrap_i64]; split <;> omega
    generalize n * k = M at hm hmb ⊢
    (repeat (first | refine CW.seq ?_ | refine CW.region tt_ok rfl ?_ | refine CW.block ?_ | refine CW.skip ?_ | refine SQ.nil ?_ | refine SQ.pures1 tt_ok rfl ?_ | refine SQ.pure1 tt_ok rfl ?_ | refine SQ.new _ _ rfl rfl (fun _ => ?_) | refine SQ.ldA tt_ok rfl rfl (by repeat (first | exact .h | exact .q | apply At.t)) (by rfl) ?_ | refine SQ.stA tt_ok rfl rfl (by repeat (first | apply Up.h | apply Up.t)) (by rfl) (by rfl) (by repeat (first | exact trivial | refine ⟨trivial, ?_⟩ | refine ⟨wk (by repeat (first | exact .h | exact .q | apply At.t)) (by rfl), ?_⟩)) ?_ | refine CW.cond_tt rfl ?_ | refine CW.cond_ff rfl ?_))
    rw [decide_eq_false (show ¬ (k : Int) ≥ c by omega)]
    (repeat (first | refine CW.seq ?_ | refine CW.region tt_ok rfl ?_ | refine CW.block ?_ | refine CW.skip ?_ | refine SQ.nil ?_ | refine SQ.pures1 tt_ok rfl ?_ | refine SQ.pure1 tt_ok rfl ?_ | refine SQ.new _ _ rfl rfl (fun _ => ?_) | refine SQ.ldA tt_ok rfl rfl (by repeat (first | exact .h | exact .q | apply At.t)) (by rfl) ?_ | refine SQ.stA tt_ok rfl rfl (by repeat (first | apply Up.h | apply Up.t)) (by rfl) (by rfl) (by repeat (first | exact trivial | refine ⟨trivial, ?_⟩ | refine ⟨wk (by repeat (first | exact .h | exact .q | apply At.t)) (by rfl), ?_⟩)) ?_ | refine CW.cond_tt rfl ?_ | refine CW.cond_ff rfl ?_))
    rw [decide_eq_false (show ¬ (k : Int) > 64 by omega)]
    (repeat (first | refine CW.seq ?_ | refine CW.region tt_ok rfl ?_ | refine CW.block ?_ | refine CW.skip ?_ | refine SQ.nil ?_ | refine SQ.pures1 tt_ok rfl ?_ | refine SQ.pure1 tt_ok rfl ?_ | refine SQ.new _ _ rfl rfl (fun _ => ?_) | refine SQ.ldA tt_ok rfl rfl (by repeat (first | exact .h | exact .q | apply At.t)) (by rfl) ?_ | refine SQ.stA tt_ok rfl rfl (by repeat (first | apply Up.h | apply Up.t)) (by rfl) (by rfl) (by repeat (first | exact trivial | refine ⟨trivial, ?_⟩ | refine ⟨wk (by repeat (first | exact .h | exact .q | apply At.t)) (by rfl), ?_⟩)) ?_ | refine CW.cond_tt rfl ?_ | refine CW.cond_ff rfl ?_))
    (refine SQ.callA rfl rfl (wide56 β r) (by repeat (first | exact .n | exact Rm.h | apply Tk.c | apply Rm.t)) ?_; rintro _ _ ⟨rfl, rfl⟩; refine ⟨(by repeat (first | exact trivial | refine ⟨trivial, ?_⟩ | refine ⟨wk (by repeat (first | exact .h | exact .q | apply At.t)) (by rfl), ?_⟩)), ?_⟩)
    rw [hb]
    (repeat (first | refine CW.seq ?_ | refine CW.region tt_ok rfl ?_ | refine CW.block ?_ | refine CW.skip ?_ | refine SQ.nil ?_ | refine SQ.pures1 tt_ok rfl ?_ | refine SQ.pure1 tt_ok rfl ?_ | refine SQ.new _ _ rfl rfl (fun _ => ?_) | refine SQ.ldA tt_ok rfl rfl (by repeat (first | exact .h | exact .q | apply At.t)) (by rfl) ?_ | refine SQ.stA tt_ok rfl rfl (by repeat (first | apply Up.h | apply Up.t)) (by rfl) (by rfl) (by repeat (first | exact trivial | refine ⟨trivial, ?_⟩ | refine ⟨wk (by repeat (first | exact .h | exact .q | apply At.t)) (by rfl), ?_⟩)) ?_ | refine CW.cond_tt rfl ?_ | refine CW.cond_ff rfl ?_))
    rename_i b5
    refine CW.loop (α := Nat) (fun i => i ≤ n) (fun i => [(11, .int .i64 i), (10, .int .u64 ((outN v x M (min i (64 - M)) : Nat) : Int)), (9, .int .i64 n), (2, .int .i64 k), (3, .int .u64 x)]) (fun _ => []) (fun i => n - i) 0 (by omega) ⟨rfl, by rw [Nat.zero_min, out_zero]; rfl, rfl, rfl, rfl, trivial⟩ (Ent.dropAll _) ?_
    intro i hi
    (repeat (first | refine CW.seq ?_ | refine CW.region tt_ok rfl ?_ | refine CW.block ?_ | refine CW.skip ?_ | refine SQ.nil ?_ | refine SQ.pures1 tt_ok rfl ?_ | refine SQ.pure1 tt_ok rfl ?_ | refine SQ.new _ _ rfl rfl (fun _ => ?_) | refine SQ.ldA tt_ok rfl rfl (by repeat (first | exact .h | exact .q | apply At.t)) (by rfl) ?_ | refine SQ.stA tt_ok rfl rfl (by repeat (first | apply Up.h | apply Up.t)) (by rfl) (by rfl) (by repeat (first | exact trivial | refine ⟨trivial, ?_⟩ | refine ⟨wk (by repeat (first | exact .h | exact .q | apply At.t)) (by rfl), ?_⟩)) ?_ | refine CW.cond_tt rfl ?_ | refine CW.cond_ff rfl ?_))
    by_cases e1 : (i : Int) < (n : Int)
    · have hw : IntKind.i64.wrap ((i : Int) + 1) = ((i + 1 : Nat) : Int) := by rw [wrap_i64]; split <;> omega
      have hs : IntKind.i64.wrap ((M : Int) + (i : Int)) = ((M + i : Nat) : Int) := by rw [wrap_i64]; split <;> omega
      rw [decide_eq_true e1]
      (repeat (first | refine CW.seq ?_ | refine CW.region tt_ok rfl ?_ | refine CW.block ?_ | refine CW.skip ?_ | refine SQ.nil ?_ | refine SQ.pures1 tt_ok rfl ?_ | refine SQ.pure1 tt_ok rfl ?_ | refine SQ.new _ _ rfl rfl (fun _ => ?_) | refine SQ.ldA tt_ok rfl rfl (by repeat (first | exact .h | exact .q | apply At.t)) (by rfl) ?_ | refine SQ.stA tt_ok rfl rfl (by repeat (first | apply Up.h | apply Up.t)) (by rfl) (by rfl) (by repeat (first | exact trivial | refine ⟨trivial, ?_⟩ | refine ⟨wk (by repeat (first | exact .h | exact .q | apply At.t)) (by rfl), ?_⟩)) ?_ | refine CW.cond_tt rfl ?_ | refine CW.cond_ff rfl ?_))
      rw [hm, hs]
      by_cases hq : ((M + i : Nat) : Int) ≥ 64
      · rw [decide_eq_true hq]
        (repeat (first | refine CW.seq ?_ | refine CW.region tt_ok rfl ?_ | refine CW.block ?_ | refine CW.skip ?_ | refine SQ.nil ?_ | refine SQ.pures1 tt_ok rfl ?_ | refine SQ.pure1 tt_ok rfl ?_ | refine SQ.new _ _ rfl rfl (fun _ => ?_) | refine SQ.ldA tt_ok rfl rfl (by repeat (first | exact .h | exact .q | apply At.t)) (by rfl) ?_ | refine SQ.stA tt_ok rfl rfl (by repeat (first | apply Up.h | apply Up.t)) (by rfl) (by rfl) (by repeat (first | exact trivial | refine ⟨trivial, ?_⟩ | refine ⟨wk (by repeat (first | exact .h | exact .q | apply At.t)) (by rfl), ?_⟩)) ?_ | refine CW.cond_tt rfl ?_ | refine CW.cond_ff rfl ?_))
        refine CW.exit ?_
        (repeat (first | refine CW.seq ?_ | refine CW.region tt_ok rfl ?_ | refine CW.block ?_ | refine CW.skip ?_ | refine SQ.nil ?_ | refine SQ.pures1 tt_ok rfl ?_ | refine SQ.pure1 tt_ok rfl ?_ | refine SQ.new _ _ rfl rfl (fun _ => ?_) | refine SQ.ldA tt_ok rfl rfl (by repeat (first | exact .h | exact .q | apply At.t)) (by rfl) ?_ | refine SQ.stA tt_ok rfl rfl (by repeat (first | apply Up.h | apply Up.t)) (by rfl) (by rfl) (by repeat (first | exact trivial | refine ⟨trivial, ?_⟩ | refine ⟨wk (by repeat (first | exact .h | exact .q | apply At.t)) (by rfl), ?_⟩)) ?_ | refine CW.cond_tt rfl ?_ | refine CW.cond_ff rfl ?_))
        exact ⟨i + 1, by omega, by omega, ⟨by rw [← hw]; rfl, by rw [show min (i + 1) (64 - M) = min i (64 - M) by omega]; rfl, rfl, rfl, rfl, trivial⟩, Ent.refl _⟩
      · rw [decide_eq_false hq]
        have hM : M + i < 64 := by omega
        rw [show min i (64 - M) = i by omega]
        have hnx : min (i + 1) (64 - M) = i + 1 := by omega
        have hol := out_lt (x := x) hv (show M + i ≤ 64 by omega)
        have hol2 := out_lt (x := x) hv (show M + (i + 1) ≤ 64 by omega)
        have hb1 := bit64 hol hM
        rw [out_div] at hb1
        have hb2 := bit64 hx (show i < 64 by omega)
        have hst := out_step v x M i
        have hpp : (2 : Nat) ^ (M + i) ≤ 2 ^ 63 := Nat.pow_le_pow_right (by omega) (by omega)
        have e63 : (2 : Nat) ^ 63 = 9223372036854775808 := rfl
        have e64 : (2 : Nat) ^ 64 = 18446744073709551616 := rfl
        have ep : ((2 : Int) ^ (M + i)) = ((2 ^ (M + i) : Nat) : Int) := by push_cast; rfl
        have hmin : min (M + i) IntKind.u64.bits = M + i := by show min (M + i) 64 = M + i; omega
        (repeat (first | refine CW.seq ?_ | refine CW.region tt_ok rfl ?_ | refine CW.block ?_ | refine CW.skip ?_ | refine SQ.nil ?_ | refine SQ.pures1 tt_ok rfl ?_ | refine SQ.pure1 tt_ok rfl ?_ | refine SQ.new _ _ rfl rfl (fun _ => ?_) | refine SQ.ldA tt_ok rfl rfl (by repeat (first | exact .h | exact .q | apply At.t)) (by rfl) ?_ | refine SQ.stA tt_ok rfl rfl (by repeat (first | apply Up.h | apply Up.t)) (by rfl) (by rfl) (by repeat (first | exact trivial | refine ⟨trivial, ?_⟩ | refine ⟨wk (by repeat (first | exact .h | exact .q | apply At.t)) (by rfl), ?_⟩)) ?_ | refine CW.cond_tt rfl ?_ | refine CW.cond_ff rfl ?_))
        rw [hb1]
        have h01 : v / 2 ^ (M + i) % 2 = 0 ∨ v / 2 ^ (M + i) % 2 = 1 := by omega
        have g01 : x / 2 ^ i % 2 = 0 ∨ x / 2 ^ i % 2 = 1 := by omega
        rcases h01 with h | h <;> rcases g01 with g | g
        all_goals rw [h] at hst ⊢
        all_goals rw [g] at hst hb2
        all_goals simp only [Nat.mul_zero, Nat.mul_one, Nat.add_zero] at hst
        all_goals (repeat (first | refine CW.seq ?_ | refine CW.region tt_ok rfl ?_ | refine CW.block ?_ | refine CW.skip ?_ | refine SQ.nil ?_ | refine SQ.pures1 tt_ok rfl ?_ | refine SQ.pure1 tt_ok rfl ?_ | refine SQ.new _ _ rfl rfl (fun _ => ?_) | refine SQ.ldA tt_ok rfl rfl (by repeat (first | exact .h | exact .q | apply At.t)) (by rfl) ?_ | refine SQ.stA tt_ok rfl rfl (by repeat (first | apply Up.h | apply Up.t)) (by rfl) (by rfl) (by repeat (first | exact trivial | refine ⟨trivial, ?_⟩ | refine ⟨wk (by repeat (first | exact .h | exact .q | apply At.t)) (by rfl), ?_⟩)) ?_ | refine CW.cond_tt rfl ?_ | refine CW.cond_ff rfl ?_))
        all_goals try rw [hb2]
        all_goals (repeat (first | refine CW.seq ?_ | refine CW.region tt_ok rfl ?_ | refine CW.block ?_ | refine CW.skip ?_ | refine SQ.nil ?_ | refine SQ.pures1 tt_ok rfl ?_ | refine SQ.pure1 tt_ok rfl ?_ | refine SQ.new _ _ rfl rfl (fun _ => ?_) | refine SQ.ldA tt_ok rfl rfl (by repeat (first | exact .h | exact .q | apply At.t)) (by rfl) ?_ | refine SQ.stA tt_ok rfl rfl (by repeat (first | apply Up.h | apply Up.t)) (by rfl) (by rfl) (by repeat (first | exact trivial | refine ⟨trivial, ?_⟩ | refine ⟨wk (by repeat (first | exact .h | exact .q | apply At.t)) (by rfl), ?_⟩)) ?_ | refine CW.cond_tt rfl ?_ | refine CW.cond_ff rfl ?_))
        all_goals try rw [hb2]
        all_goals (repeat (first | refine CW.seq ?_ | refine CW.region tt_ok rfl ?_ | refine CW.block ?_ | refine CW.skip ?_ | refine SQ.nil ?_ | refine SQ.pures1 tt_ok rfl ?_ | refine SQ.pure1 tt_ok rfl ?_ | refine SQ.new _ _ rfl rfl (fun _ => ?_) | refine SQ.ldA tt_ok rfl rfl (by repeat (first | exact .h | exact .q | apply At.t)) (by rfl) ?_ | refine SQ.stA tt_ok rfl rfl (by repeat (first | apply Up.h | apply Up.t)) (by rfl) (by rfl) (by repeat (first | exact trivial | refine ⟨trivial, ?_⟩ | refine ⟨wk (by repeat (first | exact .h | exact .q | apply At.t)) (by rfl), ?_⟩)) ?_ | refine CW.cond_tt rfl ?_ | refine CW.cond_ff rfl ?_))
        · exact ⟨i + 1, by omega, by omega, ⟨by rw [← hw]; rfl, by rw [hnx, hst]; rfl, rfl, rfl, rfl, trivial⟩, Ent.refl _⟩
        · have hv2 : IntKind.u64.wrap (((outN v x M i : Nat) : Int) + IntKind.u64.wrap (1 * 2 ^ min (M + i) IntKind.u64.bits)) = ((outN v x M (i + 1) : Nat) : Int) := by
            rw [hmin, ep, wrap_u64, wrap_u64]; omega
          exact ⟨i + 1, by omega, by omega, ⟨by rw [← hw]; rfl, by rw [hnx, ← hv2]; rfl, rfl, rfl, rfl, trivial⟩, Ent.refl _⟩
        · have hv2 : IntKind.u64.wrap (((outN v x M i : Nat) : Int) - IntKind.u64.wrap (1 * 2 ^ min (M + i) IntKind.u64.bits)) = ((outN v x M (i + 1) : Nat) : Int) := by
            rw [hmin, ep, wrap_u64, wrap_u64]; omega
          exact ⟨i + 1, by omega, by omega, ⟨by rw [← hw]; rfl, by rw [hnx, ← hv2]; rfl, rfl, rfl, rfl, trivial⟩, Ent.refl _⟩
        · exact ⟨i + 1, by omega, by omega, ⟨by rw [← hw]; rfl, by rw [hnx, show outN v x M (i + 1) = outN v x M i by omega]; rfl, rfl, rfl, rfl, trivial⟩, Ent.refl _⟩
    · rw [decide_eq_false e1]
      (repeat (first | refine CW.seq ?_ | refine CW.region tt_ok rfl ?_ | refine CW.block ?_ | refine CW.skip ?_ | refine SQ.nil ?_ | refine SQ.pures1 tt_ok rfl ?_ | refine SQ.pure1 tt_ok rfl ?_ | refine SQ.new _ _ rfl rfl (fun _ => ?_) | refine SQ.ldA tt_ok rfl rfl (by repeat (first | exact .h | exact .q | apply At.t)) (by rfl) ?_ | refine SQ.stA tt_ok rfl rfl (by repeat (first | apply Up.h | apply Up.t)) (by rfl) (by rfl) (by repeat (first | exact trivial | refine ⟨trivial, ?_⟩ | refine ⟨wk (by repeat (first | exact .h | exact .q | apply At.t)) (by rfl), ?_⟩)) ?_ | refine CW.cond_tt rfl ?_ | refine CW.cond_ff rfl ?_))
      refine CW.exit ?_
      (repeat (first | refine CW.seq ?_ | refine CW.region tt_ok rfl ?_ | refine CW.block ?_ | refine CW.skip ?_ | refine SQ.nil ?_ | refine SQ.pures1 tt_ok rfl ?_ | refine SQ.pure1 tt_ok rfl ?_ | refine SQ.new _ _ rfl rfl (fun _ => ?_) | refine SQ.ldA tt_ok rfl rfl (by repeat (first | exact .h | exact .q | apply At.t)) (by rfl) ?_ | refine SQ.stA tt_ok rfl rfl (by repeat (first | apply Up.h | apply Up.t)) (by rfl) (by rfl) (by repeat (first | exact trivial | refine ⟨trivial, ?_⟩ | refine ⟨wk (by repeat (first | exact .h | exact .q | apply At.t)) (by rfl), ?_⟩)) ?_ | refine CW.cond_tt rfl ?_ | refine CW.cond_ff rfl ?_))
      have : i = n := by omega
      subst this
      exact CW.ret (fin_ret rfl (Ent.dropAll _) ⟨rfl, rfl⟩)
end Go.Proofs.Ytmaheecbohbilaa.Sl
