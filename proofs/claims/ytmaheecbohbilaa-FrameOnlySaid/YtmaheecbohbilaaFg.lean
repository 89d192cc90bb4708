import Derived.Test.YtmaheecbohbilaaFf
import Derived.Test.YtmaheecbohbilaaL4
namespace Go.Proofs.Ytmaheecbohbilaa.Sl
open Go Go.RowKit Go.Proofs
set_option linter.unusedVariables false
set_option linter.unusedSimpArgs false
attribute [local irreducible] CW Tri OW
set_option maxRecDepth 10000
@[reducible] def pl29_0 : Plan := [(0, 0, []), (1, 0, []), (2, 0, []), (3, 0, []), (4, 0, []), (5, 0, []), (6, 0, []), (7, 0, []), (8, 0, []), (9, 0, [])]
@[reducible] def pl26_0 : Plan := [(0, 0, []), (1, 0, []), (2, 0, []), (3, 0, []), (4, 0, []), (5, 0, []), (6, 0, []), (7, 0, []), (8, 0, []), (9, 0, []), (10, 0, []), (11, 0, []), (12, 0, []), (13, 0, []), (14, 0, []), (15, 0, [])]
theorem bitsV_range (r : Int) : 1 ≤ bitsV r ∧ bitsV r ≤ 63 := by unfold bitsV; split <;> (try split) <;> (try split) <;> omega
theorem mul_ok {r k : Int} (h0 : 0 ≤ k) (h1 : k ≤ 64) : IntKind.i64.wrap (bitsV r * k) = ((bitsV r * k).toNat : Int) := by
  obtain ⟨a, b⟩ := bitsV_range r
  have h2 : 0 ≤ bitsV r * k := Int.mul_nonneg (by omega) h0
  have h3 : bitsV r * k ≤ 63 * 64 := Int.mul_le_mul b h1 h0 (by omega)
  rw [wrap_i64]; split <;> omega
theorem bits_ok (r : Int) : bitsV r = ((bitsV r).toNat : Int) := by have := bitsV_range r; omega
/-- The bits of one. -/
def onesV (r : Int) : Int := IntKind.u64.wrap (IntKind.u64.wrap (1 * 2 ^ min (bitsV r).toNat IntKind.u64.bits) - 1)
def fieldV (v r c k : Int) : Int := if k < 0 ∨ k ≥ c ∨ k > 64 then 0 else IntKind.u64.wrap (BitVec.ofInt IntKind.u64.bits (v.fdiv (2 ^ min (bitsV r * k).toNat IntKind.u64.bits)) &&& BitVec.ofInt IntKind.u64.bits (onesV r)).toNat
theorem field29 (β : Base) (v r f c k : Int) : Tri Try.prog β 29 [.int .u64 v, .agg #[.int .i64 r, .int .i64 f, .int .i64 c], .int .i64 k] [] (fun u L => u = .int .u64 (fieldV v r c k) ∧ L = []) := by
  refine Tri.intro tt_ok Try.func29 rfl rfl Try.ntmps29 rfl fun F => ?_
  (repeat' (first | refine CW.seq ?_ | refine CW.region tt_ok rfl ?_ | refine CW.regionD tt_ok (by kernel_rfl) pl29_0 (by decide +kernel) ?_ | refine CW.block ?_ | refine CW.skip ?_ | refine SQ.nil ?_ | refine SQ.pures1 tt_ok rfl ?_ | refine SQ.pure1 tt_ok rfl ?_ | refine SQ.new _ _ rfl rfl (fun _ => ?_) | refine SQ.ldA tt_ok rfl rfl (by repeat (first | exact .h | exact .q | apply At.t)) (by rfl) ?_ | refine SQ.stA tt_ok rfl rfl (by repeat (first | apply Up.h | apply Up.t)) (by rfl) (by rfl) (by repeat (first | exact trivial | refine ⟨trivial, ?_⟩ | refine ⟨wk (by repeat (first | exact .h | exact .q | apply At.t)) (by rfl), ?_⟩)) ?_ | refine CW.cond_tt rfl ?_ | refine CW.cond_ff rfl ?_ | (refine SQ.callA rfl rfl (bits45 β _ _ _) (by repeat (first | exact .n | exact Rm.h | apply Tk.c | apply Rm.t)) ?_; rintro _ _ ⟨rfl, rfl⟩; refine ⟨(by repeat (first | exact trivial | refine ⟨trivial, ?_⟩ | refine ⟨wk (by repeat (first | exact .h | exact .q | apply At.t)) (by rfl), ?_⟩)), ?_⟩) | ((first | refine CW.cond rfl (fun hc => ?_) (fun hc => ?_) | refine SQ.gsplit rfl (fun hc => ?_) (fun hc => ?_)) <;> try (exfalso; simp_all; done))))
  all_goals simp only [decide_eq_true_eq, decide_eq_false_iff_not] at *
  all_goals (first
    | (refine CW.ret (fin_ret rfl (Ent.dropAll _) ⟨?_, rfl⟩)
       unfold fieldV
       rw [if_pos (show k < 0 ∨ k ≥ c ∨ k > 64 by omega)]
       rfl)
    | (refine SQ.shift tt_ok rfl rfl (bitsV r * k).toNat (mul_ok (by omega) (by omega)) rfl ?_
       (repeat (first | refine CW.seq ?_ | refine CW.region tt_ok rfl ?_ | refine CW.regionD tt_ok (by kernel_rfl) pl29_0 (by decide +kernel) ?_ | refine CW.block ?_ | refine CW.skip ?_ | refine SQ.nil ?_ | refine SQ.pures1 tt_ok rfl ?_ | refine SQ.pure1 tt_ok rfl ?_ | refine SQ.new _ _ rfl rfl (fun _ => ?_) | refine SQ.ldA tt_ok rfl rfl (by repeat (first | exact .h | exact .q | apply At.t)) (by rfl) ?_ | refine SQ.stA tt_ok rfl rfl (by repeat (first | apply Up.h | apply Up.t)) (by rfl) (by rfl) (by repeat (first | exact trivial | refine ⟨trivial, ?_⟩ | refine ⟨wk (by repeat (first | exact .h | exact .q | apply At.t)) (by rfl), ?_⟩)) ?_ | refine CW.cond_tt rfl ?_ | refine CW.cond_ff rfl ?_))
       refine SQ.shift tt_ok rfl rfl (bitsV r).toNat (bits_ok r) rfl ?_
       (repeat (first | refine CW.seq ?_ | refine CW.region tt_ok rfl ?_ | refine CW.regionD tt_ok (by kernel_rfl) pl29_0 (by decide +kernel) ?_ | refine CW.block ?_ | refine CW.skip ?_ | refine SQ.nil ?_ | refine SQ.pures1 tt_ok rfl ?_ | refine SQ.pure1 tt_ok rfl ?_ | refine SQ.new _ _ rfl rfl (fun _ => ?_) | refine SQ.ldA tt_ok rfl rfl (by repeat (first | exact .h | exact .q | apply At.t)) (by rfl) ?_ | refine SQ.stA tt_ok rfl rfl (by repeat (first | apply Up.h | apply Up.t)) (by rfl) (by rfl) (by repeat (first | exact trivial | refine ⟨trivial, ?_⟩ | refine ⟨wk (by repeat (first | exact .h | exact .q | apply At.t)) (by rfl), ?_⟩)) ?_ | refine CW.cond_tt rfl ?_ | refine CW.cond_ff rfl ?_))
       refine CW.ret (fin_ret rfl (Ent.dropAll _) ⟨?_, rfl⟩)
       unfold fieldV
       rw [if_neg (show ¬ (k < 0 ∨ k ≥ c ∨ k > 64) by omega)]
       rfl))
def withV (v r c k x : Int) : Int := if k < 0 ∨ k ≥ c ∨ k > 64 then v else
  IntKind.u64.wrap (BitVec.ofInt IntKind.u64.bits (IntKind.u64.wrap (BitVec.ofInt IntKind.u64.bits v &&& ~~~BitVec.ofInt IntKind.u64.bits (IntKind.u64.wrap (onesV r * 2 ^ min (bitsV r * k).toNat IntKind.u64.bits))).toNat) |||
    BitVec.ofInt IntKind.u64.bits (IntKind.u64.wrap (IntKind.u64.wrap (BitVec.ofInt IntKind.u64.bits x &&& BitVec.ofInt IntKind.u64.bits (onesV r)).toNat * 2 ^ min (bitsV r * k).toNat IntKind.u64.bits))).toNat
theorem with26 (β : Base) (v r f c k x : Int) : Tri Try.prog β 26 [.int .u64 v, .agg #[.int .i64 r, .int .i64 f, .int .i64 c], .int .i64 k, .int .u64 x] [] (fun u L => u = .int .u64 (withV v r c k x) ∧ L = []) := by
  refine Tri.intro tt_ok Try.func26 rfl rfl Try.ntmps26 rfl fun F => ?_
  (repeat' (first | refine CW.seq ?_ | refine CW.region tt_ok rfl ?_ | refine CW.regionD tt_ok (by kernel_rfl) pl26_0 (by decide +kernel) ?_ | refine CW.block ?_ | refine CW.skip ?_ | refine SQ.nil ?_ | refine SQ.pures1 tt_ok rfl ?_ | refine SQ.pure1 tt_ok rfl ?_ | refine SQ.new _ _ rfl rfl (fun _ => ?_) | refine SQ.ldA tt_ok rfl rfl (by repeat (first | exact .h | exact .q | apply At.t)) (by rfl) ?_ | refine SQ.stA tt_ok rfl rfl (by repeat (first | apply Up.h | apply Up.t)) (by rfl) (by rfl) (by repeat (first | exact trivial | refine ⟨trivial, ?_⟩ | refine ⟨wk (by repeat (first | exact .h | exact .q | apply At.t)) (by rfl), ?_⟩)) ?_ | refine CW.cond_tt rfl ?_ | refine CW.cond_ff rfl ?_ | (refine SQ.callA rfl rfl (bits45 β _ _ _) (by repeat (first | exact .n | exact Rm.h | apply Tk.c | apply Rm.t)) ?_; rintro _ _ ⟨rfl, rfl⟩; refine ⟨(by repeat (first | exact trivial | refine ⟨trivial, ?_⟩ | refine ⟨wk (by repeat (first | exact .h | exact .q | apply At.t)) (by rfl), ?_⟩)), ?_⟩) | ((first | refine CW.cond rfl (fun hc => ?_) (fun hc => ?_) | refine SQ.gsplit rfl (fun hc => ?_) (fun hc => ?_)) <;> try (exfalso; simp_all; done))))
  all_goals simp only [decide_eq_true_eq, decide_eq_false_iff_not] at *
  all_goals (first
    | (refine CW.ret (fin_ret rfl (Ent.dropAll _) ⟨?_, rfl⟩)
       unfold withV
       rw [if_pos (show k < 0 ∨ k ≥ c ∨ k > 64 by omega)]
       rfl)
    | (refine SQ.shift tt_ok rfl rfl (bitsV r).toNat (bits_ok r) rfl ?_
       (repeat (first | refine CW.seq ?_ | refine CW.region tt_ok rfl ?_ | refine CW.regionD tt_ok (by kernel_rfl) pl26_0 (by decide +kernel) ?_ | refine CW.block ?_ | refine CW.skip ?_ | refine SQ.nil ?_ | refine SQ.pures1 tt_ok rfl ?_ | refine SQ.pure1 tt_ok rfl ?_ | refine SQ.new _ _ rfl rfl (fun _ => ?_) | refine SQ.ldA tt_ok rfl rfl (by repeat (first | exact .h | exact .q | apply At.t)) (by rfl) ?_ | refine SQ.stA tt_ok rfl rfl (by repeat (first | apply Up.h | apply Up.t)) (by rfl) (by rfl) (by repeat (first | exact trivial | refine ⟨trivial, ?_⟩ | refine ⟨wk (by repeat (first | exact .h | exact .q | apply At.t)) (by rfl), ?_⟩)) ?_ | refine CW.cond_tt rfl ?_ | refine CW.cond_ff rfl ?_))
       refine SQ.shift tt_ok rfl rfl (bitsV r * k).toNat (mul_ok (by omega) (by omega)) rfl ?_
       (repeat (first | refine CW.seq ?_ | refine CW.region tt_ok rfl ?_ | refine CW.regionD tt_ok (by kernel_rfl) pl26_0 (by decide +kernel) ?_ | refine CW.block ?_ | refine CW.skip ?_ | refine SQ.nil ?_ | refine SQ.pures1 tt_ok rfl ?_ | refine SQ.pure1 tt_ok rfl ?_ | refine SQ.new _ _ rfl rfl (fun _ => ?_) | refine SQ.ldA tt_ok rfl rfl (by repeat (first | exact .h | exact .q | apply At.t)) (by rfl) ?_ | refine SQ.stA tt_ok rfl rfl (by repeat (first | apply Up.h | apply Up.t)) (by rfl) (by rfl) (by repeat (first | exact trivial | refine ⟨trivial, ?_⟩ | refine ⟨wk (by repeat (first | exact .h | exact .q | apply At.t)) (by rfl), ?_⟩)) ?_ | refine CW.cond_tt rfl ?_ | refine CW.cond_ff rfl ?_))
       refine SQ.shift tt_ok rfl rfl (bitsV r * k).toNat (mul_ok (by omega) (by omega)) rfl ?_
       (repeat (first | refine CW.seq ?_ | refine CW.region tt_ok rfl ?_ | refine CW.regionD tt_ok (by kernel_rfl) pl26_0 (by decide +kernel) ?_ | refine CW.block ?_ | refine CW.skip ?_ | refine SQ.nil ?_ | refine SQ.pures1 tt_ok rfl ?_ | refine SQ.pure1 tt_ok rfl ?_ | refine SQ.new _ _ rfl rfl (fun _ => ?_) | refine SQ.ldA tt_ok rfl rfl (by repeat (first | exact .h | exact .q | apply At.t)) (by rfl) ?_ | refine SQ.stA tt_ok rfl rfl (by repeat (first | apply Up.h | apply Up.t)) (by rfl) (by rfl) (by repeat (first | exact trivial | refine ⟨trivial, ?_⟩ | refine ⟨wk (by repeat (first | exact .h | exact .q | apply At.t)) (by rfl), ?_⟩)) ?_ | refine CW.cond_tt rfl ?_ | refine CW.cond_ff rfl ?_))
       refine CW.ret (fin_ret rfl (Ent.dropAll _) ⟨?_, rfl⟩)
       unfold withV
       rw [if_neg (show ¬ (k < 0 ∨ k ≥ c ∨ k > 64) by omega)]
       rfl))
/-- The numbers of a place. -/
def cntV (c : Int) : Nat := (max 0 (min c 16384)).toNat
def idsV (f : Int) : Nat → List Int
  | 0 => []
  | k + 1 => idsV f k ++ [IntKind.i64.wrap (f + k)]
theorem idsV_pre {f : Int} : ∀ {k n : Nat}, k ≤ n → idsV f k <+: idsV f n
  | k, 0, h => by
    have : k = 0 := by omega
    subst this; exact List.prefix_refl _
  | k, n + 1, h => by
    by_cases e : k = n + 1
    · subst e; exact List.prefix_refl _
    · exact (idsV_pre (by omega)).trans (List.prefix_append _ _)
theorem iter44 (β : Base) (r f c : Int) (b1 : Nat) : Iter Try.prog β 44 [.pointer (some ⟨b1, 0, none⟩)] [pt b1 [.int .i64 r, .int .i64 f, .int .i64 c]] (fun x => [Value.int .i64 x]) (idsV f (cntV c)) := by
  intro l J Jx hY
  refine Tri.intro tt_ok Try.func44 rfl rfl Try.ntmps44 rfl fun F => ?_
  (repeat (first | refine CW.seq ?_ | refine CW.region tt_ok rfl ?_ | refine CW.block ?_ | refine CW.skip ?_ | refine SQ.nil ?_ | refine SQ.pures1 tt_ok rfl ?_ | refine SQ.pure1 tt_ok rfl ?_ | refine SQ.new _ _ rfl rfl (fun _ => ?_) | refine SQ.ldA tt_ok rfl rfl (by repeat (first | exact .h | exact .q | apply At.t)) (by rfl) ?_ | refine SQ.stA tt_ok rfl rfl (by repeat (first | apply Up.h | apply Up.t)) (by rfl) (by rfl) (by exact trivial) ?_ | refine CW.cond_tt rfl ?_ | refine CW.cond_ff rfl ?_))
  have hm : (if (0 : Int) < (if (16384 : Int) < c then 16384 else c) then (if (16384 : Int) < c then 16384 else c) else 0) = ((cntV c : Nat) : Int) := by
    unfold cntV; split <;> split <;> omega
  have hle : cntV c ≤ 16384 := by unfold cntV; omega
  rw [hm]
  generalize cntV c = n at hle hY ⊢
  refine CW.loop (α := Nat) (fun k => k ≤ n) (fun k => [(8, .int .i64 k), (7, .int .i64 n), (0, .func (.yield l) #[] #[]), (1, .pointer (some ⟨b1, 0, none⟩))])
    (fun k => [J (idsV f k), pt b1 [.int .i64 r, .int .i64 f, .int .i64 c]]) (fun k => n - k) 0 (by omega) ⟨rfl, rfl, rfl, rfl, trivial⟩ (Ent.refl _) ?_
  intro k hk
  (repeat (first | refine CW.seq ?_ | refine CW.region tt_ok rfl ?_ | refine CW.block ?_ | refine CW.skip ?_ | refine SQ.nil ?_ | refine SQ.pures1 tt_ok rfl ?_ | refine SQ.pure1 tt_ok rfl ?_ | refine SQ.new _ _ rfl rfl (fun _ => ?_) | refine SQ.ldA tt_ok rfl rfl (by repeat (first | exact .h | exact .q | apply At.t)) (by rfl) ?_ | refine SQ.stA tt_ok rfl rfl (by repeat (first | apply Up.h | apply Up.t)) (by rfl) (by rfl) (by exact trivial) ?_ | refine CW.cond_tt rfl ?_ | refine CW.cond_ff rfl ?_))
  generalize e1 : decide ((k : Int) < (n : Int)) = cc
  cases cc
  · (repeat (first | refine CW.seq ?_ | refine CW.region tt_ok rfl ?_ | refine CW.block ?_ | refine CW.skip ?_ | refine SQ.nil ?_ | refine SQ.pures1 tt_ok rfl ?_ | refine SQ.pure1 tt_ok rfl ?_ | refine SQ.new _ _ rfl rfl (fun _ => ?_) | refine SQ.ldA tt_ok rfl rfl (by repeat (first | exact .h | exact .q | apply At.t)) (by rfl) ?_ | refine SQ.stA tt_ok rfl rfl (by repeat (first | apply Up.h | apply Up.t)) (by rfl) (by rfl) (by exact trivial) ?_ | refine CW.cond_tt rfl ?_ | refine CW.cond_ff rfl ?_))
    refine CW.exit ?_
    have : k = n := by simp at e1; omega
    subst this
    exact fin_normal rfl (Ent.refl _) (.inl rfl)
  · have hlt : k < n := by simp at e1; omega
    have hw : IntKind.i64.wrap ((k : Int) + 1) = ((k + 1 : Nat) : Int) := by rw [wrap_i64]; split <;> omega
    (repeat (first | refine CW.seq ?_ | refine CW.region tt_ok rfl ?_ | refine CW.block ?_ | refine CW.skip ?_ | refine SQ.nil ?_ | refine SQ.pures1 tt_ok rfl ?_ | refine SQ.pure1 tt_ok rfl ?_ | refine SQ.new _ _ rfl rfl (fun _ => ?_) | refine SQ.ldA tt_ok rfl rfl (by repeat (first | exact .h | exact .q | apply At.t)) (by rfl) ?_ | refine SQ.stA tt_ok rfl rfl (by repeat (first | apply Up.h | apply Up.t)) (by rfl) (by rfl) (by exact trivial) ?_ | refine CW.cond_tt rfl ?_ | refine CW.cond_ff rfl ?_))
    (refine SQ.yield rfl rfl (hY (idsV f k) (IntKind.i64.wrap (f + k)) (idsV_pre (k := k + 1) (by omega))) [0, 0] rfl ?_; rintro _ _ (⟨rfl, rfl⟩ | ⟨rfl, rfl⟩) <;> refine ⟨(by exact trivial), ?_⟩)
    · (repeat (first | refine CW.seq ?_ | refine CW.region tt_ok rfl ?_ | refine CW.block ?_ | refine CW.skip ?_ | refine SQ.nil ?_ | refine SQ.pures1 tt_ok rfl ?_ | refine SQ.pure1 tt_ok rfl ?_ | refine SQ.new _ _ rfl rfl (fun _ => ?_) | refine SQ.ldA tt_ok rfl rfl (by repeat (first | exact .h | exact .q | apply At.t)) (by rfl) ?_ | refine SQ.stA tt_ok rfl rfl (by repeat (first | apply Up.h | apply Up.t)) (by rfl) (by rfl) (by exact trivial) ?_ | refine CW.cond_tt rfl ?_ | refine CW.cond_ff rfl ?_))
      refine ⟨k + 1, by omega, by omega, ⟨by rw [← hw]; rfl, rfl, rfl, rfl, trivial⟩, Ent.refl _⟩
    · (repeat (first | refine CW.seq ?_ | refine CW.region tt_ok rfl ?_ | refine CW.block ?_ | refine CW.skip ?_ | refine SQ.nil ?_ | refine SQ.pures1 tt_ok rfl ?_ | refine SQ.pure1 tt_ok rfl ?_ | refine SQ.new _ _ rfl rfl (fun _ => ?_) | refine SQ.ldA tt_ok rfl rfl (by repeat (first | exact .h | exact .q | apply At.t)) (by rfl) ?_ | refine SQ.stA tt_ok rfl rfl (by repeat (first | apply Up.h | apply Up.t)) (by rfl) (by rfl) (by exact trivial) ?_ | refine CW.cond_tt rfl ?_ | refine CW.cond_ff rfl ?_))
      exact CW.ret (fin_ret rfl (Ent.refl _) (.inr ⟨_, rfl⟩))
theorem ids25 (β : Base) (r f c : Int) : Tri Try.prog β 25 [.agg #[.int .i64 r, .int .i64 f, .int .i64 c]] [] (fun v L => ∃ b1, v = .func (.func 44) #[] #[.pointer (some ⟨b1, 0, none⟩)] ∧ L = [pt b1 [.int .i64 r, .int .i64 f, .int .i64 c]]) := by
  refine Tri.intro tt_ok Try.func25 rfl rfl Try.ntmps25 rfl fun F => ?_
  (repeat (first | refine CW.seq ?_ | refine CW.region tt_ok rfl ?_ | refine CW.block ?_ | refine CW.skip ?_ | refine SQ.nil ?_ | refine SQ.pures1 tt_ok rfl ?_ | refine SQ.pure1 tt_ok rfl ?_ | refine SQ.new _ _ rfl rfl (fun _ => ?_) | refine SQ.ldA tt_ok rfl rfl (by repeat (first | exact .h | exact .q | apply At.t)) (by rfl) ?_ | refine SQ.stA tt_ok rfl rfl (by repeat (first | apply Up.h | apply Up.t)) (by rfl) (by rfl) (by exact trivial) ?_ | refine CW.cond_tt rfl ?_ | refine CW.cond_ff rfl ?_))
  refine CW.ret (fin_ret rfl (Ent.refl _) ?_)
  exact ⟨_, rfl, rfl⟩
end Go.Proofs.Ytmaheecbohbilaa.Sl
