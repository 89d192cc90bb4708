import Derived.Test.YtmaheecbohbilaaFn
namespace Go.Proofs.Ytmaheecbohbilaa.Sl
open Go Go.RowKit Go.Proofs
set_option linter.unusedVariables false
set_option linter.unusedSimpArgs false
attribute [local irreducible] CW Tri OW
set_option maxRecDepth 10000
theorem step55' (β : Base) (e l t a : Bool) (x : Int) : Tri Try.prog β 55 [.agg #[.bool e, .bool l, .bool t, .bool a], .int .i64 x] [] (fun v L => v = .agg #[.bool (stepI (e, l, t, a) x).1, .bool (stepI (e, l, t, a) x).2.1, .bool (stepI (e, l, t, a) x).2.2.1, .bool (stepI (e, l, t, a) x).2.2.2] ∧ L = []) := step55 β e l t a x
theorem edge_bit (x : Int) : IntKind.u64.wrap ((BitVec.ofInt IntKind.u64.bits (x.fdiv (2 ^ min 1 IntKind.u64.bits)) &&& BitVec.ofInt IntKind.u64.bits 1).toNat : Int) = x / 2 % 2 := by
  have e2 : x.fdiv (2 ^ min 1 IntKind.u64.bits) = x / 2 := Int.fdiv_eq_ediv_of_nonneg _ (by decide)
  rw [e2, and_u64 _ 1 1 rfl (by omega), show ((2 : Int) ^ 1) = 2 from rfl]
  generalize x / 2 = z
  rw [wrap_u64]; omega
theorem edgeV_bit (x : Int) : edgeV x = if x / 2 % 2 = 1 then 8 else 9 := by
  unfold edgeV
  rw [and2_u64]
  have : IntKind.u64.wrap (2 * (x / 2 % 2)) = 2 * (x / 2 % 2) := by
    generalize x / 2 = z
    rw [wrap_u64]; omega
  rw [this]
  by_cases h : x / 2 % 2 = 1
  · rw [if_pos h, if_pos (by omega)]
  · rw [if_neg h, if_neg (by omega)]
theorem written_low {id : Int} {l : Ln} {r x : Int} (h : r = 12) (h2 : ¬ id ≥ 16) : writtenV id l r x = l := by
  subst h
  unfold writtenV
  simp only [h2, if_false]
  rfl
set_option maxHeartbeats 8000000 in
/-- The document's interrupt behind a write. -/
theorem changed53 (β : Base) (id : Int) (e l t a en : Bool) (g p r x : Int) (hx : r = 6 → x = 0 ∨ x = 1) : Tri Try.prog β 53 [.int .i64 id, .agg #[.bool e, .bool l, .bool t, .bool a, .bool en, .int .i64 g, .int .i64 p], .int .i64 r, .int .u64 x] []
    (fun v L => v = .agg (lnC (writtenV id ((e, l, t, a), en, g, p) r x)).toArray ∧ L = []) := by
  refine Tri.intro tt_ok Try.func53 rfl rfl Try.ntmps53 rfl fun F => ?_
  (repeat' (first | refine CW.seq ?_ | refine CW.region tt_ok rfl ?_ | refine CW.block ?_ | refine CW.skip ?_ | refine SQ.nil ?_ | refine SQ.pures1 tt_ok rfl ?_ | refine SQ.pure1 tt_ok rfl ?_ | refine SQ.new _ _ rfl rfl (fun _ => ?_) | refine SQ.ldA tt_ok rfl rfl (by repeat (first | exact .h | exact .q | apply At.t)) (by rfl) ?_ | refine SQ.stA tt_ok rfl rfl (by repeat (first | apply Up.h | apply Up.t)) (by rfl) (by rfl) (by repeat (first | exact trivial | refine ⟨trivial, ?_⟩ | refine ⟨wk (by repeat (first | exact .h | exact .q | apply At.t)) (by rfl), ?_⟩)) ?_ | refine CW.cond_tt rfl ?_ | refine CW.cond_ff rfl ?_ | (refine SQ.callA rfl rfl (step55' β _ _ _ _ _) (by repeat (first | exact .n | exact Rm.h | apply Tk.c | apply Rm.t)) ?_; rintro _ _ ⟨rfl, rfl⟩; refine ⟨(by repeat (first | exact trivial | refine ⟨trivial, ?_⟩ | refine ⟨wk (by repeat (first | exact .h | exact .q | apply At.t)) (by rfl), ?_⟩)), ?_⟩) | (refine SQ.callA rfl rfl (real61 β _) (by repeat (first | exact .n | exact Rm.h | apply Tk.c | apply Rm.t)) ?_; rintro _ _ ⟨rfl, rfl⟩; refine ⟨(by repeat (first | exact trivial | refine ⟨trivial, ?_⟩ | refine ⟨wk (by repeat (first | exact .h | exact .q | apply At.t)) (by rfl), ?_⟩)), ?_⟩) | ((first | refine CW.cond rfl (fun hc => ?_) (fun hc => ?_) | refine SQ.gsplit rfl (fun hc => ?_) (fun hc => ?_)) <;> try (exfalso; simp_all; done))))
  all_goals (refine CW.ret (fin_cells [_] ⟨⟨_, _, _, _, 1, rfl, rfl, rfl, rfl⟩, trivial⟩ (Ent.dropAll _) ⟨?_, rfl⟩)
             simp only [beq_iff_eq, beq_eq_false_iff_ne, ne_eq, decide_eq_true_eq, decide_eq_false_iff_not, edge_bit] at *)
  all_goals (first | (exfalso; omega) | skip)
  all_goals (first | (subst r; simp_all [packV, writtenV, lnC, actsV, edgeV_bit]; done) | (simp_all [packV, writtenV, lnC, actsV, edgeV_bit]; done) | (rw [written_low ‹_› ‹_›]; rfl))
end Go.Proofs.Ytmaheecbohbilaa.Sl
